/-
The contracts of package pack: numbers and texts as bytes.
-/
import Derived.Test.YtaldohdkfggkiaaGreatM1
import Derived.Test.YtaldohdkfggkiaaGreatIgA
import Derived.Test.YtaldohdkfggkiaaGreatIgT
set_option linter.unusedVariables false
set_option linter.unusedSimpArgs false
set_option linter.unusedSectionVars false
set_option linter.unnecessarySimpa false
namespace Go.Ig
theorem fdiv_nat (a k : Nat) : ((a : Int)).fdiv ((2 : Int) ^ k) = ((a / 2 ^ k : Nat) : Int) := by
  rw [Int.fdiv_eq_ediv_of_nonneg _ (Int.pow_nonneg (by omega))]
  simp
theorem fdiv_256 (a : Nat) : ((a : Int)).fdiv 256 = ((a / 256 : Nat) : Int) := fdiv_nat a 8
theorem fdiv_65536 (a : Nat) : ((a : Int)).fdiv 65536 = ((a / 65536 : Nat) : Int) := fdiv_nat a 16
theorem fdiv_4294967296 (a : Nat) : ((a : Int)).fdiv 4294967296 = ((a / 4294967296 : Nat) : Int) := fdiv_nat a 32
theorem min_8 : min 8 64 = 8 := rfl
theorem min_16 : min 16 64 = 16 := rfl
theorem min_32 : min 32 64 = 32 := rfl
/-- How many bits a byte has: as math/bits has it. -/
def L8 : ByteArray := ⟨#[0, 1, 2, 2, 3, 3, 3, 3, 4, 4, 4, 4, 4, 4, 4, 4, 5, 5, 5, 5, 5, 5, 5, 5, 5, 5, 5, 5, 5, 5, 5, 5, 6, 6, 6, 6, 6, 6, 6, 6, 6, 6, 6, 6, 6, 6, 6, 6, 6, 6, 6, 6, 6, 6, 6, 6, 6, 6, 6, 6, 6, 6, 6, 6, 7, 7, 7, 7, 7, 7, 7, 7, 7, 7, 7, 7, 7, 7, 7, 7, 7, 7, 7, 7, 7, 7, 7, 7, 7, 7, 7, 7, 7, 7, 7, 7, 7, 7, 7, 7, 7, 7, 7, 7, 7, 7, 7, 7, 7, 7, 7, 7, 7, 7, 7, 7, 7, 7, 7, 7, 7, 7, 7, 7, 7, 7, 7, 7, 8, 8, 8, 8, 8, 8, 8, 8, 8, 8, 8, 8, 8, 8, 8, 8, 8, 8, 8, 8, 8, 8, 8, 8, 8, 8, 8, 8, 8, 8, 8, 8, 8, 8, 8, 8, 8, 8, 8, 8, 8, 8, 8, 8, 8, 8, 8, 8, 8, 8, 8, 8, 8, 8, 8, 8, 8, 8, 8, 8, 8, 8, 8, 8, 8, 8, 8, 8, 8, 8, 8, 8, 8, 8, 8, 8, 8, 8, 8, 8, 8, 8, 8, 8, 8, 8, 8, 8, 8, 8, 8, 8, 8, 8, 8, 8, 8, 8, 8, 8, 8, 8, 8, 8, 8, 8, 8, 8, 8, 8, 8, 8, 8, 8, 8, 8, 8, 8, 8, 8, 8, 8, 8, 8, 8, 8, 8, 8]⟩
def blenF : Nat → Nat → Nat
  | 0, _ => 0
  | k + 1, n => if n = 0 then 0 else blenF k (n / 2) + 1
theorem blenF_eq : ∀ k n, n < 2 ^ k → blenF k n = blen n
  | 0, n, h => by simp at h; subst h; simp [blenF, blen]
  | k + 1, n, h => by
    rw [blenF]
    split
    · rename_i e; subst e; simp [blen]
    · rw [blen_pos (by omega), blenF_eq k (n / 2) (by rw [Nat.pow_succ] at h; omega)]
theorem L8_F : ∀ n, n < 256 → (L8[n]?).map (·.toNat) = some (blenF 8 n) := by decide +kernel
theorem L8_at {n : Nat} (h : n < 256) : ∃ b, L8[n]? = some b ∧ b.toNat = blen n := by
  have := L8_F n h
  rw [blenF_eq 8 n (by omega)] at this
  exact Option.map_eq_some_iff.1 this
end Go.Ig
namespace Go.Proofs
open Go.Ig
set_option linter.unusedSimpArgs false
set_option linter.unusedVariables false
attribute [local go_sem] fdiv_nat fdiv_256 fdiv_65536 fdiv_4294967296 min_8 min_16 min_32

set_option maxHeartbeats 4000000 in
theorem bits_Len64 (n : Nat) (hn : n < 2 ^ 64) (w : World) : Fnc Tryz.prog 30 [.int .u64 n] w fun v w' => v = .int .i64 (blen n) ∧ Ext w w' := by
  refine Fnc.enterW Tryz.func30 (by kernel_rfl) rfl rfl (Nat.le_of_ble_eq_true rfl) Tryz.results30 ?_; have S := St.start (fun _ => False) w; simp -dsimp only [go_sem, seval]
  have key : ∀ m : Nat, m < 256 → ∃ b, L8[m]? = some b ∧ b.toNat = blen m ∧ ((∀ c : Int, 0 ≤ c → c ≤ 64 → IntKind.i64.wrap (c + b.toNat) = c + b.toNat) ∧ IntKind.i64.wrap (b.toNat : Int) = b.toNat) ∧ IntKind.u8.wrap (m : Int) = m := fun m hm => by
    obtain ⟨b, h1, h2⟩ := L8_at hm
    have h3 : b.toNat ≤ 8 := by rw [h2]; exact blen_mono (k := 8) (by omega)
    exact ⟨b, h1, h2, ⟨fun c p q => wr_i64 (by omega) (by omega), wr_i64 (by omega) (by omega)⟩, wr_u8 (by omega) (by omega)⟩
  have c1 : ∀ m : Nat, 4294967296 ≤ m → blen m = blen (m / 4294967296) + 32 := fun m h => blen_div 32 m h
  have c2 : ∀ m : Nat, 65536 ≤ m → blen m = blen (m / 65536) + 16 := fun m h => blen_div 16 m h
  have c3 : ∀ m : Nat, 256 ≤ m → blen m = blen (m / 256) + 8 := fun m h => blen_div 8 m h
  have bT : ∀ (m : Nat) (k : Int), k ≤ m → decide (k ≤ (m : Int)) = true := fun m k h => by simp [h]
  have bF : ∀ (m : Nat) (k : Int), ¬ k ≤ m → decide (k ≤ (m : Int)) = false := fun m k h => by simp [h]
  have t8 : ∀ m : Nat, m < 256 → (m : Int) < 256 := fun m h => by omega
  by_cases h1 : 4294967296 ≤ n
  · have d1 := bT n 4294967296 (by omega)
    have e1 := c1 n h1
    generalize hm1 : n / 4294967296 = m at *
    by_cases h2 : 65536 ≤ m
    · have d2 := bT m 65536 (by omega)
      have e2 := c2 m h2
      generalize hm2 : m / 65536 = k at *
      by_cases h3 : 256 ≤ k
      · have d3 := bT k 256 (by omega)
        have e3 := c3 k h3
        generalize hm3 : k / 256 = j at *
        obtain ⟨b, g1, g2, g3, g4⟩ := key j (by omega)
        simp -dsimp only [go_sem, seval, S.k, d1, d2, d3, g4, hm1, hm2, hm3]
        rw [if_pos (by omega)]
        generalize hT : (ByteArray.mk _) = T8
        have hL : T8 = L8 := by rw [← hT]; decide +kernel
        rw [hL, g1]
        clear hn hm1 hm2 hm3 hT hL h1 h2 h3
        simp -dsimp only [go_sem, seval, S.k, g3]
        refine ⟨congrArg (Value.int .i64) ?_, S.eff⟩
        clear S key c1 c2 c3 bT bF t8 g1 g3 g4 d1 d2 d3
        omega
      · have d3 := bF k 256 (by omega)
        obtain ⟨b, g1, g2, g3, g4⟩ := key k (by omega)
        simp -dsimp only [go_sem, seval, S.k, d1, d2, d3, g4, hm1, hm2]
        rw [if_pos (by omega)]
        generalize hT : (ByteArray.mk _) = T8
        have hL : T8 = L8 := by rw [← hT]; decide +kernel
        rw [hL, g1]
        clear hn hm1 hm2 hT hL h1 h2 h3
        simp -dsimp only [go_sem, seval, S.k, g3]
        refine ⟨congrArg (Value.int .i64) ?_, S.eff⟩
        clear S key c1 c2 c3 bT bF t8 g1 g3 g4 d1 d2 d3
        omega
    · have d2 := bF m 65536 (by omega)
      by_cases h3 : 256 ≤ m
      · have d3 := bT m 256 (by omega)
        have e3 := c3 m h3
        generalize hm3 : m / 256 = j at *
        obtain ⟨b, g1, g2, g3, g4⟩ := key j (by omega)
        simp -dsimp only [go_sem, seval, S.k, d1, d2, d3, g4, hm1, hm3]
        rw [if_pos (by omega)]
        generalize hT : (ByteArray.mk _) = T8
        have hL : T8 = L8 := by rw [← hT]; decide +kernel
        rw [hL, g1]
        clear hn hm1 hm3 hT hL h1 h2 h3
        simp -dsimp only [go_sem, seval, S.k, g3]
        refine ⟨congrArg (Value.int .i64) ?_, S.eff⟩
        clear S key c1 c2 c3 bT bF t8 g1 g3 g4 d1 d2 d3
        omega
      · have d3 := bF m 256 (by omega)
        obtain ⟨b, g1, g2, g3, g4⟩ := key m (by omega)
        simp -dsimp only [go_sem, seval, S.k, d1, d2, d3, g4, hm1]
        rw [if_pos (by omega)]
        generalize hT : (ByteArray.mk _) = T8
        have hL : T8 = L8 := by rw [← hT]; decide +kernel
        rw [hL, g1]
        clear hn hm1 hT hL h1 h2 h3
        simp -dsimp only [go_sem, seval, S.k, g3]
        refine ⟨congrArg (Value.int .i64) ?_, S.eff⟩
        clear S key c1 c2 c3 bT bF t8 g1 g3 g4 d1 d2 d3
        omega
  · have d1 := bF n 4294967296 (by omega)
    by_cases h2 : 65536 ≤ n
    · have d2 := bT n 65536 (by omega)
      have e2 := c2 n h2
      generalize hm2 : n / 65536 = k at *
      by_cases h3 : 256 ≤ k
      · have d3 := bT k 256 (by omega)
        have e3 := c3 k h3
        generalize hm3 : k / 256 = j at *
        obtain ⟨b, g1, g2, g3, g4⟩ := key j (by omega)
        simp -dsimp only [go_sem, seval, S.k, d1, d2, d3, g4, hm2, hm3]
        rw [if_pos (by omega)]
        generalize hT : (ByteArray.mk _) = T8
        have hL : T8 = L8 := by rw [← hT]; decide +kernel
        rw [hL, g1]
        clear hn hm2 hm3 hT hL h1 h2 h3
        simp -dsimp only [go_sem, seval, S.k, g3]
        refine ⟨congrArg (Value.int .i64) ?_, S.eff⟩
        clear S key c1 c2 c3 bT bF t8 g1 g3 g4 d1 d2 d3
        omega
      · have d3 := bF k 256 (by omega)
        obtain ⟨b, g1, g2, g3, g4⟩ := key k (by omega)
        simp -dsimp only [go_sem, seval, S.k, d1, d2, d3, g4, hm2]
        rw [if_pos (by omega)]
        generalize hT : (ByteArray.mk _) = T8
        have hL : T8 = L8 := by rw [← hT]; decide +kernel
        rw [hL, g1]
        clear hn hm2 hT hL h1 h2 h3
        simp -dsimp only [go_sem, seval, S.k, g3]
        refine ⟨congrArg (Value.int .i64) ?_, S.eff⟩
        clear S key c1 c2 c3 bT bF t8 g1 g3 g4 d1 d2 d3
        omega
    · have d2 := bF n 65536 (by omega)
      by_cases h3 : 256 ≤ n
      · have d3 := bT n 256 (by omega)
        have e3 := c3 n h3
        generalize hm3 : n / 256 = j at *
        obtain ⟨b, g1, g2, g3, g4⟩ := key j (by omega)
        simp -dsimp only [go_sem, seval, S.k, d1, d2, d3, g4, hm3]
        rw [if_pos (by omega)]
        generalize hT : (ByteArray.mk _) = T8
        have hL : T8 = L8 := by rw [← hT]; decide +kernel
        rw [hL, g1]
        clear hn hm3 hT hL h1 h2 h3
        simp -dsimp only [go_sem, seval, S.k, g3]
        refine ⟨congrArg (Value.int .i64) ?_, S.eff⟩
        clear S key c1 c2 c3 bT bF t8 g1 g3 g4 d1 d2 d3
        omega
      · have d3 := bF n 256 (by omega)
        obtain ⟨b, g1, g2, g3, g4⟩ := key n (by omega)
        simp -dsimp only [go_sem, seval, S.k, d1, d2, d3, g4]
        rw [if_pos (by omega)]
        generalize hT : (ByteArray.mk _) = T8
        have hL : T8 = L8 := by rw [← hT]; decide +kernel
        rw [hL, g1]
        clear hn  hT hL h1 h2 h3
        simp -dsimp only [go_sem, seval, S.k, g3]
        refine ⟨congrArg (Value.int .i64) ?_, S.eff⟩
        clear S key c1 c2 c3 bT bF t8 g1 g3 g4 d1 d2 d3
        omega
end Go.Proofs
