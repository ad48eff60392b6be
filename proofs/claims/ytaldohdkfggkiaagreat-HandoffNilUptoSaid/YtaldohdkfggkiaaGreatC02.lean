/-
The contracts of package ident: names and labels; and of what it calls in package strings.
-/
import Derived.Test.YtaldohdkfggkiaaGreatM0
import Derived.Test.YtaldohdkfggkiaaGreatIg9
import Derived.Test.YtaldohdkfggkiaaGreatIgT
import Derived.Laws.Externs
import Derived.Laws.Strings
set_option linter.unusedVariables false
set_option linter.unusedSimpArgs false
set_option linter.unusedSectionVars false
set_option linter.unnecessarySimpa false
namespace Go.Ig
/-- The letters of names. -/
def LT : ByteArray := ⟨#[97, 98, 99, 100, 101, 102, 103, 104, 105, 106, 107, 108, 109, 110, 111, 112, 113, 114, 115, 116, 117, 118, 119, 120, 121, 122, 48, 49, 50, 51, 52, 53, 54, 55, 56, 57, 45]⟩
theorem LT_small : ∀ n, n < 128 → decide (0 ≤ firstIdx LT (n.toUInt8)) = letN n := by decide +kernel
theorem LT_big : ∀ n, n < 256 → 128 ≤ n → ∀ k, k < 5 → firstIdx (LT.extract k 37) (n.toUInt8) = -1 := by decide +kernel
theorem LT_dec : ∀ i, i < 37 → (Utf8.decode LT i).2 = 1 ∧ (Utf8.decode LT i).1 < 128 := by decide +kernel
theorem LT_at : ∀ k, k < 5 → (LT[k]?).map (fun b => decide (b.toNat < 128)) = some true := by decide +kernel
theorem LT_size : LT.size = 37 := by decide
end Go.Ig
namespace Go.Proofs
open Go.Ig
set_option linter.unusedSimpArgs false
set_option linter.unusedVariables false

theorem strings_IndexByte (s : ByteArray) (c : Int) (w : World) : Fnc Tryz.prog 162 [.string s, .int .u8 c] w fun v w' => v = .int .i64 (firstIdx s c.toNat.toUInt8) ∧ Ext w w' := by
  have h1 : ∀ w : World, Fnc Tryz.prog 166 [.string s, .int .u8 c] w fun v w' => v = .int .i64 (firstIdx s c.toNat.toUInt8) ∧ Ext w w' := fun w => by
    refine Fnc.enterW Tryz.func166 (by kernel_rfl) rfl rfl (Nat.le_of_ble_eq_true rfl) Tryz.results166 ?_; have S := St.start (fun _ => False) w; simp -dsimp only [go_sem, seval]
    refine CallP.ext (w' := w) (v := .int .i64 (firstIdx s c.toNat.toUInt8)) ?_ ?_
    · exact (run_callFunc_extern (e := Extern.BytealgIndexByte.indexByte) Tryz.func167 rfl rfl (by kernel_rfl) (by kernel_rfl) _ _).trans (by rw [run_indexByte_string]; rfl)
    simp -dsimp only [go_sem, seval, S.k]
    first | exact S.eff | exact ⟨rfl, S.eff⟩
  refine Fnc.enterW Tryz.func162 (by kernel_rfl) rfl rfl (Nat.le_of_ble_eq_true rfl) Tryz.results162 ?_; have S := St.start (fun _ => False) w; simp -dsimp only [go_sem, seval]
  refine CallP.fn (h1 w) ?_; rintro _ w1 ⟨rfl, x⟩; replace S := S.ext x; simp -dsimp only [go_sem, seval, S.k]
  first | exact S.eff | exact ⟨rfl, S.eff⟩

theorem utf8_ValidRune (r : Nat) (w : World) : Fnc Tryz.prog 163 [.int .i32 r] w fun v w' => v = .bool (Utf8.valid r) ∧ Ext w w' := by
  refine Fnc.enterW Tryz.func163 (by kernel_rfl) rfl rfl (Nat.le_of_ble_eq_true rfl) Tryz.results163 ?_; have S := St.start (fun _ => False) w; simp -dsimp only [go_sem, seval]
  repeat' (first | (refine GuardP.mk (fun h => ?_) (fun h => ?_) <;> simp -dsimp only [go_sem, seval, S.k, h]) | (refine CondP.mk (fun h => ?_) (fun h => ?_) <;> simp -dsimp only [go_sem, seval, S.k, h]))
  all_goals (refine ⟨congrArg Value.bool ?_, S.eff⟩; clear S; simp only [decide_eq_true_eq, decide_eq_false_iff_not, Bool.not_true, Bool.not_false] at *; simp [Utf8.valid]; omega)

theorem enc_last (r : Nat) (h1 : 128 ≤ r) (h2 : Utf8.valid r = true) : ∃ k b, (Utf8.encode r).size = k + 1 ∧ 1 ≤ k ∧ k < 4 ∧ (Utf8.encode r)[k]? = some b ∧ 128 ≤ b.toNat := by
  unfold Utf8.encode
  simp only [h2, if_true, Int.toNat_natCast]
  have hr : r < 1114112 := by simp [Utf8.valid] at h2; omega
  have hb : ∀ n, 128 ≤ n → n < 256 → 128 ≤ (UInt8.ofNat n).toNat := fun n h1 h2 => by simp; omega
  rw [if_neg (by omega)]
  split
  · exact ⟨1, _, rfl, by omega, by omega, rfl, hb _ (by omega) (by omega)⟩
  · split
    · exact ⟨2, _, rfl, by omega, by omega, rfl, hb _ (by omega) (by omega)⟩
    · exact ⟨3, _, rfl, by omega, by omega, rfl, hb _ (by omega) (by omega)⟩

set_option maxHeartbeats 4000000 in
theorem strings_IndexRune (r : Nat) (hv : Utf8.valid r = true) (w : World) : Fnc Tryz.prog 160 [.string LT, .int .i32 r] w fun v w' => (∃ i : Int, v = .int .i64 i ∧ decide (0 ≤ i) = letN r) ∧ Ext w w' := by
  have hr : r < 1114112 := by simp [Utf8.valid] at hv; omega
  have d0 : decide ((0 : Int) ≤ (r : Int)) = true := by simp
  by_cases h1 : r < 128
  · have d1 : decide ((r : Int) < 128) = true := by simp; omega
    have e : IntKind.u8.wrap (r : Int) = r := wr_u8 (by omega) (by omega)
    refine Fnc.enterW Tryz.func160 (by kernel_rfl) rfl rfl (Nat.le_of_ble_eq_true rfl) Tryz.results160 ?_; have S := St.start (fun _ => False) w; simp -dsimp only [go_sem, seval]
    simp -dsimp only [go_sem, seval, S.k, d0, d1, e]
    refine CallP.fn (strings_IndexByte LT r w) ?_; rintro _ w1 ⟨rfl, x⟩; replace S := S.ext x; simp -dsimp only [go_sem, seval, S.k]
    refine ⟨⟨_, rfl, ?_⟩, S.eff⟩
    exact LT_small r h1
  have d1 : decide ((r : Int) < 128) = false := by simp; omega
  have hl : letN r = false := by simp [letN]; omega
  by_cases h2 : r = 65533
  · have d2 : ((r : Int) == 65533) = true := by simp; omega
    refine Fnc.enterW Tryz.func160 (by kernel_rfl) rfl rfl (Nat.le_of_ble_eq_true rfl) Tryz.results160 ?_; have S := St.start (fun _ => False) w; simp -dsimp only [go_sem, seval]
    simp -dsimp only [go_sem, seval, S.k, d0, d1, d2]
    refine RunP.rangeStr S Tryz.underlying9 fun b w1 S => ?_
    simp -dsimp only [go_sem, seval, S.k]
    refine Wp.loopL (σ := Nat) (fun k => [(175, .pointer (some ⟨b, 0, none⟩)), (1, .int .i32 r)]) (fun k w1 => k ≤ 37 ∧ St (fun _ => False) w w1 [(b, .stringIter LT k)]) (fun k => 37 - k) 0 (by decide) (by repeat (first | exact Sub.nil _ | refine Sub.cons rfl ?_)) ⟨by omega, S⟩ ?_
    rintro k w1 ⟨hk, S⟩
    simp -dsimp only [go_sem, seval, S.k]
    refine RunP.nextStr 0 S rfl (fun hlt w1 S => ?_) (fun hge => ?_)
    · rw [LT_size] at hlt
      obtain ⟨g1, g2⟩ := LT_dec k hlt
      have d3 : (((Utf8.decode LT k).1 : Int) == 65533) = false := by simp; omega
      rw [g1] at S
      simp -dsimp only [go_sem, seval, S.k, d3]
      exact ⟨k + 1, by omega, (by repeat (first | exact Sub.nil _ | refine Sub.cons rfl ?_)), by omega, S⟩
    · simp -dsimp only [go_sem, seval, S.k]
      exact ⟨⟨_, rfl, by rw [hl]; rfl⟩, S.eff⟩
  have d2 : ((r : Int) == 65533) = false := by simp; omega
  obtain ⟨k, b, q1, q2, q3, q4, q5⟩ := enc_last r (by omega) hv
  refine Fnc.enterW Tryz.func160 (by kernel_rfl) rfl rfl (Nat.le_of_ble_eq_true rfl) Tryz.results160 ?_; have S := St.start (fun _ => False) w; simp -dsimp only [go_sem, seval]
  simp -dsimp only [go_sem, seval, S.k, d0, d1, d2]
  refine CallP.fn (utf8_ValidRune r w) ?_; rintro _ w1 ⟨rfl, x⟩; replace S := S.ext x; simp -dsimp only [go_sem, seval, S.k]
  simp -dsimp only [go_sem, seval, S.k, hv]
  refine Wp.scope (by decide +kernel) ?_
  simp -dsimp only [go_sem, seval, S.k]
  refine RunP.same (r := .string (Utf8.encode r)) (by simp [convert, run_underlying Tryz.underlying21, run_underlying Tryz.underlying9, Conv.intToString]) ?_
  generalize hE : Utf8.encode (r : Int) = E at *
  have e1 : IntKind.i64.wrap (((k + 1 : Nat) : Int) - 1) = k := by rw [wr_i64 (by omega) (by omega)]; omega
  simp -dsimp only [go_sem, seval, S.k, q1, e1]
  refine Wp.unroll 1 (by decide +kernel) ?_
  have d3 : decide ((k : Int) < (LT.size : Int)) = true := by rw [LT_size]; simp; omega
  simp -dsimp only [go_sem, seval, S.k, Rnd_succ, d3]
  refine Wp.scope (by decide +kernel) ?_
  simp -dsimp only [go_sem, seval, S.k]
  have hc := LT_at k (by omega)
  obtain ⟨c, hc, hc'⟩ := Option.map_eq_some_iff.1 hc
  have d4 : decide ((0 : Int) ≤ (k : Int)) = true := by simp
  have d4' : (0 : Int) ≤ (k : Int) := by omega
  have d5 : ((c.toNat : Int) != (b.toNat : Int)) = true := by
    simp only [decide_eq_true_eq] at hc'
    simp; omega
  refine Wp.held (fun _ => False) [0, 1, 2, 3, 4, 5, 6] Tryz.mixed (by decide +kernel) (fun _ _ _ h => h) fun w1 xw xh => ?_; replace S := S.ext xw; simp -dsimp only [go_sem, seval, S.k]
  simp -dsimp only [go_sem, seval, S.k, hc, q4, d4', d5]
  have e2 : IntKind.i64.wrap ((k : Int) + 1) = ((k + 1 : Nat) : Int) := wr_succ (by omega)
  refine Wp.held (fun _ => False) [0, 1, 2, 3, 4, 5, 6, 7, 8] Tryz.mixed (by decide +kernel) (fun _ _ _ h => h) fun w1 xw xh => ?_; replace S := S.ext xw; simp -dsimp only [go_sem, seval, S.k]
  have e3 : (0 : Int) ≤ ((k + 1 : Nat) : Int) := by omega
  have e4 : ((k + 1 : Nat) : Int) ≤ 37 := by omega
  simp -dsimp only [go_sem, seval, S.k, e2, e3, e4, q4, d4', LT_size]
  refine CallP.fn (strings_IndexByte (LT.extract (k + 1) 37) b.toNat w1) ?_; rintro _ w1 ⟨rfl, x⟩; refine ⟨x, ?_⟩; replace S := S.ext x; simp -dsimp only [go_sem, seval, S.k]
  rw [show firstIdx (LT.extract (k + 1) 37) b.toNat.toUInt8 = -1 from LT_big b.toNat b.toNat_lt q5 (k + 1) (by omega)]
  simp -dsimp only [go_sem, seval, S.k]
  exact ⟨⟨_, rfl, by rw [hl]; rfl⟩, S.eff⟩

theorem ident_odd (r : Nat) (hv : Utf8.valid r = true) (w : World) : Fnc Tryz.prog 134 [.int .i32 r] w fun v w' => v = .bool !(letN r) ∧ Ext w w' := by
  have h1 : ∀ w : World, Fnc Tryz.prog 155 [.string LT, .int .i32 r] w fun v w' => v = .bool (letN r) ∧ Ext w w' := fun w => by
    refine Fnc.enterW Tryz.func155 (by kernel_rfl) rfl rfl (Nat.le_of_ble_eq_true rfl) Tryz.results155 ?_; have S := St.start (fun _ => False) w; simp -dsimp only [go_sem, seval]
    refine CallP.fn (strings_IndexRune r hv w) ?_
    rintro _ w1 ⟨⟨i, rfl, hi⟩, x⟩
    replace S := S.ext x
    simp -dsimp only [go_sem, seval, S.k, hi]
    first | exact S.eff | exact ⟨rfl, S.eff⟩
  refine Fnc.enterW Tryz.func134 (by kernel_rfl) rfl rfl (Nat.le_of_ble_eq_true rfl) Tryz.results134 ?_; have S := St.start (fun _ => False) w; simp -dsimp only [go_sem, seval]
  refine CallP.fn (h1 w) ?_; rintro _ w1 ⟨rfl, x⟩; replace S := S.ext x; simp -dsimp only [go_sem, seval, S.k]
  first | exact S.eff | exact ⟨rfl, S.eff⟩

theorem decode_valid (s : ByteArray) (i : Nat) : Utf8.valid ((Utf8.decode s i).1 : Nat) = true := by
  have hb : (s.get! i).toNat < 256 := UInt8.toNat_lt _
  unfold Utf8.decode
  simp only [Nat.add_zero]
  (repeat' split) <;> (try (rename_i h; simp only [Bool.and_eq_true, decide_eq_true_eq] at h)) <;> first
    | decide
    | exact h.2
    | (simp [Utf8.valid]; omega)

theorem decode_ascii (s : ByteArray) (i : Nat) (h : (s.get! i).toNat < 128) : Utf8.decode s i = ((s.get! i).toNat, 1) := by
  unfold Utf8.decode; simp [h]

theorem decode_high (s : ByteArray) (i : Nat) (h : ¬ (s.get! i).toNat < 128) : letN (Utf8.decode s i).1 = false := by
  have : 128 ≤ (Utf8.decode s i).1 := by
    unfold Utf8.decode
    simp only [Nat.add_zero]
    rw [if_neg h]
    (repeat' split) <;> (try (rename_i h; simp only [Bool.and_eq_true, decide_eq_true_eq] at h)) <;> first
      | decide
      | (simp only [ge_iff_le] at *; omega)
  simp [letN]; omega

/-- strings.ContainsFunc(s, odd): is there a byte that is no letter? -/
theorem contains_odd (s : ByteArray) (hs : s.size < 140737488355328) (w : World) : Fnc Tryz.prog 133 [.string s, .func (.func 134) #[] #[]] w fun v w' => v = .bool !(s.data.toList.all letB) ∧ Ext w w' := by
  have h1 : ∀ w : World, Fnc Tryz.prog 159 [.string s, .func (.func 134) #[] #[], .bool true] w fun v w' => (∃ i : Int, v = .int .i64 i ∧ decide (0 ≤ i) = !(s.data.toList.all letB)) ∧ Ext w w' := fun w => by
    refine Fnc.enterW Tryz.func159 (by kernel_rfl) rfl rfl (Nat.le_of_ble_eq_true rfl) Tryz.results159 ?_; have S := St.start (fun _ => False) w; simp -dsimp only [go_sem, seval]
    refine RunP.rangeStr S Tryz.underlying9 fun b w1 S => ?_
    simp -dsimp only [go_sem, seval, S.k]
    refine Wp.loopL (σ := Nat) (fun k => [(10, .pointer (some ⟨b, 0, none⟩)), (2, .bool true), (1, .func (.func 134) #[] #[]), (0, .string s)])
      (fun k w1 => k ≤ s.size ∧ (s.data.toList.take k).all letB = true ∧ St (fun _ => False) w w1 [(b, .stringIter s k)]) (fun k => s.size - k) 0 (by decide) (by repeat (first | exact Sub.nil _ | refine Sub.cons rfl ?_)) ⟨by omega, by simp, S⟩ ?_
    rintro k w1 ⟨hk, hl, S⟩
    simp -dsimp only [go_sem, seval, S.k]
    refine RunP.nextStr 0 S rfl (fun hlt w1 S => ?_) (fun hge => ?_)
    · simp -dsimp only [go_sem, seval, S.k]
      have hget : s.data.toList[k]? = some (s.get! k) := by
        have : k < s.data.size := hlt
        rw [Array.getElem?_toList, Array.getElem?_eq_getElem this]
        simp only [ByteArray.get!, getElem!_pos s.data k this]
      have htake : s.data.toList.take (k + 1) = s.data.toList.take k ++ [s.get! k] := by
        rw [List.take_add_one, hget]; rfl
      refine CallP.fn (ident_odd (Utf8.decode s k).1 (decode_valid s k) w1) ?_; rintro _ w1 ⟨rfl, x⟩; replace S := S.ext x; simp -dsimp only [go_sem, seval, S.k]
      by_cases ha : letN (Utf8.decode s k).1 = true
      · have hlow : (s.get! k).toNat < 128 := by
          apply Classical.byContradiction
          intro hc; rw [decode_high s k hc] at ha; cases ha
        rw [decode_ascii s k hlow] at S ha ⊢
        simp only [List.set_cons_zero] at S ha
        have hb1 : ((!letN (s.get! k).toNat) == true) = false := by simp [ha]
        refine RunP.same (eq_bool Tryz.underlying4) ?_
        simp -dsimp only [go_sem, seval, S.k, hb1]
        exact ⟨k + 1, by omega, (by repeat (first | exact Sub.nil _ | refine Sub.cons rfl ?_)), by omega, by rw [htake]; simp [hl, letB, ha], S⟩
      · have hf : s.data.toList.all letB = false := by
          rw [List.all_eq_false]
          refine ⟨s.get! k, List.mem_of_getElem? hget, ?_⟩
          intro hc
          apply ha
          by_cases hlow : (s.get! k).toNat < 128
          · rw [decode_ascii s k hlow]; exact hc
          · unfold letB letN at hc; simp at hc; omega
        have hb1 : ((!letN (Utf8.decode s k).1) == true) = true := by simpa using ha
        refine RunP.same (eq_bool Tryz.underlying4) ?_
        simp -dsimp only [go_sem, seval, S.k, hb1]
        exact ⟨⟨_, rfl, by simp [hf]⟩, S.eff⟩
    · simp -dsimp only [go_sem, seval, S.k]
      have : k = s.size := by omega
      subst this
      rw [show s.data.toList.take s.size = s.data.toList from List.take_of_length_le (by rw [Array.length_toList]; exact Nat.le_refl _)] at hl
      exact ⟨⟨_, rfl, by simp [hl]⟩, S.eff⟩
  have h2 : ∀ w : World, Fnc Tryz.prog 154 [.string s, .func (.func 134) #[] #[]] w fun v w' => (∃ i : Int, v = .int .i64 i ∧ decide (0 ≤ i) = !(s.data.toList.all letB)) ∧ Ext w w' := fun w => by
    refine Fnc.enterW Tryz.func154 (by kernel_rfl) rfl rfl (Nat.le_of_ble_eq_true rfl) Tryz.results154 ?_; have S := St.start (fun _ => False) w; simp -dsimp only [go_sem, seval]
    refine CallP.fn (h1 w) ?_
    rintro _ w1 ⟨⟨i, rfl, hi⟩, x⟩
    replace S := S.ext x
    simp -dsimp only [go_sem, seval, S.k]
    exact ⟨⟨i, rfl, hi⟩, S.eff⟩
  refine Fnc.enterW Tryz.func133 (by kernel_rfl) rfl rfl (Nat.le_of_ble_eq_true rfl) Tryz.results133 ?_; have S := St.start (fun _ => False) w; simp -dsimp only [go_sem, seval]
  refine CallP.fn (h2 w) ?_
  rintro _ w1 ⟨⟨i, rfl, hi⟩, x⟩
  replace S := S.ext x
  simp -dsimp only [go_sem, seval, S.k, hi]
  first | exact S.eff | exact ⟨rfl, S.eff⟩

theorem ident_Name (s : ByteArray) (w : World) : Fnc Tryz.prog 102 [.string s] w fun v w' => v = .bool (nameB s) ∧ Ext w w' := by
  by_cases h0 : s = ByteArray.mk #[]
  · have hd : decide (s = ByteArray.mk #[]) = true := by simpa using h0
    refine Fnc.enterW Tryz.func102 (by kernel_rfl) rfl rfl (Nat.le_of_ble_eq_true rfl) Tryz.results102 ?_; have S := St.start (fun _ => False) w; simp -dsimp only [go_sem, seval]
    simp -dsimp only [go_sem, seval, S.k, hd]
    subst h0
    first | exact S.eff | exact ⟨rfl, S.eff⟩
  have hd : decide (s = ByteArray.mk #[]) = false := by simpa using h0
  have hsz : 0 < s.data.size := by
    rcases Nat.eq_zero_or_pos s.data.size with h | h
    · exact absurd (by cases s; simp at h; simp [h]) h0
    · exact h
  obtain ⟨b, hb⟩ : ∃ b, s[0]? = some b := ⟨_, getElem?_pos s 0 hsz⟩
  have hh : s.data.toList.head? = some b := by
    rw [List.head?_eq_getElem?, Array.getElem?_toList]; exact hb
  by_cases h1 : s.size ≤ 16
  · have hd1 : decide ((s.size : Int) ≤ 16) = true := by simp; omega
    by_cases h2 : b = 45
    · have hd2 : ((b.toNat : Int) != 45) = false := by subst h2; decide
      refine Fnc.enterW Tryz.func102 (by kernel_rfl) rfl rfl (Nat.le_of_ble_eq_true rfl) Tryz.results102 ?_; have S := St.start (fun _ => False) w; simp -dsimp only [go_sem, seval]
      simp -dsimp only [go_sem, seval, S.k, hd, hd1, hb, hd2]
      refine ⟨congrArg Value.bool ?_, S.eff⟩
      simp [nameB, hh, h2]
    · have hd2 : ((b.toNat : Int) != 45) = true := by
        have : b.toNat ≠ 45 := fun e => h2 (by rw [← UInt8.toNat_inj]; exact e)
        simp; omega
      refine Fnc.enterW Tryz.func102 (by kernel_rfl) rfl rfl (Nat.le_of_ble_eq_true rfl) Tryz.results102 ?_; have S := St.start (fun _ => False) w; simp -dsimp only [go_sem, seval]
      simp -dsimp only [go_sem, seval, S.k, hd, hd1, hb, hd2]
      refine CallP.fn (contains_odd s (by omega) w) ?_; rintro _ w1 ⟨rfl, x⟩; replace S := S.ext x; simp -dsimp only [go_sem, seval, S.k]
      refine ⟨congrArg Value.bool ?_, S.eff⟩
      have : s.size ≠ 0 := by simp only [ByteArray.size]; omega
      simp [nameB, hh, h2, h1, this]
  · have hd1 : decide ((s.size : Int) ≤ 16) = false := by simp; omega
    refine Fnc.enterW Tryz.func102 (by kernel_rfl) rfl rfl (Nat.le_of_ble_eq_true rfl) Tryz.results102 ?_; have S := St.start (fun _ => False) w; simp -dsimp only [go_sem, seval]
    simp -dsimp only [go_sem, seval, S.k, hd, hd1]
    refine ⟨congrArg Value.bool ?_, S.eff⟩
    simp [nameB, h1]
end Go.Proofs
