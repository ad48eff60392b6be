/-
Plain data: numbers and texts as bytes.
-/
import Derived.Test.YtaldohdkfggkiaaGreatM0
set_option linter.unusedVariables false
set_option linter.unusedSimpArgs false
set_option linter.unusedSectionVars false
set_option linter.unnecessarySimpa false
namespace Go.Ig

/-- how many bits a number has -/
def blen : Nat → Nat
  | 0 => 0
  | n + 1 => blen ((n + 1) / 2) + 1
decreasing_by omega

theorem blen_pos {n : Nat} (h : 0 < n) : blen n = blen (n / 2) + 1 := by
  cases n with
  | zero => omega
  | succ n => rw [blen]

theorem blen_div (k : Nat) : ∀ n, 2 ^ k ≤ n → blen n = blen (n / 2 ^ k) + k := by
  induction k with
  | zero => intro n _; simp
  | succ k ih =>
    intro n h
    have hp : 0 < 2 ^ k := Nat.two_pow_pos k
    have h1 : 2 ^ k ≤ n / 2 := by rw [Nat.pow_succ] at h; omega
    rw [blen_pos (by omega), ih (n / 2) h1, Nat.div_div_eq_div_mul, Nat.pow_succ, Nat.mul_comm 2]
    omega

theorem blen_lt (n : Nat) : n < 2 ^ blen n := by
  induction n using Nat.strongRecOn with
  | _ n ih =>
    rcases Nat.eq_zero_or_pos n with rfl | h
    · simp [blen]
    · rw [blen_pos h, Nat.pow_succ]
      have := ih (n / 2) (by omega)
      omega

theorem blen_le {n : Nat} (h : 0 < n) : 2 ^ (blen n - 1) ≤ n := by
  induction n using Nat.strongRecOn with
  | _ n ih =>
    rw [blen_pos h, Nat.add_sub_cancel]
    rcases Nat.eq_zero_or_pos (n / 2) with h2 | h2
    · rw [h2]; simp [blen]; omega
    · have := ih (n / 2) (by omega) h2
      have hb : blen (n / 2) = blen (n / 2) - 1 + 1 := by rw [blen_pos h2]; omega
      rw [hb, Nat.pow_succ]; omega

theorem blen_mono {n k : Nat} (h : n < 2 ^ k) : blen n ≤ k := by
  rcases Nat.eq_zero_or_pos n with rfl | hn
  · simp [blen]
  · have h1 := blen_le hn
    have h2 := Nat.lt_of_le_of_lt h1 h
    have := (Nat.pow_lt_pow_iff_right (by omega : 1 < 2)).1 h2
    omega

/-- how many bytes a number has -/
def nby (n : Nat) : Nat := (blen n + 7) / 8

theorem nby_le {n : Nat} (h : n < 2 ^ 64) : nby n ≤ 8 := by
  have := blen_mono h
  unfold nby; omega

theorem pow256 (k : Nat) : 256 ^ k = 2 ^ (8 * k) := by rw [show (256 : Nat) = 2 ^ 8 from rfl, ← Nat.pow_mul]

theorem nby_lt (n : Nat) : n < 256 ^ nby n := by
  rw [pow256]
  refine Nat.lt_of_lt_of_le (blen_lt n) (Nat.pow_le_pow_right (by omega) ?_)
  unfold nby; omega

theorem nby_ge {n : Nat} (h : 0 < n) : 256 ^ (nby n - 1) ≤ n := by
  rw [pow256]
  refine Nat.le_trans (Nat.pow_le_pow_right (by omega) ?_) (blen_le h)
  have := blen_pos h
  unfold nby; omega

/-- The last k bytes of a number, the greatest one first. -/
def be (k n : Nat) : List UInt8 := (List.range k).map fun j => (n / 256 ^ (k - 1 - j)).toUInt8

theorem be_length (k n : Nat) : (be k n).length = k := by simp [be]

/-- pack.Put: what is put -/
def putN (n : Nat) : List UInt8 := (nby n).toUInt8 :: be (nby n) n
/-- pack.PutText: what is put -/
def putT (s : Str) : List UInt8 := putN s.size ++ s.data.toList

/-- The number of bytes, the greatest one first. -/
def val (l : List UInt8) : Nat := l.foldl (fun n b => n * 256 + b.toNat) 0

abbrev bR (l : List UInt8) : List (List Value) := l.map fun b => [.int .u8 b.toNat]

/-- pack.Take at a place: the number, the place behind it, the error -/
def takeN (l : List UInt8) (at' : Int) : Nat × Int × Int :=
  if at' < 0 ∨ (l.length : Int) < at' then (0, 0, 1)
  else match l.drop at'.toNat with
    | [] => (0, 0, 2)
    | m :: rest =>
      if 8 < m.toNat then (0, 0, 3)
      else if rest.length < m.toNat then (0, 0, 2)
      else if 0 < m.toNat ∧ rest.head? = some 0 then (0, 0, 3)
      else (val (rest.take m.toNat), at' + m.toNat + 1, 0)

/-- pack.TakeText -/
def takeT (l : List UInt8) (at' most : Int) : Str × Int × Int :=
  if most < 0 then (.empty, 0, 1)
  else if (takeN l at').2.2 ≠ 0 then (.empty, 0, (takeN l at').2.2)
  else if most < (takeN l at').1 then (.empty, 0, 4)
  else if (l.length : Int) - (takeN l at').2.1 < (takeN l at').1 then (.empty, 0, 2)
  else (⟨((l.drop (takeN l at').2.1.toNat).take (takeN l at').1).toArray⟩, (takeN l at').2.1 + (takeN l at').1, 0)

theorem val_snoc (l : List UInt8) (b : UInt8) : val (l ++ [b]) = val l * 256 + b.toNat := by simp [val]
theorem val_lt : ∀ (n : Nat) (l : List UInt8), l.length = n → val l < 256 ^ n := by
  intro n
  induction n with
  | zero => intro l h; have := List.length_eq_zero_iff.1 h; subst this; simp [val]
  | succ n ih =>
    intro l h
    obtain ⟨l', b, rfl⟩ : ∃ l' b, l = l' ++ [b] := ⟨l.dropLast, l.getLast (by intro e; simp [e] at h), (List.dropLast_concat_getLast _).symm⟩
    rw [val_snoc, Nat.pow_succ]
    have := ih l' (by simpa using h)
    have := b.toNat_lt
    omega
theorem or_byte (v b : Nat) (hb : b < 256) (hv : v < 2 ^ 56) : IntKind.u64.wrap (((BitVec.ofInt 64 (IntKind.u64.wrap ((v : Int) * 256)) ||| BitVec.ofInt 64 (b : Int)).toNat : Nat) : Int) = ((v * 256 + b : Nat) : Int) := by
  have e1 : IntKind.u64.wrap ((v : Int) * 256) = ((v * 256 : Nat) : Int) := by rw [wr_u64 (by omega) (by omega)]; omega
  rw [e1]
  have h1 : (BitVec.ofInt 64 ((v * 256 : Nat) : Int) ||| BitVec.ofInt 64 (b : Int)).toNat = v * 256 + b := by
    rw [BitVec.ofInt_natCast, BitVec.ofInt_natCast, BitVec.toNat_or, BitVec.toNat_ofNat, BitVec.toNat_ofNat, Nat.mod_eq_of_lt (by omega), Nat.mod_eq_of_lt (by omega)]
    have := Nat.two_pow_add_eq_or_of_lt (i := 8) (b := b) (by omega) v
    rw [Nat.mul_comm v 256]
    exact this.symm
  rw [h1, wr_u64 (by omega) (by omega)]
theorem or_byte' (v b : Nat) (hb : b < 256) (hv : v < 2 ^ 56) : IntKind.u64.wrap (((BitVec.ofInt IntKind.u64.bits (IntKind.u64.wrap ((v : Int) * 2 ^ min 8 64)) ||| BitVec.ofInt IntKind.u64.bits (b : Int)).toNat : Nat) : Int) = ((v * 256 + b : Nat) : Int) := or_byte v b hb hv
end Go.Ig
