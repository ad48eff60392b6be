/-
Plain data of the cluster's scheduler, and what the small layers work out of it: nothing of Go.
-/
import Derived.Test.YtaldohdkfggkiaaGreatIg8
set_option linter.unusedVariables false
set_option linter.unusedSimpArgs false
set_option linter.unusedSectionVars false
set_option linter.unnecessarySimpa false
namespace Go.Ig

abbrev Str := ByteArray

/-- api.Res -/
structure R3 where
  a : Int
  b : Int
  c : Int
  deriving DecidableEq, Inhabited

@[reducible] def R3.cs (r : R3) : List Value := [.int .i64 r.a, .int .i64 r.b, .int .i64 r.c]
abbrev R3.v (r : R3) : Value := .agg r.cs.toArray
def R3.zero : R3 := ⟨0, 0, 0⟩

def okn (n : Int) : Bool := decide (0 ≤ n) && decide (n ≤ 1048576)
def R3.ok (r : R3) : Bool := okn r.a && okn r.b && okn r.c

theorem okn_iff {n : Int} : okn n = true ↔ 0 ≤ n ∧ n ≤ 1048576 := by simp [okn]
theorem R3.ok_iff {r : R3} : r.ok = true ↔ (0 ≤ r.a ∧ r.a ≤ 1048576) ∧ (0 ≤ r.b ∧ r.b ≤ 1048576) ∧ (0 ≤ r.c ∧ r.c ≤ 1048576) := by simp [R3.ok, okn_iff, and_assoc]

def R3.lin (r s : R3) (k : Int) : R3 := ⟨r.a + k * s.a, r.b + k * s.b, r.c + k * s.c⟩

/-- res.both -/
def R3.both (r s : R3) (k : Int) : R3 × Int := if r.ok && s.ok then if (r.lin s k).ok then (r.lin s k, 0) else (R3.zero, 6) else (R3.zero, 1)
def R3.add (r s : R3) : R3 × Int := r.both s 1
def R3.sub (r s : R3) : R3 × Int := r.both s (-1)
def R3.fits (r s : R3) : Bool := decide (r.a ≤ s.a) && decide (r.b ≤ s.b) && decide (r.c ≤ s.c)

/-- res.Sum -/
def R3.sumFrom : R3 → List R3 → R3 × Int
  | o, [] => (o, 0)
  | o, r :: l => if (o.add r).2 = 0 then sumFrom (o.add r).1 l else (R3.zero, (o.add r).2)
def R3.sum (l : List R3) : R3 × Int := R3.sumFrom R3.zero l

def shr1 (a w : Int) : Int := if 0 < w then 1000 * a / w else 0
/-- res.Share -/
def R3.share (r s : R3) : Int := if r.ok && s.ok then shr1 r.a s.a + shr1 r.b s.b + shr1 r.c s.c else 0

/-- api.Label -/
structure Lbl where
  key : Str
  val : Str
  deriving DecidableEq, Inhabited

@[reducible] def Lbl.cs (l : Lbl) : List Value := [.string l.key, .string l.val]
abbrev Lbl.v (l : Lbl) : Value := .agg l.cs.toArray

/-- The letters of names. -/
def letN (n : Nat) : Bool := decide (97 ≤ n ∧ n ≤ 122) || decide (48 ≤ n ∧ n ≤ 57) || n == 45
def letB (b : UInt8) : Bool := letN b.toNat
/-- ident.Name -/
def nameB (s : Str) : Bool := decide (s.size ≠ 0) && decide (s.size ≤ 16) && !(s.data.toList.head? == some 45) && s.data.toList.all letB

abbrev slt (a b : Str) : Bool := Op.bytesLess a.toList b.toList
abbrev sle (a b : Str) : Bool := Op.bytesLess a.toList b.toList || decide (a = b)

/-- ident.Labels -/
def lblFrom : Str → Bool → List Lbl → Bool
  | _, _, [] => true
  | last, first, x :: l => nameB x.key && nameB x.val && (first || !(sle x.key last)) && lblFrom x.key false l
def labelsB (l : List Lbl) : Bool := decide (l.length ≤ 4) && lblFrom (ByteArray.mk #[]) true l
/-- ident.Has -/
def hasB (l wants : List Lbl) : Bool := wants.all fun x => l.contains x
end Go.Ig
