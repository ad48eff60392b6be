import Derived.Test.YtaldohdkfggkiaaGreatIg1
import GoSem.Dispatch
set_option linter.unusedVariables false
set_option linter.unusedSimpArgs false
set_option linter.unusedSectionVars false
set_option linter.unnecessarySimpa false
namespace Go.Ig

/-! ### calls -/
def callable (P : Program) (f : FuncId) : Bool := (P.funcs[f]?).any fun fn => !(fn.name == "runtime.NumGoroutine") && fn.body.isSome

/-- Function f, called with these arguments in world w, returns v in world w', with R v w'. -/
structure Fnc (P : Program) (f : FuncId) (args : List Value) (w : World) (R : Value → World → Prop) : Prop where
  ok : callable P f = true
  calls : Calls P f args.toArray w fun e w' => ∃ v, e = .returned v ∧ R v w'

theorem Fnc.mono {P : Program} {f : FuncId} {args : List Value} {w : World} {R R' : Value → World → Prop} (h : Fnc P f args w R) (hr : ∀ v w', R v w' → R' v w') :
    Fnc P f args w R' := ⟨h.1, h.2.mono fun _ _ ⟨v, he, hv⟩ => ⟨v, he, hr _ _ hv⟩⟩

structure RunP {α : Type} (P : Program) (s : Sem α) (w : World) (K : α → World → Prop) : Prop where intro ::
  ex : ∃ v w', s.run P w = .ok v w' ∧ K v w'

structure CallP (P : Program) (f : FuncId) (args : List Value) (w : World) (K : Value → World → Prop) : Prop where intro ::
  ex : Fnc P f args w K ∨ ∃ v w', (callFunc f args.toArray).run P w = .ok (.value v) w' ∧ K v w'

def InvP (P : Program) (recv : Value) (name : String) (args : List Value) (w : World) (K : Value → World → Prop) : Prop :=
  ∃ t v f r, recv = .iface t v ∧ (method (P.types.size + Made.depth) t v name).run P w = .ok (f, r) w ∧ CallP P f (r :: args) w K

structure CondP (o : Option Value) (A B : Prop) : Prop where intro ::
  ex : ∃ b, o = some (.bool b) ∧ (b = true → A) ∧ (b = false → B)

structure AllocP (T : TypeId) (cs : List Value) (w : World) (K : Value → World → Prop) : Prop where intro ::
  ex : K (.pointer (some ⟨w.heap.size, 0, none⟩)) { w with heap := w.heap.push (Cl T cs) }

structure StoreP (P : Program) (t : TypeId) (a : Addr) (v : Value) (w : World) (K : World → Prop) : Prop where intro ::
  ex : ∃ T cs, w.heap[a.block]? = some (Cl T cs) ∧ a.spot = none ∧ a.off + v.cells.size ≤ cs.length ∧ (v.cells.all (·.oneCell')) = true ∧ (tyL P t).map (·.2) = some v.cells.size ∧
    K (w.setRow a.block (cs.take a.off ++ v.cells.toList ++ cs.drop (a.off + v.cells.size)).toArray)

theorem CondP_def {o : Option Value} {A B : Prop} : CondP o A B = ∃ b, o = some (.bool b) ∧ (b = true → A) ∧ (b = false → B) := propext ⟨fun h => h.ex, fun h => ⟨h⟩⟩
theorem RunP_def {α : Type} {P : Program} {s : Sem α} {w : World} {K : α → World → Prop} : RunP P s w K = ∃ v w', s.run P w = .ok v w' ∧ K v w' := propext ⟨fun h => h.ex, fun h => ⟨h⟩⟩

def obT (o : Option (Bool × Nat)) (k : Bool → Nat → Prop) : Prop := ∃ g sz, o = some (g, sz) ∧ k g sz
def obF (o : Option (Nat × TypeId)) (k : Nat → TypeId → Prop) : Prop := ∃ off ft, o = some (off, ft) ∧ k off ft
def ob (o : Option Value) (k : Value → Prop) : Prop := ∃ v, o = some v ∧ k v
def obs (o : Option (List Value)) (k : List Value → Prop) : Prop := ∃ v, o = some v ∧ k v

def LoadP (P : Program) (t : TypeId) (a : Addr) (w : World) (K : Value → Prop) : Prop := obT (tyL P t) fun g sz => obs (ldC w a sz) fun cs => K (mkV g cs)
def aggP (v : Value) (k : List Value → Prop) : Prop := ∃ cs, v = .agg cs ∧ k cs.toList
def ptrP (v : Value) (k : Addr → Prop) : Prop := ∃ a, v = .pointer (some a) ∧ k a

def put (d : Option Tmp) (v : Value) (L : AL) : AL := match d with | some k => (k, v) :: L | none => L

/-- The place of a field, where the field has cells. -/
def fldL (P : Program) (s : TypeId) (i : Nat) : Option (Nat × TypeId) :=
  match P.underlying s with
  | some (.struct fs) => match fs[i]? with
    | some f => match P.info? f.type with
      | some inf => if inf.size = 0 then none else some (f.offset, f.type)
      | none => none
    | none => none
  | _ => none

/-- Elements of a slice or array type: the type, its cells. -/
def elL (P : Program) (t : TypeId) : Option (Option Nat × TypeId × Nat) :=
  match P.underlying t with
  | some (.slice e) => (P.info? e).map fun i => (none, e, i.size)
  | some (.array n e) => (P.info? e).map fun i => (some n, e, i.size)
  | _ => none

/-- A binary operation on values that no memory is asked for. -/
def binV (op : BinOp) (x y : Value) : Option Value :=
  match op, x, y with
  | .shl, .int k a, .int _ b => if b < 0 then none else some (.int k (k.wrap (a * 2 ^ (min b.toNat k.bits))))
  | .shr, .int k a, .int _ b => if b < 0 then none else some (.int k (a.fdiv (2 ^ (min b.toNat k.bits))))
  | .add, .int k a, .int k' b => if k = k' then some (.int k (k.wrap (a + b))) else none
  | .sub, .int k a, .int k' b => if k = k' then some (.int k (k.wrap (a - b))) else none
  | .mul, .int k a, .int k' b => if k = k' then some (.int k (k.wrap (a * b))) else none
  | .quo, .int k a, .int k' b => if k = k' then if b = 0 then none else some (.int k (k.wrap (a.tdiv b))) else none
  | .rem, .int k a, .int k' b => if k = k' then if b = 0 then none else some (.int k (a.tmod b)) else none
  | .and, .int k a, .int k' b => if k = k' then some (.int k (k.wrap (BitVec.ofInt k.bits a &&& BitVec.ofInt k.bits b).toNat)) else none
  | .or, .int k a, .int k' b => if k = k' then some (.int k (k.wrap (BitVec.ofInt k.bits a ||| BitVec.ofInt k.bits b).toNat)) else none
  | .xor, .int k a, .int k' b => if k = k' then some (.int k (k.wrap (BitVec.ofInt k.bits a ^^^ BitVec.ofInt k.bits b).toNat)) else none
  | .andNot, .int k a, .int k' b => if k = k' then some (.int k (k.wrap (BitVec.ofInt k.bits a &&& ~~~ BitVec.ofInt k.bits b).toNat)) else none
  | .eql, .int k a, .int k' b => if k = k' then some (.bool (a == b)) else none
  | .neq, .int k a, .int k' b => if k = k' then some (.bool (a != b)) else none
  | .lss, .int k a, .int k' b => if k = k' then some (.bool (decide (a < b))) else none
  | .leq, .int k a, .int k' b => if k = k' then some (.bool (decide (a ≤ b))) else none
  | .gtr, .int k a, .int k' b => if k = k' then some (.bool (decide (b < a))) else none
  | .geq, .int k a, .int k' b => if k = k' then some (.bool (decide (b ≤ a))) else none
  | .add, .string a, .string b => if (a.size + b.size : Nat) < 9223372036854775808 then some (.string (a ++ b)) else none
  | .eql, .string a, .string b => some (.bool (a.toList == b.toList))
  | .neq, .string a, .string b => some (.bool !(a.toList == b.toList))
  | .lss, .string a, .string b => some (.bool (Op.bytesLess a.toList b.toList))
  | .leq, .string a, .string b => some (.bool (Op.bytesLess a.toList b.toList || a.toList == b.toList))
  | .gtr, .string a, .string b => some (.bool !(Op.bytesLess a.toList b.toList || a.toList == b.toList))
  | .geq, .string a, .string b => some (.bool !(Op.bytesLess a.toList b.toList))
  | _, _, _ => none

theorem run_binV {P : Program} {w : World} {op : BinOp} {t : TypeId} {x y : Value} {v : Value} (h : binV op x y = some v) (ox oy : Operand) :
    (do eqGuard op t ox oy x y; binOp op t x y : Sem Value).run P w = .ok v w := by
  have hmax : IntKind.max .i64 = 9223372036854775807 := by decide
  unfold binV at h
  split at h <;> (try (split at h)) <;> (try (split at h)) <;> simp at h <;> (try subst h) <;> (try (rename_i e; subst e)) <;>
    simp_all [eqGuard, binOp, Op.shift, Op.intArith, Op.intDiv, Op.intBits, Op.intCmp, Op.stringOp]
  all_goals omega
end Go.Ig
