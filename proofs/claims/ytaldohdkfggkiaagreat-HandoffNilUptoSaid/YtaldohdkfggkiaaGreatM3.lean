/-
Plain data: operations.
-/
import Derived.Test.YtaldohdkfggkiaaGreatM2
set_option linter.unusedVariables false
set_option linter.unusedSimpArgs false
set_option linter.unusedSectionVars false
set_option linter.unnecessarySimpa false
namespace Go.Ig
def namedB (k : Int) : Bool := k == 2 || k == 4 || k == 6 || k == 7 || k == 8
def R3.isZ (r : R3) : Bool := r.a == 0 && (r.b == 0 && (r.c == 0 && true))
def bareB (o : Opn) : Bool :=
  (o.kind == 1 || (noneB o.node.name && o.node.cap.isZ && decide (o.node.labels.length = 0))) &&
  (o.kind == 3 || (noneB o.queue.name && o.queue.quota.isZ)) &&
  (o.kind == 5 || (noneB o.task.name && noneB o.task.queue && noneB o.task.apart && noneB o.task.gang && o.task.prio == 0 && o.task.size == 0 && o.task.need.isZ && decide (o.task.wants.length = 0))) &&
  (namedB o.kind || noneB o.name)
def rightB (o : Opn) : Bool :=
  bareB o && if o.kind == 1 then nodeB o.node else if o.kind == 3 then queueB o.queue else if o.kind == 5 then taskB o.task else o.kind == 9 || (namedB o.kind && nameB o.name)

theorem emp : ByteArray.empty = ByteArray.mk #[] := rfl
theorem str_none (s : Str) : decide (s = ByteArray.mk #[]) = noneB s := rfl
theorem app_none (a b : Str) : noneB (a ++ b) = (noneB a && noneB b) := by
  have h : ∀ s : Str, noneB s = decide (s.data.toList = []) := fun s => by
    unfold noneB
    rw [decide_eq_decide]
    constructor
    · rintro rfl; rfl
    · intro h
      cases s with
      | mk d => cases d; simp at h; subst h; rfl
  rw [h, h, h]
  simp [ByteArray.data_append]

/-- an operation of a size that is looked at -/
def Opn.small (o : Opn) : Prop := o.task.name.size + o.task.queue.size + o.task.apart.size + o.task.gang.size ≤ 1099511627776
end Go.Ig
