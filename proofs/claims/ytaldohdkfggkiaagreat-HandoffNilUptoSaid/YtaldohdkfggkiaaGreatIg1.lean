import Derived.Test.YtaldohdkfggkiaaGreatIg0
import Derived.Laws.Cells
import Derived.Laws.CopyRow
import Derived.Laws.IdiomCopy
import Derived.Laws.Entries
import Derived.Laws.Append
import Derived.Laws.Unary
set_option linter.unusedVariables false
set_option linter.unusedSimpArgs false
set_option linter.unusedSectionVars false
set_option linter.unnecessarySimpa false
namespace Go.Ig

/-! ### memory -/
/-- A row of cells, nothing frozen. -/
abbrev Cl (T : TypeId) (cs : List Value) : Obj := .cells cs.toArray T (0, 0)

def sliceL (cs : List Value) (off sz : Nat) : Option (List Value) :=
  if off + sz ≤ cs.length then some ((cs.drop off).take sz) else none

def cellsO : Option Obj → Option (List Value)
  | some (.cells c _ _) => some c.toList
  | _ => none

/-- sz cells read from a on. -/
def ldC (w : World) (a : Addr) (sz : Nat) : Option (List Value) :=
  if a.spot.isSome then none else (cellsO w.heap[a.block]?).bind fun cs => sliceL cs a.off sz

def mkV (g : Bool) (cs : List Value) : Value := if g then .agg cs.toArray else cs.headD undef

/-- Is a type a struct or an array; how many cells has it. -/
def tyL (P : Program) (t : TypeId) : Option (Bool × Nat) :=
  match P.underlying t, P.info? t with
  | some (.struct _), some i => some (true, i.size)
  | some (.array _ _), some i => some (true, i.size)
  | some _, some i => if i.size = 1 then some (false, 1) else none
  | _, _ => none

theorem add_zero (a : Addr) : a.add 0 = a := rfl

theorem ldC_cell {w : World} {a : Addr} {sz : Nat} {cs : List Value} (h : ldC w a sz = some cs) :
    cs.length = sz ∧ ∀ j v, cs[j]? = some v → w.cell? (a.add j) = some v := by
  unfold ldC at h
  split at h
  · simp at h
  · rename_i hs
    cases hb : w.heap[a.block]? with
    | none => simp [hb, cellsO] at h
    | some o =>
      cases o <;> simp [hb, cellsO, sliceL] at h
      rename_i c T fr
      obtain ⟨h1, h2⟩ := h
      subst h2
      have hspot : a.spot = none := by cases hx : a.spot <;> simp_all
      refine ⟨by simp; omega, fun j v hj => ?_⟩
      have hadd : (a.add j).block = a.block ∧ (a.add j).off = a.off + j ∧ (a.add j).spot = none := by
        unfold Addr.add; split <;> simp_all
      simp only [World.cell?, hadd, hb]
      rw [List.getElem?_take] at hj
      split at hj
      · simpa [List.getElem?_drop] using hj
      · simp at hj

section
variable {P : Program} {w : World}

theorem run_tyL {t : TypeId} {g : Bool} {sz : Nat} (h : tyL P t = some (g, sz)) :
    ∃ i d, P.info? t = some i ∧ P.underlying t = some d ∧ i.size = sz ∧ (isAgg t).run P w = .ok g w ∧ (sizeOf t).run P w = .ok sz w ∧ (g = false → sz = 1) := by
  unfold tyL at h
  cases hu : P.underlying t with
  | none => simp [hu] at h
  | some d =>
    cases hi : P.info? t with
    | none => cases d <;> simp [hu, hi] at h
    | some i =>
      have hsz : (sizeOf t).run P w = .ok i.size w := by simp [sizeOf, typeInfo, hi]
      refine ⟨i, d, rfl, rfl, ?_⟩
      cases d <;> simp [hu, hi] at h <;>
        (first
          | (obtain ⟨h1, h2⟩ := h; subst h1; subst h2; exact ⟨rfl, by simp [isAgg, run_underlying hu], hsz, by simp⟩)
          | (obtain ⟨h0, h1, h2⟩ := h; subst h1; subst h2; exact ⟨h0, by simp [isAgg, run_underlying hu], by rw [hsz, h0], by simp⟩))

theorem run_loadVar_ldC {t : TypeId} {g : Bool} {sz : Nat} {a : Addr} {cs : List Value} (h : tyL P t = some (g, sz)) (hl : ldC w a sz = some cs) :
    (loadVar t a).run P w = .ok (mkV g cs) w := by
  obtain ⟨i, d, hi, hd, hs, h1, h2, h3⟩ := run_tyL (w := w) h
  obtain ⟨hlen, hc⟩ := ldC_cell hl
  cases g with
  | true =>
    simp only [loadVar, Sem.run_bind, h1, Result.andThen_ok, if_true, h2]
    rw [← hlen, run_loadCells_list (P := P) (w := w) a cs hc]
    simp [mkV]
  | false =>
    have := h3 rfl
    subst this
    match cs, hlen with
    | [v], _ =>
      have hv := hc 0 v rfl
      rw [add_zero] at hv
      simp [loadVar, h1, hv, mkV]
end
end Go.Ig
