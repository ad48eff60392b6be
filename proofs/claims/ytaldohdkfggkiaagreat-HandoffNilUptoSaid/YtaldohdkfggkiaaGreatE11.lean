/-
Steps of layer 22, and whether they are few; the law of a nil control.
-/
import Derived.Test.YtaldohdkfggkiaaGreatE10
set_option linter.unusedVariables false
set_option linter.unusedSimpArgs false
set_option linter.unusedSectionVars false
set_option linter.unnecessarySimpa false
namespace Go.Ig
/-- interregnumlaw22.Step -/
structure Stp where
  command : Int
  o : Opn
@[reducible] def Stp.cs (s : Stp) : List Value := .int .i64 s.command :: s.o.cs
abbrev Stp.v (s : Stp) : Value := .agg s.cs.toArray
def Opn.len (o : Opn) : Nat := o.node.name.size + o.queue.name.size + o.task.name.size + o.task.queue.size + o.task.apart.size + o.task.gang.size + o.name.size
def Opn.few (o : Opn) : Bool := decide (o.node.labels.length ≤ 20) && (decide (o.task.wants.length ≤ 20) && decide (o.len ≤ 2000))
def fewB (l : List Stp) : Bool := decide (l.length ≤ 120) && l.all fun s => s.o.few
/-- A part of a row that is read. -/
theorem ldC_part {w : World} {p : Addr} {sz : Nat} {row : List Value} (h : ldC w p sz = some row) (k n : Nat) (hk : k + n ≤ sz) : ((cellsO w.heap[p.block]?).bind fun cs => if p.off + k + n ≤ cs.length then some (List.take n (List.drop (p.off + k) cs)) else none) = some ((row.drop k).take n) := by
  unfold ldC at h
  split at h
  · simp at h
  · cases hc : cellsO w.heap[p.block]? with
    | none => simp [hc] at h
    | some cs =>
      simp only [hc, Option.bind_some, sliceL] at h ⊢
      split at h
      · rename_i hlen
        cases h
        rw [if_pos (by omega), List.drop_take, List.drop_drop, List.take_take, Nat.min_eq_left (by omega)]
      · simp at h
end Go.Ig
namespace Go.Proofs
open Go.Ig
set_option linter.unusedSimpArgs false
set_option linter.unusedVariables false
attribute [local go_sem] Nd.cs Tk.cs Qu.cs Lbl.cs R3.cs Opn.cs Stp.cs

theorem few_ok (v : Value) (l : List Stp) (w : World) (h : Sl w 34 22 v (l.map Stp.cs)) (hb : ∀ s ∈ l, s.o.len ≤ 1099511627776) : Fnc Tryz.prog 5 [v] w fun u w' => u = .bool (fewB l) ∧ Ext w w' := by
  obtain ⟨a, c, rfl, hc, hsm⟩ := h.formM
  refine Fnc.enterW Tryz.func5 (by kernel_rfl) rfl rfl (Nat.le_of_ble_eq_true rfl) Tryz.results5 ?_; have S := St.start (fun _ => False) w; simp -dsimp only [go_sem, seval]
  by_cases hl : l.length ≤ 120
  case neg =>
    have d : decide (120 < (l.length : Int)) = true := by simp; omega
    simp -dsimp only [go_sem, seval, S.k, d]
    exact ⟨by simp [fewB, hl], S.eff⟩
  have d : decide (120 < (l.length : Int)) = false := by simp; omega
  simp -dsimp only [go_sem, seval, S.k, d]
  refine Wp.loopG [0, 9]  (fun s : Nat => [(10, .int .i64 s)]) (fun s w1 => s ≤ l.length ∧ (∀ x ∈ l.take s, x.o.few = true) ∧ St (fun _ => False) w w1 []) (fun s => l.length - s) 0 (by simp -dsimp only [go_sem, seval]; exact rfl) (by decide) (by repeat (first | exact Sub.nil _ | refine Sub.cons rfl ?_)) ⟨by simp, by simp, S.sublist (List.nil_sublist _)⟩ ?_
  rintro k w1 ⟨hk, hf, S⟩
  by_cases hlt : k < l.length
  · obtain ⟨p, hp, hl0⟩ := h.at Tryz.elL37 (i := k) (r := l[k].cs) (by simp [hlt])
    have hl1 := S.eff.ld hl0 id
    have hd : decide ((k : Int) < (l.length : Int)) = true := by simp; omega
    have ht : l.take (k + 1) = l.take k ++ [l[k]] := by rw [List.take_succ_eq_append_getElem hlt]
    have ew := wr_succ (show k < 140737488355328 by omega)
    have hm : l[k] ∈ l := List.getElem_mem _
    have hbk := hb _ hm
    generalize l[k] = s at *
    obtain ⟨cm, ⟨kd, ⟨n1, n2, na, nc, nl⟩, ⟨q1, q2⟩, ⟨t1, t2, t3, t4, ta, tc, tl, t5, t6, t7⟩, nm⟩⟩ := s
    simp only [Opn.len] at hbk
    have hl2 := ldC_part hl1 1 21 (by omega)
    simp only [List.drop_succ_cons, List.drop_zero] at hl2
    have z1 : IntKind.i64.wrap ((n1.size : Int) + q1.size) = ((n1.size + q1.size : Nat) : Int) := by rw [wr_i64 (by omega) (by omega)]; omega
    have z2 : IntKind.i64.wrap (((n1.size + q1.size : Nat) : Int) + t1.size) = ((n1.size + q1.size + t1.size : Nat) : Int) := by rw [wr_i64 (by omega) (by omega)]; omega
    have z3 : IntKind.i64.wrap (((n1.size + q1.size + t1.size : Nat) : Int) + t2.size) = ((n1.size + q1.size + t1.size + t2.size : Nat) : Int) := by rw [wr_i64 (by omega) (by omega)]; omega
    have z4 : IntKind.i64.wrap (((n1.size + q1.size + t1.size + t2.size : Nat) : Int) + t5.size) = ((n1.size + q1.size + t1.size + t2.size + t5.size : Nat) : Int) := by rw [wr_i64 (by omega) (by omega)]; omega
    have z5 : IntKind.i64.wrap (((n1.size + q1.size + t1.size + t2.size + t5.size : Nat) : Int) + t6.size) = ((n1.size + q1.size + t1.size + t2.size + t5.size + t6.size : Nat) : Int) := by rw [wr_i64 (by omega) (by omega)]; omega
    have z6 : IntKind.i64.wrap (((n1.size + q1.size + t1.size + t2.size + t5.size + t6.size : Nat) : Int) + nm.size) = ((n1.size + q1.size + t1.size + t2.size + t5.size + t6.size + nm.size : Nat) : Int) := by rw [wr_i64 (by omega) (by omega)]; omega
    simp -dsimp only [go_sem, seval, S.k, hd, hp, hl2]
    (try simp -dsimp only [go_sem, seval, S.k, ew, z1, z2, z3, z4, z5, z6]); repeat' ((first | refine AllocP.st S fun _ w1 S => ?_ | (refine StoreP.tc S fun w1 S => ?_; (try simp -dsimp only [go_sem, seval] at S)) | refine Both.mk ?_ ?_ | (first | refine GuardP.mk (fun hh => ?_) (fun hh => ?_) | refine CondP.mk (fun hh => ?_) (fun hh => ?_)) <;> (try simp only [Bool.not_true, Bool.not_false, Bool.not_eq_eq_eq_not] at hh)) <;> (first | simp -dsimp only [go_sem, seval, S.k, ew, z1, z2, z3, z4, z5, z6, hh] | simp -dsimp only [go_sem, seval, S.k, ew, z1, z2, z3, z4, z5, z6] | skip))
    all_goals first
      | (refine ⟨k + 1, by omega, (by repeat (first | exact Sub.nil _ | refine Sub.cons rfl ?_)), by omega, fun x hx => ?_, S.sublist (List.nil_sublist _)⟩
         rw [ht, List.mem_append, List.mem_singleton] at hx
         rcases hx with hx | rfl
         · exact hf x hx
         · clear S hl1 hl2 hp z1 z2 z3 z4 z5 z6; simp only [Opn.few, Opn.len] at *; grind)
      | (refine ⟨congrArg Value.bool (Eq.symm ?_), S.eff⟩
         simp only [fewB, Bool.and_eq_false_iff]
         right
         rw [List.all_eq_false]
         refine ⟨_, hm, ?_⟩
         clear S hl1 hl2 hp z1 z2 z3 z4 z5 z6; simp only [Opn.few, Opn.len] at *; grind)
  · have hk' : k = l.length := by omega
    subst hk'
    have hd : decide (((l.length : Nat) : Int) < (l.length : Int)) = false := by simp
    rw [List.take_length] at hf
    simp -dsimp only [go_sem, seval, S.k, hd]
    refine ⟨congrArg Value.bool ?_, S.eff⟩
    simp only [fewB]
    rw [decide_eq_true hl, List.all_eq_true.2 hf]; rfl
end Go.Proofs
