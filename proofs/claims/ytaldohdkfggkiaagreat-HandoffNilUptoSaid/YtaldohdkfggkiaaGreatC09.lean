/-
The contracts of package model: what can be.
-/
import Derived.Test.YtaldohdkfggkiaaGreatC08
import Derived.Test.YtaldohdkfggkiaaGreatC07
import Derived.Test.YtaldohdkfggkiaaGreatC01
set_option linter.unusedVariables false
set_option linter.unusedSimpArgs false
set_option linter.unusedSectionVars false
set_option linter.unnecessarySimpa false
namespace Go.Proofs
open Go.Ig
set_option linter.unusedSimpArgs false
set_option linter.unusedVariables false
attribute [local go_sem] Nd.cs Tk.cs Qu.cs Lbl.cs R3.cs

abbrev NdOk (w : World) (n : Nd) : Prop := SlLbl w n.lv n.labels
abbrev TkOk (w : World) (t : Tk) : Prop := SlLbl w t.wv t.wants

theorem model_Node (n : Nd) (w : World) (h : NdOk w n) : Fnc Tryz.prog 92 [n.v] w fun v w' => v = .bool (nodeB n) ∧ Ext w w' := by
  refine Fnc.enterW Tryz.func92 (by kernel_rfl) rfl rfl (Nat.le_of_ble_eq_true rfl) Tryz.results92 ?_; have S := St.start (fun _ => False) w; simp -dsimp only [go_sem, seval]
  (try simp -dsimp only [go_sem, seval, S.k]); repeat' ((first | refine AllocP.st S fun _ w1 S => ?_ | (refine StoreP.tc S fun w1 S => ?_; (try simp -dsimp only [go_sem, seval] at S)) | (refine CallP.fn (ident_Name _ _) ?_; rintro _ w1 ⟨rfl, x⟩; (try replace xr := xr.trans (Ext.eff x)); replace S := S.ext x) | (refine CallP.fn (res_Right n.cap _) ?_; rintro _ w1 ⟨rfl, x⟩; (try replace xr := xr.trans (Ext.eff x)); replace S := S.ext x) | (refine CallP.fn (ident_Labels n.lv n.labels _ (h.ext S.eff)) ?_; rintro _ w1 ⟨rfl, x⟩; (try replace xr := xr.trans (Ext.eff x)); replace S := S.ext x) | refine Both.mk ?_ ?_ | (first | refine GuardP.mk (fun hh => ?_) (fun hh => ?_) | refine CondP.mk (fun hh => ?_) (fun hh => ?_)) <;> (try simp only [Bool.not_true, Bool.not_false, Bool.not_eq_eq_eq_not] at hh)) <;> (first | simp -dsimp only [go_sem, seval, S.k, hh] | simp -dsimp only [go_sem, seval, S.k] | skip))
  all_goals (refine ⟨congrArg Value.bool ?_, S.eff⟩; clear S; (try simp only [decide_eq_true_eq, decide_eq_false_iff_not, Int.not_lt, Int.not_le] at *); rw [Bool.eq_iff_iff]; simp [nodeB, *] <;> omega)

theorem model_Queue (q : Qu) (w : World) : Fnc Tryz.prog 63 [q.v] w fun v w' => v = .bool (queueB q) ∧ Ext w w' := by
  refine Fnc.enterW Tryz.func63 (by kernel_rfl) rfl rfl (Nat.le_of_ble_eq_true rfl) Tryz.results63 ?_; have S := St.start (fun _ => False) w; simp -dsimp only [go_sem, seval]
  (try simp -dsimp only [go_sem, seval, S.k]); repeat' ((first | refine AllocP.st S fun _ w1 S => ?_ | (refine StoreP.tc S fun w1 S => ?_; (try simp -dsimp only [go_sem, seval] at S)) | (refine CallP.fn (ident_Name _ _) ?_; rintro _ w1 ⟨rfl, x⟩; (try replace xr := xr.trans (Ext.eff x)); replace S := S.ext x) | (refine CallP.fn (res_Right q.quota _) ?_; rintro _ w1 ⟨rfl, x⟩; (try replace xr := xr.trans (Ext.eff x)); replace S := S.ext x) | refine Both.mk ?_ ?_ | (first | refine GuardP.mk (fun hh => ?_) (fun hh => ?_) | refine CondP.mk (fun hh => ?_) (fun hh => ?_)) <;> (try simp only [Bool.not_true, Bool.not_false, Bool.not_eq_eq_eq_not] at hh)) <;> (first | simp -dsimp only [go_sem, seval, S.k, hh] | simp -dsimp only [go_sem, seval, S.k] | skip))
  all_goals (refine ⟨congrArg Value.bool ?_, S.eff⟩; clear S; (try simp only [decide_eq_true_eq, decide_eq_false_iff_not, Int.not_lt, Int.not_le] at *); rw [Bool.eq_iff_iff]; simp [queueB, *] <;> omega)

theorem model_maybe (s : Str) (w : World) : Fnc Tryz.prog 127 [.string s] w fun v w' => v = .bool (maybeB s) ∧ Ext w w' := by
  refine Fnc.enterW Tryz.func127 (by kernel_rfl) rfl rfl (Nat.le_of_ble_eq_true rfl) Tryz.results127 ?_; have S := St.start (fun _ => False) w; simp -dsimp only [go_sem, seval]
  (try simp -dsimp only [go_sem, seval, S.k]); repeat' ((first | refine AllocP.st S fun _ w1 S => ?_ | (refine StoreP.tc S fun w1 S => ?_; (try simp -dsimp only [go_sem, seval] at S)) | (refine CallP.fn (ident_Name _ _) ?_; rintro _ w1 ⟨rfl, x⟩; (try replace xr := xr.trans (Ext.eff x)); replace S := S.ext x) | refine Both.mk ?_ ?_ | (first | refine GuardP.mk (fun hh => ?_) (fun hh => ?_) | refine CondP.mk (fun hh => ?_) (fun hh => ?_)) <;> (try simp only [Bool.not_true, Bool.not_false, Bool.not_eq_eq_eq_not] at hh)) <;> (first | simp -dsimp only [go_sem, seval, S.k, hh] | simp -dsimp only [go_sem, seval, S.k] | skip))
  all_goals (refine ⟨congrArg Value.bool ?_, S.eff⟩; clear S; (try simp only [decide_eq_true_eq, decide_eq_false_iff_not, Int.not_lt, Int.not_le] at *); rw [Bool.eq_iff_iff]; simp [maybeB, noneB, *] <;> omega)

theorem model_Task (t : Tk) (w : World) (h : TkOk w t) : Fnc Tryz.prog 96 [t.v] w fun v w' => v = .bool (taskB t) ∧ Ext w w' := by
  refine Fnc.enterW Tryz.func96 (by kernel_rfl) rfl rfl (Nat.le_of_ble_eq_true rfl) Tryz.results96 ?_; have S := St.start (fun _ => False) w; simp -dsimp only [go_sem, seval]
  (try simp -dsimp only [go_sem, seval, S.k]); repeat' ((first | refine AllocP.st S fun _ w1 S => ?_ | (refine StoreP.tc S fun w1 S => ?_; (try simp -dsimp only [go_sem, seval] at S)) | (refine CallP.fn (ident_Name _ _) ?_; rintro _ w1 ⟨rfl, x⟩; (try replace xr := xr.trans (Ext.eff x)); replace S := S.ext x) | (refine CallP.fn (res_Right t.need _) ?_; rintro _ w1 ⟨rfl, x⟩; (try replace xr := xr.trans (Ext.eff x)); replace S := S.ext x) | (refine CallP.fn (ident_Labels t.wv t.wants _ (h.ext S.eff)) ?_; rintro _ w1 ⟨rfl, x⟩; (try replace xr := xr.trans (Ext.eff x)); replace S := S.ext x) | (refine CallP.fn (model_maybe _ _) ?_; rintro _ w1 ⟨rfl, x⟩; (try replace xr := xr.trans (Ext.eff x)); replace S := S.ext x) | refine Both.mk ?_ ?_ | (first | refine GuardP.mk (fun hh => ?_) (fun hh => ?_) | refine CondP.mk (fun hh => ?_) (fun hh => ?_)) <;> (try simp only [Bool.not_true, Bool.not_false, Bool.not_eq_eq_eq_not] at hh)) <;> (first | simp -dsimp only [go_sem, seval, S.k, hh] | simp -dsimp only [go_sem, seval, S.k] | skip))
  all_goals (refine ⟨congrArg Value.bool ?_, S.eff⟩; clear S; (try simp only [decide_eq_true_eq, decide_eq_false_iff_not, Int.not_lt, Int.not_le] at *); rw [Bool.eq_iff_iff]; simp [taskB, noneB, maybeB_nil, *] <;> omega)
end Go.Proofs
