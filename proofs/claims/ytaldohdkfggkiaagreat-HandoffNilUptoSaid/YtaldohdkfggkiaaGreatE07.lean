/-
Generations, asked through an interface; what can't be is refused.
-/
import Derived.Test.YtaldohdkfggkiaaGreatE06
import Derived.Test.YtaldohdkfggkiaaGreatIgD
set_option linter.unusedVariables false
set_option linter.unusedSimpArgs false
set_option linter.unusedSectionVars false
set_option linter.unnecessarySimpa false
namespace Go.Proofs
open Go.Ig
set_option linter.unusedSimpArgs false
set_option linter.unusedVariables false
attribute [local go_sem] Nd.cs Tk.cs Qu.cs Lbl.cs R3.cs Opn.cs

abbrev ansV (e : Int) (a : Value) : Value := .agg #[.int .i64 e, a]
theorem gen1_refuse (e : Int) (w : World) : Fnc Tryz.prog 186 [.int .i64 e] w fun u w' => u = ansV e nilS ∧ Ext w w' := by
  refine Fnc.enterW Tryz.func186 (by kernel_rfl) rfl rfl (Nat.le_of_ble_eq_true rfl) Tryz.results186 ?_; have S := St.start (fun _ => False) w; simp -dsimp only [go_sem, seval]
  (try simp -dsimp only [go_sem, seval, S.k]); repeat' ((first | refine AllocP.st S fun _ w1 S => ?_ | (refine StoreP.tc S fun w1 S => ?_; (try simp -dsimp only [go_sem, seval] at S)) | refine Both.mk ?_ ?_ | (first | refine GuardP.mk (fun hh => ?_) (fun hh => ?_) | refine CondP.mk (fun hh => ?_) (fun hh => ?_)) <;> (try simp only [Bool.not_true, Bool.not_false, Bool.not_eq_eq_eq_not] at hh)) <;> (first | simp -dsimp only [go_sem, seval, S.k, hh] | simp -dsimp only [go_sem, seval, S.k] | skip))
  first | exact S.eff | exact ⟨rfl, S.eff⟩
theorem gen1_DoArg (a : Addr) (o : Opn) (w : World) (h : OpOk w o) (hr : rightB o = false) : Fnc Tryz.prog 183 [.pointer (some a), o.v] w fun u w' => u = ansV 1 nilS ∧ Ext w w' := by
  refine Fnc.enterW Tryz.func183 (by kernel_rfl) rfl rfl (Nat.le_of_ble_eq_true rfl) Tryz.results183 ?_; have S := St.start (fun _ => False) w; simp -dsimp only [go_sem, seval]
  (try simp -dsimp only [go_sem, seval, S.k, hr]); repeat' ((first | refine AllocP.st S fun _ w1 S => ?_ | (refine StoreP.tc S fun w1 S => ?_; (try simp -dsimp only [go_sem, seval] at S)) | (refine CallP.fn (oper_Right o _ ⟨h.node.ext S.eff, h.task.ext S.eff, h.small⟩) ?_; rintro _ w1 ⟨rfl, x⟩; (try replace xr := xr.trans (Ext.eff x)); replace S := S.ext x) | (refine CallP.fn (gen1_refuse 1 _) ?_; rintro _ w1 ⟨rfl, x⟩; (try replace xr := xr.trans (Ext.eff x)); replace S := S.ext x) | refine Both.mk ?_ ?_ | (first | refine GuardP.mk (fun hh => ?_) (fun hh => ?_) | refine CondP.mk (fun hh => ?_) (fun hh => ?_)) <;> (try simp only [Bool.not_true, Bool.not_false, Bool.not_eq_eq_eq_not] at hh)) <;> (first | simp -dsimp only [go_sem, seval, S.k, hr, hh] | simp -dsimp only [go_sem, seval, S.k, hr] | skip))
  first | exact S.eff | exact ⟨rfl, S.eff⟩
theorem gen2_refuse (e : Int) (w : World) : Fnc Tryz.prog 269 [.int .i64 e] w fun u w' => u = ansV e nilS ∧ Ext w w' := by
  refine Fnc.enterW Tryz.func269 (by kernel_rfl) rfl rfl (Nat.le_of_ble_eq_true rfl) Tryz.results269 ?_; have S := St.start (fun _ => False) w; simp -dsimp only [go_sem, seval]
  (try simp -dsimp only [go_sem, seval, S.k]); repeat' ((first | refine AllocP.st S fun _ w1 S => ?_ | (refine StoreP.tc S fun w1 S => ?_; (try simp -dsimp only [go_sem, seval] at S)) | refine Both.mk ?_ ?_ | (first | refine GuardP.mk (fun hh => ?_) (fun hh => ?_) | refine CondP.mk (fun hh => ?_) (fun hh => ?_)) <;> (try simp only [Bool.not_true, Bool.not_false, Bool.not_eq_eq_eq_not] at hh)) <;> (first | simp -dsimp only [go_sem, seval, S.k, hh] | simp -dsimp only [go_sem, seval, S.k] | skip))
  first | exact S.eff | exact ⟨rfl, S.eff⟩
theorem gen2_DoArg (a : Addr) (o : Opn) (w : World) (h : OpOk w o) (hr : rightB o = false) : Fnc Tryz.prog 267 [.pointer (some a), o.v] w fun u w' => u = ansV 1 nilS ∧ Ext w w' := by
  refine Fnc.enterW Tryz.func267 (by kernel_rfl) rfl rfl (Nat.le_of_ble_eq_true rfl) Tryz.results267 ?_; have S := St.start (fun _ => False) w; simp -dsimp only [go_sem, seval]
  (try simp -dsimp only [go_sem, seval, S.k, hr]); repeat' ((first | refine AllocP.st S fun _ w1 S => ?_ | (refine StoreP.tc S fun w1 S => ?_; (try simp -dsimp only [go_sem, seval] at S)) | (refine CallP.fn (oper_Right o _ ⟨h.node.ext S.eff, h.task.ext S.eff, h.small⟩) ?_; rintro _ w1 ⟨rfl, x⟩; (try replace xr := xr.trans (Ext.eff x)); replace S := S.ext x) | (refine CallP.fn (gen2_refuse 1 _) ?_; rintro _ w1 ⟨rfl, x⟩; (try replace xr := xr.trans (Ext.eff x)); replace S := S.ext x) | refine Both.mk ?_ ?_ | (first | refine GuardP.mk (fun hh => ?_) (fun hh => ?_) | refine CondP.mk (fun hh => ?_) (fun hh => ?_)) <;> (try simp only [Bool.not_true, Bool.not_false, Bool.not_eq_eq_eq_not] at hh)) <;> (first | simp -dsimp only [go_sem, seval, S.k, hr, hh] | simp -dsimp only [go_sem, seval, S.k, hr] | skip))
  first | exact S.eff | exact ⟨rfl, S.eff⟩
theorem meth1 (v : Value) (w : World) : (method (Tryz.prog.types.size + Made.depth) 80 v "State").run Tryz.prog w = .ok (184, v) w := by kernel_rfl
end Go.Proofs
