/-
The contracts of package oper: what can be.
-/
import Derived.Test.YtaldohdkfggkiaaGreatC12
import Derived.Test.YtaldohdkfggkiaaGreatM3
set_option linter.unusedVariables false
set_option linter.unusedSimpArgs false
set_option linter.unusedSectionVars false
set_option linter.unnecessarySimpa false
namespace Go.Proofs
open Go.Ig
set_option linter.unusedSimpArgs false
set_option linter.unusedVariables false
attribute [local go_sem] Nd.cs Tk.cs Qu.cs Lbl.cs R3.cs Opn.cs

structure OpOk (w : World) (o : Opn) : Prop where
  node : NdOk w o.node
  task : TkOk w o.task
  small : o.small

theorem res_guard : Tryz.prog.eqGuardType Tryz.prog.depth 23 = false := by kernel_rfl
theorem res_eqP (a b c x y z : Int) : eqP Tryz.prog 10000 23 (.agg #[.int .i64 a, .int .i64 b, .int .i64 c]) (.agg #[.int .i64 x, .int .i64 y, .int .i64 z]) = some (a == x && (b == y && (c == z && true))) := by kernel_rfl
theorem qu_guard : Tryz.prog.eqGuardType Tryz.prog.depth 28 = false := by kernel_rfl
theorem qu_eqP (s t : Str) (a b c x y z : Int) : eqP Tryz.prog 10000 28 (.agg #[.string s, .int .i64 a, .int .i64 b, .int .i64 c]) (.agg #[.string t, .int .i64 x, .int .i64 y, .int .i64 z]) = some ((s.toList == t.toList) && ((a == x && (b == y && (c == z && true))) && true)) := by kernel_rfl

theorem res_ne {w : World} {ox oy : Operand} {K : Value → World → Prop} {a b c x y z : Int} : RunP Tryz.prog (do eqGuard .neq 23 ox oy (.agg #[.int .i64 a, .int .i64 b, .int .i64 c]) (.agg #[.int .i64 x, .int .i64 y, .int .i64 z]); binOp .neq 23 (.agg #[.int .i64 a, .int .i64 b, .int .i64 c]) (.agg #[.int .i64 x, .int .i64 y, .int .i64 z]) : Sem Value) w (hid K) = K (.bool !(a == x && (b == y && (c == z && true)))) w := RunP_ok (ne_agg res_guard (res_eqP _ _ _ _ _ _))
theorem qu_ne {w : World} {ox oy : Operand} {K : Value → World → Prop} {s t : Str} {a b c x y z : Int} : RunP Tryz.prog (do eqGuard .neq 28 ox oy (.agg #[.string s, .int .i64 a, .int .i64 b, .int .i64 c]) (.agg #[.string t, .int .i64 x, .int .i64 y, .int .i64 z]); binOp .neq 28 (.agg #[.string s, .int .i64 a, .int .i64 b, .int .i64 c]) (.agg #[.string t, .int .i64 x, .int .i64 y, .int .i64 z]) : Sem Value) w (hid K) = K (.bool !((s.toList == t.toList) && ((a == x && (b == y && (c == z && true))) && true))) w := RunP_ok (ne_agg qu_guard (qu_eqP _ _ _ _ _ _ _ _))

theorem oper_named (k : Int) (w : World) : Fnc Tryz.prog 196 [.int .i64 k] w fun v w' => v = .bool (namedB k) ∧ Ext w w' := by
  refine Fnc.enterW Tryz.func196 (by kernel_rfl) rfl rfl (Nat.le_of_ble_eq_true rfl) Tryz.results196 ?_; have S := St.start (fun _ => False) w; simp -dsimp only [go_sem, seval]
  (try simp -dsimp only [go_sem, seval, S.k]); repeat' ((first | refine AllocP.st S fun _ w1 S => ?_ | (refine StoreP.tc S fun w1 S => ?_; (try simp -dsimp only [go_sem, seval] at S)) | refine Both.mk ?_ ?_ | (first | refine GuardP.mk (fun hh => ?_) (fun hh => ?_) | refine CondP.mk (fun hh => ?_) (fun hh => ?_)) <;> (try simp only [Bool.not_true, Bool.not_false, Bool.not_eq_eq_eq_not] at hh)) <;> (first | simp -dsimp only [go_sem, seval, S.k, hh] | simp -dsimp only [go_sem, seval, S.k] | skip))
  all_goals (refine ⟨congrArg Value.bool ?_, S.eff⟩; clear S; (try simp only [decide_eq_true_eq, decide_eq_false_iff_not, Int.not_lt, Int.not_le] at *); rw [Bool.eq_iff_iff]; simp [namedB, *] <;> omega)

set_option maxRecDepth 20000 in
set_option maxHeartbeats 4000000 in
theorem oper_bare (o : Opn) (w : World) (h : OpOk w o) : Fnc Tryz.prog 195 [o.v] w fun v w' => v = .bool (bareB o) ∧ Ext w w' := by
  obtain ⟨hn, ht, hsm⟩ := h
  obtain ⟨k, n, q, t, nm⟩ := o
  obtain ⟨n1, n2, a, c, ls⟩ := n
  obtain ⟨t1, t2, t3, t4, a', c', ws, t5, t6, t7⟩ := t
  simp only [Opn.small] at hsm
  refine Fnc.enterW Tryz.func195 (by kernel_rfl) rfl rfl (Nat.le_of_ble_eq_true rfl) Tryz.results195 ?_; have S := St.start (fun _ => False) w; simp -dsimp only [go_sem, seval]
  (try simp -dsimp only [go_sem, seval, S.k]); repeat' ((first | refine ⟨xr, ?_⟩ | (refine AllocP.stx S fun _ w1 x hb S => ?_; replace hb := Nat.le_trans xr.size hb; replace xr := xr.trans (Ext.eff x)) | (refine StoreP.tcx S fun w1 x S => ?_; replace xr := xr.trans' x (fun y hy e => by omega); (try simp -dsimp only [go_sem, seval] at S)) | refine AllocP.st S fun _ w1 S => ?_ | (refine StoreP.tc S fun w1 S => ?_; (try simp -dsimp only [go_sem, seval] at S)) | refine Both.mk ?_ ?_ | (first | refine GuardP.mk (fun hh => ?_) (fun hh => ?_) | refine CondP.mk (fun hh => ?_) (fun hh => ?_)) <;> (try simp only [Bool.not_true, Bool.not_false, Bool.not_eq_eq_eq_not] at hh)) <;> (first | simp -dsimp only [go_sem, seval, S.k, hh] | simp -dsimp only [go_sem, seval, S.k] | skip))
  refine Wp.heldM (fun _ => False) (.go 0 (.go 1 (.go 2 (.go 3 (.fork 4 (.fork 5 (.fork 6 (.fork 7 .done .none) .none) .none) (.fork 5 (.fork 4 (.fork 6 (.fork 7 .done .none) .none) .none) .none)))))) [1]  (fun s : Nat × Nat => [(3, .pointer (some ⟨s.1, 0, none⟩)), (4, .pointer (some ⟨s.2, 0, none⟩))]) (fun s w1 => St (fun _ => False) w w1 ((s.1, Cl 26 (Nd.cs ⟨n1, n2, a, c, ls⟩)) :: (s.2, Cl 30 (Tk.cs ⟨t1, t2, t3, t4, a', c', ws, t5, t6, t7⟩)) :: S.M)) (by simp -dsimp only [go_sem, seval]; exact rfl) Tryz.mixed (by decide +kernel) (fun _ _ _ h => h) (fun w1 xw hw => ?_) ?_
  · replace S := S.ext xw
    have xr := Eff.refl (fun _ => False) w1
    (try simp -dsimp only [go_sem, seval, S.k]); repeat' ((first | refine ⟨xr, ?_⟩ | (refine AllocP.stx S fun _ w1 x hb S => ?_; replace hb := Nat.le_trans xr.size hb; replace xr := xr.trans (Ext.eff x)) | (refine StoreP.tcx S fun w1 x S => ?_; replace xr := xr.trans' x (fun y hy e => by omega); (try simp -dsimp only [go_sem, seval] at S)) | refine AllocP.st S fun _ w1 S => ?_ | (refine StoreP.tc S fun w1 S => ?_; (try simp -dsimp only [go_sem, seval] at S)) | refine Both.mk ?_ ?_ | (first | refine GuardP.mk (fun hh => ?_) (fun hh => ?_) | refine CondP.mk (fun hh => ?_) (fun hh => ?_)) <;> (try simp only [Bool.not_true, Bool.not_false, Bool.not_eq_eq_eq_not] at hh)) <;> (first | simp -dsimp only [go_sem, seval, S.k, hh] | simp -dsimp only [go_sem, seval, S.k] | skip))
    all_goals exact ⟨(_, _), (by repeat (first | exact Sub.nil _ | refine Sub.cons rfl ?_)), (S.subset (by simp) (by have h := S.nodup; simp only [List.map_cons, List.map_nil, List.nodup_cons, List.mem_cons, not_or, List.not_mem_nil, not_false_eq_true, List.nodup_nil, and_true] at h ⊢; omega))⟩
  · rintro ⟨b3, b4⟩ w1 S
    have z1 : t1.size + t2.size < 9223372036854775808 := by omega
    have z2 : (t1 ++ t2).size + t5.size < 9223372036854775808 := by simp; omega
    have z3 : ((t1 ++ t2) ++ t5).size + t6.size < 9223372036854775808 := by simp; omega
    have key : (k = 1 ∨ k = 3 ∨ k = 5) ∨ ((k != 1) = true ∧ (k != 3) = true ∧ (k != 5) = true) := by simp; omega
    rcases key with key | ⟨k1, k2, k3⟩
    · rcases key with rfl | rfl | rfl
      all_goals
        (try simp -dsimp only [go_sem, seval, S.k, res_ne, qu_ne, z1, z2, z3]); repeat' ((first | refine ⟨xr, ?_⟩ | (refine AllocP.stx S fun _ w1 x hb S => ?_; replace hb := Nat.le_trans xr.size hb; replace xr := xr.trans (Ext.eff x)) | (refine StoreP.tcx S fun w1 x S => ?_; replace xr := xr.trans' x (fun y hy e => by omega); (try simp -dsimp only [go_sem, seval] at S)) | refine AllocP.st S fun _ w1 S => ?_ | (refine StoreP.tc S fun w1 S => ?_; (try simp -dsimp only [go_sem, seval] at S)) | (refine CallP.fn (oper_named _ _) ?_; rintro _ w1 ⟨rfl, x⟩; (try replace xr := xr.trans (Ext.eff x)); replace S := S.ext x) | refine Both.mk ?_ ?_ | (first | refine GuardP.mk (fun hh => ?_) (fun hh => ?_) | refine CondP.mk (fun hh => ?_) (fun hh => ?_)) <;> (try simp only [Bool.not_true, Bool.not_false, Bool.not_eq_eq_eq_not] at hh)) <;> (first | simp -dsimp only [go_sem, seval, S.k, res_ne, qu_ne, z1, z2, z3, hh] | simp -dsimp only [go_sem, seval, S.k, res_ne, qu_ne, z1, z2, z3] | skip))
        all_goals (refine ⟨congrArg Value.bool ?_, S.eff⟩; clear S hn ht hsm z1 z2 z3; simp only [bareB, R3.isZ, app_none, str_none, emp] at *; grind)
    · (try simp -dsimp only [go_sem, seval, S.k, res_ne, qu_ne, z1, z2, z3, k1, k2, k3]); repeat' ((first | refine ⟨xr, ?_⟩ | (refine AllocP.stx S fun _ w1 x hb S => ?_; replace hb := Nat.le_trans xr.size hb; replace xr := xr.trans (Ext.eff x)) | (refine StoreP.tcx S fun w1 x S => ?_; replace xr := xr.trans' x (fun y hy e => by omega); (try simp -dsimp only [go_sem, seval] at S)) | refine AllocP.st S fun _ w1 S => ?_ | (refine StoreP.tc S fun w1 S => ?_; (try simp -dsimp only [go_sem, seval] at S)) | (refine CallP.fn (oper_named _ _) ?_; rintro _ w1 ⟨rfl, x⟩; (try replace xr := xr.trans (Ext.eff x)); replace S := S.ext x) | refine Both.mk ?_ ?_ | (first | refine GuardP.mk (fun hh => ?_) (fun hh => ?_) | refine CondP.mk (fun hh => ?_) (fun hh => ?_)) <;> (try simp only [Bool.not_true, Bool.not_false, Bool.not_eq_eq_eq_not] at hh)) <;> (first | simp -dsimp only [go_sem, seval, S.k, res_ne, qu_ne, z1, z2, z3, k1, k2, k3, hh] | simp -dsimp only [go_sem, seval, S.k, res_ne, qu_ne, z1, z2, z3, k1, k2, k3] | skip))
      all_goals (refine ⟨congrArg Value.bool ?_, S.eff⟩; clear S hn ht hsm z1 z2 z3; simp only [bareB, R3.isZ, app_none, str_none, emp] at *; grind)

set_option maxHeartbeats 4000000 in
theorem oper_Right (o : Opn) (w : World) (h : OpOk w o) : Fnc Tryz.prog 185 [o.v] w fun v w' => v = .bool (rightB o) ∧ Ext w w' := by
  obtain ⟨hn, ht, hsm⟩ := id h
  refine Fnc.enterW Tryz.func185 (by kernel_rfl) rfl rfl (Nat.le_of_ble_eq_true rfl) Tryz.results185 ?_; have S := St.start (fun _ => False) w; simp -dsimp only [go_sem, seval]
  (try simp -dsimp only [go_sem, seval, S.k]); repeat' ((first | refine AllocP.st S fun _ w1 S => ?_ | (refine StoreP.tc S fun w1 S => ?_; (try simp -dsimp only [go_sem, seval] at S)) | (refine CallP.fn (oper_bare o _ ⟨hn.ext S.eff, ht.ext S.eff, hsm⟩) ?_; rintro _ w1 ⟨rfl, x⟩; (try replace xr := xr.trans (Ext.eff x)); replace S := S.ext x) | (refine CallP.fn (oper_named _ _) ?_; rintro _ w1 ⟨rfl, x⟩; (try replace xr := xr.trans (Ext.eff x)); replace S := S.ext x) | (refine CallP.fn (model_Node o.node _ (hn.ext S.eff)) ?_; rintro _ w1 ⟨rfl, x⟩; (try replace xr := xr.trans (Ext.eff x)); replace S := S.ext x) | (refine CallP.fn (model_Queue o.queue _) ?_; rintro _ w1 ⟨rfl, x⟩; (try replace xr := xr.trans (Ext.eff x)); replace S := S.ext x) | (refine CallP.fn (model_Task o.task _ (ht.ext S.eff)) ?_; rintro _ w1 ⟨rfl, x⟩; (try replace xr := xr.trans (Ext.eff x)); replace S := S.ext x) | (refine CallP.fn (ident_Name _ _) ?_; rintro _ w1 ⟨rfl, x⟩; (try replace xr := xr.trans (Ext.eff x)); replace S := S.ext x) | refine Both.mk ?_ ?_ | (first | refine GuardP.mk (fun hh => ?_) (fun hh => ?_) | refine CondP.mk (fun hh => ?_) (fun hh => ?_)) <;> (try simp only [Bool.not_true, Bool.not_false, Bool.not_eq_eq_eq_not] at hh)) <;> (first | simp -dsimp only [go_sem, seval, S.k, hh] | simp -dsimp only [go_sem, seval, S.k] | skip))
  all_goals (refine ⟨congrArg Value.bool ?_, S.eff⟩; clear S; simp only [rightB]; grind)
end Go.Proofs
