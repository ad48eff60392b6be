/-
Control: from nothing, into Trial.
-/
import Derived.Test.YtaldohdkfggkiaaGreatE07
set_option linter.unusedVariables false
set_option linter.unusedSimpArgs false
set_option linter.unusedSectionVars false
set_option linter.unnecessarySimpa false
namespace Go.Proofs
open Go.Ig
set_option linter.unusedSimpArgs false
set_option linter.unusedVariables false

abbrev i1 (g : Nat) : Value := .iface 80 (.pointer (some ⟨g, 0, none⟩))
abbrev i2 (g : Nat) : Value := .iface 97 (.pointer (some ⟨g, 0, none⟩))
abbrev ctlO (ph ac ep : Int) (nw ot : Value) (ap : Int) : Obj := Cl 42 [.int .i64 ph, .int .i64 ac, .int .i64 ep, nw, ot, .int .i64 ap]
abbrev g1O : Obj := Cl 92 [.int .i64 0, .int .i64 1, nilS, nilS, nilS]

theorem meth_State1 (v : Value) (w : World) : (method (Tryz.prog.types.size + Made.depth) 80 v "State").run Tryz.prog w = .ok (184, v) w := by kernel_rfl
theorem meth_State2 (v : Value) (w : World) : (method (Tryz.prog.types.size + Made.depth) 97 v "State").run Tryz.prog w = .ok (268, v) w := by kernel_rfl
theorem meth_Do1 (v : Value) (w : World) : (method (Tryz.prog.types.size + Made.depth) 80 v "Do").run Tryz.prog w = .ok (183, v) w := by kernel_rfl
theorem meth_Do2 (v : Value) (w : World) : (method (Tryz.prog.types.size + Made.depth) 97 v "Do").run Tryz.prog w = .ok (267, v) w := by kernel_rfl

theorem handoff_New (w : World) : Fnc Tryz.prog 14 [] w fun u w' => ∃ c g, u = .pointer (some ⟨c, 0, none⟩) ∧ St (fun _ => False) w w' [(c, ctlO 1 1 1 (i1 g) .nilIface 0), (g, g1O)] := by
  refine Fnc.enterW Tryz.func14 (by kernel_rfl) rfl rfl (Nat.le_of_ble_eq_true rfl) Tryz.results14 ?_; have S := St.start (fun _ => False) w; simp -dsimp only [go_sem, seval]
  (try simp -dsimp only [go_sem, seval, S.k]); repeat' ((first | refine AllocP.st S fun _ w1 S => ?_ | (refine StoreP.tc S fun w1 S => ?_; (try simp -dsimp only [go_sem, seval] at S)) | (refine CallP.fn (gen1_New _) ?_; rintro _ w1 ⟨g, rfl, x⟩; replace S := S.join x; (try simp only [List.cons_append, List.nil_append, List.append_nil, List.append_assoc] at S)) | refine Both.mk ?_ ?_ | (first | refine GuardP.mk (fun hh => ?_) (fun hh => ?_) | refine CondP.mk (fun hh => ?_) (fun hh => ?_)) <;> (try simp only [Bool.not_true, Bool.not_false, Bool.not_eq_eq_eq_not] at hh)) <;> (first | simp -dsimp only [go_sem, seval, S.k, hh] | simp -dsimp only [go_sem, seval, S.k] | skip))
  exact ⟨_, g, rfl, S⟩

theorem handoff_export1 (g : Nat) (w : World) (hk : w.heap[g]? = some g1O) : Fnc Tryz.prog 22 [i1 g, .int .i64 1] w fun u w' => ∃ v, u = .tuple #[v, .int .i64 0] ∧ NwB w w' v em1 := by
  refine Fnc.enterW Tryz.func22 (by kernel_rfl) rfl rfl (Nat.le_of_ble_eq_true rfl) Tryz.results22 ?_; have S := St.start (fun _ => False) w; simp -dsimp only [go_sem, seval]
  (try simp -dsimp only [go_sem, seval, S.k]); repeat' ((first | refine AllocP.st S fun _ w1 S => ?_ | (refine StoreP.tc S fun w1 S => ?_; (try simp -dsimp only [go_sem, seval] at S)) | (refine InvP.of (meth_State1 _ _) ?_) | (refine CallP.fn (gen1_State0 g 0 1 (by decide) _ ⟨S.eff.get hk id, trivial⟩) ?_; rintro _ w1 ⟨rfl, x⟩; (try replace xr := xr.trans (Ext.eff x)); replace S := S.ext x) | (refine CallP.fn (schema_Encode1_0 0 1 rfl (by omega) _) ?_; rintro _ w1 ⟨v1, rfl, B1, hb1, x⟩; obtain ⟨a1, n1, c1, rfl, hn1⟩ := hb1.form; (try rw [List.length_map] at hn1); subst hn1; replace S := S.join x; (try simp only [List.cons_append, List.nil_append, List.append_nil, List.append_assoc] at S)) | refine Both.mk ?_ ?_ | (first | refine GuardP.mk (fun hh => ?_) (fun hh => ?_) | refine CondP.mk (fun hh => ?_) (fun hh => ?_)) <;> (try simp only [Bool.not_true, Bool.not_false, Bool.not_eq_eq_eq_not] at hh)) <;> (first | simp -dsimp only [go_sem, seval, S.k, hh] | simp -dsimp only [go_sem, seval, S.k] | skip))
  exact ⟨_, rfl, _, hb1, S.sublist (by repeat (first | exact List.Sublist.refl _ | exact List.nil_sublist _ | apply List.Sublist.cons_cons | apply List.Sublist.append_left | exact List.sublist_append_left _ _ | apply List.Sublist.cons | apply List.sublist_append_of_sublist_right))⟩

theorem handoff_imports2 (v : Value) (w : World) (h : SlB w v em2) : Fnc Tryz.prog 29 [v, .int .i64 2] w fun u w' => ∃ g, u = .tuple #[i2 g, .int .i64 0] ∧ Ext w w' := by
  obtain ⟨a, c, rfl, hc, hsm⟩ := h.formM
  refine Fnc.enterW Tryz.func29 (by kernel_rfl) rfl rfl (Nat.le_of_ble_eq_true rfl) Tryz.results29 ?_; have S := St.start (fun _ => False) w; simp -dsimp only [go_sem, seval]
  (try simp -dsimp only [go_sem, seval, S.k]); repeat' ((first | refine AllocP.st S fun _ w1 S => ?_ | (refine StoreP.tc S fun w1 S => ?_; (try simp -dsimp only [go_sem, seval] at S)) | (refine CallP.fn (schema_Decode2 _ _ (h.ext S.eff)) ?_; rintro _ w1 ⟨rfl, x⟩; (try replace xr := xr.trans (Ext.eff x)); replace S := S.ext x) | (refine CallP.fn (gen2_Load0 _) ?_; rintro _ w1 ⟨b, m1, m2, m3, a1, a2, a3, rfl, x⟩; replace S := S.join x; (try simp only [List.cons_append, List.nil_append, List.append_nil, List.append_assoc] at S)) | refine Both.mk ?_ ?_ | (first | refine GuardP.mk (fun hh => ?_) (fun hh => ?_) | refine CondP.mk (fun hh => ?_) (fun hh => ?_)) <;> (try simp only [Bool.not_true, Bool.not_false, Bool.not_eq_eq_eq_not] at hh)) <;> (first | simp -dsimp only [go_sem, seval, S.k, hh] | simp -dsimp only [go_sem, seval, S.k] | skip))
  exact ⟨_, rfl, S.eff⟩
end Go.Proofs
