/-
A scheduler that has nothing: what package gen1 does with it.
-/
import Derived.Test.YtaldohdkfggkiaaGreatC13
set_option linter.unusedVariables false
set_option linter.unusedSimpArgs false
set_option linter.unusedSectionVars false
set_option linter.unnecessarySimpa false
namespace Go.Ig
/-- A slice that is nil. -/
abbrev nilS : Value := .slice none 0 0
/-- A state without machines, queues and jobs. -/
abbrev emS (clock next : Int) : Value := .agg #[.int .i64 clock, .int .i64 next, nilS, nilS, nilS]
theorem St.ro1 {w0 w : World} {b : Nat} {T : TypeId} {cs : List Value} {M : List (Nat × Obj)} (S : St (fun x => x ∈ [b]) w0 w M) (hk : KnC w0 [(b, Cl T cs)]) (hs : List.Sublist [(b, Cl T cs)] M) : Ext w0 w := by
  have S2 : St (fun x => x ∈ List.map (·.1) [(b, Cl T cs)]) w0 w [(b, Cl T cs)] := S.sublist hs
  exact S2.ro hk
end Go.Ig
namespace Go.Proofs
open Go.Ig
set_option linter.unusedSimpArgs false
set_option linter.unusedVariables false

theorem CloneNil_Job (w : World) : Fnc Tryz.prog 68 [nilS] w fun u w' => u = nilS ∧ Ext w w' := by
  refine Fnc.enterW Tryz.func68 (by kernel_rfl) rfl rfl (Nat.le_of_ble_eq_true rfl) Tryz.results68 ?_; have S := St.start (fun _ => False) w; simp -dsimp only [go_sem, seval]
  exact S.eff

theorem CloneNil_Queue (w : World) : Fnc Tryz.prog 81 [nilS] w fun u w' => u = nilS ∧ Ext w w' := by
  refine Fnc.enterW Tryz.func81 (by kernel_rfl) rfl rfl (Nat.le_of_ble_eq_true rfl) Tryz.results81 ?_; have S := St.start (fun _ => False) w; simp -dsimp only [go_sem, seval]
  exact S.eff

theorem CloneNil_Machine (w : World) : Fnc Tryz.prog 79 [nilS] w fun u w' => u = nilS ∧ Ext w w' := by
  refine Fnc.enterW Tryz.func79 (by kernel_rfl) rfl rfl (Nat.le_of_ble_eq_true rfl) Tryz.results79 ?_; have S := St.start (fun _ => False) w; simp -dsimp only [go_sem, seval]
  exact S.eff

theorem CloneNil_Label (w : World) : Fnc Tryz.prog 80 [nilS] w fun u w' => u = nilS ∧ Ext w w' := by
  refine Fnc.enterW Tryz.func80 (by kernel_rfl) rfl rfl (Nat.le_of_ble_eq_true rfl) Tryz.results80 ?_; have S := St.start (fun _ => False) w; simp -dsimp only [go_sem, seval]
  exact S.eff

theorem gen1_machines0 (c n : Int) (w : World) : Fnc Tryz.prog 59 [emS c n] w fun u w' => u = .bool true ∧ Ext w w' := by
  refine Fnc.enterW Tryz.func59 (by kernel_rfl) rfl rfl (Nat.le_of_ble_eq_true rfl) Tryz.results59 ?_; have S := St.start (fun _ => False) w; simp -dsimp only [go_sem, seval]
  (try simp -dsimp only [go_sem, seval, S.k]); repeat' ((first | refine AllocP.st S fun _ w1 S => ?_ | (refine StoreP.tc S fun w1 S => ?_; (try simp -dsimp only [go_sem, seval] at S)) | refine Both.mk ?_ ?_ | (first | refine GuardP.mk (fun hh => ?_) (fun hh => ?_) | refine CondP.mk (fun hh => ?_) (fun hh => ?_)) <;> (try simp only [Bool.not_true, Bool.not_false, Bool.not_eq_eq_eq_not] at hh)) <;> (first | simp -dsimp only [go_sem, seval, S.k, hh] | simp -dsimp only [go_sem, seval, S.k] | skip))
  refine Wp.unroll 1 (by decide) ?_
  rw [Rnd_succ]
  (try simp -dsimp only [go_sem, seval, S.k]); repeat' ((first | refine AllocP.st S fun _ w1 S => ?_ | (refine StoreP.tc S fun w1 S => ?_; (try simp -dsimp only [go_sem, seval] at S)) | refine Both.mk ?_ ?_ | (first | refine GuardP.mk (fun hh => ?_) (fun hh => ?_) | refine CondP.mk (fun hh => ?_) (fun hh => ?_)) <;> (try simp only [Bool.not_true, Bool.not_false, Bool.not_eq_eq_eq_not] at hh)) <;> (first | simp -dsimp only [go_sem, seval, S.k, hh] | simp -dsimp only [go_sem, seval, S.k] | skip))
  first | exact S.eff | exact ⟨rfl, S.eff⟩

theorem gen1_queues0 (c n : Int) (w : World) : Fnc Tryz.prog 60 [emS c n] w fun u w' => u = .bool true ∧ Ext w w' := by
  refine Fnc.enterW Tryz.func60 (by kernel_rfl) rfl rfl (Nat.le_of_ble_eq_true rfl) Tryz.results60 ?_; have S := St.start (fun _ => False) w; simp -dsimp only [go_sem, seval]
  (try simp -dsimp only [go_sem, seval, S.k]); repeat' ((first | refine AllocP.st S fun _ w1 S => ?_ | (refine StoreP.tc S fun w1 S => ?_; (try simp -dsimp only [go_sem, seval] at S)) | refine Both.mk ?_ ?_ | (first | refine GuardP.mk (fun hh => ?_) (fun hh => ?_) | refine CondP.mk (fun hh => ?_) (fun hh => ?_)) <;> (try simp only [Bool.not_true, Bool.not_false, Bool.not_eq_eq_eq_not] at hh)) <;> (first | simp -dsimp only [go_sem, seval, S.k, hh] | simp -dsimp only [go_sem, seval, S.k] | skip))
  refine Wp.unroll 1 (by decide) ?_
  rw [Rnd_succ]
  (try simp -dsimp only [go_sem, seval, S.k]); repeat' ((first | refine AllocP.st S fun _ w1 S => ?_ | (refine StoreP.tc S fun w1 S => ?_; (try simp -dsimp only [go_sem, seval] at S)) | refine Both.mk ?_ ?_ | (first | refine GuardP.mk (fun hh => ?_) (fun hh => ?_) | refine CondP.mk (fun hh => ?_) (fun hh => ?_)) <;> (try simp only [Bool.not_true, Bool.not_false, Bool.not_eq_eq_eq_not] at hh)) <;> (first | simp -dsimp only [go_sem, seval, S.k, hh] | simp -dsimp only [go_sem, seval, S.k] | skip))
  first | exact S.eff | exact ⟨rfl, S.eff⟩

theorem gen1_jobs0 (c n : Int) (w : World) : Fnc Tryz.prog 61 [emS c n] w fun u w' => u = .bool true ∧ Ext w w' := by
  refine Fnc.enterW Tryz.func61 (by kernel_rfl) rfl rfl (Nat.le_of_ble_eq_true rfl) Tryz.results61 ?_; have S := St.start (fun _ => False) w; simp -dsimp only [go_sem, seval]
  (try simp -dsimp only [go_sem, seval, S.k]); repeat' ((first | refine AllocP.st S fun _ w1 S => ?_ | (refine StoreP.tc S fun w1 S => ?_; (try simp -dsimp only [go_sem, seval] at S)) | refine Both.mk ?_ ?_ | (first | refine GuardP.mk (fun hh => ?_) (fun hh => ?_) | refine CondP.mk (fun hh => ?_) (fun hh => ?_)) <;> (try simp only [Bool.not_true, Bool.not_false, Bool.not_eq_eq_eq_not] at hh)) <;> (first | simp -dsimp only [go_sem, seval, S.k, hh] | simp -dsimp only [go_sem, seval, S.k] | skip))
  refine Wp.unroll 1 (by decide) ?_
  rw [Rnd_succ]
  (try simp -dsimp only [go_sem, seval, S.k]); repeat' ((first | refine AllocP.st S fun _ w1 S => ?_ | (refine StoreP.tc S fun w1 S => ?_; (try simp -dsimp only [go_sem, seval] at S)) | refine Both.mk ?_ ?_ | (first | refine GuardP.mk (fun hh => ?_) (fun hh => ?_) | refine CondP.mk (fun hh => ?_) (fun hh => ?_)) <;> (try simp only [Bool.not_true, Bool.not_false, Bool.not_eq_eq_eq_not] at hh)) <;> (first | simp -dsimp only [go_sem, seval, S.k, hh] | simp -dsimp only [go_sem, seval, S.k] | skip))
  first | exact S.eff | exact ⟨rfl, S.eff⟩

theorem gen1_Right0 (n : Int) (hn : 1 ≤ n ∧ n ≤ 1073741824) (w : World) : Fnc Tryz.prog 38 [emS 0 n] w fun u w' => u = .bool true ∧ Ext w w' := by
  refine Fnc.enterW Tryz.func38 (by kernel_rfl) rfl rfl (Nat.le_of_ble_eq_true rfl) Tryz.results38 ?_; have S := St.start (fun _ => False) w; simp -dsimp only [go_sem, seval]
  have e1 : decide (n < 1) = false := by simp; omega
  have e2 : decide (1073741824 < n) = false := by simp; omega
  (try simp -dsimp only [go_sem, seval, S.k, e1, e2]); repeat' ((first | refine AllocP.st S fun _ w1 S => ?_ | (refine StoreP.tc S fun w1 S => ?_; (try simp -dsimp only [go_sem, seval] at S)) | (refine CallP.fn (gen1_machines0 0 n _) ?_; rintro _ w1 ⟨rfl, x⟩; (try replace xr := xr.trans (Ext.eff x)); replace S := S.ext x) | (refine CallP.fn (gen1_queues0 0 n _) ?_; rintro _ w1 ⟨rfl, x⟩; (try replace xr := xr.trans (Ext.eff x)); replace S := S.ext x) | (refine CallP.fn (gen1_jobs0 0 n _) ?_; rintro _ w1 ⟨rfl, x⟩; (try replace xr := xr.trans (Ext.eff x)); replace S := S.ext x) | refine Both.mk ?_ ?_ | (first | refine GuardP.mk (fun hh => ?_) (fun hh => ?_) | refine CondP.mk (fun hh => ?_) (fun hh => ?_)) <;> (try simp only [Bool.not_true, Bool.not_false, Bool.not_eq_eq_eq_not] at hh)) <;> (first | simp -dsimp only [go_sem, seval, S.k, e1, e2, hh] | simp -dsimp only [go_sem, seval, S.k, e1, e2] | skip))
  first | exact S.eff | exact ⟨rfl, S.eff⟩

theorem gen1_Copy0 (c n : Int) (w : World) : Fnc Tryz.prog 51 [emS c n] w fun u w' => u = emS c n ∧ Ext w w' := by
  refine Fnc.enterW Tryz.func51 (by kernel_rfl) rfl rfl (Nat.le_of_ble_eq_true rfl) Tryz.results51 ?_; have S := St.start (fun _ => False) w; simp -dsimp only [go_sem, seval]
  (try simp -dsimp only [go_sem, seval, S.k]); repeat' ((first | refine ⟨xr, ?_⟩ | (refine AllocP.stx S fun _ w1 x hb S => ?_; replace hb := Nat.le_trans xr.size hb; replace xr := xr.trans (Ext.eff x)) | (refine StoreP.tcx S fun w1 x S => ?_; replace xr := xr.trans' x (fun y hy e => by omega); (try simp -dsimp only [go_sem, seval] at S)) | refine AllocP.st S fun _ w1 S => ?_ | (refine StoreP.tc S fun w1 S => ?_; (try simp -dsimp only [go_sem, seval] at S)) | (refine CallP.fn (CloneNil_Machine _) ?_; rintro _ w1 ⟨rfl, x⟩; (try replace xr := xr.trans (Ext.eff x)); replace S := S.ext x) | (refine CallP.fn (CloneNil_Queue _) ?_; rintro _ w1 ⟨rfl, x⟩; (try replace xr := xr.trans (Ext.eff x)); replace S := S.ext x) | (refine CallP.fn (CloneNil_Job _) ?_; rintro _ w1 ⟨rfl, x⟩; (try replace xr := xr.trans (Ext.eff x)); replace S := S.ext x) | (refine Wp.held (fun _ => False) [0, 1, 2, 3, 4, 5, 6, 7, 8, 9, 10] Tryz.mixed (by decide +kernel) (fun _ _ _ h => h) fun w1 xw xh => ?_; replace S := S.ext xw; have xr := Eff.refl (fun _ => False) w1) | (refine Wp.held (fun _ => False) [0, 1, 2, 3, 4, 5, 6, 7, 8, 9, 10] Tryz.mixed (by decide +kernel) (fun _ _ _ h => h) fun w1 xw xh => ?_; replace S := S.ext xw; have xr := Eff.refl (fun _ => False) w1) | refine Both.mk ?_ ?_ | (first | refine GuardP.mk (fun hh => ?_) (fun hh => ?_) | refine CondP.mk (fun hh => ?_) (fun hh => ?_)) <;> (try simp only [Bool.not_true, Bool.not_false, Bool.not_eq_eq_eq_not] at hh)) <;> (first | simp -dsimp only [go_sem, seval, S.k, hh] | simp -dsimp only [go_sem, seval, S.k] | skip))
  refine Wp.unroll 1 (by decide) ?_
  rw [Rnd_succ]
  (try simp -dsimp only [go_sem, seval, S.k]); repeat' ((first | refine ⟨xr, ?_⟩ | (refine AllocP.stx S fun _ w1 x hb S => ?_; replace hb := Nat.le_trans xr.size hb; replace xr := xr.trans (Ext.eff x)) | (refine StoreP.tcx S fun w1 x S => ?_; replace xr := xr.trans' x (fun y hy e => by omega); (try simp -dsimp only [go_sem, seval] at S)) | refine AllocP.st S fun _ w1 S => ?_ | (refine StoreP.tc S fun w1 S => ?_; (try simp -dsimp only [go_sem, seval] at S)) | (refine CallP.fn (CloneNil_Machine _) ?_; rintro _ w1 ⟨rfl, x⟩; (try replace xr := xr.trans (Ext.eff x)); replace S := S.ext x) | (refine CallP.fn (CloneNil_Queue _) ?_; rintro _ w1 ⟨rfl, x⟩; (try replace xr := xr.trans (Ext.eff x)); replace S := S.ext x) | (refine CallP.fn (CloneNil_Job _) ?_; rintro _ w1 ⟨rfl, x⟩; (try replace xr := xr.trans (Ext.eff x)); replace S := S.ext x) | (refine Wp.held (fun _ => False) [0, 1, 2, 3, 4, 5, 6, 7, 8, 9, 10] Tryz.mixed (by decide +kernel) (fun _ _ _ h => h) fun w1 xw xh => ?_; replace S := S.ext xw; have xr := Eff.refl (fun _ => False) w1) | (refine Wp.held (fun _ => False) [0, 1, 2, 3, 4, 5, 6, 7, 8, 9, 10] Tryz.mixed (by decide +kernel) (fun _ _ _ h => h) fun w1 xw xh => ?_; replace S := S.ext xw; have xr := Eff.refl (fun _ => False) w1) | refine Both.mk ?_ ?_ | (first | refine GuardP.mk (fun hh => ?_) (fun hh => ?_) | refine CondP.mk (fun hh => ?_) (fun hh => ?_)) <;> (try simp only [Bool.not_true, Bool.not_false, Bool.not_eq_eq_eq_not] at hh)) <;> (first | simp -dsimp only [go_sem, seval, S.k, hh] | simp -dsimp only [go_sem, seval, S.k] | skip))
  refine Wp.unroll 1 (by decide) ?_
  rw [Rnd_succ]
  (try simp -dsimp only [go_sem, seval, S.k]); repeat' ((first | refine ⟨xr, ?_⟩ | (refine AllocP.stx S fun _ w1 x hb S => ?_; replace hb := Nat.le_trans xr.size hb; replace xr := xr.trans (Ext.eff x)) | (refine StoreP.tcx S fun w1 x S => ?_; replace xr := xr.trans' x (fun y hy e => by omega); (try simp -dsimp only [go_sem, seval] at S)) | refine AllocP.st S fun _ w1 S => ?_ | (refine StoreP.tc S fun w1 S => ?_; (try simp -dsimp only [go_sem, seval] at S)) | (refine Wp.held (fun _ => False) [0, 1, 2, 3, 4, 5, 6, 7, 8, 9, 10] Tryz.mixed (by decide +kernel) (fun _ _ _ h => h) fun w1 xw xh => ?_; replace S := S.ext xw; have xr := Eff.refl (fun _ => False) w1) | (refine Wp.held (fun _ => False) [0, 1, 2, 3, 4, 5, 6, 7, 8, 9, 10] Tryz.mixed (by decide +kernel) (fun _ _ _ h => h) fun w1 xw xh => ?_; replace S := S.ext xw; have xr := Eff.refl (fun _ => False) w1) | refine Both.mk ?_ ?_ | (first | refine GuardP.mk (fun hh => ?_) (fun hh => ?_) | refine CondP.mk (fun hh => ?_) (fun hh => ?_)) <;> (try simp only [Bool.not_true, Bool.not_false, Bool.not_eq_eq_eq_not] at hh)) <;> (first | simp -dsimp only [go_sem, seval, S.k, hh] | simp -dsimp only [go_sem, seval, S.k] | skip))
  first | exact S.eff | exact ⟨rfl, S.eff⟩

/-- gen1.New -/
theorem gen1_New (w : World) : Fnc Tryz.prog 26 [] w fun u w' => ∃ b, u = .pointer (some ⟨b, 0, none⟩) ∧ St (fun _ => False) w w' [(b, Cl 92 [.int .i64 0, .int .i64 1, nilS, nilS, nilS])] := by
  refine Fnc.enterW Tryz.func26 (by kernel_rfl) rfl rfl (Nat.le_of_ble_eq_true rfl) Tryz.results26 ?_; have S := St.start (fun _ => False) w; simp -dsimp only [go_sem, seval]
  (try simp -dsimp only [go_sem, seval, S.k]); repeat' ((first | refine AllocP.st S fun _ w1 S => ?_ | (refine StoreP.tc S fun w1 S => ?_; (try simp -dsimp only [go_sem, seval] at S)) | refine Both.mk ?_ ?_ | (first | refine GuardP.mk (fun hh => ?_) (fun hh => ?_) | refine CondP.mk (fun hh => ?_) (fun hh => ?_)) <;> (try simp only [Bool.not_true, Bool.not_false, Bool.not_eq_eq_eq_not] at hh)) <;> (first | simp -dsimp only [go_sem, seval, S.k, hh] | simp -dsimp only [go_sem, seval, S.k] | skip))
  exact ⟨_, rfl, S⟩

theorem gen1_State0 (b : Nat) (c n : Int) (hn : n ≠ 0) (w : World) (hk : KnC w [(b, Cl 92 [.int .i64 c, .int .i64 n, nilS, nilS, nilS])]) : Fnc Tryz.prog 184 [.pointer (some ⟨b, 0, none⟩)] w fun u w' => u = emS c n ∧ Ext w w' := by
  have e1 : (n == 0) = false := by simpa using hn
  refine Fnc.enterW Tryz.func184 (by kernel_rfl) rfl rfl (Nat.le_of_ble_eq_true rfl) Tryz.results184 ?_; have S := St.ownB hk (by simp); simp -dsimp only [go_sem, seval, S.k]
  (try simp -dsimp only [go_sem, seval, S.k, e1]); repeat' ((first | refine AllocP.st S fun _ w1 S => ?_ | (refine StoreP.tc S fun w1 S => ?_; (try simp -dsimp only [go_sem, seval] at S)) | (refine CallP.fn (gen1_Copy0 c n _) ?_; rintro _ w1 ⟨rfl, x⟩; (try replace xr := xr.trans (Ext.eff x)); replace S := S.ext x) | refine Both.mk ?_ ?_ | (first | refine GuardP.mk (fun hh => ?_) (fun hh => ?_) | refine CondP.mk (fun hh => ?_) (fun hh => ?_)) <;> (try simp only [Bool.not_true, Bool.not_false, Bool.not_eq_eq_eq_not] at hh)) <;> (first | simp -dsimp only [go_sem, seval, S.k, e1, hh] | simp -dsimp only [go_sem, seval, S.k, e1] | skip))
  exact St.ro1 S hk (by repeat (first | exact List.Sublist.refl _ | exact List.nil_sublist _ | apply List.Sublist.cons_cons | apply List.Sublist.append_left | exact List.sublist_append_left _ _ | apply List.Sublist.cons | apply List.sublist_append_of_sublist_right))
end Go.Proofs
