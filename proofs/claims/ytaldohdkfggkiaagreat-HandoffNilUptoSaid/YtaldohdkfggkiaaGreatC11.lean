/-
The contracts of package model: nodes, queues, tasks put behind bytes.
-/
import Derived.Test.YtaldohdkfggkiaaGreatC10
set_option linter.unusedVariables false
set_option linter.unusedSimpArgs false
set_option linter.unusedSectionVars false
set_option linter.unnecessarySimpa false
namespace Go.Ig
theorem nodeB_facts {n : Nd} (h : nodeB n = true) : nameB n.name = true ∧ n.cap.ok = true ∧ labelsB n.labels = true := by
  simpa [nodeB, and_assoc] using h
theorem queueB_facts {q : Qu} (h : queueB q = true) : nameB q.name = true ∧ q.quota.ok = true := by simpa [queueB] using h
theorem taskB_facts {t : Tk} (h : taskB t = true) : nameB t.name = true ∧ nameB t.queue = true ∧ (0 ≤ t.prio ∧ t.prio ≤ 9) ∧ t.need.ok = true ∧ labelsB t.wants = true ∧ maybeB t.apart = true ∧ maybeB t.gang = true ∧ (0 ≤ t.size ∧ t.size ≤ 4) := by
  simp only [taskB, Bool.and_eq_true, decide_eq_true_eq] at h
  obtain ⟨⟨⟨⟨⟨⟨⟨⟨h1, h2⟩, h3⟩, h4⟩, h5⟩, h6⟩, h7⟩, h8⟩, h9⟩ := h
  refine ⟨h1, h2, ⟨h3, h4⟩, h5, h6, h7, h8, ?_⟩
  split at h9
  · simp at h9; omega
  · simp at h9; omega
theorem putR_len {r : R3} (h : r.ok = true) : (putR r).length ≤ 27 := by
  obtain ⟨ha, hb, hc⟩ := R3.ok_iff.1 h
  have l1 := putI_len r.a (by omega)
  have l2 := putI_len r.b (by omega)
  have l3 := putI_len r.c (by omega)
  simp only [putR, List.length_append]; omega
theorem putL_len {l : List Lbl} (h : labelsB l = true) : (putL l).length ≤ 209 := by
  obtain ⟨h4, hn⟩ := labelsB_facts h
  have l1 := putN_len l.length (by omega)
  have := putLs_len l hn
  simp only [putL, List.length_append]; omega
theorem putNd_len {n : Nd} (h : nodeB n = true) : (putNd n).length ≤ 300 := by
  obtain ⟨h1, h2, h3⟩ := nodeB_facts h
  have := nameB_size h1
  have := putT_len n.name (by omega)
  have := putR_len h2
  have := putL_len h3
  simp only [putNd, List.length_append]; omega
theorem putQu_len {q : Qu} (h : queueB q = true) : (putQu q).length ≤ 300 := by
  obtain ⟨h1, h2⟩ := queueB_facts h
  have := nameB_size h1
  have := putT_len q.name (by omega)
  have := putR_len h2
  simp only [putQu, List.length_append]; omega
theorem putTk_len {t : Tk} (h : taskB t = true) : (putTk t).length ≤ 400 := by
  obtain ⟨h1, h2, h3, h4, h5, h6, h7, h8⟩ := taskB_facts h
  have := nameB_size h1
  have := nameB_size h2
  have := maybeB_size h6
  have := maybeB_size h7
  have := putT_len t.name (by omega)
  have := putT_len t.queue (by omega)
  have := putT_len t.apart (by omega)
  have := putT_len t.gang (by omega)
  have := putI_len t.prio (by omega)
  have := putI_len t.size (by omega)
  have := putR_len h4
  have := putL_len h5
  simp only [putTk, List.length_append]; omega
end Go.Ig
namespace Go.Proofs
open Go.Ig
set_option linter.unusedSimpArgs false
set_option linter.unusedVariables false
attribute [local go_sem] Nd.cs Tk.cs Qu.cs Lbl.cs R3.cs

theorem model_PutNode (v : Value) (l : List UInt8) (n : Nd) (hn : nodeB n = true) (w : World) (h : SlB w v l) (hu : NdOk w n) (hl : l.length ≤ 1099511610000) : Fnc Tryz.prog 62 [v, n.v] w fun u w' => NwB w w' u (l ++ putNd n) := by
  obtain ⟨h1, h2, h3⟩ := nodeB_facts hn
  have z1 := nameB_size h1
  have z2 := putT_len n.name (by omega)
  have z3 := putR_len h2
  refine Fnc.enterW Tryz.func62 (by kernel_rfl) rfl rfl (Nat.le_of_ble_eq_true rfl) Tryz.results62 ?_; have S := St.start (fun _ => False) w; simp -dsimp only [go_sem, seval]
  (try simp -dsimp only [go_sem, seval, S.k, hn]); repeat' ((first | refine ⟨xr, ?_⟩ | (refine AllocP.stx S fun _ w1 x hb S => ?_; replace hb := Nat.le_trans xr.size hb; replace xr := xr.trans (Ext.eff x)) | (refine StoreP.tcx S fun w1 x S => ?_; replace xr := xr.trans' x (fun y hy e => by omega); (try simp -dsimp only [go_sem, seval] at S)) | refine AllocP.st S fun _ w1 S => ?_ | (refine StoreP.tc S fun w1 S => ?_; (try simp -dsimp only [go_sem, seval] at S)) | (refine CallP.fn (model_Node n _ (hu.ext S.eff)) ?_; rintro _ w1 ⟨rfl, x⟩; (try replace xr := xr.trans (Ext.eff x)); replace S := S.ext x) | (refine CallP.fn (pack_PutText v l _ _ (h.ext S.eff) (by omega) (by omega)) ?_; rintro v1 w1 ⟨B1, hb1, x⟩; obtain ⟨a1, n1, c1, rfl, hn1⟩ := hb1.form; (try rw [List.length_map] at hn1); subst hn1; (try replace xr := xr.trans (Ext.eff x.eff)); replace S := S.join x; (try simp only [List.cons_append, List.nil_append, List.append_nil, List.append_assoc] at S)) | (refine CallP.fn (model_putAmount _ _ n.cap h2 _ (hb1.at S) (by simp only [List.length_append]; omega)) ?_; rintro v1 w1 ⟨B1, hb1, x⟩; obtain ⟨a1, n1, c1, rfl, hn1⟩ := hb1.form; (try rw [List.length_map] at hn1); subst hn1; (try replace xr := xr.trans (Ext.eff x.eff)); replace S := S.join x; (try simp only [List.cons_append, List.nil_append, List.append_nil, List.append_assoc] at S)) | (refine CallP.fn (model_putLabels _ _ _ n.labels h3 _ (hb1.at S) (hu.ext S.eff) (by simp only [List.length_append]; omega)) ?_; rintro v1 w1 ⟨B1, hb1, x⟩; obtain ⟨a1, n1, c1, rfl, hn1⟩ := hb1.form; (try rw [List.length_map] at hn1); subst hn1; (try replace xr := xr.trans (Ext.eff x.eff)); replace S := S.join x; (try simp only [List.cons_append, List.nil_append, List.append_nil, List.append_assoc] at S)) | (refine Wp.held (fun _ => False) [0, 1, 2, 4, 5, 7, 8, 3, 6, 9, 10] Tryz.mixed (by decide +kernel) (fun _ _ _ h => h) fun w1 xw xh => ?_; replace S := S.ext xw; have xr := Eff.refl (fun _ => False) w1) | refine Both.mk ?_ ?_ | (first | refine GuardP.mk (fun hh => ?_) (fun hh => ?_) | refine CondP.mk (fun hh => ?_) (fun hh => ?_)) <;> (try simp only [Bool.not_true, Bool.not_false, Bool.not_eq_eq_eq_not] at hh)) <;> (first | simp -dsimp only [go_sem, seval, S.k, hn, hh] | simp -dsimp only [go_sem, seval, S.k, hn] | skip))
  exact ⟨B1, by simpa [putNd] using hb1, S.sublist (by repeat (first | exact List.Sublist.refl _ | exact List.nil_sublist _ | apply List.Sublist.cons_cons | apply List.Sublist.append_left | exact List.sublist_append_left _ _ | apply List.Sublist.cons | apply List.sublist_append_of_sublist_right))⟩

theorem model_PutQueue (v : Value) (l : List UInt8) (q : Qu) (hn : queueB q = true) (w : World) (h : SlB w v l) (hl : l.length ≤ 1099511610000) : Fnc Tryz.prog 42 [v, q.v] w fun u w' => NwB w w' u (l ++ putQu q) := by
  obtain ⟨h1, h2⟩ := queueB_facts hn
  have z1 := nameB_size h1
  have z2 := putT_len q.name (by omega)
  refine Fnc.enterW Tryz.func42 (by kernel_rfl) rfl rfl (Nat.le_of_ble_eq_true rfl) Tryz.results42 ?_; have S := St.start (fun _ => False) w; simp -dsimp only [go_sem, seval]
  (try simp -dsimp only [go_sem, seval, S.k, hn]); repeat' ((first | refine ⟨xr, ?_⟩ | (refine AllocP.stx S fun _ w1 x hb S => ?_; replace hb := Nat.le_trans xr.size hb; replace xr := xr.trans (Ext.eff x)) | (refine StoreP.tcx S fun w1 x S => ?_; replace xr := xr.trans' x (fun y hy e => by omega); (try simp -dsimp only [go_sem, seval] at S)) | refine AllocP.st S fun _ w1 S => ?_ | (refine StoreP.tc S fun w1 S => ?_; (try simp -dsimp only [go_sem, seval] at S)) | (refine CallP.fn (model_Queue q _) ?_; rintro _ w1 ⟨rfl, x⟩; (try replace xr := xr.trans (Ext.eff x)); replace S := S.ext x) | (refine CallP.fn (pack_PutText v l _ _ (h.ext S.eff) (by omega) (by omega)) ?_; rintro v1 w1 ⟨B1, hb1, x⟩; obtain ⟨a1, n1, c1, rfl, hn1⟩ := hb1.form; (try rw [List.length_map] at hn1); subst hn1; (try replace xr := xr.trans (Ext.eff x.eff)); replace S := S.join x; (try simp only [List.cons_append, List.nil_append, List.append_nil, List.append_assoc] at S)) | (refine CallP.fn (model_putAmount _ _ q.quota h2 _ (hb1.at S) (by simp only [List.length_append]; omega)) ?_; rintro v1 w1 ⟨B1, hb1, x⟩; obtain ⟨a1, n1, c1, rfl, hn1⟩ := hb1.form; (try rw [List.length_map] at hn1); subst hn1; (try replace xr := xr.trans (Ext.eff x.eff)); replace S := S.join x; (try simp only [List.cons_append, List.nil_append, List.append_nil, List.append_assoc] at S)) | (refine Wp.held (fun _ => False) [0, 1, 2, 4, 5, 3, 6, 7] Tryz.mixed (by decide +kernel) (fun _ _ _ h => h) fun w1 xw xh => ?_; replace S := S.ext xw; have xr := Eff.refl (fun _ => False) w1) | refine Both.mk ?_ ?_ | (first | refine GuardP.mk (fun hh => ?_) (fun hh => ?_) | refine CondP.mk (fun hh => ?_) (fun hh => ?_)) <;> (try simp only [Bool.not_true, Bool.not_false, Bool.not_eq_eq_eq_not] at hh)) <;> (first | simp -dsimp only [go_sem, seval, S.k, hn, hh] | simp -dsimp only [go_sem, seval, S.k, hn] | skip))
  exact ⟨B1, by simpa [putQu] using hb1, S.sublist (by repeat (first | exact List.Sublist.refl _ | exact List.nil_sublist _ | apply List.Sublist.cons_cons | apply List.Sublist.append_left | exact List.sublist_append_left _ _ | apply List.Sublist.cons | apply List.sublist_append_of_sublist_right))⟩

set_option maxHeartbeats 1000000 in
theorem model_PutTask (v : Value) (l : List UInt8) (t : Tk) (hn : taskB t = true) (w : World) (h : SlB w v l) (hu : TkOk w t) (hl : l.length ≤ 1099511610000) : Fnc Tryz.prog 66 [v, t.v] w fun u w' => NwB w w' u (l ++ putTk t) := by
  obtain ⟨h1, h2, h3, h4, h5, h6, h7, h8⟩ := taskB_facts hn
  have z1 := nameB_size h1
  have z2 := nameB_size h2
  have z3 := maybeB_size h6
  have z4 := maybeB_size h7
  have y1 := putT_len t.name (by omega)
  have y2 := putT_len t.queue (by omega)
  have y3 := putT_len t.apart (by omega)
  have y4 := putT_len t.gang (by omega)
  have y5 := putI_len t.prio (by omega)
  have y6 := putR_len h4
  have y7 := putL_len h5
  have e1 := u64w (n := t.prio) (by omega)
  have e2 := u64w (n := t.size) (by omega)
  refine Fnc.enterW Tryz.func66 (by kernel_rfl) rfl rfl (Nat.le_of_ble_eq_true rfl) Tryz.results66 ?_; have S := St.start (fun _ => False) w; simp -dsimp only [go_sem, seval]
  (try simp -dsimp only [go_sem, seval, S.k, hn, e1, e2]); repeat' ((first | refine ⟨xr, ?_⟩ | (refine AllocP.stx S fun _ w1 x hb S => ?_; replace hb := Nat.le_trans xr.size hb; replace xr := xr.trans (Ext.eff x)) | (refine StoreP.tcx S fun w1 x S => ?_; replace xr := xr.trans' x (fun y hy e => by omega); (try simp -dsimp only [go_sem, seval] at S)) | refine AllocP.st S fun _ w1 S => ?_ | (refine StoreP.tc S fun w1 S => ?_; (try simp -dsimp only [go_sem, seval] at S)) | (refine CallP.fn (model_Task t _ (hu.ext S.eff)) ?_; rintro _ w1 ⟨rfl, x⟩; (try replace xr := xr.trans (Ext.eff x)); replace S := S.ext x) | (refine CallP.fn (pack_PutText v l _ _ (h.ext S.eff) (by omega) (by omega)) ?_; rintro v1 w1 ⟨B1, hb1, x⟩; obtain ⟨a1, n1, c1, rfl, hn1⟩ := hb1.form; (try rw [List.length_map] at hn1); subst hn1; (try replace xr := xr.trans (Ext.eff x.eff)); replace S := S.join x; (try simp only [List.cons_append, List.nil_append, List.append_nil, List.append_assoc] at S)) | (refine CallP.fn (pack_PutText _ _ _ _ (hb1.at S) (by simp only [List.length_append]; omega) (by omega)) ?_; rintro v1 w1 ⟨B1, hb1, x⟩; obtain ⟨a1, n1, c1, rfl, hn1⟩ := hb1.form; (try rw [List.length_map] at hn1); subst hn1; (try replace xr := xr.trans (Ext.eff x.eff)); replace S := S.join x; (try simp only [List.cons_append, List.nil_append, List.append_nil, List.append_assoc] at S)) | (refine CallP.fn (pack_PutI _ _ _ (by omega) _ (hb1.at S) (by simp only [List.length_append]; omega)) ?_; rintro v1 w1 ⟨B1, hb1, x⟩; obtain ⟨a1, n1, c1, rfl, hn1⟩ := hb1.form; (try rw [List.length_map] at hn1); subst hn1; (try replace xr := xr.trans (Ext.eff x.eff)); replace S := S.join x; (try simp only [List.cons_append, List.nil_append, List.append_nil, List.append_assoc] at S)) | (refine CallP.fn (model_putAmount _ _ t.need h4 _ (hb1.at S) (by simp only [List.length_append]; omega)) ?_; rintro v1 w1 ⟨B1, hb1, x⟩; obtain ⟨a1, n1, c1, rfl, hn1⟩ := hb1.form; (try rw [List.length_map] at hn1); subst hn1; (try replace xr := xr.trans (Ext.eff x.eff)); replace S := S.join x; (try simp only [List.cons_append, List.nil_append, List.append_nil, List.append_assoc] at S)) | (refine CallP.fn (model_putLabels _ _ _ t.wants h5 _ (hb1.at S) (hu.ext S.eff) (by simp only [List.length_append]; omega)) ?_; rintro v1 w1 ⟨B1, hb1, x⟩; obtain ⟨a1, n1, c1, rfl, hn1⟩ := hb1.form; (try rw [List.length_map] at hn1); subst hn1; (try replace xr := xr.trans (Ext.eff x.eff)); replace S := S.join x; (try simp only [List.cons_append, List.nil_append, List.append_nil, List.append_assoc] at S)) | (refine Wp.held (fun _ => False) [0, 1, 2, 4, 5, 3, 6, 7] Tryz.mixed (by decide +kernel) (fun _ _ _ h => h) fun w1 xw xh => ?_; replace S := S.ext xw; have xr := Eff.refl (fun _ => False) w1) | (refine Wp.held (fun _ => False) [0, 1, 2, 3, 5, 6, 4, 7, 8] Tryz.mixed (by decide +kernel) (fun _ _ _ h => h) fun w1 xw xh => ?_; replace S := S.ext xw; have xr := Eff.refl (fun _ => False) w1) | (refine Wp.held (fun _ => False) [0, 1, 2, 4, 5, 7, 8, 3, 6, 9, 10] Tryz.mixed (by decide +kernel) (fun _ _ _ h => h) fun w1 xw xh => ?_; replace S := S.ext xw; have xr := Eff.refl (fun _ => False) w1) | refine Both.mk ?_ ?_ | (first | refine GuardP.mk (fun hh => ?_) (fun hh => ?_) | refine CondP.mk (fun hh => ?_) (fun hh => ?_)) <;> (try simp only [Bool.not_true, Bool.not_false, Bool.not_eq_eq_eq_not] at hh)) <;> (first | simp -dsimp only [go_sem, seval, S.k, hn, e1, e2, hh] | simp -dsimp only [go_sem, seval, S.k, hn, e1, e2] | skip))
  exact ⟨B1, by simpa [putTk] using hb1, S.sublist (by repeat (first | exact List.Sublist.refl _ | exact List.nil_sublist _ | apply List.Sublist.cons_cons | apply List.Sublist.append_left | exact List.sublist_append_left _ _ | apply List.Sublist.cons | apply List.sublist_append_of_sublist_right))⟩
end Go.Proofs
