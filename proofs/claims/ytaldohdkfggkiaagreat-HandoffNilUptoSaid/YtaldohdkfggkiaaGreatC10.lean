/-
The contracts of package model: what is put behind bytes.
-/
import Derived.Test.YtaldohdkfggkiaaGreatC09
set_option linter.unusedVariables false
set_option linter.unusedSimpArgs false
set_option linter.unusedSectionVars false
set_option linter.unnecessarySimpa false
namespace Go.Ig
theorem putN_len (n : Nat) (h : n < 2 ^ 64) : (putN n).length ≤ 9 := by
  have := nby_le h
  simp [putN, be_length]; omega
theorem putI_len (n : Int) (h : n < 2 ^ 64) : (putI n).length ≤ 9 := putN_len _ (by omega)
theorem putT_len (s : Str) (h : s.size < 2 ^ 64) : (putT s).length ≤ s.size + 9 := by
  have := putN_len s.size h
  simp only [putT, List.length_append]; simp; omega
theorem nameB_size {s : Str} (h : nameB s = true) : s.size ≤ 16 := by simp [nameB] at h; omega
theorem maybeB_size {s : Str} (h : maybeB s = true) : s.size ≤ 16 := by
  simp only [maybeB, noneB, Bool.or_eq_true, decide_eq_true_eq] at h
  rcases h with rfl | h
  · decide
  · exact nameB_size h
theorem labelsB_facts {l : List Lbl} (h : labelsB l = true) : l.length ≤ 4 ∧ ∀ x ∈ l, nameB x.key = true ∧ nameB x.val = true := by
  simp only [labelsB, Bool.and_eq_true, decide_eq_true_eq] at h
  refine ⟨h.1, ?_⟩
  have key : ∀ (l : List Lbl) (last : Str) (b : Bool), lblFrom last b l = true → ∀ x ∈ l, nameB x.key = true ∧ nameB x.val = true := by
    intro l
    induction l with
    | nil => intro _ _ _ x hx; simp at hx
    | cons y l ih =>
      intro last b h x hx
      simp only [lblFrom, Bool.and_eq_true] at h
      rcases List.mem_cons.1 hx with rfl | hx
      · exact h.1.1
      · exact ih _ _ h.2 x hx
  exact key l _ _ h.2
theorem u64w {n : Int} (h : 0 ≤ n ∧ n ≤ 1152921504606846976) : IntKind.u64.wrap n = n := wr_u64 (by omega) (by omega)
theorem putLs_app (a b : List Lbl) : putLs (a ++ b) = putLs a ++ putLs b := by
  induction a with
  | nil => rfl
  | cons x a ih => simp [putLs, ih]
theorem putLs_len : ∀ (l : List Lbl), (∀ x ∈ l, nameB x.key = true ∧ nameB x.val = true) → (putLs l).length ≤ 50 * l.length
  | [], _ => by simp [putLs]
  | x :: l, h => by
    have ih := putLs_len l fun y hy => h y (by simp [hy])
    have hx := h x (by simp)
    have h1 := putT_len x.key (by have := nameB_size hx.1; omega)
    have h2 := putT_len x.val (by have := nameB_size hx.2; omega)
    have := nameB_size hx.1
    have := nameB_size hx.2
    simp only [putLs, List.length_append, List.length_cons]; omega
end Go.Ig
namespace Go.Proofs
open Go.Ig
set_option linter.unusedSimpArgs false
set_option linter.unusedVariables false
attribute [local go_sem] Nd.cs Tk.cs Qu.cs Lbl.cs R3.cs

theorem pack_PutI (v : Value) (l : List UInt8) (n : Int) (hn : 0 ≤ n ∧ n ≤ 1152921504606846976) (w : World) (h : SlB w v l) (hl : l.length ≤ 1099511627776) : Fnc Tryz.prog 21 [v, .int .u64 n] w fun u w' => NwB w w' u (l ++ putI n) := by
  obtain ⟨k, rfl⟩ : ∃ k : Nat, n = k := ⟨n.toNat, by omega⟩
  exact pack_Put v l k (by omega) w h hl

theorem model_putAmount (v : Value) (l : List UInt8) (r : R3) (hr : r.ok = true) (w : World) (h : SlB w v l) (hl : l.length ≤ 1099511620000) : Fnc Tryz.prog 65 [v, r.v] w fun u w' => NwB w w' u (l ++ putR r) := by
  obtain ⟨ha, hb, hc⟩ := R3.ok_iff.1 hr
  have e1 := u64w (n := r.a) (by omega)
  have e2 := u64w (n := r.b) (by omega)
  have e3 := u64w (n := r.c) (by omega)
  have l1 := putI_len r.a (by omega)
  have l2 := putI_len r.b (by omega)
  have l3 := putI_len r.c (by omega)
  refine Fnc.enterW Tryz.func65 (by kernel_rfl) rfl rfl (Nat.le_of_ble_eq_true rfl) Tryz.results65 ?_; have S := St.start (fun _ => False) w; simp -dsimp only [go_sem, seval]
  (try simp -dsimp only [go_sem, seval, S.k]); repeat' ((first | refine AllocP.st S fun _ w1 S => ?_ | (refine StoreP.tc S fun w1 S => ?_; (try simp -dsimp only [go_sem, seval] at S)) | refine Both.mk ?_ ?_ | (first | refine GuardP.mk (fun hh => ?_) (fun hh => ?_) | refine CondP.mk (fun hh => ?_) (fun hh => ?_)) <;> (try simp only [Bool.not_true, Bool.not_false, Bool.not_eq_eq_eq_not] at hh)) <;> (first | simp -dsimp only [go_sem, seval, S.k, hh] | simp -dsimp only [go_sem, seval, S.k] | skip))
  refine Wp.unroll 4 (by decide) ?_
  simp -dsimp only [go_sem, seval, S.k, Rnd_succ, e1]
  (try simp -dsimp only [go_sem, seval, S.k, Rnd_succ, e2, e3]); repeat' ((first | refine AllocP.st S fun _ w1 S => ?_ | (refine StoreP.tc S fun w1 S => ?_; (try simp -dsimp only [go_sem, seval] at S)) | (refine CallP.fn (pack_PutI v l _ (by omega) _ (h.ext S.eff) (by omega)) ?_; rintro v1 w1 ⟨B1, hb1, x⟩; obtain ⟨a1, n1, c1, rfl, hn1⟩ := hb1.form; (try rw [List.length_map] at hn1); subst hn1; (try replace xr := xr.trans (Ext.eff x.eff)); replace S := S.join x; (try simp only [List.cons_append, List.nil_append, List.append_nil, List.append_assoc] at S)) | (refine CallP.fn (pack_PutI _ _ _ (by omega) _ (hb1.at S) (by simp only [List.length_append]; omega)) ?_; rintro v1 w1 ⟨B1, hb1, x⟩; obtain ⟨a1, n1, c1, rfl, hn1⟩ := hb1.form; (try rw [List.length_map] at hn1); subst hn1; (try replace xr := xr.trans (Ext.eff x.eff)); replace S := S.join x; (try simp only [List.cons_append, List.nil_append, List.append_nil, List.append_assoc] at S)) | refine Both.mk ?_ ?_ | (first | refine GuardP.mk (fun hh => ?_) (fun hh => ?_) | refine CondP.mk (fun hh => ?_) (fun hh => ?_)) <;> (try simp only [Bool.not_true, Bool.not_false, Bool.not_eq_eq_eq_not] at hh)) <;> (first | simp -dsimp only [go_sem, seval, S.k, Rnd_succ, e2, e3, hh] | simp -dsimp only [go_sem, seval, S.k, Rnd_succ, e2, e3] | skip))
  exact ⟨B1, by simpa [putR] using hb1, S.sublist (by repeat (first | exact List.Sublist.refl _ | exact List.nil_sublist _ | apply List.Sublist.cons_cons | apply List.Sublist.append_left | exact List.sublist_append_left _ _ | apply List.Sublist.cons | apply List.sublist_append_of_sublist_right))⟩

set_option maxHeartbeats 1000000 in
theorem model_putLabels (v u : Value) (l : List UInt8) (ls : List Lbl) (hs : labelsB ls = true) (w : World) (h : SlB w v l) (hu : SlLbl w u ls) (hl : l.length ≤ 1099511620000) : Fnc Tryz.prog 101 [v, u] w fun u w' => NwB w w' u (l ++ putL ls) := by
  obtain ⟨a, c, rfl, hc, hsm⟩ := hu.formM
  obtain ⟨h4, hn⟩ := labelsB_facts hs
  have l1 := putN_len ls.length (by omega)
  have e1 := u64w (n := (ls.length : Int)) (by omega)
  refine Fnc.enterW Tryz.func101 (by kernel_rfl) rfl rfl (Nat.le_of_ble_eq_true rfl) Tryz.results101 ?_; have S := St.start (fun _ => False) w; simp -dsimp only [go_sem, seval]
  simp -dsimp only [go_sem, seval, S.k, e1]
  (try simp -dsimp only [go_sem, seval, S.k]); repeat' ((first | refine ⟨xr, ?_⟩ | (refine AllocP.stx S fun _ w1 x hb S => ?_; replace hb := Nat.le_trans xr.size hb; replace xr := xr.trans (Ext.eff x)) | (refine StoreP.tcx S fun w1 x S => ?_; replace xr := xr.trans' x (fun y hy e => by omega); (try simp -dsimp only [go_sem, seval] at S)) | refine AllocP.st S fun _ w1 S => ?_ | (refine StoreP.tc S fun w1 S => ?_; (try simp -dsimp only [go_sem, seval] at S)) | (refine CallP.fn (pack_Put v l _ (by omega) _ (h.ext S.eff) (by omega)) ?_; rintro v1 w1 ⟨B1, hb1, x⟩; obtain ⟨a1, n1, c1, rfl, hn1⟩ := hb1.form; (try rw [List.length_map] at hn1); subst hn1; (try replace xr := xr.trans (Ext.eff x.eff)); replace S := S.join x; (try simp only [List.cons_append, List.nil_append, List.append_nil, List.append_assoc] at S)) | (refine Wp.held (fun _ => False) [0, 1, 2, 4, 5, 3, 6, 7] Tryz.mixed (by decide +kernel) (fun _ _ _ h => h) fun w1 xw xh => ?_; replace S := S.ext xw; have xr := Eff.refl (fun _ => False) w1) | refine Both.mk ?_ ?_ | (first | refine GuardP.mk (fun hh => ?_) (fun hh => ?_) | refine CondP.mk (fun hh => ?_) (fun hh => ?_)) <;> (try simp only [Bool.not_true, Bool.not_false, Bool.not_eq_eq_eq_not] at hh)) <;> (first | simp -dsimp only [go_sem, seval, S.k, hh] | simp -dsimp only [go_sem, seval, S.k] | skip))
  refine Wp.loopG [12, 13]  (fun s : Nat × Value × List (Nat × Obj) => [(0, s.2.1), (14, .int .i64 s.1)]) (fun s w1 => s.1 ≤ ls.length ∧ Bf 5 1 s.2.1 (bR (l ++ putN ls.length ++ putLs (ls.take s.1))) s.2.2 ∧ St (fun _ => False) w w1 s.2.2) (fun s => ls.length - s.1) (0, .slice a1 _ c1, B1) (by simp -dsimp only [go_sem, seval]; exact rfl) (by decide) (by repeat (first | exact Sub.nil _ | refine Sub.cons rfl ?_)) ⟨by simp, by simpa [putLs] using hb1, S.sublist (by repeat (first | exact List.Sublist.refl _ | exact List.nil_sublist _ | apply List.Sublist.cons_cons | apply List.Sublist.append_left | exact List.sublist_append_left _ _ | apply List.Sublist.cons | apply List.sublist_append_of_sublist_right))⟩ ?_
  rintro ⟨k, v0, B0⟩ w1 ⟨hk, hb1, S⟩
  dsimp only at hk hb1 S
  by_cases hlt : k < ls.length
  · have hln := putLs_len (ls.take k) fun x hx => hn x (List.mem_of_mem_take hx)
    rw [List.length_take] at hln
    obtain ⟨p, hp, hl0⟩ := hu.at Tryz.elL24 (i := k) (r := ls[k].cs) (by simp [hlt])
    have hl1 := S.eff.ld hl0 id
    have hd : decide ((k : Int) < (ls.length : Int)) = true := by simp; omega
    have ht : ls.take (k + 1) = ls.take k ++ [ls[k]] := by rw [List.take_succ_eq_append_getElem hlt]
    have hm := hn ls[k] (by simp)
    generalize ls[k] = lb at *
    have n1 := nameB_size hm.1
    have n2 := nameB_size hm.2
    have n3 := putT_len lb.key (by omega)
    simp -dsimp only [go_sem, seval, S.k, hd, hp, hl1]
    (try simp -dsimp only [go_sem, seval, S.k, wr_succ (show k < 140737488355328 by omega)]); repeat' ((first | refine ⟨xr, ?_⟩ | (refine AllocP.stx S fun _ w1 x hb S => ?_; replace hb := Nat.le_trans xr.size hb; replace xr := xr.trans (Ext.eff x)) | (refine StoreP.tcx S fun w1 x S => ?_; replace xr := xr.trans' x (fun y hy e => by omega); (try simp -dsimp only [go_sem, seval] at S)) | refine AllocP.st S fun _ w1 S => ?_ | (refine StoreP.tc S fun w1 S => ?_; (try simp -dsimp only [go_sem, seval] at S)) | (refine CallP.fn (pack_PutText v0 _ lb.key _ (hb1.at S) (by simp only [List.length_append]; omega) (by omega)) ?_; rintro v1 w1 ⟨B1, hb1, x⟩; obtain ⟨a1, n1, c1, rfl, hn1⟩ := hb1.form; (try rw [List.length_map] at hn1); subst hn1; (try replace xr := xr.trans (Ext.eff x.eff)); replace S := S.join x; (try simp only [List.cons_append, List.nil_append, List.append_nil, List.append_assoc] at S)) | (refine CallP.fn (pack_PutText _ _ lb.val _ (hb1.at S) (by simp only [List.length_append]; omega) (by omega)) ?_; rintro v1 w1 ⟨B1, hb1, x⟩; obtain ⟨a1, n1, c1, rfl, hn1⟩ := hb1.form; (try rw [List.length_map] at hn1); subst hn1; (try replace xr := xr.trans (Ext.eff x.eff)); replace S := S.join x; (try simp only [List.cons_append, List.nil_append, List.append_nil, List.append_assoc] at S)) | (refine Wp.held (fun _ => False) [0, 1, 2, 4, 5, 3, 6, 7] Tryz.mixed (by decide +kernel) (fun _ _ _ h => h) fun w1 xw xh => ?_; replace S := S.ext xw; have xr := Eff.refl (fun _ => False) w1) | refine Both.mk ?_ ?_ | (first | refine GuardP.mk (fun hh => ?_) (fun hh => ?_) | refine CondP.mk (fun hh => ?_) (fun hh => ?_)) <;> (try simp only [Bool.not_true, Bool.not_false, Bool.not_eq_eq_eq_not] at hh)) <;> (first | simp -dsimp only [go_sem, seval, S.k, wr_succ (show k < 140737488355328 by omega), hh] | simp -dsimp only [go_sem, seval, S.k, wr_succ (show k < 140737488355328 by omega)] | skip))
    exact ⟨(k + 1, .slice a1 _ c1, B1), by simp; omega, (by repeat (first | exact Sub.nil _ | refine Sub.cons rfl ?_)), by simp; omega, by simpa [ht, putLs_app, putLs] using hb1, S.sublist (by repeat (first | exact List.Sublist.refl _ | exact List.nil_sublist _ | apply List.Sublist.cons_cons | apply List.Sublist.append_left | exact List.sublist_append_left _ _ | apply List.Sublist.cons | apply List.sublist_append_of_sublist_right))⟩
  · have hk' : k = ls.length := by omega
    subst hk'
    have hd : decide (((ls.length : Nat) : Int) < (ls.length : Int)) = false := by simp
    rw [List.take_length] at hb1
    simp -dsimp only [go_sem, seval, S.k, hd]
    exact ⟨B0, by simpa [putL] using hb1, S⟩
end Go.Proofs
