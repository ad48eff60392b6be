/-
The contracts of package model: what is read.
-/
import Derived.Test.YtaldohdkfggkiaaGreatC11
set_option linter.unusedVariables false
set_option linter.unusedSimpArgs false
set_option linter.unusedSectionVars false
set_option linter.unnecessarySimpa false
namespace Go.Ig
def Rd.wf (r : Rd) : Prop := -9223372036854775808 ≤ r.at' ∧ r.at' ≤ 9223372036854775807
theorem takeT_wf {l : List UInt8} {at' : Int} (hl : l.length < 140737488355328) : -9223372036854775808 ≤ (takeT l at' 16).2.1 ∧ (takeT l at' 16).2.1 ≤ 9223372036854775807 := by
  unfold takeT
  rw [if_neg (by omega)]
  by_cases h2 : (takeN l at').2.2 = 0
  case neg => rw [if_pos h2]; dsimp only; omega
  rw [if_neg (by simp [h2])]
  have hok := takeN_ok h2
  split
  · dsimp only; omega
  · split
    · dsimp only; omega
    · dsimp only; omega
theorem rdN_wf {l : List UInt8} {m e : Int} {r : Rd} (h : r.wf) (hl : l.length < 140737488355328) : (rdN l m e r).2.wf := by
  unfold rdN
  split
  · exact h
  · split
    · exact h
    · split
      · exact h
      · rename_i h1 h2 h3
        have := takeN_ok (l := l) (at' := r.at') (by simpa using h2)
        simp only [Rd.wf]; omega
theorem rdT_wf {l : List UInt8} {r : Rd} (h : r.wf) (hl : l.length < 140737488355328) : (rdT l r).2.wf := by
  unfold rdT
  split
  · exact h
  · exact takeT_wf hl
theorem rdN_lo {l : List UInt8} {m e : Int} {r : Rd} (hm : 0 ≤ m) : 0 ≤ (rdN l m e r).1 ∧ (rdN l m e r).1 ≤ m := by
  unfold rdN
  split
  · exact ⟨by simp, hm⟩
  · split
    · exact ⟨by simp, hm⟩
    · split
      · exact ⟨by simp, hm⟩
      · dsimp only; omega
theorem rdA_wf {l : List UInt8} {r : Rd} (h : r.wf) (hl : l.length < 140737488355328) : (rdA l r).2.wf := rdN_wf (rdN_wf (rdN_wf h hl) hl) hl
theorem rdLs_wf {l : List UInt8} (hl : l.length < 140737488355328) : ∀ (k : Nat) {r : Rd}, r.wf → (rdLs l k r).2.wf
  | 0, _, h => h
  | k + 1, _, h => rdLs_wf hl k (rdT_wf (rdT_wf h hl) hl)
theorem rdL_wf {l : List UInt8} {r : Rd} (h : r.wf) (hl : l.length < 140737488355328) : (rdL l r).2.wf := rdLs_wf hl _ (rdN_wf h hl)
end Go.Ig
namespace Go.Proofs
open Go.Ig
set_option linter.unusedSimpArgs false
set_option linter.unusedVariables false
attribute [local go_sem] Nd.cs Tk.cs Qu.cs Lbl.cs R3.cs

abbrev rdO (bv : Value) (r : Rd) : Obj := Cl 219 [bv, .int .i64 r.at', .int .i64 r.e]

theorem SlB.old {w w' : World} {b : Nat} {v : Value} {l : List UInt8} {r : Rd} {bv : Value} (h : SlB w v l) (x : Eff (· = b) w w') (hb : w.heap[b]? = some (rdO bv r)) : SlB w' v l := Sl.old h x hb (by decide)

theorem reader_number (b : Nat) (bv : Value) (l : List UInt8) (r : Rd) (m e : Int) (w : World) (hb : w.heap[b]? = some (rdO bv r)) (h : SlB w bv l) (hr : r.wf) (hm : 0 ≤ m ∧ m ≤ 1152921504606846976) :
    Fnc Tryz.prog 139 [.pointer (some ⟨b, 0, none⟩), .int .u64 m, .int .i64 e] w fun u w' => u = .int .i64 (rdN l m e r).1 ∧ Eff (· = b) w w' ∧ w'.heap[b]? = some (rdO bv (rdN l m e r).2) := by
  obtain ⟨a, c, rfl, hc, hsm⟩ := h.formM
  refine Fnc.enterW Tryz.func139 (by kernel_rfl) rfl rfl (Nat.le_of_ble_eq_true rfl) Tryz.results139 ?_; have S := St.one hb; simp -dsimp only [go_sem, seval, S.k]
  by_cases h0 : r.e = 0
  case neg =>
    have d : (r.e != 0) = true := by simp [h0]
    simp -dsimp only [go_sem, seval, S.k, d]
    rw [rdN, if_pos h0]
    first | exact ⟨rfl, S.eff, S.get⟩ | exact ⟨S.eff, S.get⟩ | exact ⟨rfl, S.eff, rfl⟩ | exact ⟨S.eff, rfl⟩ | exact ⟨rfl, S.eff⟩ | exact S.eff
  have d : (r.e != 0) = false := by simp [h0]
  simp -dsimp only [go_sem, seval, S.k, d]
  rw [rdN, if_neg (by simp [h0])]
  have hok := @takeN_ok l r.at'
  have hp := fun w' (S : St (· = b) w w' [(b, rdO (.slice a l.length c) r)]) => pack_Take _ l r.at' w' (SlB.old h S.eff hb) hr
  generalize hT : takeN l r.at' = T at *
  obtain ⟨n, next, f⟩ := T
  dsimp only at hok hp ⊢
  by_cases hf : f = 0
  case neg =>
    have d1 : (f != 0) = true := by simp [hf]
    rw [if_pos hf]
    (try simp -dsimp only [go_sem, seval, S.k, d1]); repeat' ((first | refine ⟨xr, ?_⟩ | (refine AllocP.stx S fun _ w1 x hb S => ?_; replace hb := Nat.le_trans xr.size hb; replace xr := xr.trans (Ext.eff x)) | (refine StoreP.tcx S fun w1 x S => ?_; replace xr := xr.trans' x (fun y hy e => by omega); (try simp -dsimp only [go_sem, seval] at S)) | refine AllocP.st S fun _ w1 S => ?_ | (refine StoreP.tc S fun w1 S => ?_; (try simp -dsimp only [go_sem, seval] at S)) | (refine CallP.fn (hp _ S) ?_; rintro _ w1 ⟨rfl, x⟩; (try replace xr := xr.trans (Ext.eff x)); replace S := S.ext x) | (refine Wp.held (fun _ => False) [0, 1, 2, 3, 4, 5, 6, 7, 8, 9, 10, 11, 12, 13, 14, 15] Tryz.mixed (by decide +kernel) (fun _ _ _ h => h) fun w1 xw xh => ?_; replace S := S.ext xw; have xr := Eff.refl (fun _ => False) w1) | refine Both.mk ?_ ?_ | (first | refine GuardP.mk (fun hh => ?_) (fun hh => ?_) | refine CondP.mk (fun hh => ?_) (fun hh => ?_)) <;> (try simp only [Bool.not_true, Bool.not_false, Bool.not_eq_eq_eq_not] at hh)) <;> (first | simp -dsimp only [go_sem, seval, S.k, d1, hh] | simp -dsimp only [go_sem, seval, S.k, d1] | skip))
    first | exact ⟨rfl, S.eff, S.get⟩ | exact ⟨S.eff, S.get⟩ | exact ⟨rfl, S.eff, rfl⟩ | exact ⟨S.eff, rfl⟩ | exact ⟨rfl, S.eff⟩ | exact S.eff
  have d1 : (f != 0) = false := by simp [hf]
  rw [if_neg (by simp [hf])]
  by_cases hmn : m < n
  · have d2 : decide (m < (n : Int)) = true := by simp; omega
    rw [if_pos hmn]
    (try simp -dsimp only [go_sem, seval, S.k, d1, d2]); repeat' ((first | refine ⟨xr, ?_⟩ | (refine AllocP.stx S fun _ w1 x hb S => ?_; replace hb := Nat.le_trans xr.size hb; replace xr := xr.trans (Ext.eff x)) | (refine StoreP.tcx S fun w1 x S => ?_; replace xr := xr.trans' x (fun y hy e => by omega); (try simp -dsimp only [go_sem, seval] at S)) | refine AllocP.st S fun _ w1 S => ?_ | (refine StoreP.tc S fun w1 S => ?_; (try simp -dsimp only [go_sem, seval] at S)) | (refine CallP.fn (hp _ S) ?_; rintro _ w1 ⟨rfl, x⟩; (try replace xr := xr.trans (Ext.eff x)); replace S := S.ext x) | (refine Wp.held (fun _ => False) [0, 1, 2, 3, 4, 5, 6, 7, 8, 9, 10, 11, 12, 13, 14, 15] Tryz.mixed (by decide +kernel) (fun _ _ _ h => h) fun w1 xw xh => ?_; replace S := S.ext xw; have xr := Eff.refl (fun _ => False) w1) | refine Both.mk ?_ ?_ | (first | refine GuardP.mk (fun hh => ?_) (fun hh => ?_) | refine CondP.mk (fun hh => ?_) (fun hh => ?_)) <;> (try simp only [Bool.not_true, Bool.not_false, Bool.not_eq_eq_eq_not] at hh)) <;> (first | simp -dsimp only [go_sem, seval, S.k, d1, d2, hh] | simp -dsimp only [go_sem, seval, S.k, d1, d2] | skip))
    first | exact ⟨rfl, S.eff, S.get⟩ | exact ⟨S.eff, S.get⟩ | exact ⟨rfl, S.eff, rfl⟩ | exact ⟨S.eff, rfl⟩ | exact ⟨rfl, S.eff⟩ | exact S.eff
  · have d2 : decide (m < (n : Int)) = false := by simp; omega
    have e4 : IntKind.i64.wrap (n : Int) = n := wr_i64 (by omega) (by omega)
    rw [if_neg hmn]
    (try simp -dsimp only [go_sem, seval, S.k, d1, d2, e4, h0]); repeat' ((first | refine ⟨xr, ?_⟩ | (refine AllocP.stx S fun _ w1 x hb S => ?_; replace hb := Nat.le_trans xr.size hb; replace xr := xr.trans (Ext.eff x)) | (refine StoreP.tcx S fun w1 x S => ?_; replace xr := xr.trans' x (fun y hy e => by omega); (try simp -dsimp only [go_sem, seval] at S)) | refine AllocP.st S fun _ w1 S => ?_ | (refine StoreP.tc S fun w1 S => ?_; (try simp -dsimp only [go_sem, seval] at S)) | (refine CallP.fn (hp _ S) ?_; rintro _ w1 ⟨rfl, x⟩; (try replace xr := xr.trans (Ext.eff x)); replace S := S.ext x) | (refine Wp.held (fun _ => False) [0, 1, 2, 3, 4, 5, 6, 7, 8, 9, 10, 11, 12, 13, 14, 15] Tryz.mixed (by decide +kernel) (fun _ _ _ h => h) fun w1 xw xh => ?_; replace S := S.ext xw; have xr := Eff.refl (fun _ => False) w1) | refine Both.mk ?_ ?_ | (first | refine GuardP.mk (fun hh => ?_) (fun hh => ?_) | refine CondP.mk (fun hh => ?_) (fun hh => ?_)) <;> (try simp only [Bool.not_true, Bool.not_false, Bool.not_eq_eq_eq_not] at hh)) <;> (first | simp -dsimp only [go_sem, seval, S.k, d1, d2, e4, h0, hh] | simp -dsimp only [go_sem, seval, S.k, d1, d2, e4, h0] | skip))
    rw [h0] at S
    first | exact ⟨rfl, S.eff, S.get⟩ | exact ⟨S.eff, S.get⟩ | exact ⟨rfl, S.eff, rfl⟩ | exact ⟨S.eff, rfl⟩ | exact ⟨rfl, S.eff⟩ | exact S.eff

theorem reader_text (b : Nat) (bv : Value) (l : List UInt8) (r : Rd) (w : World) (hb : w.heap[b]? = some (rdO bv r)) (h : SlB w bv l) (hr : r.wf) :
    Fnc Tryz.prog 135 [.pointer (some ⟨b, 0, none⟩)] w fun u w' => u = .string (rdT l r).1 ∧ Eff (· = b) w w' ∧ w'.heap[b]? = some (rdO bv (rdT l r).2) := by
  refine Fnc.enterW Tryz.func135 (by kernel_rfl) rfl rfl (Nat.le_of_ble_eq_true rfl) Tryz.results135 ?_; have S := St.one hb; simp -dsimp only [go_sem, seval, S.k]
  by_cases h0 : r.e = 0
  case neg =>
    have d : (r.e != 0) = true := by simp [h0]
    simp -dsimp only [go_sem, seval, S.k, d]
    rw [rdT, if_pos h0]
    first | exact ⟨rfl, S.eff, S.get⟩ | exact ⟨S.eff, S.get⟩ | exact ⟨rfl, S.eff, rfl⟩ | exact ⟨S.eff, rfl⟩ | exact ⟨rfl, S.eff⟩ | exact S.eff
  have d : (r.e != 0) = false := by simp [h0]
  simp -dsimp only [go_sem, seval, S.k, d]
  rw [rdT, if_neg (by simp [h0])]
  (try simp -dsimp only [go_sem, seval, S.k]); repeat' ((first | refine ⟨xr, ?_⟩ | (refine AllocP.stx S fun _ w1 x hb S => ?_; replace hb := Nat.le_trans xr.size hb; replace xr := xr.trans (Ext.eff x)) | (refine StoreP.tcx S fun w1 x S => ?_; replace xr := xr.trans' x (fun y hy e => by omega); (try simp -dsimp only [go_sem, seval] at S)) | refine AllocP.st S fun _ w1 S => ?_ | (refine StoreP.tc S fun w1 S => ?_; (try simp -dsimp only [go_sem, seval] at S)) | (refine CallP.fn (pack_TakeText _ l r.at' _ _ (SlB.old h S.eff hb) hr (by omega)) ?_; rintro _ w1 ⟨rfl, x⟩; (try replace xr := xr.trans (Ext.eff x)); replace S := S.ext x) | (refine Wp.held (fun _ => False) [0, 1, 2, 3, 4, 5, 6, 7, 8, 9, 10, 11, 12, 13, 14, 15] Tryz.mixed (by decide +kernel) (fun _ _ _ h => h) fun w1 xw xh => ?_; replace S := S.ext xw; have xr := Eff.refl (fun _ => False) w1) | refine Both.mk ?_ ?_ | (first | refine GuardP.mk (fun hh => ?_) (fun hh => ?_) | refine CondP.mk (fun hh => ?_) (fun hh => ?_)) <;> (try simp only [Bool.not_true, Bool.not_false, Bool.not_eq_eq_eq_not] at hh)) <;> (first | simp -dsimp only [go_sem, seval, S.k, hh] | simp -dsimp only [go_sem, seval, S.k] | skip))
  first | exact ⟨rfl, S.eff, S.get⟩ | exact ⟨S.eff, S.get⟩ | exact ⟨rfl, S.eff, rfl⟩ | exact ⟨S.eff, rfl⟩ | exact ⟨rfl, S.eff⟩ | exact S.eff

theorem reader_end (b : Nat) (bv : Value) (r : Rd) (ok : Bool) (w : World) (hb : w.heap[b]? = some (rdO bv r)) :
    Fnc Tryz.prog 138 [.pointer (some ⟨b, 0, none⟩), .bool ok] w fun u w' => u = .tuple #[.int .i64 (rdE r ok).1, .int .i64 (rdE r ok).2] ∧ Eff (· = b) w w' ∧ w'.heap[b]? = some (rdO bv r) := by
  refine Fnc.enterW Tryz.func138 (by kernel_rfl) rfl rfl (Nat.le_of_ble_eq_true rfl) Tryz.results138 ?_; have S := St.one hb; simp -dsimp only [go_sem, seval, S.k]
  by_cases h0 : r.e = 0
  case neg =>
    have d : (r.e != 0) = true := by simp [h0]
    rw [rdE, if_pos h0]
    (try simp -dsimp only [go_sem, seval, S.k, d]); repeat' ((first | refine ⟨xr, ?_⟩ | (refine AllocP.stx S fun _ w1 x hb S => ?_; replace hb := Nat.le_trans xr.size hb; replace xr := xr.trans (Ext.eff x)) | (refine StoreP.tcx S fun w1 x S => ?_; replace xr := xr.trans' x (fun y hy e => by omega); (try simp -dsimp only [go_sem, seval] at S)) | refine AllocP.st S fun _ w1 S => ?_ | (refine StoreP.tc S fun w1 S => ?_; (try simp -dsimp only [go_sem, seval] at S)) | (refine Wp.held (fun _ => False) [0, 1, 2, 3, 4, 5] Tryz.mixed (by decide +kernel) (fun _ _ _ h => h) fun w1 xw xh => ?_; replace S := S.ext xw; have xr := Eff.refl (fun _ => False) w1) | refine Both.mk ?_ ?_ | (first | refine GuardP.mk (fun hh => ?_) (fun hh => ?_) | refine CondP.mk (fun hh => ?_) (fun hh => ?_)) <;> (try simp only [Bool.not_true, Bool.not_false, Bool.not_eq_eq_eq_not] at hh)) <;> (first | simp -dsimp only [go_sem, seval, S.k, d, hh] | simp -dsimp only [go_sem, seval, S.k, d] | skip))
    first | exact ⟨rfl, S.eff, S.get⟩ | exact ⟨S.eff, S.get⟩ | exact ⟨rfl, S.eff, rfl⟩ | exact ⟨S.eff, rfl⟩ | exact ⟨rfl, S.eff⟩ | exact S.eff
  have d : (r.e != 0) = false := by simp [h0]
  rw [rdE, if_neg (by simp [h0])]
  cases ok
  all_goals
    (try simp -dsimp only [go_sem, seval, S.k, d]); repeat' ((first | refine ⟨xr, ?_⟩ | (refine AllocP.stx S fun _ w1 x hb S => ?_; replace hb := Nat.le_trans xr.size hb; replace xr := xr.trans (Ext.eff x)) | (refine StoreP.tcx S fun w1 x S => ?_; replace xr := xr.trans' x (fun y hy e => by omega); (try simp -dsimp only [go_sem, seval] at S)) | refine AllocP.st S fun _ w1 S => ?_ | (refine StoreP.tc S fun w1 S => ?_; (try simp -dsimp only [go_sem, seval] at S)) | (refine Wp.held (fun _ => False) [0, 1, 2, 3, 4, 5] Tryz.mixed (by decide +kernel) (fun _ _ _ h => h) fun w1 xw xh => ?_; replace S := S.ext xw; have xr := Eff.refl (fun _ => False) w1) | refine Both.mk ?_ ?_ | (first | refine GuardP.mk (fun hh => ?_) (fun hh => ?_) | refine CondP.mk (fun hh => ?_) (fun hh => ?_)) <;> (try simp only [Bool.not_true, Bool.not_false, Bool.not_eq_eq_eq_not] at hh)) <;> (first | simp -dsimp only [go_sem, seval, S.k, d, hh] | simp -dsimp only [go_sem, seval, S.k, d] | skip))
    first | exact ⟨rfl, S.eff, S.get⟩ | exact ⟨S.eff, S.get⟩ | exact ⟨rfl, S.eff, rfl⟩ | exact ⟨S.eff, rfl⟩ | exact ⟨rfl, S.eff⟩ | exact S.eff

theorem reader_amount (b : Nat) (bv : Value) (l : List UInt8) (r : Rd) (w : World) (hb : w.heap[b]? = some (rdO bv r)) (h : SlB w bv l) (hr : r.wf) :
    Fnc Tryz.prog 136 [.pointer (some ⟨b, 0, none⟩)] w fun u w' => u = (rdA l r).1.v ∧ Eff (· = b) w w' ∧ w'.heap[b]? = some (rdO bv (rdA l r).2) := by
  have hsm := h.small
  rw [List.length_map] at hsm
  have w1f := rdN_wf (m := 1048576) (e := 3) hr hsm
  have w2f := rdN_wf (m := 1048576) (e := 3) w1f hsm
  refine Fnc.enterW Tryz.func136 (by kernel_rfl) rfl rfl (Nat.le_of_ble_eq_true rfl) Tryz.results136 ?_; have S := St.one hb; simp -dsimp only [go_sem, seval, S.k]
  (try simp -dsimp only [go_sem, seval, S.k]); repeat' ((first | refine AllocP.st S fun _ w1 S => ?_ | (refine StoreP.tc S fun w1 S => ?_; (try simp -dsimp only [go_sem, seval] at S)) | refine Both.mk ?_ ?_ | (first | refine GuardP.mk (fun hh => ?_) (fun hh => ?_) | refine CondP.mk (fun hh => ?_) (fun hh => ?_)) <;> (try simp only [Bool.not_true, Bool.not_false, Bool.not_eq_eq_eq_not] at hh)) <;> (first | simp -dsimp only [go_sem, seval, S.k, hh] | simp -dsimp only [go_sem, seval, S.k] | skip))
  refine Wp.unroll 4 (by decide) ?_
  simp -dsimp only [go_sem, seval, S.k, Rnd_succ]
  (try simp -dsimp only [go_sem, seval, S.k, Rnd_succ]); repeat' ((first | refine AllocP.st S fun _ w1 S => ?_ | (refine StoreP.tc S fun w1 S => ?_; (try simp -dsimp only [go_sem, seval] at S)) | (refine CallP.fn (reader_number b bv l r 1048576 3 _ S.get (SlB.old h S.eff hb) hr (by omega)) ?_; rintro _ w1 ⟨rfl, x, hk⟩; replace S := S.put x hk; (try dsimp only at S)) | (refine CallP.fn (reader_number b bv l _ 1048576 3 _ S.get (SlB.old h S.eff hb) w1f (by omega)) ?_; rintro _ w1 ⟨rfl, x, hk⟩; replace S := S.put x hk; (try dsimp only at S)) | (refine CallP.fn (reader_number b bv l _ 1048576 3 _ S.get (SlB.old h S.eff hb) w2f (by omega)) ?_; rintro _ w1 ⟨rfl, x, hk⟩; replace S := S.put x hk; (try dsimp only at S)) | refine Both.mk ?_ ?_ | (first | refine GuardP.mk (fun hh => ?_) (fun hh => ?_) | refine CondP.mk (fun hh => ?_) (fun hh => ?_)) <;> (try simp only [Bool.not_true, Bool.not_false, Bool.not_eq_eq_eq_not] at hh)) <;> (first | simp -dsimp only [go_sem, seval, S.k, Rnd_succ, hh] | simp -dsimp only [go_sem, seval, S.k, Rnd_succ] | skip))
  first | exact ⟨rfl, S.eff, S.get⟩ | exact ⟨S.eff, S.get⟩ | exact ⟨rfl, S.eff, rfl⟩ | exact ⟨S.eff, rfl⟩ | exact ⟨rfl, S.eff⟩ | exact S.eff

set_option maxHeartbeats 1000000 in
theorem reader_labels (b : Nat) (bv : Value) (l : List UInt8) (r : Rd) (w : World) (hb : w.heap[b]? = some (rdO bv r)) (h : SlB w bv l) (hr : r.wf) :
    Fnc Tryz.prog 137 [.pointer (some ⟨b, 0, none⟩)] w fun u w' => ∃ B, Bf 110 2 u ((rdL l r).1.map Lbl.cs) B ∧ St (· = b) w w' ((b, rdO bv (rdL l r).2) :: B) := by
  have hsm := h.small
  rw [List.length_map] at hsm
  have w1f := rdN_wf (m := 4) (e := 4) hr hsm
  have hlo := rdN_lo (l := l) (m := 4) (e := 4) (r := r) (by omega)
  rw [rdL]
  refine Fnc.enterW Tryz.func137 (by kernel_rfl) rfl rfl (Nat.le_of_ble_eq_true rfl) Tryz.results137 ?_; have S := St.one hb; simp -dsimp only [go_sem, seval, S.k]
  (try simp -dsimp only [go_sem, seval, S.k]); repeat' ((first | refine AllocP.st S fun _ w1 S => ?_ | (refine StoreP.tc S fun w1 S => ?_; (try simp -dsimp only [go_sem, seval] at S)) | (refine RunP.lit S Tryz.elF24 Tryz.zeroL110 (by decide) rfl fun b1 w1 S => ?_; simp -dsimp only [go_sem, seval, List.replicate_succ, List.replicate_zero, List.flatten_cons, List.flatten_nil] at S) | (refine RunP.append1 S Tryz.elF24 (by assumption) rfl rfl (by first | omega | (simp; done) | (simp; omega)) fun v1 B1 w1 hb1 S => ?_; obtain ⟨a1, n1, c1, rfl, hn1⟩ := hb1.form; (try rw [List.length_map] at hn1); subst hn1; (try simp only [List.cons_append, List.nil_append, List.append_nil, List.append_assoc] at S)) | (refine CallP.fn (reader_number b bv l r 4 4 _ S.get (SlB.old h S.eff hb) hr (by omega)) ?_; rintro _ w1 ⟨rfl, x, hk⟩; replace S := S.put x hk; (try dsimp only at S)) | refine Both.mk ?_ ?_ | (first | refine GuardP.mk (fun hh => ?_) (fun hh => ?_) | refine CondP.mk (fun hh => ?_) (fun hh => ?_)) <;> (try simp only [Bool.not_true, Bool.not_false, Bool.not_eq_eq_eq_not] at hh)) <;> (first | simp -dsimp only [go_sem, seval, S.k, hh] | simp -dsimp only [go_sem, seval, S.k] | skip))
  generalize rdN l 4 4 r = N at *
  obtain ⟨n, r1⟩ := N
  dsimp only at *
  obtain ⟨m, rfl⟩ : ∃ m : Nat, n = m := ⟨n.toNat, by omega⟩
  refine Wp.loopG [0, 6]  (fun s : Nat × Value × List (Nat × Obj) × List Lbl × Rd => [(3, s.2.1), (7, .int .i64 s.1)]) (fun s w1 => s.1 ≤ m ∧ s.2.2.2.1.length = s.1 ∧ s.2.2.2.2.wf ∧ (s.2.2.2.1 ++ (rdLs l (m - s.1) s.2.2.2.2).1, (rdLs l (m - s.1) s.2.2.2.2).2) = rdLs l m r1 ∧ Bf 110 2 s.2.1 (s.2.2.2.1.map Lbl.cs) s.2.2.1 ∧ St (· = b) w w1 ((b, rdO bv s.2.2.2.2) :: s.2.2.1)) (fun s => m - s.1) (0, .slice none 0 0, [], [], r1) (by simp -dsimp only [go_sem, seval]; exact rfl) (by decide) (by repeat (first | exact Sub.nil _ | refine Sub.cons rfl ?_)) ⟨by simp, rfl, w1f, by simp, Bf.nil _ _, S⟩ ?_
  rintro ⟨k, v0, B0, ls, r2⟩ w1 ⟨hk, hkl, hw, hs, hb1, S⟩
  dsimp only at hk hkl hw hs hb1 S
  by_cases hlt : k < m
  · have hd : decide ((k : Int) < (m : Int)) = true := by simp; omega
    have hw2 := rdT_wf hw hsm
    rw [show m - k = (m - (k + 1)) + 1 by omega, rdLs] at hs
    simp -dsimp only [go_sem, seval, S.k, hd]
    have ew := wr_succ (show k < 140737488355328 by omega)
    (try simp -dsimp only [go_sem, seval, S.k, ew]); repeat' ((first | refine AllocP.st S fun _ w1 S => ?_ | (refine StoreP.tc S fun w1 S => ?_; (try simp -dsimp only [go_sem, seval] at S)) | (refine RunP.lit S Tryz.elF24 Tryz.zeroL110 (by decide) rfl fun b1 w1 S => ?_; simp -dsimp only [go_sem, seval, List.replicate_succ, List.replicate_zero, List.flatten_cons, List.flatten_nil] at S) | (refine RunP.append1 S Tryz.elF24 (by assumption) rfl rfl (by first | omega | (simp; done) | (simp; omega)) fun v1 B1 w1 hb1 S => ?_; obtain ⟨a1, n1, c1, rfl, hn1⟩ := hb1.form; (try rw [List.length_map] at hn1); subst hn1; (try simp only [List.cons_append, List.nil_append, List.append_nil, List.append_assoc] at S)) | (refine CallP.fn (reader_text b bv l r2 _ S.get (SlB.old h S.eff hb) hw) ?_; rintro _ w1 ⟨rfl, x, hk⟩; replace S := S.put x hk; (try dsimp only at S)) | (refine CallP.fn (reader_text b bv l _ _ S.get (SlB.old h S.eff hb) hw2) ?_; rintro _ w1 ⟨rfl, x, hk⟩; replace S := S.put x hk; (try dsimp only at S)) | refine Both.mk ?_ ?_ | (first | refine GuardP.mk (fun hh => ?_) (fun hh => ?_) | refine CondP.mk (fun hh => ?_) (fun hh => ?_)) <;> (try simp only [Bool.not_true, Bool.not_false, Bool.not_eq_eq_eq_not] at hh)) <;> (first | simp -dsimp only [go_sem, seval, S.k, ew, hh] | simp -dsimp only [go_sem, seval, S.k, ew] | skip))
    exact ⟨(k + 1, .slice a1 _ c1, B1, ls ++ [⟨(rdT l r2).1, (rdT l (rdT l r2).2).1⟩], (rdT l (rdT l r2).2).2), by simp; omega, (by repeat (first | exact Sub.nil _ | refine Sub.cons rfl ?_)), by simp; omega, by simp [hkl], rdT_wf hw2 hsm, by simpa using hs, by simpa [Lbl.cs] using hb1, S.sublist (by repeat (first | exact List.Sublist.refl _ | exact List.nil_sublist _ | apply List.Sublist.cons_cons | apply List.Sublist.append_left | exact List.sublist_append_left _ _ | apply List.Sublist.cons | apply List.sublist_append_of_sublist_right))⟩
  · have hk' : k = m := by omega
    subst hk'
    have hd : decide (((k : Nat) : Int) < (k : Int)) = false := by simp
    rw [Nat.sub_self] at hs
    simp only [rdLs, List.append_nil] at hs
    simp -dsimp only [go_sem, seval, S.k, hd]
    refine ⟨B0, ?_, ?_⟩
    · rw [show (rdLs l k r1).1 = ls by rw [← hs]]; exact hb1
    · rw [show (rdLs l k r1).2 = r2 by rw [← hs]]; exact S
theorem SlB.st {w w' : World} {M : List (Nat × Obj)} {v : Value} {l : List UInt8} (h : SlB w v l) (S : St (fun _ => False) w w' M) : SlB w' v l := h.ext S.eff

theorem nodeB_with {n : Nd} {a : Option Addr} {c : Nat} : nodeB (n.with a c) = nodeB n := (rfl)
theorem taskB_with {t : Tk} {a : Option Addr} {c : Nat} : taskB (t.with a c) = taskB t := (rfl)
theorem rdE_facts {r : Rd} {ok : Bool} (h : (rdE r ok).2 = 0) : r.e = 0 ∧ ok = true := by
  unfold rdE at h
  split at h
  · rename_i h1; exact absurd h h1
  · rename_i h1
    cases ok
    · simp at h
    · exact ⟨by simpa using h1, rfl⟩

set_option maxHeartbeats 1000000 in
theorem model_TakeNode (v : Value) (l : List UInt8) (at' : Int) (w : World) (h : SlB w v l) (hr : -9223372036854775808 ≤ at' ∧ at' ≤ 9223372036854775807) :
    Fnc Tryz.prog 105 [v, .int .i64 at'] w fun u w' => ∃ la lc B, u = .tuple #[((takeNd l at').1.with la lc).v, .int .i64 (takeNd l at').2.1, .int .i64 (takeNd l at').2.2] ∧ Bf 110 2 ((takeNd l at').1.with la lc).lv ((takeNd l at').1.labels.map Lbl.cs) B ∧ St (fun _ => False) w w' B := by
  obtain ⟨a, c, rfl, hc, hsm⟩ := h.formM
  have hr0 : Rd.wf ⟨at', 0⟩ := hr
  have hr1 := rdT_wf hr0 hsm
  have hr2 := rdA_wf hr1 hsm
  refine Fnc.enterW Tryz.func105 (by kernel_rfl) rfl rfl (Nat.le_of_ble_eq_true rfl) Tryz.results105 ?_; have S := St.start (fun _ => False) w; simp -dsimp only [go_sem, seval]
  (try simp -dsimp only [go_sem, seval, S.k]); repeat' ((first | refine AllocP.st S fun _ w1 S => ?_ | (refine StoreP.tc S fun w1 S => ?_; (try simp -dsimp only [go_sem, seval] at S)) | (refine CallP.fn (reader_text _ _ l ⟨at', 0⟩ _ S.get (h.st S) hr0) ?_; rintro _ w1 ⟨rfl, x, hk⟩; replace S := S.put x hk; (try dsimp only at S)) | (refine CallP.fn (reader_amount _ _ l _ _ S.get (h.st S) hr1) ?_; rintro _ w1 ⟨rfl, x, hk⟩; replace S := S.put x hk; (try dsimp only at S)) | (refine CallP.fn (reader_labels _ _ l _ _ S.get (h.st S) hr2) ?_; rintro v1 w1 ⟨B1, hb1, x⟩; obtain ⟨a1, n1, c1, rfl, hn1⟩ := hb1.form; (try rw [List.length_map] at hn1); subst hn1; replace S := S.putJ x; (try simp only [List.cons_append, List.nil_append, List.append_nil, List.append_assoc] at S)) | (refine CallP.fn (model_Node ((rdNd l at').1.with a1 c1) _ (hb1.at S)) ?_; rintro _ w1 ⟨rfl, x⟩; (try replace xr := xr.trans (Ext.eff x)); replace S := S.ext x) | (refine CallP.fn (reader_end _ _ (rdNd l at').2 _ _ S.get) ?_; rintro _ w1 ⟨rfl, x, hk⟩; replace S := S.put x hk; (try dsimp only at S)) | refine Both.mk ?_ ?_ | (first | refine GuardP.mk (fun hh => ?_) (fun hh => ?_) | refine CondP.mk (fun hh => ?_) (fun hh => ?_)) <;> (try simp only [Bool.not_true, Bool.not_false, Bool.not_eq_eq_eq_not] at hh)) <;> (first | simp -dsimp only [go_sem, seval, S.k, hh] | simp -dsimp only [go_sem, seval, S.k] | skip))
  · replace hh : (rdE (rdNd l at').2 (nodeB (rdNd l at').1)).2 ≠ 0 := by simpa [nodeB_with] using hh
    have ht : takeNd l at' = (Nd.zero, 0, (rdE (rdNd l at').2 (nodeB (rdNd l at').1)).2) := by simp only [takeNd]; rw [if_pos hh]
    rw [ht]
    exact ⟨none, 0, [], rfl, Bf.nil _ _, S.sublist (by repeat (first | exact List.Sublist.refl _ | exact List.nil_sublist _ | apply List.Sublist.cons_cons | apply List.Sublist.append_left | exact List.sublist_append_left _ _ | apply List.Sublist.cons | apply List.sublist_append_of_sublist_right))⟩
  · replace hh : ¬ (rdE (rdNd l at').2 (nodeB (rdNd l at').1)).2 ≠ 0 := by simpa [nodeB_with] using hh
    have ht : takeNd l at' = ((rdNd l at').1, (rdE (rdNd l at').2 (nodeB (rdNd l at').1)).1, 0) := by simp only [takeNd]; rw [if_neg hh]
    rw [ht]
    exact ⟨a1, c1, B1, rfl, hb1, S.sublist (by repeat (first | exact List.Sublist.refl _ | exact List.nil_sublist _ | apply List.Sublist.cons_cons | apply List.Sublist.append_left | exact List.sublist_append_left _ _ | apply List.Sublist.cons | apply List.sublist_append_of_sublist_right))⟩

set_option maxHeartbeats 1000000 in
theorem model_TakeQueue (v : Value) (l : List UInt8) (at' : Int) (w : World) (h : SlB w v l) (hr : -9223372036854775808 ≤ at' ∧ at' ≤ 9223372036854775807) :
    Fnc Tryz.prog 106 [v, .int .i64 at'] w fun u w' => u = .tuple #[(takeQu l at').1.v, .int .i64 (takeQu l at').2.1, .int .i64 (takeQu l at').2.2] ∧ Ext w w' := by
  obtain ⟨a, c, rfl, hc, hsm⟩ := h.formM
  have hr0 : Rd.wf ⟨at', 0⟩ := hr
  have hr1 := rdT_wf hr0 hsm
  have hr2 := rdA_wf hr1 hsm
  refine Fnc.enterW Tryz.func106 (by kernel_rfl) rfl rfl (Nat.le_of_ble_eq_true rfl) Tryz.results106 ?_; have S := St.start (fun _ => False) w; simp -dsimp only [go_sem, seval]
  (try simp -dsimp only [go_sem, seval, S.k]); repeat' ((first | refine AllocP.st S fun _ w1 S => ?_ | (refine StoreP.tc S fun w1 S => ?_; (try simp -dsimp only [go_sem, seval] at S)) | (refine CallP.fn (reader_text _ _ l ⟨at', 0⟩ _ S.get (h.st S) hr0) ?_; rintro _ w1 ⟨rfl, x, hk⟩; replace S := S.put x hk; (try dsimp only at S)) | (refine CallP.fn (reader_amount _ _ l _ _ S.get (h.st S) hr1) ?_; rintro _ w1 ⟨rfl, x, hk⟩; replace S := S.put x hk; (try dsimp only at S)) | (refine CallP.fn (model_Queue (rdQu l at').1 _) ?_; rintro _ w1 ⟨rfl, x⟩; (try replace xr := xr.trans (Ext.eff x)); replace S := S.ext x) | (refine CallP.fn (reader_end _ _ (rdQu l at').2 _ _ S.get) ?_; rintro _ w1 ⟨rfl, x, hk⟩; replace S := S.put x hk; (try dsimp only at S)) | refine Both.mk ?_ ?_ | (first | refine GuardP.mk (fun hh => ?_) (fun hh => ?_) | refine CondP.mk (fun hh => ?_) (fun hh => ?_)) <;> (try simp only [Bool.not_true, Bool.not_false, Bool.not_eq_eq_eq_not] at hh)) <;> (first | simp -dsimp only [go_sem, seval, S.k, hh] | simp -dsimp only [go_sem, seval, S.k] | skip))
  · replace hh : (rdE (rdQu l at').2 (queueB (rdQu l at').1)).2 ≠ 0 := by simpa using hh
    have ht : takeQu l at' = (Qu.zero, 0, (rdE (rdQu l at').2 (queueB (rdQu l at').1)).2) := by simp only [takeQu]; rw [if_pos hh]
    rw [ht]
    exact ⟨rfl, S.eff⟩
  · replace hh : ¬ (rdE (rdQu l at').2 (queueB (rdQu l at').1)).2 ≠ 0 := by simpa using hh
    have ht : takeQu l at' = ((rdQu l at').1, (rdE (rdQu l at').2 (queueB (rdQu l at').1)).1, 0) := by simp only [takeQu]; rw [if_neg hh]
    rw [ht]
    exact ⟨rfl, S.eff⟩

set_option maxHeartbeats 4000000 in
theorem model_TakeTask (v : Value) (l : List UInt8) (at' : Int) (w : World) (h : SlB w v l) (hr : -9223372036854775808 ≤ at' ∧ at' ≤ 9223372036854775807) :
    Fnc Tryz.prog 107 [v, .int .i64 at'] w fun u w' => ∃ la lc B, u = .tuple #[((takeTk l at').1.with la lc).v, .int .i64 (takeTk l at').2.1, .int .i64 (takeTk l at').2.2] ∧ Bf 110 2 ((takeTk l at').1.with la lc).wv ((takeTk l at').1.wants.map Lbl.cs) B ∧ St (fun _ => False) w w' B := by
  obtain ⟨a, c, rfl, hc, hsm⟩ := h.formM
  have hr0 : Rd.wf ⟨at', 0⟩ := hr
  have hr1 := rdT_wf hr0 hsm
  have hr2 := rdT_wf hr1 hsm
  have hr3 := rdN_wf (m := 1048576) (e := 3) hr2 hsm
  have hr4 := rdA_wf hr3 hsm
  have hr5 := rdL_wf hr4 hsm
  have hr6 := rdT_wf hr5 hsm
  have hr7 := rdT_wf hr6 hsm
  refine Fnc.enterW Tryz.func107 (by kernel_rfl) rfl rfl (Nat.le_of_ble_eq_true rfl) Tryz.results107 ?_; have S := St.start (fun _ => False) w; simp -dsimp only [go_sem, seval]
  (try simp -dsimp only [go_sem, seval, S.k]); repeat' ((first | refine AllocP.st S fun _ w1 S => ?_ | (refine StoreP.tc S fun w1 S => ?_; (try simp -dsimp only [go_sem, seval] at S)) | (refine CallP.fn (reader_text _ _ l ⟨at', 0⟩ _ S.get (h.st S) hr0) ?_; rintro _ w1 ⟨rfl, x, hk⟩; replace S := S.put x hk; (try dsimp only at S)) | (refine CallP.fn (reader_text _ _ l _ _ S.get (h.st S) hr1) ?_; rintro _ w1 ⟨rfl, x, hk⟩; replace S := S.put x hk; (try dsimp only at S)) | (refine CallP.fn (reader_number _ _ l _ _ _ _ S.get (h.st S) hr2 (by omega)) ?_; rintro _ w1 ⟨rfl, x, hk⟩; replace S := S.put x hk; (try dsimp only at S)) | (refine CallP.fn (reader_amount _ _ l _ _ S.get (h.st S) hr3) ?_; rintro _ w1 ⟨rfl, x, hk⟩; replace S := S.put x hk; (try dsimp only at S)) | (refine CallP.fn (reader_labels _ _ l _ _ S.get (h.st S) hr4) ?_; rintro v1 w1 ⟨B1, hb1, x⟩; obtain ⟨a1, n1, c1, rfl, hn1⟩ := hb1.form; (try rw [List.length_map] at hn1); subst hn1; replace S := S.putJ x; (try simp only [List.cons_append, List.nil_append, List.append_nil, List.append_assoc] at S)) | (refine CallP.fn (reader_text _ _ l _ _ S.get (h.st S) hr5) ?_; rintro _ w1 ⟨rfl, x, hk⟩; replace S := S.put x hk; (try dsimp only at S)) | (refine CallP.fn (reader_text _ _ l _ _ S.get (h.st S) hr6) ?_; rintro _ w1 ⟨rfl, x, hk⟩; replace S := S.put x hk; (try dsimp only at S)) | (refine CallP.fn (reader_number _ _ l _ _ _ _ S.get (h.st S) hr7 (by omega)) ?_; rintro _ w1 ⟨rfl, x, hk⟩; replace S := S.put x hk; (try dsimp only at S)) | (refine CallP.fn (model_Task ((rdTk l at').1.with a1 c1) _ (hb1.at S)) ?_; rintro _ w1 ⟨rfl, x⟩; (try replace xr := xr.trans (Ext.eff x)); replace S := S.ext x) | (refine CallP.fn (reader_end _ _ (rdTk l at').2 _ _ S.get) ?_; rintro _ w1 ⟨rfl, x, hk⟩; replace S := S.put x hk; (try dsimp only at S)) | refine Both.mk ?_ ?_ | (first | refine GuardP.mk (fun hh => ?_) (fun hh => ?_) | refine CondP.mk (fun hh => ?_) (fun hh => ?_)) <;> (try simp only [Bool.not_true, Bool.not_false, Bool.not_eq_eq_eq_not] at hh)) <;> (first | simp -dsimp only [go_sem, seval, S.k, hh] | simp -dsimp only [go_sem, seval, S.k] | skip))
  · replace hh : (rdE (rdTk l at').2 (taskB (rdTk l at').1)).2 ≠ 0 := by simpa [taskB_with] using hh
    have ht : takeTk l at' = (Tk.zero, 0, (rdE (rdTk l at').2 (taskB (rdTk l at').1)).2) := by simp only [takeTk]; rw [if_pos hh]
    rw [ht]
    exact ⟨none, 0, [], rfl, Bf.nil _ _, S.sublist (by repeat (first | exact List.Sublist.refl _ | exact List.nil_sublist _ | apply List.Sublist.cons_cons | apply List.Sublist.append_left | exact List.sublist_append_left _ _ | apply List.Sublist.cons | apply List.sublist_append_of_sublist_right))⟩
  · replace hh : ¬ (rdE (rdTk l at').2 (taskB (rdTk l at').1)).2 ≠ 0 := by simpa [taskB_with] using hh
    have ht : takeTk l at' = ((rdTk l at').1, (rdE (rdTk l at').2 (taskB (rdTk l at').1)).1, 0) := by simp only [takeTk]; rw [if_neg hh]
    rw [ht]
    exact ⟨a1, c1, B1, rfl, hb1, S.sublist (by repeat (first | exact List.Sublist.refl _ | exact List.nil_sublist _ | apply List.Sublist.cons_cons | apply List.Sublist.append_left | exact List.sublist_append_left _ _ | apply List.Sublist.cons | apply List.sublist_append_of_sublist_right))⟩
end Go.Proofs
