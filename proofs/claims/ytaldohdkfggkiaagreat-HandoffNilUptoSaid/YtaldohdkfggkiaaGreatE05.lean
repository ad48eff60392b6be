/-
A scheduler that has nothing, out of bytes: Decode, Translate.
-/
import Derived.Test.YtaldohdkfggkiaaGreatE04
set_option linter.unusedVariables false
set_option linter.unusedSimpArgs false
set_option linter.unusedSectionVars false
set_option linter.unnecessarySimpa false
namespace Go.Proofs
open Go.Ig
set_option linter.unusedSimpArgs false
set_option linter.unusedVariables false

theorem rs_numberE {b : Nat} {bv : Value} {l : List UInt8} {r r' : Rs} {m x : Int} {w : World} (e : rsN l m r = (x, r')) (hb : w.heap[b]? = some (rsO bv r)) (h : SlB w bv l) (hr : r.wf) (hm : 0 ≤ m ∧ m ≤ 1152921504606846976) :
    Fnc Tryz.prog 47 [.pointer (some ⟨b, 0, none⟩), .int .i64 m] w fun u w' => u = .int .i64 x ∧ Eff (· = b) w w' ∧ w'.heap[b]? = some (rsO bv r') := by
  have := rs_number b bv l r m w hb h hr hm
  rw [e] at this
  exact this
theorem rs_oneE {b : Nat} {sp bv : Value} {w : World} (hb : w.heap[b]? = some (rsO bv ⟨5, false⟩)) (h : SlB w bv em1) :
    Fnc Tryz.prog 48 [.pointer (some ⟨b, 0, none⟩), sp] w fun u w' => u = .tuple #[] ∧ Eff (· = b) w w' ∧ w'.heap[b]? = some (rsO bv ⟨8, false⟩) := by
  have := rs_one0 b sp bv em1 ⟨5, false⟩ w hb h ⟨by decide, by decide⟩
  rw [em1_4, em1_5, em1_6] at this
  exact this rfl rfl rfl
theorem rs_twoE {b d : Nat} {bv : Value} {w : World} {c n : Int} (hb : w.heap[b]? = some (rsO bv ⟨5, false⟩)) (hd : w.heap[d]? = some (Cl 59 [.int .i64 c, .int .i64 n, nilS, nilS, nilS])) (hbd : b ≠ d) (h : SlB w bv em2) :
    Fnc Tryz.prog 49 [.pointer (some ⟨b, 0, none⟩), .pointer (some ⟨d, 0, none⟩)] w fun u w' => u = .tuple #[] ∧ Eff (· = b) w w' ∧ w'.heap[b]? = some (rsO bv ⟨7, false⟩) := by
  have := rs_two0 b d c n bv em2 ⟨5, false⟩ w hb hd hbd h ⟨by decide, by decide⟩
  rw [em2_4, em2_5] at this
  exact this rfl rfl

set_option maxHeartbeats 1000000 in
theorem schema_Decode1 (v : Value) (w : World) (h : SlB w v em1) : Fnc Tryz.prog 35 [v] w fun u w' => u = .tuple #[emS 0 1, .int .i64 1, .int .i64 0] ∧ Ext w w' := by
  obtain ⟨a, c, rfl, hc, hsm⟩ := h.formM
  refine Fnc.enterW Tryz.func35 (by kernel_rfl) rfl rfl (Nat.le_of_ble_eq_true rfl) Tryz.results35 ?_; have S := St.start (fun _ => False) w; simp -dsimp only [go_sem, seval]
  (try simp -dsimp only [go_sem, seval, S.k]); repeat' ((first | refine AllocP.st S fun _ w1 S => ?_ | (refine StoreP.tc S fun w1 S => ?_; (try simp -dsimp only [go_sem, seval] at S)) | (refine CallP.fn (rs_numberE em1_1 S.get (h.st S) ⟨by decide, by decide⟩ (by omega)) ?_; rintro _ w1 ⟨rfl, x, hk⟩; replace S := S.put x hk; (try dsimp only at S)) | (refine CallP.fn (rs_numberE em1_2 S.get (h.st S) ⟨by decide, by decide⟩ (by omega)) ?_; rintro _ w1 ⟨rfl, x, hk⟩; replace S := S.put x hk; (try dsimp only at S)) | (refine CallP.fn (rs_numberE em1_3 S.get (h.st S) ⟨by decide, by decide⟩ (by omega)) ?_; rintro _ w1 ⟨rfl, x, hk⟩; replace S := S.put x hk; (try dsimp only at S)) | (refine CallP.fn (rs_oneE S.get (h.st S)) ?_; rintro _ w1 ⟨rfl, x, hk⟩; replace S := S.put x hk; (try dsimp only at S)) | (refine CallP.fn (schema_Encode1_0 0 1 rfl (by omega) _) ?_; rintro _ w1 ⟨v1, rfl, B1, hb1, x⟩; obtain ⟨a1, n1, c1, rfl, hn1⟩ := hb1.form; (try rw [List.length_map] at hn1); subst hn1; replace S := S.join x; (try simp only [List.cons_append, List.nil_append, List.append_nil, List.append_assoc] at S)) | (refine CallP.fn (bytes_Equal _ _ em1 em1 _ (hb1.at S) (h.st S)) ?_; rintro _ w1 ⟨rfl, x⟩; (try replace xr := xr.trans (Ext.eff x)); replace S := S.ext x) | refine Both.mk ?_ ?_ | (first | refine GuardP.mk (fun hh => ?_) (fun hh => ?_) | refine CondP.mk (fun hh => ?_) (fun hh => ?_)) <;> (try simp only [Bool.not_true, Bool.not_false, Bool.not_eq_eq_eq_not] at hh)) <;> (first | simp -dsimp only [go_sem, seval, S.k, hh] | simp -dsimp only [go_sem, seval, S.k] | skip))
  first | exact S.eff | exact ⟨rfl, S.eff⟩

set_option maxHeartbeats 1000000 in
theorem schema_Decode2 (v : Value) (w : World) (h : SlB w v em2) : Fnc Tryz.prog 35 [v] w fun u w' => u = .tuple #[emS 0 1, .int .i64 2, .int .i64 0] ∧ Ext w w' := by
  obtain ⟨a, c, rfl, hc, hsm⟩ := h.formM
  refine Fnc.enterW Tryz.func35 (by kernel_rfl) rfl rfl (Nat.le_of_ble_eq_true rfl) Tryz.results35 ?_; have S := St.start (fun _ => False) w; simp -dsimp only [go_sem, seval]
  (try simp -dsimp only [go_sem, seval, S.k]); repeat' ((first | refine AllocP.st S fun _ w1 S => ?_ | (refine StoreP.tc S fun w1 S => ?_; (try simp -dsimp only [go_sem, seval] at S)) | (refine CallP.fn (rs_numberE em2_1 S.get (h.st S) ⟨by decide, by decide⟩ (by omega)) ?_; rintro _ w1 ⟨rfl, x, hk⟩; replace S := S.put x hk; (try dsimp only at S)) | (refine CallP.fn (rs_numberE em2_2 S.get (h.st S) ⟨by decide, by decide⟩ (by omega)) ?_; rintro _ w1 ⟨rfl, x, hk⟩; replace S := S.put x hk; (try dsimp only at S)) | (refine CallP.fn (rs_numberE em2_3 S.get (h.st S) ⟨by decide, by decide⟩ (by omega)) ?_; rintro _ w1 ⟨rfl, x, hk⟩; replace S := S.put x hk; (try dsimp only at S)) | (refine CallP.fn (rs_twoE S.get S.get (by have := S.nodup; simp at this; omega) (h.st S)) ?_; rintro _ w1 ⟨rfl, x, hk⟩; replace S := S.put x hk; (try dsimp only at S)) | (refine CallP.fn (schema_Encode2_0 0 1 rfl (by omega) _) ?_; rintro _ w1 ⟨v1, rfl, B1, hb1, x⟩; obtain ⟨a1, n1, c1, rfl, hn1⟩ := hb1.form; (try rw [List.length_map] at hn1); subst hn1; replace S := S.join x; (try simp only [List.cons_append, List.nil_append, List.append_nil, List.append_assoc] at S)) | (refine CallP.fn (bytes_Equal _ _ em2 em2 _ (hb1.at S) (h.st S)) ?_; rintro _ w1 ⟨rfl, x⟩; (try replace xr := xr.trans (Ext.eff x)); replace S := S.ext x) | refine Both.mk ?_ ?_ | (first | refine GuardP.mk (fun hh => ?_) (fun hh => ?_) | refine CondP.mk (fun hh => ?_) (fun hh => ?_)) <;> (try simp only [Bool.not_true, Bool.not_false, Bool.not_eq_eq_eq_not] at hh)) <;> (first | simp -dsimp only [go_sem, seval, S.k, hh] | simp -dsimp only [go_sem, seval, S.k] | skip))
  first | exact S.eff | exact ⟨rfl, S.eff⟩

theorem schema_Translate1 (v : Value) (w : World) (h : SlB w v em1) : Fnc Tryz.prog 28 [v] w fun u w' => ∃ v, u = .tuple #[v, .int .i64 0] ∧ NwB w w' v em2 := by
  obtain ⟨a, c, rfl, hc, hsm⟩ := h.formM
  refine Fnc.enterW Tryz.func28 (by kernel_rfl) rfl rfl (Nat.le_of_ble_eq_true rfl) Tryz.results28 ?_; have S := St.start (fun _ => False) w; simp -dsimp only [go_sem, seval]
  (try simp -dsimp only [go_sem, seval, S.k]); repeat' ((first | refine AllocP.st S fun _ w1 S => ?_ | (refine StoreP.tc S fun w1 S => ?_; (try simp -dsimp only [go_sem, seval] at S)) | (refine CallP.fn (schema_Decode1 _ _ h) ?_; rintro _ w1 ⟨rfl, x⟩; (try replace xr := xr.trans (Ext.eff x)); replace S := S.ext x) | (refine CallP.fn (schema_Encode2_0 0 1 rfl (by omega) _) ?_; rintro _ w1 ⟨v1, rfl, B1, hb1, x⟩; obtain ⟨a1, n1, c1, rfl, hn1⟩ := hb1.form; (try rw [List.length_map] at hn1); subst hn1; replace S := S.join x; (try simp only [List.cons_append, List.nil_append, List.append_nil, List.append_assoc] at S)) | refine Both.mk ?_ ?_ | (first | refine GuardP.mk (fun hh => ?_) (fun hh => ?_) | refine CondP.mk (fun hh => ?_) (fun hh => ?_)) <;> (try simp only [Bool.not_true, Bool.not_false, Bool.not_eq_eq_eq_not] at hh)) <;> (first | simp -dsimp only [go_sem, seval, S.k, hh] | simp -dsimp only [go_sem, seval, S.k] | skip))
  exact ⟨_, rfl, _, hb1, S.sublist (by repeat (first | exact List.Sublist.refl _ | exact List.nil_sublist _ | apply List.Sublist.cons_cons | apply List.Sublist.append_left | exact List.sublist_append_left _ _ | apply List.Sublist.cons | apply List.sublist_append_of_sublist_right))⟩
end Go.Proofs
