/-
Readers of bytes (package schema); a scheduler that has nothing, out of bytes.
-/
import Derived.Test.YtaldohdkfggkiaaGreatE02
set_option linter.unusedVariables false
set_option linter.unusedSimpArgs false
set_option linter.unusedSectionVars false
set_option linter.unnecessarySimpa false
namespace Go.Ig
/-- A reader: where it is, and whether something is wrong. -/
structure Rs where
  at' : Int
  wrong : Bool
deriving DecidableEq
/-- schema.reader.ends -/
def rsE (r : Rs) (next e : Int) : Rs := if e ≠ 0 then ⟨r.at', true⟩ else ⟨next, r.wrong⟩
/-- schema.reader.number -/
def rsN (l : List UInt8) (m : Int) (r : Rs) : Int × Rs :=
  if r.wrong then (0, r)
  else if (takeN l r.at').2.2 ≠ 0 then (0, ⟨r.at', true⟩)
  else if m < (takeN l r.at').1 then (0, ⟨r.at', true⟩)
  else ((takeN l r.at').1, ⟨(takeN l r.at').2.1, false⟩)
def Rs.wf (r : Rs) : Prop := -9223372036854775808 ≤ r.at' ∧ r.at' ≤ 9223372036854775807
end Go.Ig
namespace Go.Proofs
open Go.Ig
set_option linter.unusedSimpArgs false
set_option linter.unusedVariables false

abbrev rsO (bv : Value) (r : Rs) : Obj := Cl 113 [bv, .int .i64 r.at', .bool r.wrong]
theorem SlB.olds {w w' : World} {b : Nat} {v : Value} {l : List UInt8} {r : Rs} {bv : Value} (h : SlB w v l) (x : Eff (· = b) w w') (hb : w.heap[b]? = some (rsO bv r)) : SlB w' v l := Sl.old h x hb (by decide)

theorem rs_ends (b : Nat) (bv : Value) (hbv : bv.cells = #[bv]) (r : Rs) (next e : Int) (w : World) (hb : w.heap[b]? = some (rsO bv r)) :
    Fnc Tryz.prog 71 [.pointer (some ⟨b, 0, none⟩), .int .i64 next, .int .i64 e] w fun u w' => u = .tuple #[] ∧ Eff (· = b) w w' ∧ w'.heap[b]? = some (rsO bv (rsE r next e)) := by
  refine Fnc.enterW Tryz.func71 (by kernel_rfl) rfl rfl (Nat.le_of_ble_eq_true rfl) Tryz.results71 ?_; have S := St.one hb; simp -dsimp only [go_sem, seval, S.k]
  by_cases he : e = 0
  · have d : (e != 0) = false := by simp [he]
    rw [rsE, if_neg (by simp [he])]
    (try simp -dsimp only [go_sem, seval, S.k, d]); repeat' ((first | refine AllocP.st S fun _ w1 S => ?_ | (refine StoreP.tc S fun w1 S => ?_; (try simp -dsimp only [go_sem, seval] at S)) | refine Both.mk ?_ ?_ | (first | refine GuardP.mk (fun hh => ?_) (fun hh => ?_) | refine CondP.mk (fun hh => ?_) (fun hh => ?_)) <;> (try simp only [Bool.not_true, Bool.not_false, Bool.not_eq_eq_eq_not] at hh)) <;> (first | simp -dsimp only [go_sem, seval, S.k, d, hh] | simp -dsimp only [go_sem, seval, S.k, d] | skip))
    first | exact ⟨rfl, S.eff, S.get⟩ | exact ⟨S.eff, S.get⟩ | exact ⟨rfl, S.eff, rfl⟩ | exact ⟨S.eff, rfl⟩ | exact ⟨rfl, S.eff⟩ | exact S.eff
  · have d : (e != 0) = true := by simp [he]
    rw [rsE, if_pos he]
    (try simp -dsimp only [go_sem, seval, S.k, d]); repeat' ((first | refine AllocP.st S fun _ w1 S => ?_ | (refine StoreP.tc S fun w1 S => ?_; (try simp -dsimp only [go_sem, seval] at S)) | refine Both.mk ?_ ?_ | (first | refine GuardP.mk (fun hh => ?_) (fun hh => ?_) | refine CondP.mk (fun hh => ?_) (fun hh => ?_)) <;> (try simp only [Bool.not_true, Bool.not_false, Bool.not_eq_eq_eq_not] at hh)) <;> (first | simp -dsimp only [go_sem, seval, S.k, d, hh] | simp -dsimp only [go_sem, seval, S.k, d] | skip))
    first | exact ⟨rfl, S.eff, S.get⟩ | exact ⟨S.eff, S.get⟩ | exact ⟨rfl, S.eff, rfl⟩ | exact ⟨S.eff, rfl⟩ | exact ⟨rfl, S.eff⟩ | exact S.eff

theorem rs_number (b : Nat) (bv : Value) (l : List UInt8) (r : Rs) (m : Int) (w : World) (hb : w.heap[b]? = some (rsO bv r)) (h : SlB w bv l) (hr : r.wf) (hm : 0 ≤ m ∧ m ≤ 1152921504606846976) :
    Fnc Tryz.prog 47 [.pointer (some ⟨b, 0, none⟩), .int .i64 m] w fun u w' => u = .int .i64 (rsN l m r).1 ∧ Eff (· = b) w w' ∧ w'.heap[b]? = some (rsO bv (rsN l m r).2) := by
  obtain ⟨a, c, rfl, hc, hsm⟩ := h.formM
  have e0 := u64w hm
  have hbv : (Value.slice a l.length c).cells = #[.slice a l.length c] := rfl
  refine Fnc.enterW Tryz.func47 (by kernel_rfl) rfl rfl (Nat.le_of_ble_eq_true rfl) Tryz.results47 ?_; have S := St.one hb; simp -dsimp only [go_sem, seval, S.k]
  cases h0 : r.wrong
  case true =>
    rw [rsN, if_pos h0]
    (try simp -dsimp only [go_sem, seval, S.k, h0]); repeat' ((first | refine ⟨xr, ?_⟩ | (refine AllocP.stx S fun _ w1 x hb S => ?_; replace hb := Nat.le_trans xr.size hb; replace xr := xr.trans (Ext.eff x)) | (refine StoreP.tcx S fun w1 x S => ?_; replace xr := xr.trans' x (fun y hy e => by omega); (try simp -dsimp only [go_sem, seval] at S)) | refine AllocP.st S fun _ w1 S => ?_ | (refine StoreP.tc S fun w1 S => ?_; (try simp -dsimp only [go_sem, seval] at S)) | (refine Wp.held (fun _ => False) [0, 1, 2, 3, 4, 5, 6, 7, 8, 9, 10, 11, 12, 13, 14, 15] Tryz.mixed (by decide +kernel) (fun _ _ _ h => h) fun w1 xw xh => ?_; replace S := S.ext xw; have xr := Eff.refl (fun _ => False) w1) | refine Both.mk ?_ ?_ | (first | refine GuardP.mk (fun hh => ?_) (fun hh => ?_) | refine CondP.mk (fun hh => ?_) (fun hh => ?_)) <;> (try simp only [Bool.not_true, Bool.not_false, Bool.not_eq_eq_eq_not] at hh)) <;> (first | simp -dsimp only [go_sem, seval, S.k, h0, hh] | simp -dsimp only [go_sem, seval, S.k, h0] | skip))
    first | exact ⟨rfl, S.eff, S.get⟩ | exact ⟨S.eff, S.get⟩ | exact ⟨rfl, S.eff, rfl⟩ | exact ⟨S.eff, rfl⟩ | exact ⟨rfl, S.eff⟩ | exact S.eff
  rw [rsN, if_neg (by simp [h0])]
  have hok := @takeN_ok l r.at'
  have hp := fun w' (S : St (· = b) w w' [(b, rsO (.slice a l.length c) r)]) => pack_Take _ l r.at' w' (SlB.olds h S.eff hb) hr
  generalize hT : takeN l r.at' = T at *
  obtain ⟨n, next, f⟩ := T
  dsimp only at hok hp ⊢
  have hend := fun e w' (S : St (· = b) w w' [(b, rsO (.slice a l.length c) r)]) => rs_ends b (.slice a l.length c) hbv r next e w' S.k.1
  by_cases hf : f = 0
  case neg =>
    rw [if_pos hf]
    have d1 : rsE r next f = ⟨r.at', true⟩ := by rw [rsE, if_pos hf]
    have d2 : rsE r next 3 = ⟨r.at', true⟩ := by rw [rsE, if_pos (by decide)]
    (try simp -dsimp only [go_sem, seval, S.k, h0, e0, d1, d2]); repeat' ((first | refine ⟨xr, ?_⟩ | (refine AllocP.stx S fun _ w1 x hb S => ?_; replace hb := Nat.le_trans xr.size hb; replace xr := xr.trans (Ext.eff x)) | (refine StoreP.tcx S fun w1 x S => ?_; replace xr := xr.trans' x (fun y hy e => by omega); (try simp -dsimp only [go_sem, seval] at S)) | refine AllocP.st S fun _ w1 S => ?_ | (refine StoreP.tc S fun w1 S => ?_; (try simp -dsimp only [go_sem, seval] at S)) | (refine CallP.fn (hp _ S) ?_; rintro _ w1 ⟨rfl, x⟩; (try replace xr := xr.trans (Ext.eff x)); replace S := S.ext x) | (refine CallP.fn (hend _ _ S) ?_; rintro _ w1 ⟨rfl, x, hk⟩; replace S := S.put x hk; (try dsimp only at S)) | (refine Wp.held (fun _ => False) [0, 1, 2, 3, 4, 5, 6, 7, 8, 9, 10, 11, 12, 13, 14, 15] Tryz.mixed (by decide +kernel) (fun _ _ _ h => h) fun w1 xw xh => ?_; replace S := S.ext xw; have xr := Eff.refl (fun _ => False) w1) | refine Both.mk ?_ ?_ | (first | refine GuardP.mk (fun hh => ?_) (fun hh => ?_) | refine CondP.mk (fun hh => ?_) (fun hh => ?_)) <;> (try simp only [Bool.not_true, Bool.not_false, Bool.not_eq_eq_eq_not] at hh)) <;> (first | simp -dsimp only [go_sem, seval, S.k, h0, e0, d1, d2, hh] | simp -dsimp only [go_sem, seval, S.k, h0, e0, d1, d2] | skip))
    all_goals first | exact ⟨rfl, S.eff, S.get⟩ | exact ⟨S.eff, S.get⟩ | exact ⟨rfl, S.eff, rfl⟩ | exact ⟨S.eff, rfl⟩ | exact ⟨rfl, S.eff⟩ | exact S.eff
  rw [if_neg (by simp [hf])]
  subst hf
  have d1 : rsE r next 0 = ⟨next, r.wrong⟩ := by rw [rsE, if_neg (by simp)]
  have d2 : rsE r next 3 = ⟨r.at', true⟩ := by rw [rsE, if_pos (by decide)]
  by_cases hmn : m < n
  · have d3 : decide (m < (n : Int)) = true := by simp; omega
    rw [if_pos hmn]
    (try simp -dsimp only [go_sem, seval, S.k, h0, e0, d1, d2, d3]); repeat' ((first | refine ⟨xr, ?_⟩ | (refine AllocP.stx S fun _ w1 x hb S => ?_; replace hb := Nat.le_trans xr.size hb; replace xr := xr.trans (Ext.eff x)) | (refine StoreP.tcx S fun w1 x S => ?_; replace xr := xr.trans' x (fun y hy e => by omega); (try simp -dsimp only [go_sem, seval] at S)) | refine AllocP.st S fun _ w1 S => ?_ | (refine StoreP.tc S fun w1 S => ?_; (try simp -dsimp only [go_sem, seval] at S)) | (refine CallP.fn (hp _ S) ?_; rintro _ w1 ⟨rfl, x⟩; (try replace xr := xr.trans (Ext.eff x)); replace S := S.ext x) | (refine CallP.fn (hend _ _ S) ?_; rintro _ w1 ⟨rfl, x, hk⟩; replace S := S.put x hk; (try dsimp only at S)) | (refine Wp.held (fun _ => False) [0, 1, 2, 3, 4, 5, 6, 7, 8, 9, 10, 11, 12, 13, 14, 15] Tryz.mixed (by decide +kernel) (fun _ _ _ h => h) fun w1 xw xh => ?_; replace S := S.ext xw; have xr := Eff.refl (fun _ => False) w1) | refine Both.mk ?_ ?_ | (first | refine GuardP.mk (fun hh => ?_) (fun hh => ?_) | refine CondP.mk (fun hh => ?_) (fun hh => ?_)) <;> (try simp only [Bool.not_true, Bool.not_false, Bool.not_eq_eq_eq_not] at hh)) <;> (first | simp -dsimp only [go_sem, seval, S.k, h0, e0, d1, d2, d3, hh] | simp -dsimp only [go_sem, seval, S.k, h0, e0, d1, d2, d3] | skip))
    first | exact ⟨rfl, S.eff, S.get⟩ | exact ⟨S.eff, S.get⟩ | exact ⟨rfl, S.eff, rfl⟩ | exact ⟨S.eff, rfl⟩ | exact ⟨rfl, S.eff⟩ | exact S.eff
  · have d3 : decide (m < (n : Int)) = false := by simp; omega
    have e4 : IntKind.i64.wrap (n : Int) = n := wr_i64 (by omega) (by omega)
    rw [if_neg hmn]
    (try simp -dsimp only [go_sem, seval, S.k, h0, e0, d1, d2, d3, e4]); repeat' ((first | refine ⟨xr, ?_⟩ | (refine AllocP.stx S fun _ w1 x hb S => ?_; replace hb := Nat.le_trans xr.size hb; replace xr := xr.trans (Ext.eff x)) | (refine StoreP.tcx S fun w1 x S => ?_; replace xr := xr.trans' x (fun y hy e => by omega); (try simp -dsimp only [go_sem, seval] at S)) | refine AllocP.st S fun _ w1 S => ?_ | (refine StoreP.tc S fun w1 S => ?_; (try simp -dsimp only [go_sem, seval] at S)) | (refine CallP.fn (hp _ S) ?_; rintro _ w1 ⟨rfl, x⟩; (try replace xr := xr.trans (Ext.eff x)); replace S := S.ext x) | (refine CallP.fn (hend _ _ S) ?_; rintro _ w1 ⟨rfl, x, hk⟩; replace S := S.put x hk; (try dsimp only at S)) | (refine Wp.held (fun _ => False) [0, 1, 2, 3, 4, 5, 6, 7, 8, 9, 10, 11, 12, 13, 14, 15] Tryz.mixed (by decide +kernel) (fun _ _ _ h => h) fun w1 xw xh => ?_; replace S := S.ext xw; have xr := Eff.refl (fun _ => False) w1) | refine Both.mk ?_ ?_ | (first | refine GuardP.mk (fun hh => ?_) (fun hh => ?_) | refine CondP.mk (fun hh => ?_) (fun hh => ?_)) <;> (try simp only [Bool.not_true, Bool.not_false, Bool.not_eq_eq_eq_not] at hh)) <;> (first | simp -dsimp only [go_sem, seval, S.k, h0, e0, d1, d2, d3, e4, hh] | simp -dsimp only [go_sem, seval, S.k, h0, e0, d1, d2, d3, e4] | skip))
    first | exact ⟨rfl, S.eff, S.get⟩ | exact ⟨S.eff, S.get⟩ | exact ⟨rfl, S.eff, rfl⟩ | exact ⟨S.eff, rfl⟩ | exact ⟨rfl, S.eff⟩ | exact S.eff
end Go.Proofs
