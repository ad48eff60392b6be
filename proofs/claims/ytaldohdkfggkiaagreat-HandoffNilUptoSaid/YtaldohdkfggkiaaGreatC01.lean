/-
The contracts of package res.
-/
import Derived.Test.YtaldohdkfggkiaaGreatM0
import Derived.Test.YtaldohdkfggkiaaGreatIg9
import Derived.Test.YtaldohdkfggkiaaGreatIgT
set_option linter.unusedVariables false
set_option linter.unusedSimpArgs false
set_option linter.unusedSectionVars false
set_option linter.unnecessarySimpa false
namespace Go.Proofs
open Go.Ig
set_option linter.unusedSimpArgs false
set_option linter.unusedVariables false
attribute [local go_sem] R3.cs

theorem res_Right (r : R3) (w : World) : Fnc Tryz.prog 103 [r.v] w fun v w' => v = .bool r.ok ∧ Ext w w' := by
  refine Fnc.enterW Tryz.func103 (by kernel_rfl) rfl rfl (Nat.le_of_ble_eq_true rfl) Tryz.results103 ?_; have S := St.start (fun _ => False) w; simp -dsimp only [go_sem, seval]
  refine AllocP.st S fun b w1 S => ?_; simp -dsimp only [go_sem, seval, S.k]
  refine Wp.unroll 4 (by decide) ?_
  simp -dsimp only [go_sem, seval, S.k, Rnd_succ]
  repeat' (first | (refine GuardP.mk (fun h => ?_) (fun h => ?_) <;> simp -dsimp only [go_sem, seval, S.k, Rnd_succ, h]) | (refine CondP.mk (fun h => ?_) (fun h => ?_) <;> simp -dsimp only [go_sem, seval, S.k, Rnd_succ, h]))
  all_goals (refine ⟨?_, S.eff⟩; simp [R3.ok, okn] at *; omega)

theorem res_both (r s : R3) (k : Int) (hk : k = 1 ∨ k = -1) (w : World) : Fnc Tryz.prog 119 [r.v, s.v, .int .i64 k] w fun v w' => v = .tuple #[(r.both s k).1.v, .int .i64 (r.both s k).2] ∧ Ext w w' := by
  have hw : ∀ n m : Int, okn n = true → okn m = true → IntKind.i64.wrap (n + IntKind.i64.wrap (k * m)) = n + k * m := fun n m h1 h2 => by
    have h1 := okn_iff.1 h1
    have h2 := okn_iff.1 h2
    rcases hk with rfl | rfl
    · rw [wr_i64 (n := 1 * m) (by omega) (by omega), wr_i64 (by omega) (by omega)]
    · rw [wr_i64 (n := -1 * m) (by omega) (by omega), wr_i64 (by omega) (by omega)]
  cases hr : r.ok
  · refine Fnc.enterW Tryz.func119 (by kernel_rfl) rfl rfl (Nat.le_of_ble_eq_true rfl) Tryz.results119 ?_; have S := St.start (fun _ => False) w; simp -dsimp only [go_sem, seval]
    refine AllocP.st S fun b3 w1 S => ?_; simp -dsimp only [go_sem, seval, S.k]
    refine AllocP.st S fun b4 w1 S => ?_; simp -dsimp only [go_sem, seval, S.k]
    refine AllocP.st S fun b6 w1 S => ?_; simp -dsimp only [go_sem, seval, S.k]
    refine CallP.fn (res_Right r w1) ?_; rintro _ w1 ⟨rfl, x⟩; replace S := S.ext x; simp -dsimp only [go_sem, seval, S.k]
    simp -dsimp only [go_sem, seval, S.k, hr]
    refine StoreP.st 0 S rfl (by simp -dsimp only [go_sem, seval]) (by simp -dsimp only [go_sem, seval]) rfl fun w1 S => ?_; simp -dsimp only [go_sem, seval] at S; simp -dsimp only [go_sem, seval, S.k]
    exact ⟨by simp [R3.both, hr, R3.zero, R3.cs], S.eff⟩
  cases hs : s.ok
  · refine Fnc.enterW Tryz.func119 (by kernel_rfl) rfl rfl (Nat.le_of_ble_eq_true rfl) Tryz.results119 ?_; have S := St.start (fun _ => False) w; simp -dsimp only [go_sem, seval]
    refine AllocP.st S fun b3 w1 S => ?_; simp -dsimp only [go_sem, seval, S.k]
    refine AllocP.st S fun b4 w1 S => ?_; simp -dsimp only [go_sem, seval, S.k]
    refine AllocP.st S fun b6 w1 S => ?_; simp -dsimp only [go_sem, seval, S.k]
    refine CallP.fn (res_Right r w1) ?_; rintro _ w1 ⟨rfl, x⟩; replace S := S.ext x; simp -dsimp only [go_sem, seval, S.k]
    simp -dsimp only [go_sem, seval, S.k, hr]
    refine CallP.fn (res_Right s w1) ?_; rintro _ w1 ⟨rfl, x⟩; replace S := S.ext x; simp -dsimp only [go_sem, seval, S.k]
    simp -dsimp only [go_sem, seval, S.k, hs]
    refine StoreP.st 0 S rfl (by simp -dsimp only [go_sem, seval]) (by simp -dsimp only [go_sem, seval]) rfl fun w1 S => ?_; simp -dsimp only [go_sem, seval] at S; simp -dsimp only [go_sem, seval, S.k]
    exact ⟨by simp [R3.both, hr, hs, R3.zero, R3.cs], S.eff⟩
  simp only [R3.ok, Bool.and_eq_true] at hr hs
  have e1 := hw r.a s.a hr.1.1 hs.1.1
  have e2 := hw r.b s.b hr.1.2 hs.1.2
  have e3 := hw r.c s.c hr.2 hs.2
  have hr' : r.ok = true := by simp [R3.ok, hr]
  have hs' : s.ok = true := by simp [R3.ok, hs]
  refine Fnc.enterW Tryz.func119 (by kernel_rfl) rfl rfl (Nat.le_of_ble_eq_true rfl) Tryz.results119 ?_; have S := St.start (fun _ => False) w; simp -dsimp only [go_sem, seval]
  refine AllocP.st S fun b3 w1 S => ?_; simp -dsimp only [go_sem, seval, S.k]
  refine AllocP.st S fun b4 w1 S => ?_; simp -dsimp only [go_sem, seval, S.k]
  refine AllocP.st S fun b6 w1 S => ?_; simp -dsimp only [go_sem, seval, S.k]
  refine CallP.fn (res_Right r w1) ?_; rintro _ w1 ⟨rfl, x⟩; replace S := S.ext x; simp -dsimp only [go_sem, seval, S.k]
  simp -dsimp only [go_sem, seval, S.k, hr']
  refine CallP.fn (res_Right s w1) ?_; rintro _ w1 ⟨rfl, x⟩; replace S := S.ext x; simp -dsimp only [go_sem, seval, S.k]
  simp -dsimp only [go_sem, seval, S.k, hs']
  refine Wp.unroll 4 (by decide) ?_
  simp -dsimp only [go_sem, seval, S.k, Rnd_succ, e1]
  refine StoreP.st 2 S rfl (by simp -dsimp only [go_sem, seval]) (by simp -dsimp only [go_sem, seval]) rfl fun w1 S => ?_; simp -dsimp only [go_sem, seval] at S; simp -dsimp only [go_sem, seval, S.k]
  simp -dsimp only [go_sem, seval, S.k, Rnd_succ, e2]
  refine StoreP.st 2 S rfl (by simp -dsimp only [go_sem, seval]) (by simp -dsimp only [go_sem, seval]) rfl fun w1 S => ?_; simp -dsimp only [go_sem, seval] at S; simp -dsimp only [go_sem, seval, S.k]
  simp -dsimp only [go_sem, seval, S.k, Rnd_succ, e3]
  refine StoreP.st 2 S rfl (by simp -dsimp only [go_sem, seval]) (by simp -dsimp only [go_sem, seval]) rfl fun w1 S => ?_; simp -dsimp only [go_sem, seval] at S; simp -dsimp only [go_sem, seval, S.k]
  simp -dsimp only [go_sem, seval, S.k, Rnd_succ]
  refine CallP.fn (res_Right (r.lin s k) w1) ?_; rintro _ w1 ⟨rfl, x⟩; replace S := S.ext x; simp -dsimp only [go_sem, seval, S.k]
  cases ht : (r.lin s k).ok
  all_goals
    simp -dsimp only [go_sem, seval, S.k, ht]
    refine StoreP.st 0 S rfl (by simp -dsimp only [go_sem, seval]) (by simp -dsimp only [go_sem, seval]) rfl fun w1 S => ?_; simp -dsimp only [go_sem, seval] at S; simp -dsimp only [go_sem, seval, S.k]
    exact ⟨by simp only [R3.both, hr', hs', ht, Bool.and_self, if_true, Bool.false_eq_true, if_false]; rfl, S.eff⟩

theorem res_Add (r s : R3) (w : World) : Fnc Tryz.prog 87 [r.v, s.v] w fun v w' => v = .tuple #[(r.add s).1.v, .int .i64 (r.add s).2] ∧ Ext w w' := by
  refine Fnc.enterW Tryz.func87 (by kernel_rfl) rfl rfl (Nat.le_of_ble_eq_true rfl) Tryz.results87 ?_; have S := St.start (fun _ => False) w; simp -dsimp only [go_sem, seval]
  refine AllocP.st S fun b2 w1 S => ?_; simp -dsimp only [go_sem, seval, S.k]
  refine AllocP.st S fun b3 w1 S => ?_; simp -dsimp only [go_sem, seval, S.k]
  refine AllocP.st S fun b4 w1 S => ?_; simp -dsimp only [go_sem, seval, S.k]
  refine CallP.fn (res_both r s 1 (.inl rfl) w1) ?_; rintro _ w1 ⟨rfl, x⟩; replace S := S.ext x; simp -dsimp only [go_sem, seval, S.k]
  refine StoreP.st 0 S rfl (by simp -dsimp only [go_sem, seval]) (by simp -dsimp only [go_sem, seval]) rfl fun w1 S => ?_; simp -dsimp only [go_sem, seval] at S; simp -dsimp only [go_sem, seval, S.k]
  exact ⟨rfl, S.eff⟩

theorem res_Sub (r s : R3) (w : World) : Fnc Tryz.prog 89 [r.v, s.v] w fun v w' => v = .tuple #[(r.sub s).1.v, .int .i64 (r.sub s).2] ∧ Ext w w' := by
  refine Fnc.enterW Tryz.func89 (by kernel_rfl) rfl rfl (Nat.le_of_ble_eq_true rfl) Tryz.results89 ?_; have S := St.start (fun _ => False) w; simp -dsimp only [go_sem, seval]
  refine AllocP.st S fun b2 w1 S => ?_; simp -dsimp only [go_sem, seval, S.k]
  refine AllocP.st S fun b3 w1 S => ?_; simp -dsimp only [go_sem, seval, S.k]
  refine AllocP.st S fun b4 w1 S => ?_; simp -dsimp only [go_sem, seval, S.k]
  refine CallP.fn (res_both r s (-1) (.inr rfl) w1) ?_; rintro _ w1 ⟨rfl, x⟩; replace S := S.ext x; simp -dsimp only [go_sem, seval, S.k]
  refine StoreP.st 0 S rfl (by simp -dsimp only [go_sem, seval]) (by simp -dsimp only [go_sem, seval]) rfl fun w1 S => ?_; simp -dsimp only [go_sem, seval] at S; simp -dsimp only [go_sem, seval, S.k]
  exact ⟨rfl, S.eff⟩

theorem res_Fits (r s : R3) (w : World) : Fnc Tryz.prog 95 [r.v, s.v] w fun v w' => v = .bool (r.fits s) ∧ Ext w w' := by
  refine Fnc.enterW Tryz.func95 (by kernel_rfl) rfl rfl (Nat.le_of_ble_eq_true rfl) Tryz.results95 ?_; have S := St.start (fun _ => False) w; simp -dsimp only [go_sem, seval]
  refine AllocP.st S fun b2 w1 S => ?_; simp -dsimp only [go_sem, seval, S.k]
  refine AllocP.st S fun b3 w1 S => ?_; simp -dsimp only [go_sem, seval, S.k]
  refine Wp.unroll 4 (by decide) ?_
  simp -dsimp only [go_sem, seval, S.k, Rnd_succ]
  repeat' (refine CondP.mk (fun h => ?_) (fun h => ?_) <;> simp -dsimp only [go_sem, seval, S.k, Rnd_succ])
  all_goals (refine ⟨?_, S.eff⟩; simp [R3.fits] at *; omega)

theorem div_in {x y : Int} (hx : 0 ≤ x ∧ x ≤ 1048576) (hy : 0 < y) : 0 ≤ 1000 * x / y ∧ 1000 * x / y ≤ 1048576000 := by
  refine ⟨Int.ediv_nonneg (by omega) (by omega), ?_⟩
  have := Int.ediv_le_self (b := y) (a := 1000 * x) (by omega)
  omega

theorem wrap_div {x y : Int} (hx : 0 ≤ x ∧ x ≤ 1048576) (hy : 0 < y) : IntKind.i64.wrap ((IntKind.i64.wrap (1000 * x)).tdiv y) = 1000 * x / y := by
  have := div_in hx hy
  rw [wr_i64 (n := 1000 * x) (by omega) (by omega), Int.tdiv_eq_ediv_of_nonneg (by omega), wr_i64 (by omega) (by omega)]

theorem res_Share (r s : R3) (w : World) : Fnc Tryz.prog 245 [r.v, s.v] w fun v w' => v = .int .i64 (r.share s) ∧ Ext w w' := by
  cases hr : r.ok
  · refine Fnc.enterW Tryz.func245 (by kernel_rfl) rfl rfl (Nat.le_of_ble_eq_true rfl) Tryz.results245 ?_; have S := St.start (fun _ => False) w; simp -dsimp only [go_sem, seval]
    refine AllocP.st S fun b2 w1 S => ?_; simp -dsimp only [go_sem, seval, S.k]
    refine AllocP.st S fun b3 w1 S => ?_; simp -dsimp only [go_sem, seval, S.k]
    refine CallP.fn (res_Right r w1) ?_; rintro _ w1 ⟨rfl, x⟩; replace S := S.ext x; simp -dsimp only [go_sem, seval, S.k]
    simp -dsimp only [go_sem, seval, S.k, hr]
    exact ⟨by simp [R3.share, hr], S.eff⟩
  cases hs : s.ok
  · refine Fnc.enterW Tryz.func245 (by kernel_rfl) rfl rfl (Nat.le_of_ble_eq_true rfl) Tryz.results245 ?_; have S := St.start (fun _ => False) w; simp -dsimp only [go_sem, seval]
    refine AllocP.st S fun b2 w1 S => ?_; simp -dsimp only [go_sem, seval, S.k]
    refine AllocP.st S fun b3 w1 S => ?_; simp -dsimp only [go_sem, seval, S.k]
    refine CallP.fn (res_Right r w1) ?_; rintro _ w1 ⟨rfl, x⟩; replace S := S.ext x; simp -dsimp only [go_sem, seval, S.k]
    simp -dsimp only [go_sem, seval, S.k, hr]
    refine CallP.fn (res_Right s w1) ?_; rintro _ w1 ⟨rfl, x⟩; replace S := S.ext x; simp -dsimp only [go_sem, seval, S.k]
    simp -dsimp only [go_sem, seval, S.k, hs]
    exact ⟨by simp [R3.share, hr, hs], S.eff⟩
  refine Fnc.enterW Tryz.func245 (by kernel_rfl) rfl rfl (Nat.le_of_ble_eq_true rfl) Tryz.results245 ?_; have S := St.start (fun _ => False) w; simp -dsimp only [go_sem, seval]
  refine AllocP.st S fun b2 w1 S => ?_; simp -dsimp only [go_sem, seval, S.k]
  refine AllocP.st S fun b3 w1 S => ?_; simp -dsimp only [go_sem, seval, S.k]
  refine CallP.fn (res_Right r w1) ?_; rintro _ w1 ⟨rfl, x⟩; replace S := S.ext x; simp -dsimp only [go_sem, seval, S.k]
  simp -dsimp only [go_sem, seval, S.k, hr]
  refine CallP.fn (res_Right s w1) ?_; rintro _ w1 ⟨rfl, x⟩; replace S := S.ext x; simp -dsimp only [go_sem, seval, S.k]
  simp -dsimp only [go_sem, seval, S.k, hs]
  have hR := R3.ok_iff.1 hr
  have hT := R3.ok_iff.1 hs
  have hz : ∀ x y : Int, 0 ≤ x ∧ x ≤ 1048576 → 0 < y → (y == 0) = false ∧ IntKind.i64.wrap ((IntKind.i64.wrap (1000 * x)).tdiv y) = shr1 x y ∧ 0 ≤ shr1 x y ∧ shr1 x y ≤ 1048576000 := fun x y hx hy => by
    have := div_in hx hy
    have e : shr1 x y = 1000 * x / y := by simp [shr1, hy]
    exact ⟨by simp; omega, by rw [wrap_div hx hy, e], by omega, by omega⟩
  have hn : ∀ x y : Int, ¬ 0 < y → shr1 x y = 0 := fun x y hy => by simp [shr1, hy]
  refine Wp.unroll 4 (by decide) ?_
  by_cases ha : 0 < s.a <;> by_cases hb : 0 < s.b <;> by_cases hc : 0 < s.c
  all_goals
    first | (have za := hz r.a s.a hR.1 ha) | (have za := hn r.a s.a ha)
    first | (have zb := hz r.b s.b hR.2.1 hb) | (have zb := hn r.b s.b hb)
    first | (have zc := hz r.c s.c hR.2.2 hc) | (have zc := hn r.c s.c hc)
    simp -dsimp only [go_sem, seval, S.k, Rnd_succ, ha, hb, hc, za, zb, zc]
    refine ⟨?_, S.eff⟩
    simp only [R3.share, hr, hs, Bool.and_self, if_true, Value.int.injEq, true_and, IntKind.wrap_i64]
    omega

theorem R3.zero_ok : R3.zero.ok = true := by decide
theorem R3.add_ok {r s : R3} (h : (r.add s).2 = 0) : (r.add s).1.ok = true := by
  unfold R3.add R3.both at *
  split at h
  · split at h
    · rename_i h1 h2; simp [h1, h2]
    · simp at h
  · simp at h

theorem R3.sumFrom_take (l : List R3) (o : R3) (k : Nat) (r : R3) (hr : l[k]? = some r) : ∀ s, R3.sumFrom o (l.take k) = (s, 0) → R3.sumFrom o (l.take (k + 1)) = if (s.add r).2 = 0 then ((s.add r).1, 0) else (R3.zero, (s.add r).2) := by
  induction l generalizing o k with
  | nil => simp at hr
  | cons x l ih =>
    intro s hs
    cases k with
    | zero => simp at hr; subst hr; simp [R3.sumFrom] at hs; subst hs; simp [R3.sumFrom]
    | succ k =>
      simp only [List.take_succ_cons, R3.sumFrom] at hs ⊢
      split at hs
      · rename_i h; rw [if_pos h]; exact ih _ k (by simpa using hr) s hs
      · simp at hs; rename_i h; exact absurd hs.2 h

theorem R3.sumFrom_bad (l : List R3) (o : R3) (k : Nat) (h : (R3.sumFrom o (l.take k)).2 ≠ 0) : R3.sumFrom o l = R3.sumFrom o (l.take k) := by
  induction l generalizing o k with
  | nil => simp
  | cons x l ih =>
    cases k with
    | zero => simp [R3.sumFrom] at h
    | succ k =>
      simp only [List.take_succ_cons, R3.sumFrom] at h ⊢
      split
      · rename_i e; rw [if_pos e] at h; exact ih _ k h
      · rfl

abbrev SlRes (w : World) (v : Value) (l : List R3) : Prop := Sl w 23 3 v (l.map R3.cs)

theorem res_Sum (v : Value) (l : List R3) (w : World) (h : SlRes w v l) : Fnc Tryz.prog 126 [v] w fun u w' => u = .tuple #[(R3.sum l).1.v, .int .i64 (R3.sum l).2] ∧ Ext w w' := by
  obtain ⟨a, c, rfl, hc⟩ := h.form
  have hsm := h.small
  simp only [List.length_map] at hc hsm
  refine Fnc.enterW Tryz.func126 (by kernel_rfl) rfl rfl (Nat.le_of_ble_eq_true rfl) Tryz.results126 ?_; have S := St.start (fun _ => False) w; simp -dsimp only [go_sem, seval]
  refine AllocP.st S fun b2 w1 S => ?_; simp -dsimp only [go_sem, seval, S.k]
  refine AllocP.st S fun b4 w1 S => ?_; simp -dsimp only [go_sem, seval, S.k]
  rw [List.length_map]
  refine Wp.loopL (σ := Nat × R3) (fun s => [(11, .int .i64 s.1), (10, .int .i64 l.length), (9, .slice a l.length c), (4, .pointer (some ⟨b4, 0, none⟩)), (2, .pointer (some ⟨b2, 0, none⟩))])
    (fun s w1 => s.1 ≤ l.length ∧ R3.sumFrom R3.zero (l.take s.1) = (s.2, 0) ∧ St (fun _ => False) w w1 [(b4, Cl 23 s.2.cs), (b2, Cl 23 R3.zero.cs)])
    (fun s => l.length - s.1) (0, R3.zero) (by decide) (by repeat (first | exact Sub.nil _ | refine Sub.cons rfl ?_)) ⟨by simp, rfl, S⟩ ?_
  rintro ⟨k, s⟩ w1 ⟨hk, hs, S⟩
  dsimp only at hk hs S
  by_cases hlt : k < l.length
  · obtain ⟨p, hp, hl⟩ := h.at Tryz.elL212 (i := k) (r := l[k].cs) (by simp [hlt])
    rw [List.length_map] at hp
    have hl1 := S.eff.ld hl id
    have hd : decide ((k : Int) < (l.length : Int)) = true := by simp; omega
    have hn := R3.sumFrom_take l R3.zero k l[k] (by simp [hlt]) s hs
    simp -dsimp only [go_sem, seval, S.k, hd, hp, hl1]
    refine AllocP.st S fun b6 w1 S => ?_; simp -dsimp only [go_sem, seval, S.k]
    refine StoreP.st 0 S rfl (by simp -dsimp only [go_sem, seval]) (by simp -dsimp only [go_sem, seval]) rfl fun w1 S => ?_; simp -dsimp only [go_sem, seval] at S; simp -dsimp only [go_sem, seval, S.k]
    refine CallP.fn (res_Add s l[k] w1) ?_; rintro _ w1 ⟨rfl, x⟩; replace S := S.ext x; simp -dsimp only [go_sem, seval, S.k]
    refine AllocP.st S fun b7 w1 S => ?_; simp -dsimp only [go_sem, seval, S.k]
    refine StoreP.st 0 S rfl (by simp -dsimp only [go_sem, seval]) (by simp -dsimp only [go_sem, seval]) rfl fun w1 S => ?_; simp -dsimp only [go_sem, seval] at S; simp -dsimp only [go_sem, seval, S.k]
    by_cases he : (s.add l[k]).2 = 0
    · rw [if_pos he] at hn
      have hb : ((s.add l[k]).2 != 0) = false := by simp [he]
      simp -dsimp only [go_sem, seval, S.k, hb]
      refine StoreP.st 2 S rfl (by simp -dsimp only [go_sem, seval]) (by simp -dsimp only [go_sem, seval]) rfl fun w1 S => ?_; simp -dsimp only [go_sem, seval] at S; simp -dsimp only [go_sem, seval, S.k]
      simp -dsimp only [go_sem, seval, S.k, wr_succ (show k < 140737488355328 by omega)]
      exact ⟨(k + 1, (s.add l[k]).1), by simp; omega, (by repeat (first | exact Sub.nil _ | refine Sub.cons rfl ?_)), by simp; omega, hn, S.tail.tail⟩
    · rw [if_neg he] at hn
      have hb : ((s.add l[k]).2 != 0) = true := by simp [he]
      simp -dsimp only [go_sem, seval, S.k, hb]
      refine StoreP.st 3 S rfl (by simp -dsimp only [go_sem, seval]) (by simp -dsimp only [go_sem, seval]) rfl fun w1 S => ?_; simp -dsimp only [go_sem, seval] at S; simp -dsimp only [go_sem, seval, S.k]
      refine ⟨?_, S.eff⟩
      have hs' : R3.sum l = (R3.zero, (s.add l[k]).2) := by
        rw [R3.sum, R3.sumFrom_bad l R3.zero (k + 1) (by rw [hn]; exact he), hn]
      rw [hs']; rfl
  · have hk' : k = l.length := by omega
    subst hk'
    have hd : decide (((l.length : Nat) : Int) < (l.length : Int)) = false := by simp
    rw [List.take_length] at hs
    simp -dsimp only [go_sem, seval, S.k, hd]
    refine StoreP.st 1 S rfl (by simp -dsimp only [go_sem, seval]) (by simp -dsimp only [go_sem, seval]) rfl fun w1 S => ?_; simp -dsimp only [go_sem, seval] at S; simp -dsimp only [go_sem, seval, S.k]
    refine ⟨?_, S.eff⟩
    rw [R3.sum, hs]
end Go.Proofs
