/-
The contracts of slices.Index, slices.Contains at labels, and of ident.Has.
-/
import Derived.Test.YtaldohdkfggkiaaGreatC03
import Derived.Test.YtaldohdkfggkiaaGreatIgB
set_option linter.unusedVariables false
set_option linter.unusedSimpArgs false
set_option linter.unusedSectionVars false
set_option linter.unnecessarySimpa false
namespace Go.Proofs
open Go.Ig
set_option linter.unusedSimpArgs false
set_option linter.unusedVariables false
attribute [local go_sem] Lbl.cs

theorem lbl_guard : Tryz.prog.eqGuardType Tryz.prog.depth 110 = false := by kernel_rfl
theorem lbl_eq (a b : Lbl) : eqP Tryz.prog 10000 110 (.agg a.cs.toArray) (.agg b.cs.toArray) = some ((a.key.toList == b.key.toList) && ((a.val.toList == b.val.toList) && true)) := by kernel_rfl

theorem lbl_beq (a b : Lbl) : ((a.key.toList == b.key.toList) && ((a.val.toList == b.val.toList) && true)) = decide (a = b) := by
  rw [str_eq, str_eq, Bool.and_true, ← Bool.decide_and]
  cases a; cases b; simp

set_option maxHeartbeats 4000000 in
theorem slices_Index_Label (v : Value) (l : List Lbl) (y : Lbl) (w : World) (h : SlLbl w v l) : Fnc Tryz.prog 158 [v, y.v] w fun u w' => (∃ i : Int, u = .int .i64 i ∧ decide (0 ≤ i) = l.contains y) ∧ Ext w w' := by
  obtain ⟨a, c, rfl, hc, hsm⟩ := h.formM
  refine Fnc.enterW Tryz.func158 (by kernel_rfl) rfl rfl (Nat.le_of_ble_eq_true rfl) Tryz.results158 ?_; have S := St.start (fun _ => False) w; simp -dsimp only [go_sem, seval]
  refine AllocP.st S fun b3 w1 S => ?_; simp -dsimp only [go_sem, seval, S.k]
  refine Wp.loopL (σ := Nat) (fun k => [(8, .int .i64 k), (7, .int .i64 l.length), (6, .slice a l.length c), (3, .pointer (some ⟨b3, 0, none⟩)), (0, .slice a l.length c)])
    (fun k w1 => k ≤ l.length ∧ (l.take k).contains y = false ∧ St (fun _ => False) w w1 [(b3, Cl 110 [.string y.key, .string y.val])]) (fun k => l.length - k) 0 (by decide) (by repeat (first | exact Sub.nil _ | refine Sub.cons rfl ?_)) ⟨by simp, by simp, S⟩ ?_
  rintro k w1 ⟨hk, hs, S⟩
  by_cases hlt : k < l.length
  · obtain ⟨p, hp, hl⟩ := h.at Tryz.elL24 (i := k) (r := l[k].cs) (by simp [hlt])
    have hl1 := S.eff.ld hl id
    have hd : decide ((k : Int) < (l.length : Int)) = true := by simp; omega
    have ht : l.take (k + 1) = l.take k ++ [l[k]] := by rw [List.take_succ_eq_append_getElem hlt]
    generalize l[k] = lb at *
    simp -dsimp only [go_sem, seval, S.k, hd]
    refine Wp.held (fun _ => False) [0, 1, 2, 3, 4, 5] Tryz.mixed (by decide +kernel) (fun _ _ _ h => h) fun w1 xw xh => ?_; replace S := S.ext xw; simp -dsimp only [go_sem, seval, S.k]
    have hl2 := S.eff.ld hl id
    simp -dsimp only [go_sem, seval, S.k, hp, hl2]
    refine VorC.run rfl (fun w => eq_agg lbl_guard (lbl_eq y lb)) ?_
    rw [lbl_beq]
    by_cases he : y = lb
    · have hd2 : decide (y = lb) = true := by simp [he]
      simp -dsimp only [go_sem, seval, S.k, hd2]
      refine ⟨⟨_, rfl, ?_⟩, S.eff⟩
      have hm : lb ∈ l := by
        have : lb ∈ l.take (k + 1) := by rw [ht]; simp
        exact List.mem_of_mem_take this
      simp [he, hm]
    · have hd2 : decide (y = lb) = false := by simp [he]
      simp -dsimp only [go_sem, seval, S.k, hd2, wr_succ (show k < 140737488355328 by omega)]
      refine ⟨k + 1, by omega, (by repeat (first | exact Sub.nil _ | refine Sub.cons rfl ?_)), by omega, ?_, S⟩
      rw [ht]
      simp at hs
      simp [hs, he]
  · have hk' : k = l.length := by omega
    subst hk'
    have hd : decide (((l.length : Nat) : Int) < (l.length : Int)) = false := by simp
    rw [List.take_length] at hs
    simp -dsimp only [go_sem, seval, S.k, hd]
    exact ⟨⟨_, rfl, by rw [hs]; rfl⟩, S.eff⟩

theorem slices_Contains_Label (v : Value) (l : List Lbl) (y : Lbl) (w : World) (h : SlLbl w v l) : Fnc Tryz.prog 153 [v, y.v] w fun u w' => u = .bool (l.contains y) ∧ Ext w w' := by
  refine Fnc.enterW Tryz.func153 (by kernel_rfl) rfl rfl (Nat.le_of_ble_eq_true rfl) Tryz.results153 ?_; have S := St.start (fun _ => False) w; simp -dsimp only [go_sem, seval]
  refine AllocP.st S fun b3 w1 S => ?_; simp -dsimp only [go_sem, seval, S.k]
  refine CallP.fn (slices_Index_Label v l y w1 (h.ext S.eff)) ?_
  rintro _ w1 ⟨⟨i, rfl, hi⟩, x⟩
  replace S := S.ext x
  simp -dsimp only [go_sem, seval, S.k, hi]
  first | exact S.eff | exact ⟨rfl, S.eff⟩

set_option maxHeartbeats 4000000 in
theorem ident_Has (v u : Value) (l wants : List Lbl) (w : World) (h : SlLbl w v l) (hu : SlLbl w u wants) : Fnc Tryz.prog 132 [v, u] w fun r w' => r = .bool (hasB l wants) ∧ Ext w w' := by
  obtain ⟨a, c, rfl, hc, hsm⟩ := hu.formM
  refine Fnc.enterW Tryz.func132 (by kernel_rfl) rfl rfl (Nat.le_of_ble_eq_true rfl) Tryz.results132 ?_; have S := St.start (fun _ => False) w; simp -dsimp only [go_sem, seval]
  refine Wp.loopL (σ := Nat) (fun k => [(9, .int .i64 k), (8, .int .i64 wants.length), (7, .slice a wants.length c), (0, v)])
    (fun k w1 => k ≤ wants.length ∧ hasB l (wants.take k) = true ∧ St (fun _ => False) w w1 []) (fun k => wants.length - k) 0 (by decide) (by repeat (first | exact Sub.nil _ | refine Sub.cons rfl ?_)) ⟨by simp, by simp [hasB], S⟩ ?_
  rintro k w1 ⟨hk, hs, S⟩
  by_cases hlt : k < wants.length
  · obtain ⟨p, hp, hl⟩ := hu.at Tryz.elL24 (i := k) (r := wants[k].cs) (by simp [hlt])
    have hl1 := S.eff.ld hl id
    have hd : decide ((k : Int) < (wants.length : Int)) = true := by simp; omega
    have ht : wants.take (k + 1) = wants.take k ++ [wants[k]] := by rw [List.take_succ_eq_append_getElem hlt]
    have hm : wants[k] ∈ wants := by simp
    generalize wants[k] = lb at *
    simp -dsimp only [go_sem, seval, S.k, hd, hp, hl1]
    refine AllocP.st S fun b6 w1 S => ?_; simp -dsimp only [go_sem, seval, S.k]
    refine StoreP.st 0 S rfl (by simp -dsimp only [go_sem, seval]) (by simp -dsimp only [go_sem, seval]) rfl fun w1 S => ?_; simp -dsimp only [go_sem, seval] at S; simp -dsimp only [go_sem, seval, S.k]
    refine CallP.fn (slices_Contains_Label v l lb w1 (h.ext S.eff)) ?_; rintro _ w1 ⟨rfl, x⟩; replace S := S.ext x; simp -dsimp only [go_sem, seval, S.k]
    cases he : l.contains lb
    · simp -dsimp only [go_sem, seval, S.k, he]
      refine ⟨congrArg Value.bool ?_, S.eff⟩
      symm
      rw [hasB, List.all_eq_false]
      exact ⟨lb, hm, by simp only [he]; simp⟩
    · simp -dsimp only [go_sem, seval, S.k, he, wr_succ (show k < 140737488355328 by omega)]
      refine ⟨k + 1, by omega, (by repeat (first | exact Sub.nil _ | refine Sub.cons rfl ?_)), by omega, ?_, S.tail⟩
      rw [ht]
      simp only [hasB, List.all_append, List.all_cons, List.all_nil, he, Bool.and_true] at hs ⊢
      exact hs
  · have hk' : k = wants.length := by omega
    subst hk'
    have hd : decide (((wants.length : Nat) : Int) < (wants.length : Int)) = false := by simp
    rw [List.take_length] at hs
    simp -dsimp only [go_sem, seval, S.k, hd]
    exact ⟨by rw [hs], S.eff⟩
end Go.Proofs
