/-
The contracts of package ident: labels.
-/
import Derived.Test.YtaldohdkfggkiaaGreatC02
import Derived.Test.YtaldohdkfggkiaaGreatIgA
set_option linter.unusedVariables false
set_option linter.unusedSimpArgs false
set_option linter.unusedSectionVars false
set_option linter.unnecessarySimpa false
namespace Go.Proofs
open Go.Ig
set_option linter.unusedSimpArgs false
set_option linter.unusedVariables false
attribute [local go_sem] Lbl.cs

abbrev SlLbl (w : World) (v : Value) (l : List Lbl) : Prop := Sl w 110 2 v (l.map Lbl.cs)

set_option maxHeartbeats 4000000 in
theorem ident_Labels (v : Value) (l : List Lbl) (w : World) (h : SlLbl w v l) : Fnc Tryz.prog 125 [v] w fun u w' => u = .bool (labelsB l) ∧ Ext w w' := by
  obtain ⟨a, c, rfl, hc, hsm⟩ := h.formM
  by_cases h4 : l.length ≤ 4
  · have hd : decide ((4 : Int) < (l.length : Int)) = false := by simp; omega
    refine Fnc.enterW Tryz.func125 (by kernel_rfl) rfl rfl (Nat.le_of_ble_eq_true rfl) Tryz.results125 ?_; have S := St.start (fun _ => False) w; simp -dsimp only [go_sem, seval]
    simp -dsimp only [go_sem, seval, S.k, hd]
    refine Wp.loopL (σ := Nat × Str) (fun s => [(11, .int .i64 s.1), (10, .int .i64 l.length), (9, .slice a l.length c), (3, .string s.2)])
      (fun s w1 => s.1 ≤ l.length ∧ lblFrom s.2 (decide (s.1 = 0)) (l.drop s.1) = lblFrom (ByteArray.mk #[]) true l ∧ St (fun _ => False) w w1 []) (fun s => l.length - s.1) (0, ByteArray.mk #[]) (by decide) (by repeat (first | exact Sub.nil _ | refine Sub.cons rfl ?_)) ⟨by simp, by simp, S⟩ ?_
    rintro ⟨k, last⟩ w1 ⟨hk, hs, S⟩
    dsimp only at hk hs S
    by_cases hlt : k < l.length
    · obtain ⟨p, hp, hl⟩ := h.at Tryz.elL24 (i := k) (r := l[k].cs) (by simp [hlt])
      have hl1 := S.eff.ld hl id
      have hd : decide ((k : Int) < (l.length : Int)) = true := by simp; omega
      rw [List.drop_eq_getElem_cons hlt, lblFrom] at hs
      generalize l[k] = lb at *
      simp -dsimp only [go_sem, seval, S.k, hd, hp, hl1]
      refine AllocP.st S fun b5 w1 S => ?_; simp -dsimp only [go_sem, seval, S.k]
      refine StoreP.st 0 S rfl (by simp -dsimp only [go_sem, seval]) (by simp -dsimp only [go_sem, seval]) rfl fun w1 S => ?_; simp -dsimp only [go_sem, seval] at S; simp -dsimp only [go_sem, seval, S.k]
      refine CallP.fn (ident_Name lb.key w1) ?_; rintro _ w1 ⟨rfl, x⟩; replace S := S.ext x; simp -dsimp only [go_sem, seval, S.k]
      cases hn1 : nameB lb.key
      · simp -dsimp only [go_sem, seval, S.k, hn1]
        refine ⟨congrArg Value.bool ?_, S.eff⟩
        simp [labelsB, h4, ← hs, hn1]
      simp -dsimp only [go_sem, seval, S.k, hn1]
      refine CallP.fn (ident_Name lb.val w1) ?_; rintro _ w1 ⟨rfl, x⟩; replace S := S.ext x; simp -dsimp only [go_sem, seval, S.k]
      cases hn2 : nameB lb.val
      · simp -dsimp only [go_sem, seval, S.k, hn2]
        refine ⟨congrArg Value.bool ?_, S.eff⟩
        simp [labelsB, h4, ← hs, hn2]
      by_cases h0 : k = 0
      · have hd0 : decide ((0 : Int) < (k : Int)) = false := by simp; omega
        simp -dsimp only [go_sem, seval, S.k, hn2, hd0, wr_succ (show k < 140737488355328 by omega)]
        refine ⟨(k + 1, lb.key), by simp; omega, (by repeat (first | exact Sub.nil _ | refine Sub.cons rfl ?_)), by simp; omega, ?_, S.tail⟩
        simpa [hn1, hn2, h0] using hs
      · have hd0 : decide ((0 : Int) < (k : Int)) = true := by simp; omega
        cases hle : sle lb.key last
        · simp -dsimp only [go_sem, seval, S.k, hn2, hd0, hle, wr_succ (show k < 140737488355328 by omega)]
          refine ⟨(k + 1, lb.key), by simp; omega, (by repeat (first | exact Sub.nil _ | refine Sub.cons rfl ?_)), by simp; omega, ?_, S.tail⟩
          simpa [hn1, hn2, h0, hle] using hs
        · simp -dsimp only [go_sem, seval, S.k, hn2, hd0, hle]
          refine ⟨congrArg Value.bool ?_, S.eff⟩
          simp [labelsB, h4, ← hs, hle, h0]
    · have hk' : k = l.length := by omega
      subst hk'
      have hd : decide (((l.length : Nat) : Int) < (l.length : Int)) = false := by simp
      rw [List.drop_length] at hs
      simp -dsimp only [go_sem, seval, S.k, hd]
      refine ⟨congrArg Value.bool ?_, S.eff⟩
      simp [labelsB, h4, ← hs, lblFrom]
  · have hd : decide ((4 : Int) < (l.length : Int)) = true := by simp; omega
    refine Fnc.enterW Tryz.func125 (by kernel_rfl) rfl rfl (Nat.le_of_ble_eq_true rfl) Tryz.results125 ?_; have S := St.start (fun _ => False) w; simp -dsimp only [go_sem, seval]
    simp -dsimp only [go_sem, seval, S.k, hd]
    refine ⟨congrArg Value.bool ?_, S.eff⟩
    simp [labelsB, h4]
end Go.Proofs
