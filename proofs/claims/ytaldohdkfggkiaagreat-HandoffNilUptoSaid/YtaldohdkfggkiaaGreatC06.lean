/-
The contracts of package pack: what is taken.
-/
import Derived.Test.YtaldohdkfggkiaaGreatC05
set_option linter.unusedVariables false
set_option linter.unusedSimpArgs false
set_option linter.unusedSectionVars false
set_option linter.unnecessarySimpa false
namespace Go.Proofs
open Go.Ig
set_option linter.unusedSimpArgs false
set_option linter.unusedVariables false

theorem infoB : ∃ i, Tryz.prog.info? 5 = some i ∧ i.size = 1 := by
  obtain ⟨_, i, z, h, _, h2, _⟩ := elF_facts Tryz.elF52
  exact ⟨i, h, h2⟩

set_option maxHeartbeats 4000000 in
theorem pack_Take (v : Value) (l : List UInt8) (at' : Int) (w : World) (h : SlB w v l) (hat : -9223372036854775808 ≤ at' ∧ at' ≤ 9223372036854775807) : Fnc Tryz.prog 70 [v, .int .i64 at'] w fun u w' => u = .tuple #[.int .u64 (takeN l at').1, .int .i64 (takeN l at').2.1, .int .i64 (takeN l at').2.2] ∧ Ext w w' := by
  obtain ⟨a, c, rfl, hc, hsm⟩ := h.formM
  obtain ⟨i, hi, hi1⟩ := infoB
  by_cases hbad : at' < 0 ∨ (l.length : Int) < at'
  · have ht : takeN l at' = (0, 0, 1) := by simp [takeN, hbad]
    rw [ht]
    by_cases h0 : at' < 0
    · have d0 : decide (at' < 0) = true := by simp [h0]
      refine Fnc.enterW Tryz.func70 (by kernel_rfl) rfl rfl (Nat.le_of_ble_eq_true rfl) Tryz.results70 ?_; have S := St.start (fun _ => False) w; simp -dsimp only [go_sem, seval]
      simp -dsimp only [go_sem, seval, S.k, d0]
      first | exact S.eff | exact ⟨rfl, S.eff⟩
    · have d0 : decide (at' < 0) = false := by simp; omega
      have d1 : decide ((l.length : Int) < at') = true := by simp; omega
      refine Fnc.enterW Tryz.func70 (by kernel_rfl) rfl rfl (Nat.le_of_ble_eq_true rfl) Tryz.results70 ?_; have S := St.start (fun _ => False) w; simp -dsimp only [go_sem, seval]
      simp -dsimp only [go_sem, seval, S.k, d0, d1]
      first | exact S.eff | exact ⟨rfl, S.eff⟩
  obtain ⟨k, rfl⟩ : ∃ k : Nat, at' = k := ⟨at'.toNat, by omega⟩
  have hk : k ≤ l.length := by omega
  have d0 : decide ((k : Int) < 0) = false := by simp
  have d1 : decide ((l.length : Int) < (k : Int)) = false := by simp; omega
  obtain ⟨a1, s1, h1⟩ := Sl.sub h Tryz.underlying52 hi hi1 (lo := k) (hi := l.length) hk (by simp) (l := some (.int .i64 k)) (u := none) (fun q hq => by simp [bndV]; omega) (by simp [bndV])
  have hrow : (List.take (l.length - k) (List.drop k (bR l))) = bR (l.drop k) := by
    rw [← List.map_drop, List.take_of_length_le (by simp)]
  have hln : l.length - k = (l.drop k).length := by simp
  rw [hrow, hln] at h1
  rw [hln] at s1
  have htk : takeN l k = match l.drop k with
    | [] => (0, 0, 2)
    | m :: rest =>
      if 8 < m.toNat then (0, 0, 3)
      else if rest.length < m.toNat then (0, 0, 2)
      else if 0 < m.toNat ∧ rest.head? = some 0 then (0, 0, 3)
      else (val (rest.take m.toNat), (k : Int) + m.toNat + 1, 0) := by
    unfold takeN
    rw [if_neg hbad]
    rfl
  rw [htk]
  have hrl : (l.drop k).length ≤ l.length := by simp
  generalize l.drop k = r at *
  cases r with
  | nil =>
    refine Fnc.enterW Tryz.func70 (by kernel_rfl) rfl rfl (Nat.le_of_ble_eq_true rfl) Tryz.results70 ?_; have S := St.start (fun _ => False) w; simp -dsimp only [go_sem, seval]
    simp -dsimp only [go_sem, seval, S.k, d0, d1, s1]
    first | exact S.eff | exact ⟨rfl, S.eff⟩
  | cons m rest =>
    have hm := m.toNat_lt
    have g1 : (((rest.length + 1 : Nat) : Int) == 0) = false := by simp; omega
    simp only [List.length_cons] at s1 h1
    obtain ⟨p, hp, hl0⟩ := h1.at Tryz.elL52 (i := 0) (r := [.int .u8 m.toNat]) (by simp)
    replace hp : idxA Tryz.prog 52 (.slice a1 (rest.length + 1) (c - k)) (.int .i64 0) = some (.pointer (some p)) := hp
    have e0 : IntKind.i64.wrap (m.toNat : Int) = m.toNat := wr_i64 (by omega) (by omega)
    dsimp only
    by_cases c1 : 8 < m.toNat
    · have d2 : decide ((8 : Int) < m.toNat) = true := by simp; omega
      refine Fnc.enterW Tryz.func70 (by kernel_rfl) rfl rfl (Nat.le_of_ble_eq_true rfl) Tryz.results70 ?_; have S := St.start (fun _ => False) w; simp -dsimp only [go_sem, seval]
      simp -dsimp only [go_sem, seval, S.k, d0, d1, s1, List.length_cons, g1, hp, hl0, e0, d2]
      rw [if_pos c1]
      first | exact S.eff | exact ⟨rfl, S.eff⟩
    have d2 : decide ((8 : Int) < m.toNat) = false := by simp; omega
    rw [if_neg c1]
    by_cases c2 : rest.length < m.toNat
    · have d3 : decide (((rest.length + 1 : Nat) : Int) ≤ m.toNat) = true := by simp; omega
      refine Fnc.enterW Tryz.func70 (by kernel_rfl) rfl rfl (Nat.le_of_ble_eq_true rfl) Tryz.results70 ?_; have S := St.start (fun _ => False) w; simp -dsimp only [go_sem, seval]
      simp -dsimp only [go_sem, seval, S.k, d0, d1, s1, List.length_cons, g1, hp, hl0, e0, d2, d3]
      rw [if_pos c2]
      first | exact S.eff | exact ⟨rfl, S.eff⟩
    have d3 : decide (((rest.length + 1 : Nat) : Int) ≤ m.toNat) = false := by simp; omega
    rw [if_neg c2]
    have hne : 0 < m.toNat → ∃ z rest', rest = z :: rest' := fun h => by
      cases rest with
      | nil => simp at c2; omega
      | cons z r => exact ⟨z, r, rfl⟩
    by_cases c3 : 0 < m.toNat ∧ rest.head? = some 0
    · rw [if_pos c3]
      obtain ⟨z, rest', rfl⟩ := hne c3.1
      have hz : z = 0 := by simpa using c3.2
      subst hz
      have d4 : decide ((0 : Int) < m.toNat) = true := by simp; omega
      obtain ⟨q, hq, hl1⟩ := h1.at Tryz.elL52 (i := 1) (r := [.int .u8 0]) (by simp)
      replace hq : idxA Tryz.prog 52 (.slice a1 ((0 :: rest').length + 1) (c - k)) (.int .i64 1) = some (.pointer (some q)) := hq
      simp only [List.length_cons] at s1 hp hq d3 g1
      refine Fnc.enterW Tryz.func70 (by kernel_rfl) rfl rfl (Nat.le_of_ble_eq_true rfl) Tryz.results70 ?_; have S := St.start (fun _ => False) w; simp -dsimp only [go_sem, seval]
      simp -dsimp only [go_sem, seval, S.k, d0, d1, s1, List.length_cons, g1, hp, hl0, e0, d2, d3, d4, hq, hl1]
      first | exact S.eff | exact ⟨rfl, S.eff⟩
    rw [if_neg c3]
    have e1 : IntKind.i64.wrap ((m.toNat : Int) + 1) = ((m.toNat + 1 : Nat) : Int) := wr_succ (by omega)
    have e2 : IntKind.i64.wrap ((k : Int) + m.toNat) = (k : Int) + m.toNat := wr_i64 (by omega) (by omega)
    have e3 : IntKind.i64.wrap ((k : Int) + m.toNat + 1) = (k : Int) + m.toNat + 1 := wr_i64 (by omega) (by omega)
    have hck : m.toNat + 1 ≤ c - k := by
      have := hln
      simp only [List.length_cons] at this
      omega
    obtain ⟨a2, s2, h2⟩ := Sl.sub h1 Tryz.underlying52 hi hi1 (lo := 1) (hi := m.toNat + 1) (by omega) (by simp; omega) (l := some (.int .i64 1)) (u := some (.int .i64 ((m.toNat + 1 : Nat) : Int))) (fun q hq => by simp [bndV]; omega) (by simp [bndV]; omega)
    have hrow2 : ((bR (m :: rest)).drop 1).take (m.toNat + 1 - 1) = bR (rest.take m.toNat) := by simp
    rw [hrow2] at h2
    rw [Nat.add_sub_cancel] at s2 h2
    have hml : (rest.take m.toNat).length = m.toNat := by simp; omega
    by_cases c4 : m.toNat = 0
    case' pos =>
      have d4 : decide ((0 : Int) < m.toNat) = false := by simp; omega
      refine Fnc.enterW Tryz.func70 (by kernel_rfl) rfl rfl (Nat.le_of_ble_eq_true rfl) Tryz.results70 ?_; have S := St.start (fun _ => False) w; simp -dsimp only [go_sem, seval]
      simp -dsimp only [go_sem, seval, S.k, d0, d1, s1, List.length_cons, g1, hp, hl0, e0, d2, d3, d4, e1, s2]
    case' neg =>
      have d4 : decide ((0 : Int) < m.toNat) = true := by simp; omega
      obtain ⟨z, rest', hzr⟩ := hne (by omega)
      have hz : z ≠ 0 := fun e => c3 ⟨by omega, by rw [hzr, e]; rfl⟩
      have hz' : ((z.toNat : Int) == 0) = false := by
        simp only [beq_eq_false_iff_ne, ne_eq]
        exact fun e => hz (UInt8.toNat_inj.1 (by simpa using e))
      obtain ⟨q, hq, hl1⟩ := h1.at Tryz.elL52 (i := 1) (r := [.int .u8 z.toNat]) (by simp [hzr])
      replace hq : idxA Tryz.prog 52 (.slice a1 (rest.length + 1) (c - k)) (.int .i64 1) = some (.pointer (some q)) := hq
      refine Fnc.enterW Tryz.func70 (by kernel_rfl) rfl rfl (Nat.le_of_ble_eq_true rfl) Tryz.results70 ?_; have S := St.start (fun _ => False) w; simp -dsimp only [go_sem, seval]
      simp -dsimp only [go_sem, seval, S.k, d0, d1, s1, List.length_cons, g1, hp, hl0, e0, d2, d3, d4, e1, s2, hq, hl1, hz']
    all_goals
      refine Wp.loopL (σ := Nat × Nat) (fun s => [(52, .int .i64 s.1), (51, .int .i64 m.toNat), (50, .slice a2 m.toNat (c - k - 1)), (9, .int .u64 s.2), (8, .int .i64 m.toNat), (1, .int .i64 k)])
        (fun s w1 => s.1 ≤ m.toNat ∧ s.2 = val (rest.take s.1) ∧ St (fun _ => False) w w1 []) (fun s => m.toNat - s.1) (0, 0) (by decide) (by repeat (first | exact Sub.nil _ | refine Sub.cons rfl ?_)) ⟨by simp, by simp [val], S⟩ ?_
      rintro ⟨j, n⟩ w1 ⟨hj, hn, S⟩
      dsimp only at hj hn S
      by_cases hlt : j < m.toNat
      · have d5 : decide ((j : Int) < m.toNat) = true := by simp; omega
        obtain ⟨b, hb⟩ : ∃ b, rest[j]? = some b := ⟨rest[j]'(by omega), by simp⟩
        obtain ⟨q2, hq2, hl2⟩ := h2.at Tryz.elL52 (i := j) (r := [.int .u8 b.toNat]) (by simp [hlt, hb])
        have hl3 := S.eff.ld hl2 id
        have e4 : IntKind.u64.wrap (b.toNat : Int) = b.toNat := wr_u64 (by omega) (by have := b.toNat_lt; omega)
        have hv : n < 2 ^ 56 := by
          have := val_lt j (rest.take j) (by simp; omega)
          rw [← hn] at this
          have h7 : 256 ^ j ≤ 256 ^ 7 := Nat.pow_le_pow_right (by omega) (by omega)
          omega
        have e5 := or_byte' n b.toNat (by have := b.toNat_lt; omega) hv
        have hs : rest.take (j + 1) = rest.take j ++ [b] := by rw [List.take_add_one, hb]; rfl
        simp -dsimp only [go_sem, seval, S.k, d5, hq2, hl3, e4, e5, wr_succ (show j < 140737488355328 by omega)]
        exact ⟨(j + 1, n * 256 + b.toNat), by simp; omega, (by repeat (first | exact Sub.nil _ | refine Sub.cons rfl ?_)), by dsimp only; omega, by dsimp only; rw [hs, val_snoc, hn], S⟩
      · have hj' : j = m.toNat := by omega
        subst hj'
        have d5 : decide (((m.toNat : Nat) : Int) < (m.toNat : Int)) = false := by simp
        simp -dsimp only [go_sem, seval, S.k, d5, e2, e3]
        rw [hn]
        first | exact S.eff | exact ⟨rfl, S.eff⟩
end Go.Proofs
