/-
The contracts of package pack: numbers and texts as bytes.
-/
import Derived.Test.YtaldohdkfggkiaaGreatC04
set_option linter.unusedVariables false
set_option linter.unusedSimpArgs false
set_option linter.unusedSectionVars false
set_option linter.unnecessarySimpa false
namespace Go.Proofs
open Go.Ig
set_option linter.unusedSimpArgs false
set_option linter.unusedVariables false
attribute [local go_sem] fdiv_nat min_8

abbrev SlB (w : World) (v : Value) (l : List UInt8) : Prop := Sl w 5 1 v (bR l)
abbrev NwB (w w' : World) (v : Value) (l : List UInt8) : Prop := Nw 5 1 w w' v (bR l)

theorem one_bR (l : List UInt8) : ∀ r ∈ bR l, ∀ u ∈ r, u.oneCell' = true := by
  intro r hr u hu
  obtain ⟨b, _, rfl⟩ := List.mem_map.1 hr
  simp at hu; subst hu; rfl

theorem pack_own (v : Value) (l : List UInt8) (w : World) (h : SlB w v l) (hl : l.length ≤ 1099511627776) : Fnc Tryz.prog 31 [v] w fun u w' => NwB w w' u l := by
  obtain ⟨a, c, rfl, hc, hsm⟩ := h.formM
  refine Fnc.enterW Tryz.func31 (by kernel_rfl) rfl rfl (Nat.le_of_ble_eq_true rfl) Tryz.results31 ?_; have S := St.start (fun _ => False) w; simp -dsimp only [go_sem, seval]
  have e : IntKind.i64.wrap ((l.length : Int) + 9) = (l.length : Int) + 9 := wr_i64 (by omega) (by omega)
  simp -dsimp only [go_sem, seval, S.k, e]
  refine RunP.make (0) (l.length + 9) S Tryz.elF52 Tryz.zeroL5 ?_ ?_ ?_ ?_ ?_; (iterate 2 (first | rfl | simp)); (iterate 2 omega); intro b1 w1 hz1 hm1 S; simp -dsimp only [go_sem, seval, S.k]
  refine RunP.append' (M1 := []) S Tryz.elF52 (Bf.made hz1 hm1) ((h.ext S.eff).src Tryz.underlying52) (one_bR l) ?_ ?_; (first | omega | (simp; done) | (simp; omega)); intro v1 B1 w1 hb1 S; simp only [List.cons_append, List.nil_append, List.append_nil, List.append_assoc] at S; simp -dsimp only [go_sem, seval, S.k]
  exact ⟨B1, by simpa using hb1, S⟩

set_option maxHeartbeats 4000000 in
theorem pack_Put (v : Value) (l : List UInt8) (n : Nat) (hn : n < 2 ^ 64) (w : World) (h : SlB w v l) (hl : l.length ≤ 1099511627776) : Fnc Tryz.prog 21 [v, .int .u64 n] w fun u w' => NwB w w' u (l ++ putN n) := by
  have h8 := nby_le hn
  have hb := blen_mono hn
  have e1 : IntKind.i64.wrap ((blen n : Int) + 7) = (blen n : Int) + 7 := wr_i64 (by omega) (by omega)
  have e2 : IntKind.i64.wrap (((blen n : Int) + 7).tdiv 8) = (nby n : Int) := by
    rw [Int.tdiv_eq_ediv_of_nonneg (by omega), wr_i64 (by omega) (by omega)]; unfold nby; omega
  have e3 : IntKind.u8.wrap (nby n : Int) = (nby n : Int) := wr_u8 (by omega) (by omega)
  have e5 : (nby n : Int) % 256 = nby n := by omega
  have e4 : IntKind.i64.wrap ((nby n : Int) - 1) = (nby n : Int) - 1 := wr_i64 (by omega) (by omega)
  refine Fnc.enterW Tryz.func21 (by kernel_rfl) rfl rfl (Nat.le_of_ble_eq_true rfl) Tryz.results21 ?_; have S := St.start (fun _ => False) w; simp -dsimp only [go_sem, seval]
  refine CallP.fn (bits_Len64 n hn w) ?_; rintro _ w1 ⟨rfl, x⟩; replace S := S.ext x; simp -dsimp only [go_sem, seval, S.k]
  refine CallP.fn (pack_own v l w1 (h.ext S.eff) hl) ?_; rintro v1 w1 ⟨B1, hb1, x⟩; replace S := S.join x; simp only [List.cons_append, List.nil_append, List.append_nil, List.append_assoc] at S; simp -dsimp only [go_sem, seval, S.k]
  simp -dsimp only [go_sem, seval, S.k, e1, e2, e3]
  refine RunP.lit S Tryz.elF52 Tryz.zeroL5 (by decide) rfl fun b1 w1 S => ?_; simp -dsimp only [go_sem, seval, List.replicate_succ, List.replicate_zero, List.flatten_cons, List.flatten_nil] at S; simp -dsimp only [go_sem, seval, S.k]
  refine RunP.appendLit (M1 := []) S (bR [(nby n).toUInt8]) Tryz.elF52 (hb1) (by simp) (by simp [e5]) (by simp) (one_bR _) ?_ ?_; (first | omega | (simp; done) | (simp; omega)); intro v1 B1 w1 hb1 S; simp only [List.cons_append, List.nil_append, List.append_nil, List.append_assoc] at S; simp -dsimp only [go_sem, seval, S.k]
  simp -dsimp only [go_sem, seval, S.k, e1, e2, e4]
  rw [← List.map_append] at hb1
  refine Wp.loopL (σ := Int × Nat × Value) (fun s => [(7, .int .i64 s.1), (6, s.2.2), (1, .int .u64 n)])
    (fun s w1 => s.1 = (nby n : Int) - 1 - s.2.1 ∧ s.2.1 ≤ nby n ∧ ∃ B, Bf 5 1 s.2.2 (bR (l ++ [(nby n).toUInt8] ++ (be (nby n) n).take s.2.1)) B ∧ St (fun _ => False) w w1 B)
    (fun s => nby n - s.2.1) ((nby n : Int) - 1, 0, v1) (by decide) (by repeat (first | exact Sub.nil _ | refine Sub.cons rfl ?_)) ⟨by simp, by simp, B1, by simpa using hb1, S⟩ ?_
  rintro ⟨i, j, v2⟩ w1 ⟨hi, hj, B2, hb2, S⟩
  dsimp only at hi hj hb2 S
  by_cases hlt : j < nby n
  · have d1 : decide ((0 : Int) ≤ i) = true := by simp; omega
    obtain ⟨m, hm⟩ : ∃ m : Nat, nby n - 1 - j = m := ⟨_, rfl⟩
    have hi' : i = (m : Int) := by omega
    subst hi'
    have e6 : IntKind.i64.wrap (8 * (m : Int)) = ((8 * m : Nat) : Int) := by rw [wr_i64 (by omega) (by omega)]; omega
    have e7 : min (8 * m) 64 = 8 * m := by omega
    have e8 : IntKind.u8.wrap ((n / 2 ^ (8 * m) : Nat) : Int) = ((n / 2 ^ (8 * m) % 256 : Nat) : Int) := by rw [IntKind.wrap_u8]; omega
    have e9 : IntKind.i64.wrap ((m : Int) - 1) = (m : Int) - 1 := wr_i64 (by omega) (by omega)
    have e10 : (be (nby n) n).take (j + 1) = (be (nby n) n).take j ++ [(n / 2 ^ (8 * m)).toUInt8] := by
      rw [List.take_succ_eq_append_getElem (by simpa [be_length] using hlt)]
      simp [be, hm, pow256]
    simp -dsimp only [go_sem, seval, S.k, d1, e6, Int.natCast_nonneg, Int.toNat_natCast, e7, e8]
    refine RunP.lit S Tryz.elF52 Tryz.zeroL5 (by decide) rfl fun b1 w1 S => ?_; simp -dsimp only [go_sem, seval, List.replicate_succ, List.replicate_zero, List.flatten_cons, List.flatten_nil] at S; simp -dsimp only [go_sem, seval, S.k]
    refine RunP.appendLit (M1 := []) S (bR [(n / 2 ^ (8 * m)).toUInt8]) Tryz.elF52 (hb2) (by simp) (by simp []) (by simp) (one_bR _) ?_ ?_; (first | omega | (simp; done) | (simp; omega)); intro v1 B1 w1 hb1 S; simp only [List.cons_append, List.nil_append, List.append_nil, List.append_assoc] at S; simp -dsimp only [go_sem, seval, S.k]
    rw [← List.map_append] at hb1
    simp -dsimp only [go_sem, seval, S.k, e9]
    exact ⟨((m : Int) - 1, j + 1, v1), by simp; omega, (by repeat (first | exact Sub.nil _ | refine Sub.cons rfl ?_)), by simp; omega, by dsimp only; omega, B1, by rw [e10]; simpa using hb1, S⟩
  · have hj' : j = nby n := by omega
    subst hj'
    have d1 : decide ((0 : Int) ≤ i) = false := by simp; omega
    simp -dsimp only [go_sem, seval, S.k, d1]
    refine ⟨B2, ?_, S⟩
    rw [List.take_of_length_le (by rw [be_length]; omega)] at hb2
    simpa [putN] using hb2

set_option maxHeartbeats 4000000 in
theorem pack_PutText (v : Value) (l : List UInt8) (t : Str) (w : World) (h : SlB w v l) (hl : l.length ≤ 1099511627776) (ht : t.size ≤ 1099511627776) : Fnc Tryz.prog 23 [v, .string t] w fun u w' => NwB w w' u (l ++ putT t) := by
  have e1 : IntKind.u64.wrap (t.size : Int) = (t.size : Int) := wr_u64 (by omega) (by omega)
  have h8 := nby_le (n := t.size) (by omega)
  refine Fnc.enterW Tryz.func23 (by kernel_rfl) rfl rfl (Nat.le_of_ble_eq_true rfl) Tryz.results23 ?_; have S := St.start (fun _ => False) w; simp -dsimp only [go_sem, seval]
  simp -dsimp only [go_sem, seval, S.k, e1]
  refine CallP.fn (pack_Put v l t.size (by omega) w h hl) ?_; rintro v1 w1 ⟨B1, hb1, x⟩; replace S := S.join x; simp only [List.cons_append, List.nil_append, List.append_nil, List.append_assoc] at S; simp -dsimp only [go_sem, seval, S.k]
  refine RunP.append' (M1 := []) S Tryz.elF52 hb1 (Str.src t Tryz.underlying9) ?_ ?_ ?_
  · intro r hr u hu
    obtain ⟨b, _, rfl⟩ := List.mem_map.1 hr
    simp at hu; subst hu; rfl
  · simp [strRows_len, putN, be_length]; omega
  intro v2 B2 w1 hb2 S
  simp -dsimp only [go_sem, seval, S.k]
  refine ⟨B2, ?_, S⟩
  simpa [putT, strRows] using hb2
end Go.Proofs
