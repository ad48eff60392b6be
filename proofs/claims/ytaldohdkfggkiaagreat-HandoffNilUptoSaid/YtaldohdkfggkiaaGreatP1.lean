/-
What arguments read as: steps of layer 22.
-/
import Derived.Test.YtaldohdkfggkiaaGreatE12
import Derived.Test.YtaldohdkfggkiaaGreatRows
import Derived.ProofKit
import Derived.OpenShut
import Derived.JoinedCond
import Derived.Carry
set_option linter.unusedVariables false
set_option linter.unusedSimpArgs false
set_option linter.unusedSectionVars false
set_option linter.unnecessarySimpa false
namespace Go.Ig
open Go.ChangeShapes Go.WideShapes Go.ChangeAt Go.RowKit
section
variable {H : Type} {enc : TypeId × Value → H} {P : Program} {w : World} {base : Nat} {spare : Nat → Bool} {held : Bool}
/-- Cells of type t read as a datum. -/
def RD (enc : TypeId × Value → H) (P : Program) (w : World) (base : Nat) (spare : Nat → Bool) (held : Bool) (t : TypeId) (cs : List Value) (d : DataW H) : Prop := ∃ n ps, DataW.trod enc P w base spare held n t cs = some (d, ps)
theorem RD.struct {t : TypeId} {fs : Array Field} {cs : List Value} {d : DataW H} (ht : P.underlying t = some (.struct fs)) (h : RD enc P w base spare held t cs d) :
    ∃ ds, d = .agg ds ∧ cs.length = P.cellsOf t ∧ ds.length = fs.size ∧ ∀ (i : Nat) f, fs[i]? = some f → ∃ di, ds[i]? = some di ∧ RD enc P w base spare held f.type ((cs.drop f.offset).take (P.cellsOf f.type)) di := by
  obtain ⟨n, ps, h⟩ := h
  obtain ⟨xs, m, _, hx, hl, hlen, hf⟩ := DataW.trod_struct ht h
  cases hx
  refine ⟨_, rfl, hl, by simpa using hlen, fun i f hi => ?_⟩
  have hi' : i < xs.length := by
    rw [hlen]; exact (Array.getElem?_eq_some_iff.1 hi).1
  refine ⟨xs[i].1, by simp [hi'], m, xs[i].2, ?_⟩
  rw [hf i f hi]; simp [hi']
theorem RD.structL {t : TypeId} {fs : Array Field} {cs : List Value} {d : DataW H} {s : Nat} (L : List (TypeId × Nat × Nat)) (ht : P.underlying t = some (.struct fs)) (hL : fs.toList.map (fun f => (f.type, f.offset, P.cellsOf f.type)) = L) (hs : P.cellsOf t = s) (h : RD enc P w base spare held t cs d) :
    ∃ ds, d = .agg ds ∧ cs.length = s ∧ ds.length = L.length ∧ ∀ (i : Nat) x, L[i]? = some x → ∃ di, ds[i]? = some di ∧ RD enc P w base spare held x.1 ((cs.drop x.2.1).take x.2.2) di := by
  obtain ⟨ds, h1, h2, h3, h4⟩ := h.struct ht
  subst hL
  refine ⟨ds, h1, by rw [h2, hs], by simpa using h3, fun i x hx => ?_⟩
  rw [List.getElem?_map, Option.map_eq_some_iff] at hx
  obtain ⟨f, hf, rfl⟩ := hx
  exact h4 i f (by simpa using hf)
theorem RD.arrayL {t e : TypeId} {k s z : Nat} {cs : List Value} {d : DataW H} (ht : P.underlying t = some (.array k e)) (hs : P.cellsOf t = s) (hz : P.cellsOf e = z) (h : RD enc P w base spare held t cs d) :
    ∃ ds, d = .agg ds ∧ cs.length = s ∧ ds.length = k ∧ ∀ i, i < k → ∃ di, ds[i]? = some di ∧ RD enc P w base spare held e ((cs.drop (i * z)).take z) di := by
  subst hs; subst hz
  obtain ⟨n, ps, h⟩ := h
  obtain ⟨xs, m, _, hx, hl, hlen, hf⟩ := DataW.trod_array ht h
  cases hx
  refine ⟨_, rfl, hl, by simpa using hlen, fun i hi => ?_⟩
  have hi' : i < xs.length := by omega
  refine ⟨xs[i].1, by simp [hi'], m, xs[i].2, ?_⟩
  rw [hf i hi]; simp [hi']
theorem RD.string {t : TypeId} {cs : List Value} {d : DataW H} (ht : P.underlying t = some .string) (h : RD enc P w base spare held t cs d) : ∃ s : ByteArray, cs = [.string s] ∧ d = .lit (.string s.data.toList) := by
  obtain ⟨n, ps, h⟩ := h
  obtain ⟨s, h1, h2, _⟩ := DataW.trod_string ht h
  cases h2
  exact ⟨s, h1, rfl⟩
theorem RD.int {t : TypeId} {k : IntKind} {cs : List Value} {d : DataW H} (ht : P.underlying t = some (.int k)) (h : RD enc P w base spare held t cs d) : ∃ n, cs = [.int k n] := by
  obtain ⟨n, ps, h⟩ := h
  obtain ⟨s, h1, h2, _⟩ := DataW.trod_int ht h
  exact ⟨s, h1⟩
theorem RD.slice {t e : TypeId} {cs : List Value} {d : DataW H} (ht : P.underlying t = some (.slice e)) (h : RD enc P w base spare held t cs d) : ∃ a n c, cs = [.slice a n c] := by
  obtain ⟨n, ps, h⟩ := h
  rcases DataW.trod_slice ht h with ⟨h, _⟩ | ⟨a, len, cap, _, _, _, _, h, _⟩
  · exact ⟨_, _, _, h⟩
  · exact ⟨_, _, _, h⟩
theorem cut {α : Type} (cs : List α) (o k : Nat) : cs.drop o = (cs.drop o).take k ++ cs.drop (o + k) := by
  rw [← List.drop_drop, List.take_append_drop]
end
end Go.Ig
namespace Go.Proofs.YtaldohdkfggkiaaGreat
open Go.Ig Go.Proofs Go.ChangeShapes Go.WideShapes Go.ChangeAt Go.RowKit
section
variable {H : Type} {enc : TypeId × Value → H} {w : World} {base : Nat} {spare : Nat → Bool} {held : Bool}
theorem rd_string {cs : List Value} {d : DataW H} (h : RD enc Tryz.prog w base spare held 9 cs d) : ∃ s : ByteArray, cs = [.string s] ∧ Rows.uptoBulk d = s.size + 1 := by
  obtain ⟨s, h1, rfl⟩ := RD.string Tryz.underlying9 h
  exact ⟨s, h1, by simp only [Rows.uptoBulk, Array.length_toList]; rfl⟩
theorem rd_int {cs : List Value} {d : DataW H} (h : RD enc Tryz.prog w base spare held 3 cs d) : ∃ n, cs = [.int .i64 n] := RD.int Tryz.underlying3 h
theorem rd_res {cs : List Value} {d : DataW H} (h : RD enc Tryz.prog w base spare held 23 cs d) : ∃ r : R3, cs = [.int .i64 r.a, .int .i64 r.b, .int .i64 r.c] := by
  obtain ⟨ds, rfl, hl, hd, hf⟩ := RD.arrayL (s := 3) (z := 1) Tryz.underlying23 (by kernel_rfl) (by kernel_rfl) h
  obtain ⟨_, _, h0⟩ := hf 0 (by omega)
  obtain ⟨_, _, h1⟩ := hf 1 (by omega)
  obtain ⟨_, _, h2⟩ := hf 2 (by omega)
  obtain ⟨a, h0⟩ := rd_int h0
  obtain ⟨b, h1⟩ := rd_int h1
  obtain ⟨c, h2⟩ := rd_int h2
  refine ⟨⟨a, b, c⟩, ?_⟩
  have e0 := cut cs 0 1
  have e1 := cut cs 1 1
  have e2 := cut cs 2 1
  rw [List.drop_zero] at e0
  simp only [Nat.zero_mul, Nat.one_mul, Nat.zero_add, Nat.reduceMul, Nat.reduceAdd, List.drop_zero] at h0 h1 h2 e0 e1 e2
  have e3 : cs.drop 3 = [] := List.drop_eq_nil_of_le (by omega)
  rw [h2, e3] at e2; rw [h1, e2] at e1; rw [h0, e1] at e0
  exact e0
theorem rd_labels {cs : List Value} {d : DataW H} (h : RD enc Tryz.prog w base spare held 24 cs d) : ∃ (a : Option Addr) (l : List Lbl) (c : Nat), cs = [.slice a l.length c] := by
  obtain ⟨a, n, c, h⟩ := RD.slice Tryz.underlying24 h
  exact ⟨a, List.replicate n ⟨.empty, .empty⟩, c, by rw [List.length_replicate]; exact h⟩
theorem rd_node {cs : List Value} {d : DataW H} (h : RD enc Tryz.prog w base spare held 26 cs d) : ∃ x : Nd, cs = x.cs ∧ x.name.size ≤ Rows.uptoBulk d := by
  obtain ⟨ds, rfl, hl, hd, hf⟩ := RD.structL (s := 5) [(9, 0, 1), (23, 1, 3), (24, 4, 1)] Tryz.underlying26 (by kernel_rfl) (by kernel_rfl) h
  obtain ⟨d0, g0, h0⟩ := hf 0 _ rfl
  obtain ⟨d1, g1, h1⟩ := hf 1 _ rfl
  obtain ⟨d2, g2, h2⟩ := hf 2 _ rfl
  dsimp only at h0 h1 h2
  obtain ⟨x0, h0, b0⟩ := rd_string h0
  obtain ⟨x1, h1⟩ := rd_res h1
  obtain ⟨x2, y2, z2, h2⟩ := rd_labels h2
  have f3 : cs.drop 5 = [] := List.drop_eq_nil_of_le (by omega)
  have f2 := cut cs 4 1
  rw [h2, show 4 + 1 = 5 from rfl, f3] at f2
  have f1 := cut cs 1 3
  rw [h1, show 1 + 3 = 4 from rfl, f2] at f1
  have f0 := cut cs 0 1
  rw [h0, show 0 + 1 = 1 from rfl, f1] at f0
  rw [List.drop_zero] at f0
  obtain ⟨q0, q1, q2, rfl⟩ : ∃ q0 q1 q2, ds = [q0, q1, q2] := by
    match ds, hd with
    | [a0, a1, a2], _ => exact ⟨a0, a1, a2, rfl⟩
  simp only [List.getElem?_cons_zero, List.getElem?_cons_succ, Option.some.injEq] at g0 g1 g2
  subst g0 g1 g2
  refine ⟨⟨x0, x1, x2, z2, y2⟩, f0, ?_⟩
  simp only [Rows.uptoBulk, Rows.uptoBulkAll] at *; omega
theorem rd_queue {cs : List Value} {d : DataW H} (h : RD enc Tryz.prog w base spare held 28 cs d) : ∃ x : Qu, cs = x.cs ∧ x.name.size ≤ Rows.uptoBulk d := by
  obtain ⟨ds, rfl, hl, hd, hf⟩ := RD.structL (s := 4) [(9, 0, 1), (23, 1, 3)] Tryz.underlying28 (by kernel_rfl) (by kernel_rfl) h
  obtain ⟨d0, g0, h0⟩ := hf 0 _ rfl
  obtain ⟨d1, g1, h1⟩ := hf 1 _ rfl
  dsimp only at h0 h1
  obtain ⟨x0, h0, b0⟩ := rd_string h0
  obtain ⟨x1, h1⟩ := rd_res h1
  have f2 : cs.drop 4 = [] := List.drop_eq_nil_of_le (by omega)
  have f1 := cut cs 1 3
  rw [h1, show 1 + 3 = 4 from rfl, f2] at f1
  have f0 := cut cs 0 1
  rw [h0, show 0 + 1 = 1 from rfl, f1] at f0
  rw [List.drop_zero] at f0
  obtain ⟨q0, q1, rfl⟩ : ∃ q0 q1, ds = [q0, q1] := by
    match ds, hd with
    | [a0, a1], _ => exact ⟨a0, a1, rfl⟩
  simp only [List.getElem?_cons_zero, List.getElem?_cons_succ, Option.some.injEq] at g0 g1
  subst g0 g1
  refine ⟨⟨x0, x1⟩, f0, ?_⟩
  simp only [Rows.uptoBulk, Rows.uptoBulkAll] at *; omega
theorem rd_task {cs : List Value} {d : DataW H} (h : RD enc Tryz.prog w base spare held 30 cs d) : ∃ x : Tk, cs = x.cs ∧ x.name.size + x.queue.size + x.apart.size + x.gang.size ≤ Rows.uptoBulk d := by
  obtain ⟨ds, rfl, hl, hd, hf⟩ := RD.structL (s := 10) [(9, 0, 1), (9, 1, 1), (3, 2, 1), (23, 3, 3), (24, 6, 1), (9, 7, 1), (9, 8, 1), (3, 9, 1)] Tryz.underlying30 (by kernel_rfl) (by kernel_rfl) h
  obtain ⟨d0, g0, h0⟩ := hf 0 _ rfl
  obtain ⟨d1, g1, h1⟩ := hf 1 _ rfl
  obtain ⟨d2, g2, h2⟩ := hf 2 _ rfl
  obtain ⟨d3, g3, h3⟩ := hf 3 _ rfl
  obtain ⟨d4, g4, h4⟩ := hf 4 _ rfl
  obtain ⟨d5, g5, h5⟩ := hf 5 _ rfl
  obtain ⟨d6, g6, h6⟩ := hf 6 _ rfl
  obtain ⟨d7, g7, h7⟩ := hf 7 _ rfl
  dsimp only at h0 h1 h2 h3 h4 h5 h6 h7
  obtain ⟨x0, h0, b0⟩ := rd_string h0
  obtain ⟨x1, h1, b1⟩ := rd_string h1
  obtain ⟨x2, h2⟩ := rd_int h2
  obtain ⟨x3, h3⟩ := rd_res h3
  obtain ⟨x4, y4, z4, h4⟩ := rd_labels h4
  obtain ⟨x5, h5, b5⟩ := rd_string h5
  obtain ⟨x6, h6, b6⟩ := rd_string h6
  obtain ⟨x7, h7⟩ := rd_int h7
  have f8 : cs.drop 10 = [] := List.drop_eq_nil_of_le (by omega)
  have f7 := cut cs 9 1
  rw [h7, show 9 + 1 = 10 from rfl, f8] at f7
  have f6 := cut cs 8 1
  rw [h6, show 8 + 1 = 9 from rfl, f7] at f6
  have f5 := cut cs 7 1
  rw [h5, show 7 + 1 = 8 from rfl, f6] at f5
  have f4 := cut cs 6 1
  rw [h4, show 6 + 1 = 7 from rfl, f5] at f4
  have f3 := cut cs 3 3
  rw [h3, show 3 + 3 = 6 from rfl, f4] at f3
  have f2 := cut cs 2 1
  rw [h2, show 2 + 1 = 3 from rfl, f3] at f2
  have f1 := cut cs 1 1
  rw [h1, show 1 + 1 = 2 from rfl, f2] at f1
  have f0 := cut cs 0 1
  rw [h0, show 0 + 1 = 1 from rfl, f1] at f0
  rw [List.drop_zero] at f0
  obtain ⟨q0, q1, q2, q3, q4, q5, q6, q7, rfl⟩ : ∃ q0 q1 q2 q3 q4 q5 q6 q7, ds = [q0, q1, q2, q3, q4, q5, q6, q7] := by
    match ds, hd with
    | [a0, a1, a2, a3, a4, a5, a6, a7], _ => exact ⟨a0, a1, a2, a3, a4, a5, a6, a7, rfl⟩
  simp only [List.getElem?_cons_zero, List.getElem?_cons_succ, Option.some.injEq] at g0 g1 g2 g3 g4 g5 g6 g7
  subst g0 g1 g2 g3 g4 g5 g6 g7
  refine ⟨⟨x0, x1, x2, x3, x4, z4, y4, x5, x6, x7⟩, f0, ?_⟩
  simp only [Rows.uptoBulk, Rows.uptoBulkAll] at *; omega
theorem rd_op {cs : List Value} {d : DataW H} (h : RD enc Tryz.prog w base spare held 32 cs d) : ∃ x : Opn, cs = x.cs ∧ x.len ≤ Rows.uptoBulk d := by
  obtain ⟨ds, rfl, hl, hd, hf⟩ := RD.structL (s := 21) [(3, 0, 1), (26, 1, 5), (28, 6, 4), (30, 10, 10), (9, 20, 1)] Tryz.underlying32 (by kernel_rfl) (by kernel_rfl) h
  obtain ⟨d0, g0, h0⟩ := hf 0 _ rfl
  obtain ⟨d1, g1, h1⟩ := hf 1 _ rfl
  obtain ⟨d2, g2, h2⟩ := hf 2 _ rfl
  obtain ⟨d3, g3, h3⟩ := hf 3 _ rfl
  obtain ⟨d4, g4, h4⟩ := hf 4 _ rfl
  dsimp only at h0 h1 h2 h3 h4
  obtain ⟨x0, h0⟩ := rd_int h0
  obtain ⟨x1, h1, b1⟩ := rd_node h1
  obtain ⟨x2, h2, b2⟩ := rd_queue h2
  obtain ⟨x3, h3, b3⟩ := rd_task h3
  obtain ⟨x4, h4, b4⟩ := rd_string h4
  have f5 : cs.drop 21 = [] := List.drop_eq_nil_of_le (by omega)
  have f4 := cut cs 20 1
  rw [h4, show 20 + 1 = 21 from rfl, f5] at f4
  have f3 := cut cs 10 10
  rw [h3, show 10 + 10 = 20 from rfl, f4] at f3
  have f2 := cut cs 6 4
  rw [h2, show 6 + 4 = 10 from rfl, f3] at f2
  have f1 := cut cs 1 5
  rw [h1, show 1 + 5 = 6 from rfl, f2] at f1
  have f0 := cut cs 0 1
  rw [h0, show 0 + 1 = 1 from rfl, f1] at f0
  rw [List.drop_zero] at f0
  obtain ⟨q0, q1, q2, q3, q4, rfl⟩ : ∃ q0 q1 q2 q3 q4, ds = [q0, q1, q2, q3, q4] := by
    match ds, hd with
    | [a0, a1, a2, a3, a4], _ => exact ⟨a0, a1, a2, a3, a4, rfl⟩
  simp only [List.getElem?_cons_zero, List.getElem?_cons_succ, Option.some.injEq] at g0 g1 g2 g3 g4
  subst g0 g1 g2 g3 g4
  refine ⟨⟨x0, x1, x2, x3, x4⟩, f0, ?_⟩
  simp only [Opn.len, Rows.uptoBulk, Rows.uptoBulkAll] at *; omega
theorem rd_step {cs : List Value} {d : DataW H} (h : RD enc Tryz.prog w base spare held 34 cs d) : ∃ x : Stp, cs = x.cs ∧ x.o.len ≤ Rows.uptoBulk d := by
  obtain ⟨ds, rfl, hl, hd, hf⟩ := RD.structL (s := 22) [(3, 0, 1), (32, 1, 21)] Tryz.underlying34 (by kernel_rfl) (by kernel_rfl) h
  obtain ⟨d0, g0, h0⟩ := hf 0 _ rfl
  obtain ⟨d1, g1, h1⟩ := hf 1 _ rfl
  dsimp only at h0 h1
  obtain ⟨x0, h0⟩ := rd_int h0
  obtain ⟨x1, h1, b1⟩ := rd_op h1
  have f2 : cs.drop 22 = [] := List.drop_eq_nil_of_le (by omega)
  have f1 := cut cs 1 21
  rw [h1, show 1 + 21 = 22 from rfl, f2] at f1
  have f0 := cut cs 0 1
  rw [h0, show 0 + 1 = 1 from rfl, f1] at f0
  rw [List.drop_zero] at f0
  obtain ⟨q0, q1, rfl⟩ : ∃ q0 q1, ds = [q0, q1] := by
    match ds, hd with
    | [a0, a1], _ => exact ⟨a0, a1, rfl⟩
  simp only [List.getElem?_cons_zero, List.getElem?_cons_succ, Option.some.injEq] at g0 g1
  subst g0 g1
  refine ⟨⟨x0, x1⟩, f0, ?_⟩
  simp only [Rows.uptoBulk, Rows.uptoBulkAll] at *; omega
end
end Go.Proofs.YtaldohdkfggkiaaGreat
