/-
The contracts of pack.TakeText.
-/
import Derived.Test.YtaldohdkfggkiaaGreatC06
import Derived.Test.YtaldohdkfggkiaaGreatM2
import Derived.Laws.BytesString
set_option linter.unusedVariables false
set_option linter.unusedSimpArgs false
set_option linter.unusedSectionVars false
set_option linter.unnecessarySimpa false
namespace Go.Ig
variable {P : Program}
theorem fold_push (l : List UInt8) : ∀ r : ByteArray, (l.map fun b => (b.toNat : Int)).foldl (fun r n => r.push (UInt8.ofNat n.toNat)) r = ⟨r.data ++ l.toArray⟩ := by
  induction l with
  | nil => intro r; simp
  | cons b l ih =>
    intro r
    simp only [List.map_cons, List.foldl_cons]
    rw [ih]
    simp [ByteArray.push]

theorem Sl.str {w : World} {T : TypeId} {a : Option Addr} {n c : Nat} {l : List UInt8} (h : Sl w T 1 (.slice a n c) (bR l)) {src dst : TypeId} (hs : P.underlying src = some (.slice T)) (he : P.underlying T = some (.int .u8)) (hd : P.underlying dst = some .string) :
    (convert src dst (.slice a n c)).run P w = .ok (.string ⟨l.toArray⟩) w := by
  rw [run_convert_bytes_string w src dst T a n c hs he hd]
  obtain ⟨a', c', e, h2, h3, h4, h5⟩ := h
  cases e
  rw [List.length_map]
  have key : ∀ b, (loadCells b l.length).run P w = .ok ((l.map fun b => (b.toNat : Int)).map (Value.int .u8)).toArray w → (Conv.bytesToString (.slice (some b) l.length c)).run P w = .ok (.string ⟨l.toArray⟩) w := fun b hb => by
    rw [run_bytesToString w b l.length c _ hb, fold_push]
    simp [ByteArray.empty, ByteArray.emptyWithCapacity]; rfl
  rcases h5 with h5 | ⟨b, off, cs, fr, rfl, hb, h5⟩
  · have : l = [] := by simpa using h5
    subst this
    cases a with
    | none => simp [Conv.bytesToString]; rfl
    | some a => exact key a (by simp [loadCells, loadCellsFrom])
  · obtain ⟨T', _, hb⟩ := hb
    refine key _ ?_
    have hf : (bR l).flatten = (l.map fun b => (b.toNat : Int)).map (Value.int .u8) := by
      clear h4 h5 h2 h3 key
      induction l with
      | nil => rfl
      | cons b l ih => simpa using ih
    rw [← hf]
    have hlen : (bR l).flatten.length = l.length := by rw [flat_len (sz := 1) h4]; simp
    rw [← hlen]
    exact run_loadCells_list w _ _ fun j v hj => by
      rw [add_mk]
      exact ldC_flat (off := off) (sz := 1) hb (rows := bR l) h5 h4 j v hj

theorem takeN_ok {l : List UInt8} {at' : Int} (h : (takeN l at').2.2 = 0) : 0 ≤ at' ∧ at' < (takeN l at').2.1 ∧ (takeN l at').2.1 ≤ l.length ∧ (takeN l at').1 < 2 ^ 64 := by
  unfold takeN at *
  split at h
  · simp at h
  · rename_i hb
    rw [if_neg hb]
    cases hd : l.drop at'.toNat with
    | nil => simp [hd] at h
    | cons m rest =>
      simp only [hd] at h ⊢
      have hlen : (l.drop at'.toNat).length = rest.length + 1 := by rw [hd]; rfl
      rw [List.length_drop] at hlen
      split at h
      · simp at h
      · split at h
        · simp at h
        · split at h
          · simp at h
          · rename_i h1 h2 h3
            rw [if_neg h1, if_neg h2, if_neg h3]
            dsimp only
            have hv := val_lt m.toNat (rest.take m.toNat) (by simp; omega)
            have : 256 ^ m.toNat ≤ 256 ^ 8 := Nat.pow_le_pow_right (by omega) (by omega)
            exact ⟨by omega, by omega, by omega, by omega⟩
end Go.Ig
namespace Go.Proofs
open Go.Ig
set_option linter.unusedSimpArgs false
set_option linter.unusedVariables false

theorem pack_TakeText (v : Value) (l : List UInt8) (at' most : Int) (w : World) (h : SlB w v l) (hat : -9223372036854775808 ≤ at' ∧ at' ≤ 9223372036854775807) (hm : most ≤ 9223372036854775807) : Fnc Tryz.prog 108 [v, .int .i64 at', .int .i64 most] w fun u w' => u = .tuple #[.string (takeT l at' most).1, .int .i64 (takeT l at' most).2.1, .int .i64 (takeT l at' most).2.2] ∧ Ext w w' := by
  by_cases h0 : most < 0
  · have d0 : decide (most < 0) = true := by simp [h0]
    have ht : takeT l at' most = (.empty, 0, 1) := by rw [takeT, if_pos h0]
    rw [ht]
    refine Fnc.enterW Tryz.func108 (by kernel_rfl) rfl rfl (Nat.le_of_ble_eq_true rfl) Tryz.results108 ?_; have S := St.start (fun _ => False) w; simp -dsimp only [go_sem, seval]
    simp -dsimp only [go_sem, seval, S.k, d0]
    first | exact S.eff | exact ⟨rfl, S.eff⟩
  have d0 : decide (most < 0) = false := by simp; omega
  rw [takeT, if_neg h0]
  refine Fnc.enterW Tryz.func108 (by kernel_rfl) rfl rfl (Nat.le_of_ble_eq_true rfl) Tryz.results108 ?_; have S := St.start (fun _ => False) w; simp -dsimp only [go_sem, seval]
  simp -dsimp only [go_sem, seval, S.k, d0]
  refine CallP.fn (pack_Take v l at' w h hat) ?_; rintro _ w1 ⟨rfl, x⟩; replace S := S.ext x; simp -dsimp only [go_sem, seval, S.k]
  have hok := @takeN_ok l at'
  generalize hT : takeN l at' = T at *
  obtain ⟨n, next, e⟩ := T
  dsimp only at hok ⊢
  by_cases he : e = 0
  case neg =>
    have d1 : (e != 0) = true := by simp [he]
    rw [if_pos he]
    simp -dsimp only [go_sem, seval, S.k, d1]
    first | exact S.eff | exact ⟨rfl, S.eff⟩
  have d1 : (e != 0) = false := by simp [he]
  obtain ⟨g1, g2, g3, g4⟩ := hok he
  obtain ⟨k, rfl⟩ : ∃ k : Nat, next = k := ⟨next.toNat, by omega⟩
  have e1 : IntKind.u64.wrap most = most := wr_u64 (by omega) (by omega)
  obtain ⟨a, c, rfl, hc, hsm⟩ := h.formM
  have e2 : IntKind.i64.wrap ((l.length : Int) - k) = (l.length : Int) - k := wr_i64 (by omega) (by omega)
  have e3 : IntKind.u64.wrap ((l.length : Int) - k) = (l.length : Int) - k := wr_u64 (by omega) (by omega)
  rw [if_neg (by simp [he])]
  by_cases h2 : most < n
  case pos =>
    have d2 : decide (most < (n : Int)) = true := by simp [h2]
    rw [if_pos h2]
    simp -dsimp only [go_sem, seval, S.k, d1, e1, d2]
    first | exact S.eff | exact ⟨rfl, S.eff⟩
  have d2 : decide (most < (n : Int)) = false := by simp; omega
  rw [if_neg h2]
  by_cases h3 : (l.length : Int) - k < n
  case pos =>
    have d3 : decide ((l.length : Int) - k < (n : Int)) = true := by simp [h3]
    rw [if_pos h3]
    simp -dsimp only [go_sem, seval, S.k, d1, e1, d2, e2, e3, d3]
    first | exact S.eff | exact ⟨rfl, S.eff⟩
  have d3 : decide ((l.length : Int) - k < (n : Int)) = false := by simp; omega
  rw [if_neg h3]
  have e4 : IntKind.i64.wrap (n : Int) = n := wr_i64 (by omega) (by omega)
  have e5 : IntKind.i64.wrap ((k : Int) + n) = ((k + n : Nat) : Int) := by rw [wr_i64 (by omega) (by omega)]; omega
  obtain ⟨i, hi, hi1⟩ := infoB
  obtain ⟨a1, s1, h1⟩ := Sl.sub h Tryz.underlying52 hi hi1 (lo := k) (hi := k + n) (by omega) (by simp; omega) (l := some (.int .i64 k)) (u := some (.int .i64 ((k + n : Nat) : Int))) (fun q hq => by simp [bndV]; omega) (by simp [bndV]; omega)
  have hrow : ((bR l).drop k).take (k + n - k) = bR ((l.drop k).take n) := by
    rw [Nat.add_sub_cancel_left, ← List.map_drop, ← List.map_take]
  rw [hrow] at h1
  simp -dsimp only [go_sem, seval, S.k, d1, e1, d2, e2, e3, d3, e4, e5, s1]
  refine RunP.same (Sl.str (h1.ext S.eff) Tryz.underlying52 Tryz.underlying5 Tryz.underlying9) ?_
  simp -dsimp only [go_sem, seval, S.k, e5, e4]
  refine ⟨?_, S.eff⟩
  simp
end Go.Proofs
