import Derived.Test.YtaldohdkfggkiaaGreatIg3
set_option linter.unusedVariables false
set_option linter.unusedSimpArgs false
set_option linter.unusedSectionVars false
set_option linter.unnecessarySimpa false
namespace Go.Ig
section
variable {P : Program} {n : Nat}

theorem looks_map {a : Act} {L : AL} (ha : Has n a L) {xs : Array Operand} {vs : List Value} (h : looks L xs.toList = some vs) : xs.map a.eval = vs.toArray := by
  have := ha.looks h
  rw [← this]
  apply Array.ext'
  simp

theorem zip_map {a : Act} {L : AL} (ha : Has n a L) {ps : Array (Nat × Operand)} {vs : List Value} (h : looks L (ps.toList.map (·.2)) = some vs) :
    (ps.map fun (i, x) => (i, a.eval x)) = ((ps.toList.map (·.1)).zip vs).toArray := by
  have := ha.looks h
  rw [← this]
  apply Array.ext'
  simp only [Array.toList_map]
  generalize ps.toList = l
  induction l with
  | nil => rfl
  | cons p l ih => simp [ih]

theorem opt_map {a : Act} {L : AL} (ha : Has n a L) {x : Option Operand} {v : Option Value} (h : opt L x = some v) : x.map a.eval = v := by
  cases x with
  | none => simpa [opt] using h
  | some x =>
    simp only [opt, Option.map_eq_some_iff] at h
    obtain ⟨u, hu, rfl⟩ := h
    simp [ha.look hu]

theorem callable_run {f : FuncId} (h : callable P f = true) (as : Array Value) (w : World) : (callFunc f as).run P w = .ok (.enter f as) w := by
  unfold callable at h
  cases hf : P.funcs[f]? with
  | none => simp [hf] at h
  | some fn =>
    simp [hf] at h
    simp [callFunc, hf, h.1, Option.isNone_iff_eq_none, Option.isSome_iff_ne_none.1 h.2]

theorem upon_call {o : Oper} {a : Act} {K' : Act → World → Prop} {Q' : Exit → Act → World → Prop} {f : FuncId} {as : List Value} {w : World} {K : Value → World → Prop}
    (h : CallP P f as w K) (hK : ∀ v w, K v w → K' (a.put o.dst v) w) : o.upon P a K' Q' ((callFunc f as.toArray).run P w) := by
  rcases h with ⟨hc, hr⟩ | ⟨v, w', hr, hk⟩
  · rw [callable_run hc]
    exact hr.mono (fun e w' ⟨v, he, hv⟩ => by subst he; exact hK _ _ hv)
  · rw [hr]
    exact hK _ _ hk

theorem run_alloc_box (T : TypeId) (v : Value) (w : World) : (Instr.box T v).run P w = .ok (.pointer (some ⟨w.heap.size, 0, none⟩)) { w with heap := w.heap.push (.cells v.cells T) } := by
  simp [Instr.box, newVar, newRow]

theorem run_part {t : TypeId} {g : Bool} {sz off : Nat} {cs : Array Value} {c : List Value} {w : World} (h : tyL P t = some (g, sz)) (hl : sliceL cs.toList off sz = some c) :
    (part t cs off).run P w = .ok (mkV g c) w := by
  obtain ⟨i, d, hi, hd, hs, h1, h2, h3⟩ := run_tyL (w := w) h
  unfold sliceL at hl
  split at hl <;> simp at hl
  rename_i hle
  subst hl
  simp at hle
  cases g with
  | true =>
    simp only [part, Sem.run_bind, h1, Result.andThen_ok, if_true, h2, Sem.run_pure]
    congr 2
    apply Array.ext'
    simp [Array.toList_extract, List.extract, List.take_drop]
  | false =>
    have := h3 rfl
    subst this
    have : off < cs.size := by omega
    simp [part, h1, this, mkV, List.headD_eq_head?_getD, List.head?_take, List.head?_drop]

theorem run_field {T : TypeId} {i : Nat} {off : Nat} {ft : TypeId} {g : Bool} {sz : Nat} {cs : Array Value} {c : List Value} {w : World} (hf : fldL P T i = some (off, ft)) (ht : tyL P ft = some (g, sz))
    (hc : sliceL cs.toList off sz = some c) : (Instr.field T (.agg cs) i).run P w = .ok (mkV g c) w := by
  unfold fldL at hf
  cases hu : P.underlying T with
  | none => simp [hu] at hf
  | some d =>
    cases d <;> simp [hu] at hf
    rename_i fs
    cases hfs : fs[i]? with
    | none => simp [hfs] at hf
    | some f =>
      simp [hfs] at hf
      cases hi : P.info? f.type with
      | none => simp [hi] at hf
      | some inf =>
        simp [hi] at hf
        obtain ⟨h0, h1, h2⟩ := hf
        subst h1; subst h2
        simp [Instr.field, run_underlying hu, hfs, asAgg, run_part ht hc]

theorem fold_set (cs : List Value) : ∀ (vs : List Value) (k off : Nat), off + k + vs.length ≤ cs.length →
    ((vs.zipIdx k).foldl (fun (acc : Array Value) (x : Value × Nat) => acc.setIfInBounds (off + x.2) x.1) cs.toArray).toList = cs.take (off + k) ++ vs ++ cs.drop (off + k + vs.length) := by
  intro vs
  induction vs generalizing cs with
  | nil => intro k off h; simp
  | cons v vs ih =>
    intro k off h
    simp only [List.length_cons] at h
    simp only [List.zipIdx_cons, List.foldl_cons, List.setIfInBounds_toArray]
    rw [ih (cs.set (off + k) v) (k + 1) off (by simp; omega)]
    have h1 : off + k < cs.length := by omega
    rw [List.take_set, List.drop_set]
    have e : off + (k + 1) = off + k + 1 := by omega
    rw [e, if_pos (by omega), List.take_succ_eq_append_getElem h1, List.set_append]
    simp [Nat.min_eq_left (Nat.le_of_lt h1)]
    congr 1
    omega

theorem run_fill {T : TypeId} (place : Nat → Option (Nat × Nat)) (hp : ∀ i p, placeV P T i = some p → place i = some p) : ∀ (ps : List (Nat × Value)) (cs r : List Value), fillV P T ps cs = some r →
    Instr.fill place cs.toArray ps = some r.toArray
  | [], cs, r, h => by simp [fillV] at h; simp [Instr.fill, h]
  | (i, v) :: rest, cs, r, h => by
    unfold fillV at h
    cases hpl : placeV P T i with
    | none => simp [hpl] at h
    | some p =>
      simp [hpl] at h
      obtain ⟨⟨h1, h2⟩, h3⟩ := h
      have ih := run_fill place hp rest _ r h3
      obtain ⟨off, sz⟩ := p
      dsimp only at h1 h2 h3 ih
      subst h1
      unfold Instr.fill
      rw [hp i _ hpl]
      dsimp only
      rw [if_neg (by simp; omega)]
      have := fold_set cs v.cells.toList 0 off (by simpa using h2)
      rw [← ih]
      congr 1
      apply Array.ext'
      simp only [Nat.add_zero, Array.length_toList] at this
      rw [← Array.foldl_toList, Array.toList_zipIdx]
      simpa using this

theorem mapM_sizes {fs : Array Field} (h : fs.all (fun f => (P.info? f.type).isSome) = true) (w : World) :
    (fs.mapM fun f => (do pure (f.offset, ← sizeOf f.type) : Sem (Nat × Nat))).run P w = .ok (fs.map fun f => (f.offset, ((P.info? f.type).map (·.size)).getD 0)) w := by
  rw [Array.mapM_eq_mapM_toList]
  have key : ∀ (l : List Field), (∀ f ∈ l, (P.info? f.type).isSome) → (l.mapM fun f => (do pure (f.offset, ← sizeOf f.type) : Sem (Nat × Nat))).run P w = .ok (l.map fun f => (f.offset, ((P.info? f.type).map (·.size)).getD 0)) w := by
    intro l
    induction l with
    | nil => intro _; rfl
    | cons f l ih =>
      intro hl
      obtain ⟨i, hi⟩ := Option.isSome_iff_exists.1 (hl f (by simp))
      have := ih (fun g hg => hl g (by simp [hg]))
      have hs : (sizeOf f.type).run P w = .ok i.size w := by simp [sizeOf, typeInfo, hi]
      simp only [List.mapM_cons, Sem.run_bind, hs, Result.andThen_ok, Sem.run_pure, this]
      simp [hi]
  have := key fs.toList (fun f hf => by
    rw [Array.all_eq_true] at h
    obtain ⟨j, hj, e⟩ := List.getElem_of_mem hf
    have := h j (by simpa using hj)
    rw [← e]; simpa using this)
  simp only [Sem.run_map, this, Result.andThen_ok]
  congr 1
  apply Array.ext'
  simp

theorem run_build {T : TypeId} {ps : List (Nat × Value)} {z cs : List Value} {w : World} (hb : bldL P T = true) (hz : zeroL P T = some z) (hc : fillV P T ps z = some cs) :
    (Instr.build T ps.toArray).run P w = .ok (.agg cs.toArray) w := by
  have hzero : ∃ v, (zeroValue T).run P w = .ok v w ∧ v.cells = z.toArray := by
    unfold zeroL at hz
    cases hi : P.info? T with
    | none => simp [hi] at hz
    | some i =>
      cases hz' : i.zero with
      | none => simp [hi, hz'] at hz
      | some v =>
        simp [hi, hz'] at hz
        exact ⟨v, by simp [zeroValue, typeInfo, hi, hz'], by rw [← hz]⟩
  obtain ⟨v, hv, hvc⟩ := hzero
  unfold bldL at hb
  cases hu : P.underlying T with
  | none => simp [hu] at hb
  | some d =>
    cases d <;> simp only [hu, Bool.false_eq_true] at hb
    · rename_i len e
      obtain ⟨i, hi⟩ := Option.isSome_iff_exists.1 hb
      have := run_fill (P := P) (T := T) (fun j => some (j * i.size, i.size)) (fun j p hj => by simpa [placeV, hu, hi] using hj) ps z cs hc
      simp [Instr.build, hv, hvc, run_underlying hu, sizeOf, typeInfo, hi, this]
    · rename_i fs
      have h1 := mapM_sizes (P := P) hb w
      have := run_fill (P := P) (T := T) (fun j => ((fs.map fun f => (f.offset, ((P.info? f.type).map (·.size)).getD 0))[j]?)) (fun j p hj => by
        simp only [placeV, hu] at hj
        cases hfs : fs[j]? with
        | none => simp [hfs] at hj
        | some f =>
          simp [hfs] at hj
          obtain ⟨inf, hinf, e⟩ := hj
          simp [hfs, hinf, e]) ps z cs hc
      simp only [Instr.build, hv, hvc, run_underlying hu, Sem.run_bind, Result.andThen_ok, h1, this, Sem.run_pure]

theorem run_elL {T : TypeId} {m : Option Nat} {e : TypeId} {sz : Nat} {w : World} (h : elL P T = some (m, e, sz)) :
    (m = none → P.underlying T = some (.slice e)) ∧ (∀ k, m = some k → P.underlying T = some (.array k e)) ∧ (sizeOf e).run P w = .ok sz w := by
  unfold elL at h
  cases hu : P.underlying T with
  | none => simp [hu] at h
  | some d =>
    cases d <;> simp only [hu, reduceCtorEq] at h
    · obtain ⟨i, hi, e⟩ := Option.map_eq_some_iff.1 h
      cases e
      exact ⟨(fun _ => rfl), (fun k e => by cases e), by simp [sizeOf, typeInfo, hi]⟩
    · obtain ⟨i, hi, e⟩ := Option.map_eq_some_iff.1 h
      cases e
      exact ⟨(fun e => by cases e), (fun k e => by cases e; rfl), by simp [sizeOf, typeInfo, hi]⟩

theorem run_idxA {T : TypeId} {x i r : Value} {w : World} (h : idxA P T x i = some r) : (Instr.indexAt T x i).run P w = .ok r w := by
  unfold idxA at h
  split at h
  · rename_i e sz a n c k i he
    obtain ⟨h1, _, h3⟩ := run_elL (w := w) he
    split at h <;> simp at h
    rename_i hb
    subst h
    simp [Instr.indexAt, asIntOf, run_underlying (h1 rfl), hb.1, hb.2, h3]
  · rename_i m e sz a k i he
    obtain ⟨_, h1, h3⟩ := run_elL (w := w) he
    split at h <;> simp at h
    rename_i hb
    subst h
    simp [Instr.indexAt, asIntOf, run_underlying (h1 m rfl), Instr.sureAddr, hb.1, hb.2, h3]
  · simp at h

theorem run_idxV {T : TypeId} {x i r : Value} {w : World} (h : idxV P T x i = some r) : (Instr.index T x i).run P w = .ok r w := by
  unfold idxV at h
  split at h
  · rename_i m e cs k i hu
    by_cases hb : 0 ≤ i ∧ i < m
    · rw [if_pos hb] at h
      obtain ⟨gs, ht, h⟩ := Option.bind_eq_some_iff.1 h
      obtain ⟨c, hc, rfl⟩ := Option.map_eq_some_iff.1 h
      obtain ⟨g, sz⟩ := gs
      obtain ⟨_, d, hi, hd, hs, h1, h2, h3⟩ := run_tyL (w := w) ht
      simp [Instr.index, asIntOf, run_underlying hu, hb.1, hb.2, h2, run_part ht hc]
    · rw [if_neg hb] at h; cases h
  · rename_i s k i hu
    by_cases hb : 0 ≤ i
    · rw [if_pos hb] at h
      obtain ⟨b, hs, rfl⟩ := Option.map_eq_some_iff.1 h
      simp [Instr.index, asIntOf, run_underlying hu, hb, hs]
    · rw [if_neg hb] at h; cases h
  · simp at h

theorem run_bndV {x : Value} {d y l : Nat} {code : BoundsCode} {w : World} (h : bndV (some x) d y = some l) : (Instr.sliceBound x y code).run P w = .ok l w := by
  unfold bndV at h
  split at h
  · rename_i e; simp at e
  · rename_i e; cases e
    split at h <;> simp at h
    rename_i hb
    subst h
    simp [Instr.sliceBound, asIntOf, hb.1, hb.2]
  · simp at h

theorem run_bounds {b : Bool} {len cap : Nat} {lo hi : Option Value} {h l : Nat} {w : World} (h1 : bndV hi len cap = some h) (h2 : bndV lo 0 h = some l) :
    (Instr.sliceBounds b len cap lo hi none).run P w = .ok (l, h, cap) w := by
  cases hi with
  | none =>
    simp [bndV] at h1
    subst h1
    cases lo with
    | none => simp [bndV] at h2; subst h2; simp [Instr.sliceBounds]
    | some lo => simp [Instr.sliceBounds, run_bndV h2]
  | some hi =>
    cases lo with
    | none => simp [bndV] at h2; subst h2; simp [Instr.sliceBounds, run_bndV h1]
    | some lo => simp [Instr.sliceBounds, run_bndV h1, run_bndV h2]

theorem run_bounds3 {b : Bool} {len cap : Nat} {lo : Option Value} {hi mx : Value} {m h l d : Nat} {w : World} (h0 : bndV (some mx) d cap = some m) (h1 : bndV (some hi) 0 m = some h) (h2 : bndV lo 0 h = some l) :
    (Instr.sliceBounds b len cap lo (some hi) (some mx)).run P w = .ok (l, h, m) w := by
  cases lo with
  | none => simp [bndV] at h2; subst h2; simp [Instr.sliceBounds, run_bndV h0, run_bndV h1]
  | some lo => simp [Instr.sliceBounds, run_bndV h0, run_bndV h1, run_bndV h2]

theorem run_slV {T : TypeId} {x r : Value} {lo hi mx : Option Value} {w : World} (h : slV P T x lo hi mx = some r) : (Instr.sliceAt T x lo hi mx).run P w = .ok r w := by
  unfold slV at h
  split at h
  · rename_i s hu
    simp only [Option.bind_eq_some_iff, Option.map_eq_some_iff] at h
    obtain ⟨hh, h1, l, h2, rfl⟩ := h
    simp [Instr.sliceAt, run_underlying hu, Instr.slice, run_bounds h1 h2]
  · rename_i e a n c hu
    simp only [Option.bind_eq_some_iff, Option.map_eq_some_iff] at h
    obtain ⟨hh, h1, l, h2, i, hi, rfl⟩ := h
    simp [Instr.sliceAt, run_underlying hu, Instr.slice, run_bounds h1 h2, sizeOf, typeInfo, hi]
  · rename_i e a n c mx hu
    simp only [Option.bind_eq_some_iff, Option.map_eq_some_iff] at h
    obtain ⟨m, h0, hi, rfl, hh, h1, l, h2, i, hi, rfl⟩ := h
    simp [Instr.sliceAt, run_underlying hu, Instr.slice, run_bounds3 h0 h1 h2, sizeOf, typeInfo, hi]
  · rename_i k e a hu
    simp only [Option.bind_eq_some_iff, Option.map_eq_some_iff] at h
    obtain ⟨hh, h1, l, h2, i, hi, rfl⟩ := h
    simp [Instr.sliceAt, run_underlying hu, Instr.sureAddr, run_bounds h1 h2, sizeOf, typeInfo, hi]
  · simp at h

theorem run_convV {s t : TypeId} {x r : Value} {w : World} (h : convV P s t x = some r) : (convert s t x).run P w = .ok r w := by
  unfold convV at h
  split at h
  · rename_i h1 h2
    simp at h
    subst h
    simp [convert, run_underlying h1, run_underlying h2, Conv.intToInt]
  · simp at h

theorem run_ifaceV {T : TypeId} {x r : Value} {w : World} (h : ifaceV P T x = some r) : (Instr.makeInterface T x).run P w = .ok r w := by
  unfold ifaceV at h
  split at h
  · simp at h
  · rename_i d hne hu
    simp at h
    subst h
    cases d <;> first
      | exact absurd rfl (hne _)
      | simp [Instr.makeInterface, run_underlying hu]
  · simp at h

theorem run_lenV {ts : Array TypeId} {t : TypeId} {as : List Value} {r : Value} {w : World} (h : lenV P ts[0]? as[0]? = some r) : (Builtin.len_ ts t as.toArray).run P w = .ok r w := by
  unfold lenV at h
  cases hT : ts[0]? with
  | none => simp [hT] at h
  | some T =>
    cases hx : as[0]? with
    | none => cases hu : P.underlying T with
      | none => simp [hT, hx, hu] at h
      | some d => cases d <;> simp [hT, hx, hu] at h
    | some x =>
      cases hu : P.underlying T with
      | none => simp [hT, hx, hu] at h
      | some d =>
        cases d <;> cases x <;> simp [hT, hx, hu] at h <;> subst h <;> simp [Builtin.len_, hT, hx, run_underlying hu, goInt]

set_option maxHeartbeats 1000000 in
theorem stp_sound {o : Oper} {L : AL} {w : World} {K : AL → World → Prop} (h : stp P o L w K) {a : Act} (ha : Has n a L) {K' : Act → World → Prop} {Q' : Exit → Act → World → Prop}
    (hK : ∀ L w, K L w → ∀ a', Has n a' L → K' a' w) (hd : ∀ k, o.dst = some k → k < n) : o.wp P a w K' Q' := by
  have fin : ∀ v w', K (put o.dst v L) w' → K' (a.put o.dst v) w' := fun v w' hk => hK _ _ hk _ (by
    unfold put
    cases o with
    | mk dst op type pos after guard => cases dst with
      | none => exact ha
      | some k => exact ha.put (hd k rfl) v)
  unfold Oper.wp
  unfold stp at h
  obtain ⟨dst, op, type, pos, after, guard⟩ := o
  dsimp only at h fin hd ⊢
  cases op with
  | move x =>
    obtain ⟨v, hx, hk⟩ := h
    simp only [execOp, ha.look hx]
    exact fin _ _ hk
  | assign x =>
    obtain ⟨v, hx, hk⟩ := h
    simp only [execOp, ha.look hx]
    exact fin _ _ hk
  | pick c x y =>
    obtain ⟨b, hc, h1, h2⟩ := h
    have hc' := ha.look hc
    cases b with
    | true =>
      obtain ⟨v, hx, _, _, hk⟩ := h1 rfl
      simp only [execOp, hc', ha.look hx, asBool, Sem.run_bind, Sem.run_pure, Result.andThen_ok, if_true]
      exact fin _ _ hk
    | false =>
      obtain ⟨v, hx, _, _, hk⟩ := h2 rfl
      simp only [execOp, hc', ha.look hx, asBool, Sem.run_bind, Sem.run_pure, Result.andThen_ok, Bool.false_eq_true, if_false]
      exact fin _ _ hk
  | alloc T =>
    obtain ⟨cs, hz, hk⟩ := h
    unfold zeroL at hz
    cases hi : P.info? T with
    | none => simp [hi] at hz
    | some i =>
      cases hz' : i.zero with
      | none => simp [hi, hz'] at hz
      | some z =>
        simp [hi, hz'] at hz
        have := fin _ _ hk.ex
        have hcs : cs.toArray = z.cells := by rw [← hz]
        simp only [Cl, hcs] at this
        simpa [execOp, Instr.alloc, zeroValue, typeInfo, hi, hz', newVar, newRow, Oper.upon] using this
  | box T x =>
    obtain ⟨v, hx, hk⟩ := h
    have := fin _ _ hk.ex
    simp only [Cl, Array.toArray_toList] at this
    simpa [execOp, ha.look hx, run_alloc_box, Oper.upon] using this
  | load T x =>
    obtain ⟨v, hx, p, rfl, g, sz, ht, cs, hl, hk⟩ := h
    have := fin _ _ hk
    simpa [execOp, ha.look hx, Instr.loadAt, Instr.sureAddr, run_loadVar_ldC ht hl, Oper.upon] using this
  | store T x y =>
    obtain ⟨p, hx, v, hy, ad, rfl, T', cs, hb, hs, hl, h1, ht, hk⟩ := h
    have hk' := fin _ _ hk
    obtain ⟨b, off, spot⟩ := ad
    dsimp only at hb hs hl hk'
    subst hs
    cases hty : tyL P T with
    | none => simp [hty] at ht
    | some gs =>
      obtain ⟨g, sz⟩ := gs
      simp [hty] at ht
      obtain ⟨i, d, hi, hdd, hsz, r1, r2, r3⟩ := run_tyL (w := w) hty
      have hst := run_storeCells_at (P := P) b off T' v.cells.toList 0 cs.toArray w hb (by simpa using hl) (fun u hu => by
        rw [Array.all_eq_true] at h1
        obtain ⟨j, hj, hju⟩ := List.getElem_of_mem hu
        have := h1 j (by simpa using hj)
        rw [← hju]; simpa using this)
      simp only [Nat.add_zero, Array.length_toList] at hst
      simp only [execOp, ha.look hx, ha.look hy, Instr.storeAt, Instr.sureAddr, storeVar, Sem.run_bind, Sem.run_pure, Result.andThen_ok, r2, ht, ne_eq, not_true, if_false, Sem.run_ite, hst]
      exact hk'
  | nilCheck x =>
    obtain ⟨v, hx, hn, hk⟩ := h
    simp only [execOp, ha.look hx]
    unfold NilOk at hn
    split at hn <;> first | (exact fin _ _ hk) | (exact hn.elim)
  | binOp op T x y yT =>
    obtain ⟨v, hx, u, hy, h⟩ := h
    have e : (execOp a.eval ⟨dst, .binOp op T x y yT, type, pos, after, guard⟩) = (do pure (.value (← (do eqGuard op T x y v u; binOp op T v u : Sem Value))) : Sem Next) := by
      simp only [execOp, ha.look hx, ha.look hy]
    rcases h.cases with ⟨r, hb, hk⟩ | ⟨r, w', hr, hk⟩
    · rw [e, Sem.run_bind, run_binV hb]
      exact fin _ _ hk
    · rw [e, Sem.run_bind, hr]
      exact fin _ _ hk
  | unOp op T x =>
    cases op with
    | not =>
      obtain ⟨v, hx, b, rfl, hk⟩ := h
      simp only [execOp, ha.look hx, Op.unary]
      exact fin _ _ hk
    | _ => exact h.elim
  | convert s t x =>
    obtain ⟨v, hx, h⟩ := h
    rcases h.cases with ⟨r, hb, hk⟩ | ⟨r, w', hr, hk⟩
    · simp only [execOp, ha.look hx, Sem.run_bind, run_convV hb]
      exact fin _ _ hk
    · simp only [execOp, ha.look hx, Sem.run_bind, hr]
      exact fin _ _ hk
  | makeInterface T x =>
    obtain ⟨v, hx, r, hr, hk⟩ := h
    simp only [execOp, ha.look hx, Sem.run_bind, run_ifaceV hr]
    exact fin _ _ hk
  | makeFunc fn xs ys =>
    obtain ⟨v, hx, u, hy, hk⟩ := h
    simp only [execOp, looks_map ha hx, looks_map ha hy, Instr.makeFunc]
    exact fin _ _ hk
  | build T ps =>
    obtain ⟨v, hx, hb, z, hz, cs, hc, hk⟩ := h
    simp only [execOp, zip_map ha hx, Sem.run_bind, run_build hb hz hc]
    exact fin _ _ hk
  | buildSlice T k ps =>
    obtain ⟨v, hx, r, w', hr, hk⟩ := h
    simp only [execOp, zip_map ha hx, Sem.run_bind, hr]
    exact fin _ _ hk
  | fieldAddr T x i =>
    obtain ⟨v, hx, p, rfl, off, ft, hf, hk⟩ := h
    unfold fldL at hf
    cases hu : P.underlying T with
    | none => simp [hu] at hf
    | some d =>
      cases d <;> simp [hu] at hf
      rename_i fs
      cases hfs : fs[i]? with
      | none => simp [hfs] at hf
      | some f =>
        simp [hfs] at hf
        cases hi : P.info? f.type with
        | none => simp [hi] at hf
        | some inf =>
          simp [hi] at hf
          obtain ⟨h0, h1, h2⟩ := hf
          subst h1; subst h2
          have := fin _ _ hk
          simpa [execOp, ha.look hx, Instr.fieldAt, run_underlying hu, hfs, Instr.sureAddr, fieldPlace, sizeOf, typeInfo, hi, h0, Oper.upon] using this
  | field T x i =>
    obtain ⟨v, hx, cs, rfl, off, ft, hf, g, sz, ht, c, hc, hk⟩ := h
    simp only [execOp, ha.look hx, Sem.run_bind, run_field hf ht hc]
    exact fin _ _ hk
  | indexAddr T x i =>
    obtain ⟨v, hx, u, hy, r, hr, hk⟩ := h
    simp only [execOp, ha.look hx, ha.look hy, Sem.run_bind, run_idxA hr]
    exact fin _ _ hk
  | index T x i =>
    obtain ⟨v, hx, u, hy, r, hr, hk⟩ := h
    simp only [execOp, ha.look hx, ha.look hy, Sem.run_bind, run_idxV hr]
    exact fin _ _ hk
  | extract x i =>
    obtain ⟨v, hx, r, hr, hk⟩ := h
    unfold tupV at hr
    split at hr
    · simp only [execOp, ha.look hx, Instr.extract, hr, Sem.run_bind, Sem.run_pure, Result.andThen_ok]
      exact fin _ _ hk
    · simp at hr
  | slice T x lo hi mx =>
    obtain ⟨v, hx, l, hl, u, hu, m, hm, r, hr, hk⟩ := h
    simp only [execOp, ha.look hx, opt_map ha hl, opt_map ha hu, opt_map ha hm, Sem.run_bind, run_slV hr]
    exact fin _ _ hk
  | lookup T x i ok =>
    obtain ⟨v, hx, u, hy, r, w', hr, hk⟩ := h
    simp only [execOp, ha.look hx, ha.look hy, Sem.run_bind, hr]
    exact fin _ _ hk
  | mapUpdate T m k x =>
    obtain ⟨v, hx, u, hy, z, hz, r, w', hr, hk⟩ := h
    simp only [execOp, ha.look hx, ha.look hy, ha.look hz, Sem.run_bind, hr]
    exact fin _ _ hk
  | insert T m k x =>
    obtain ⟨v, hx, u, hy, z, hz, r, w', hr, hk⟩ := h
    simp only [execOp, ha.look hx, ha.look hy, ha.look hz, Sem.run_bind, hr]
    exact fin _ _ hk
  | mapEntry T m k =>
    obtain ⟨v, hx, u, hy, r, w', hr, hk⟩ := h
    simp only [execOp, ha.look hx, ha.look hy, Sem.run_bind, hr]
    exact fin _ _ hk
  | entryStore T m k x =>
    obtain ⟨v, hx, u, hy, z, hz, r, w', hr, hk⟩ := h
    simp only [execOp, ha.look hx, ha.look hy, ha.look hz, Sem.run_bind, hr]
    exact fin _ _ hk
  | range T x =>
    obtain ⟨v, hx, r, w', hr, hk⟩ := h
    simp only [execOp, ha.look hx, Sem.run_bind, hr]
    exact fin _ _ hk
  | next x s =>
    obtain ⟨v, hx, r, w', hr, hk⟩ := h
    simp only [execOp, ha.look hx, Sem.run_bind, hr]
    exact fin _ _ hk
  | entry x =>
    obtain ⟨v, hx, r, w', hr, hk⟩ := h
    simp only [execOp, ha.look hx, Sem.run_bind, hr]
    exact fin _ _ hk
  | typeAssert x s t ok =>
    obtain ⟨v, hx, r, w', hr, hk⟩ := h
    simp only [execOp, ha.look hx, Sem.run_bind, hr]
    exact fin _ _ hk
  | makeMap T r =>
    obtain ⟨v, hx, r, w', hr, hk⟩ := h
    simp only [execOp, opt_map ha hx, Sem.run_bind, hr]
    exact fin _ _ hk
  | makeSlice T l c =>
    obtain ⟨v, hx, u, hy, r, w', hr, hk⟩ := h
    simp only [execOp, ha.look hx, ha.look hy, Sem.run_bind, hr]
    exact fin _ _ hk
  | call c =>
    obtain ⟨callee, args, argTypes⟩ := c
    cases callee with
    | value f =>
      obtain ⟨v, hx, as, has, g, x1, x2, rfl, hk⟩ := h
      have := upon_call (o := ⟨dst, .call ⟨.value f, args, argTypes⟩, type, pos, after, guard⟩) (a := a) (Q' := Q') hk fin
      simp only [execOp, resolve, looks_map ha has, ha.look hx, Deferred.ofValue, Sem.run_bind, Sem.run_pure, Result.andThen_ok, invoke]
      have e : x1 ++ as.toArray ++ x2 = (x1.toList ++ as ++ x2.toList).toArray := by apply Array.ext'; simp
      rw [e]
      exact this
    | invoke r m =>
      obtain ⟨v, hx, as, has, t, u, g, rc, rfl, hm, hk⟩ := h
      have := upon_call (o := ⟨dst, .call ⟨.invoke r m, args, argTypes⟩, type, pos, after, guard⟩) (a := a) (Q' := Q') hk fin
      simp only [execOp, resolve, looks_map ha has, ha.look hx, Sem.run_bind, Sem.run_pure, Result.andThen_ok, invoke, callMethod]
      simp [hm]
      simpa using this
    | builtin b =>
      cases b <;> first
        | exact h.elim
        | (obtain ⟨as, has, h⟩ := h
           rcases h.cases with ⟨r, hb, hk⟩ | ⟨r, w', hr, hk⟩
           · simp only [execOp, resolve, looks_map ha has, Sem.run_bind, Sem.run_pure, Result.andThen_ok, invoke, builtin, run_lenV hb]
             exact fin _ _ hk
           · simp only [execOp, resolve, looks_map ha has, Sem.run_bind, Sem.run_pure, Result.andThen_ok, invoke, builtin, hr]
             exact fin _ _ hk)
        | (obtain ⟨as, has, r, w', hr, hk⟩ := h
           simp only [execOp, resolve, looks_map ha has, Sem.run_bind, Sem.run_pure, Result.andThen_ok, invoke, builtin, hr]
           exact fin _ _ hk)
  | makeChan | go | defer | panic | send | recv | select | ready | waits | sliceToArrayPointer => exact h.elim

def yv : Value → Option Bool
  | .bool b => some b
  | _ => none

theorem yv_ne {v : Value} {b : Bool} (h : v ≠ .bool b) : (yv v == some b) = false := by
  cases v <;> simp [yv]
  rename_i b'
  intro e; subst e; exact h rfl

theorem yielded_yv {ops : Array Oper} {tmps : Array Value} {j k : Nat} {v : Value} (hj : (ops[j]?).bind (·.dst) = some k) (hv : tmps[k]? = some v) : yielded ops tmps j = yv v := by
  unfold yielded yv
  rw [hj]
  simp only [Option.bind_some, hv]
  cases v <;> rfl

theorem stg_sound {ops : Array Oper} {o : Oper} {L : AL} {w : World} {K : AL → World → Prop} (h : stg P ops.toList o L w K) {a : Act} (ha : Has n a L) {K' : Act → World → Prop}
    {Q' : Exit → Act → World → Prop} (hK : ∀ L w, K L w → ∀ a', Has n a' L → K' a' w) (hd : ∀ k, o.dst = some k → k < n) :
    if Region.wanted o (yielded ops a.tmps) then o.wp P a w K' Q' ∨ (o.asks P a w ∧ LetsOut Q') else K' (a.put o.dst undef) w := by
  have hput : Has n (a.put o.dst undef) (put o.dst undef L) := by
    unfold put
    cases o with
    | mk dst op type pos after guard => cases dst with
      | none => exact ha
      | some k => exact ha.put (hd k rfl) undef
  unfold stg at h
  cases hg : o.guard with
  | none =>
    rw [hg] at h
    rw [if_pos (by simp [Region.wanted, hg])]
    exact .inl (stp_sound h ha hK hd)
  | some g =>
    obtain ⟨j, b⟩ := g
    rw [hg] at h
    obtain ⟨v, hv, h1, h2⟩ := h
    rw [gdst_eq] at hv
    have hy : yielded ops a.tmps j = yv v := by
      cases hj : (ops[j]?).bind (·.dst) with
      | none => simp [hj] at hv
      | some k =>
        simp only [Array.getElem?_toList, hj, Option.bind_some] at hv
        exact yielded_yv hj (ha.2.2 k v hv)
    have hw : Region.wanted o (yielded ops a.tmps) = (yv v == some b) := by
      unfold Region.wanted
      rw [hg]
      dsimp only
      rw [hy]
    rw [hw]
    by_cases hvb : v = .bool b
    · subst hvb
      rw [if_pos (by simp [yv])]
      exact .inl (stp_sound (h1 rfl) ha hK hd)
    · rw [if_neg (by rw [yv_ne hvb]; simp)]
      exact hK _ _ (h2 hvb) _ hput

theorem R_sound {ops : Array Oper} {Q : Pst} : ∀ {rest : List Oper} {L : AL} {w : World}, R P ops.toList Q rest L w → rest.all (dstOk n) = true →
    ∀ a, Has n a L → wpList P ops (lift n Q) rest a w
  | [], L, w, h, _, a, ha => ⟨L, ha, h⟩
  | o :: rest, L, w, h, hd, a, ha => by
    simp only [List.all_cons, Bool.and_eq_true] at hd
    unfold wpList
    refine stg_sound (K := fun L w => R P ops.toList Q rest L w) h ha (fun L w hk a' ha' => R_sound hk hd.2 a' ha') (fun k hk => ?_)
    have := hd.1
    unfold dstOk at this
    rw [hk] at this
    simpa using this

theorem W_sound : ∀ {c : Code} {Q : Pst} {L : AL} {w : World}, W P n c Q L w → dstsIn n c = true → Wp P n c Q L w
  | .skip, Q, L, w, h, _ => Wp.skip h
  | .seq a b, Q, L, w, h, hd => by
    simp only [dstsIn, Bool.and_eq_true] at hd
    refine Wp.seq ((W_sound (c := a) h hd.1).mono fun e L w hq => ?_)
    cases e with
    | normal => exact W_sound (c := b) hq hd.2
    | _ => exact hq
  | .region id ops d, Q, L, w, h, hd => by
    unfold W at h
    cases d with
    | true => simpa using h
    | false =>
      simp only [Bool.false_eq_true, if_false] at h
      intro a ha
      have := R_sound h (n := n) hd a ha
      have hl := wp_region_list (id := id) (P := P) (ops := ops) this
      exact hl
  | .cond c x y, Q, L, w, h, hd => by
    simp only [dstsIn, Bool.and_eq_true] at hd
    obtain ⟨b, hb, h1, h2⟩ := h
    exact Wp.cond hb (fun e => W_sound (h1 e) hd.1) (fun e => W_sound (h2 e) hd.2)
  | .block id b, Q, L, w, h, hd => Wp.block (W_sound (c := b) h (by simpa [dstsIn] using hd))
  | .exit id, Q, L, w, h, _ => Wp.exit h
  | .ret, Q, L, w, h, _ => Wp.ret h
  | .label _, Q, L, w, h, _ => Wp.label h
  | .loop b, Q, L, w, h, _ => h
  | .rangeFunc f ps a b, Q, L, w, h, _ => h
  | .scope b, Q, L, w, h, _ => h
  | .goto l, Q, L, w, h, _ => h
  | .refuse r, Q, L, w, h, _ => h
end
end Go.Ig
