import Derived.Test.YtaldohdkfggkiaaGreatIg5
import Derived.OrdersHeld
set_option linter.unusedVariables false
set_option linter.unusedSimpArgs false
set_option linter.unusedSectionVars false
set_option linter.unnecessarySimpa false
namespace Go.Ig
variable {P : Program} {n : Nat}

/-! ### regions whose order is drawn -/
/-- An operation that asks no more of memory than to read it, and turns nothing. -/
def calmB : Op → Bool
  | .move _ | .assign _ | .pick .. | .load .. | .nilCheck _ | .binOp .. | .unOp .not _ _ | .convert .. | .makeInterface .. | .makeFunc .. | .build .. | .fieldAddr .. | .field .. | .indexAddr .. | .index .. | .extract .. | .slice .. => true
  | .call { callee := .builtin .len, .. } => true
  | _ => false

/-- A value, or a step that gives one in every world and turns nothing. -/
def VorC (P : Program) (o : Option Value) (s : Sem Value) (K : Value → Prop) : Prop :=
  match o with
  | some v => K v
  | none => ∃ r, (∀ w, s.run P w = .ok r w) ∧ K r

/-- The same, worked out over the world at the region's start; blocks of F may turn in the region. -/
def stc (P : Program) (F : Nat → Prop) (o : Oper) (L : AL) (w : World) (K : AL → Prop) : Prop :=
  match o.op with
  | .move x => ob (look L x) fun v => K (put o.dst v L)
  | .assign x => ob (look L x) fun v => K (put o.dst v L)
  | .pick c x y => CondP (look L c) (ob (look L x) fun v => obs (looks L [y]) fun _ => K (put o.dst v L)) (ob (look L y) fun v => obs (looks L [x]) fun _ => K (put o.dst v L))
  | .load T x => ob (look L x) fun v => ptrP v fun a => ¬ F a.block ∧ LoadP P T a w fun v => K (put o.dst v L)
  | .nilCheck x => ob (look L x) fun v => NilOk v ∧ K (put o.dst v L)
  | .binOp op T x y _ => ob (look L x) fun v => ob (look L y) fun u => VorC P (binV op v u) (do eqGuard op T x y v u; binOp op T v u) fun r => K (put o.dst r L)
  | .unOp .not _ x => ob (look L x) fun v => ∃ b, v = .bool b ∧ K (put o.dst (.bool !b) L)
  | .convert s t x => ob (look L x) fun v => ob (convV P s t v) fun r => K (put o.dst r L)
  | .makeInterface T x => ob (look L x) fun v => ob (ifaceV P T v) fun r => K (put o.dst r L)
  | .makeFunc fn xs ys => obs (looks L xs.toList) fun a => obs (looks L ys.toList) fun b => K (put o.dst (.func fn a.toArray b.toArray) L)
  | .build T ps => obs (looks L (ps.toList.map (·.2))) fun vs => BuildP P T ((ps.toList.map (·.1)).zip vs) fun v => K (put o.dst v L)
  | .fieldAddr T x i => ob (look L x) fun v => ptrP v fun a => obF (fldL P T i) fun off _ => K (put o.dst (.pointer (some (a.add off))) L)
  | .field T x i => ob (look L x) fun v => aggP v fun cs => obF (fldL P T i) fun off ft => obT (tyL P ft) fun g sz => obs (sliceL cs off sz) fun c => K (put o.dst (mkV g c) L)
  | .indexAddr T x i => ob (look L x) fun v => ob (look L i) fun i => ob (idxA P T v i) fun r => K (put o.dst r L)
  | .index T x i => ob (look L x) fun v => ob (look L i) fun i => ob (idxV P T v i) fun r => K (put o.dst r L)
  | .extract x i => ob (look L x) fun v => ob (tupV v i) fun r => K (put o.dst r L)
  | .slice T x lo hi mx => ob (look L x) fun v => obo (opt L lo) fun lo => obo (opt L hi) fun hi => obo (opt L mx) fun mx => ob (slV P T v lo hi mx) fun r => K (put o.dst r L)
  | .call c => match c.callee with
    | .builtin .len => obs (looks L c.args.toList) fun as => ob (lenV P c.argTypes[0]? as[0]?) fun v => K (put o.dst v L)
    | _ => False
  | _ => False

def stgc (P : Program) (F : Nat → Prop) (ops : List Oper) (o : Oper) (L : AL) (w : World) (K : AL → Prop) : Prop :=
  match o.guard with
  | none => stc P F o L w K
  | some (j, b) => GuardP ((gdst ops j).bind (lkt L)) b (stc P F o L w K) (K (put o.dst undef L))

/-- A drawn region, in one order: calm operations ahead of the others. w0: the world at its start. -/
def RH (P : Program) (ops : List Oper) (Q : Pst) (F : Nat → Prop) (w0 : World) : List Nat → AL → World → Prop
  | [], L, w => Q .normal L w
  | i :: r, L, w => match ops[i]? with
    | none => False
    | some o => if calmB o.op then stgc P F ops o L w0 fun L => RH P ops Q F w0 r L w else stg P ops o L w fun L w' => Eff F w0 w' ∧ RH P ops Q F w0 r L w'

def planB (ops : Array Oper) : Array Bool → List Nat → Bool
  | listed, [] => (Region.ready .any ops listed).isEmpty
  | listed, i :: r => (match ops[i]? with
    | none => false
    | some o => (Region.ready .any ops listed).contains i && (if calmB o.op then Region.free .any ops listed i else (Region.ready .any ops listed) == [i])) && planB ops (listed.setIfInBounds i true) r

theorem LoadP_all {T : TypeId} {a : Addr} {w : World} {K : Value → Prop} {F : Nat → Prop} (h : LoadP P T a w K) (hf : ¬ F a.block) :
    ∃ v, K v ∧ ∀ w', Eff F w w' → (loadVar T a).run P w' = .ok v w' := by
  obtain ⟨g, sz, ht, cs, hl, hk⟩ := h
  exact ⟨_, hk, fun w' x => run_loadVar_ldC ht (x.ld hl hf)⟩

set_option maxHeartbeats 1000000 in
theorem stc_sound {F : Nat → Prop} {o : Oper} {L : AL} {w : World} {K : AL → Prop} (h : stc P F o L w K) {a : Act} (ha : Has n a L) :
    ∃ v, (∀ w', Eff F w w' → (execOp a.eval o).run P w' = .ok (.value v) w') ∧ K (put o.dst v L) := by
  unfold stc at h
  obtain ⟨dst, op, type, pos, after, guard⟩ := o
  dsimp only at h ⊢
  cases op with
  | move x =>
    obtain ⟨v, hx, hk⟩ := h
    exact ⟨v, fun w' _ => by simp [execOp, ha.look hx], hk⟩
  | assign x =>
    obtain ⟨v, hx, hk⟩ := h
    exact ⟨v, fun w' _ => by simp [execOp, ha.look hx], hk⟩
  | pick c x y =>
    obtain ⟨b, hc, h1, h2⟩ := h
    have hc' := ha.look hc
    cases b with
    | true =>
      obtain ⟨v, hx, _, _, hk⟩ := h1 rfl
      exact ⟨v, fun w' _ => by simp [execOp, hc', ha.look hx, asBool], hk⟩
    | false =>
      obtain ⟨v, hx, _, _, hk⟩ := h2 rfl
      exact ⟨v, fun w' _ => by simp [execOp, hc', ha.look hx, asBool], hk⟩
  | load T x =>
    obtain ⟨v, hx, p, rfl, hf, hl⟩ := h
    obtain ⟨r, hk, hr⟩ := LoadP_all hl hf
    exact ⟨r, fun w' e => by simp [execOp, ha.look hx, Instr.loadAt, Instr.sureAddr, hr w' e], hk⟩
  | nilCheck x =>
    obtain ⟨v, hx, hn, hk⟩ := h
    refine ⟨v, fun w' _ => ?_, hk⟩
    simp only [execOp, ha.look hx]
    unfold NilOk at hn
    split at hn <;> first | rfl | exact hn.elim
  | binOp op T x y yT =>
    obtain ⟨v, hx, u, hy, h⟩ := h
    obtain ⟨r, hr, hk⟩ : ∃ r, (∀ w', (do eqGuard op T x y v u; binOp op T v u : Sem Value).run P w' = .ok r w') ∧ K (put dst r L) := by
      unfold VorC at h
      split at h
      · rename_i r hr
        exact ⟨r, fun w' => run_binV hr x y, h⟩
      · exact h
    refine ⟨r, fun w' _ => ?_, hk⟩
    have e : (execOp a.eval ⟨dst, .binOp op T x y yT, type, pos, after, guard⟩) = (do pure (.value (← (do eqGuard op T x y v u; binOp op T v u : Sem Value))) : Sem Next) := by
      simp only [execOp, ha.look hx, ha.look hy]
    rw [e, Sem.run_bind, hr w']
    rfl
  | unOp op T x =>
    cases op with
    | not =>
      obtain ⟨v, hx, b, rfl, hk⟩ := h
      exact ⟨_, fun w' _ => by simp [execOp, ha.look hx, Op.unary], hk⟩
    | _ => exact h.elim
  | convert s t x =>
    obtain ⟨v, hx, r, hr, hk⟩ := h
    exact ⟨r, fun w' _ => by simp only [execOp, ha.look hx, Sem.run_bind, run_convV hr, Result.andThen_ok, Sem.run_pure], hk⟩
  | makeInterface T x =>
    obtain ⟨v, hx, r, hr, hk⟩ := h
    exact ⟨r, fun w' _ => by simp only [execOp, ha.look hx, Sem.run_bind, run_ifaceV hr, Result.andThen_ok, Sem.run_pure], hk⟩
  | makeFunc fn xs ys =>
    obtain ⟨v, hx, u, hy, hk⟩ := h
    exact ⟨_, fun w' _ => by simp [execOp, looks_map ha hx, looks_map ha hy, Instr.makeFunc], hk⟩
  | build T ps =>
    obtain ⟨v, hx, hb, z, hz, cs, hc, hk⟩ := h
    exact ⟨_, fun w' _ => by simp only [execOp, zip_map ha hx, Sem.run_bind, run_build hb hz hc, Result.andThen_ok, Sem.run_pure], hk⟩
  | fieldAddr T x i =>
    obtain ⟨v, hx, p, rfl, off, ft, hf, hk⟩ := h
    refine ⟨_, fun w' _ => ?_, hk⟩
    unfold fldL at hf
    cases hu : P.underlying T with
    | none => simp [hu] at hf
    | some d =>
      cases d <;> simp [hu] at hf
      rename_i fs
      cases hfs : fs[i]? with
      | none => simp [hfs] at hf
      | some f =>
        simp [hfs] at hf
        cases hi : P.info? f.type with
        | none => simp [hi] at hf
        | some inf =>
          simp [hi] at hf
          obtain ⟨h0, h1, h2⟩ := hf
          subst h1; subst h2
          simp [execOp, ha.look hx, Instr.fieldAt, run_underlying hu, hfs, Instr.sureAddr, fieldPlace, sizeOf, typeInfo, hi, h0]
  | field T x i =>
    obtain ⟨v, hx, cs, rfl, off, ft, hf, g, sz, ht, c, hc, hk⟩ := h
    exact ⟨_, fun w' _ => by simp only [execOp, ha.look hx, Sem.run_bind, run_field hf ht hc, Result.andThen_ok, Sem.run_pure], hk⟩
  | indexAddr T x i =>
    obtain ⟨v, hx, u, hy, r, hr, hk⟩ := h
    exact ⟨_, fun w' _ => by simp only [execOp, ha.look hx, ha.look hy, Sem.run_bind, run_idxA hr, Result.andThen_ok, Sem.run_pure], hk⟩
  | index T x i =>
    obtain ⟨v, hx, u, hy, r, hr, hk⟩ := h
    exact ⟨_, fun w' _ => by simp only [execOp, ha.look hx, ha.look hy, Sem.run_bind, run_idxV hr, Result.andThen_ok, Sem.run_pure], hk⟩
  | extract x i =>
    obtain ⟨v, hx, r, hr, hk⟩ := h
    refine ⟨r, fun w' _ => ?_, hk⟩
    unfold tupV at hr
    split at hr
    · simp only [execOp, ha.look hx, Instr.extract, hr, Sem.run_bind, Sem.run_pure, Result.andThen_ok]
    · simp at hr
  | slice T x lo hi mx =>
    obtain ⟨v, hx, l, hl, u, hu, m, hm, r, hr, hk⟩ := h
    exact ⟨_, fun w' _ => by simp only [execOp, ha.look hx, opt_map ha hl, opt_map ha hu, opt_map ha hm, Sem.run_bind, run_slV hr, Result.andThen_ok, Sem.run_pure], hk⟩
  | call c =>
    obtain ⟨callee, args, argTypes⟩ := c
    cases callee with
    | value f => exact h.elim
    | invoke r m => exact h.elim
    | builtin b =>
      cases b <;> first
        | exact h.elim
        | (obtain ⟨as, has, r, hb, hk⟩ := h
           exact ⟨_, fun w' _ => by simp only [execOp, resolve, looks_map ha has, Sem.run_bind, Sem.run_pure, Result.andThen_ok, invoke, builtin, run_lenV hb], hk⟩)
  | _ => exact h.elim

theorem stgc_sound {F : Nat → Prop} {ops : Array Oper} {o : Oper} {L : AL} {w : World} {K : AL → Prop} (h : stgc P F ops.toList o L w K) {a : Act} (ha : Has n a L) :
    ∃ v, YieldsIf P ops (Eff F w) o v a ∧ K (put o.dst v L) := by
  unfold stgc at h
  cases hg : o.guard with
  | none =>
    rw [hg] at h
    obtain ⟨v, h1, h2⟩ := stc_sound h ha
    exact ⟨v, .inl ⟨by simp [Region.wanted, hg], h1⟩, h2⟩
  | some g =>
    obtain ⟨j, b⟩ := g
    rw [hg] at h
    obtain ⟨v, hv, h1, h2⟩ := h
    rw [gdst_eq] at hv
    have hy : yielded ops a.tmps j = yv v := by
      cases hj : (ops[j]?).bind (·.dst) with
      | none => simp [hj] at hv
      | some k =>
        simp only [Array.getElem?_toList, hj, Option.bind_some] at hv
        exact yielded_yv hj (ha.2.2 k v hv)
    have hw : Region.wanted o (yielded ops a.tmps) = (yv v == some b) := by
      unfold Region.wanted
      rw [hg]
      dsimp only
      rw [hy]
    by_cases hvb : v = .bool b
    · subst hvb
      obtain ⟨u, r1, r2⟩ := stc_sound (h1 rfl) ha
      exact ⟨u, .inl ⟨by rw [hw]; simp [yv], r1⟩, r2⟩
    · exact ⟨undef, .inr ⟨by rw [hw, yv_ne hvb], rfl⟩, h2 hvb⟩

theorem RH_sound {F : Nat → Prop} {ops : Array Oper} {Q : Pst} {w0 : World} (hs : Region.noSelect ops = true) (hd : ops.toList.all (dstOk n) = true) (hQ : ∀ c L w, ¬ Q (.panic c) L w) :
    ∀ (order : List Nat) (fuel : Nat) (listed : Array Bool) (L : AL) (w : World) (a : Act), order.length ≤ fuel → planB ops listed order = true → RH P ops.toList Q F w0 order L w → Eff F w0 w → Has n a L →
      wpAnyH P .any ops (lift n Q) (Eff F w0) fuel listed a w
  | [], fuel, listed, L, w, a, _, hp, h, _, ha => by
    simp only [planB, List.isEmpty_iff] at hp
    exact wpAnyH_done hp ⟨L, ha, h⟩ fuel
  | i :: r, 0, listed, L, w, a, hl, _, _, _, _ => by simp at hl
  | i :: r, fuel + 1, listed, L, w, a, hl, hp, h, hx, ha => by
    unfold planB at hp
    unfold RH at h
    rw [Array.getElem?_toList] at h
    cases hi : ops[i]? with
    | none => simp [hi] at hp
    | some o =>
      rw [hi] at hp h
      simp only [Bool.and_eq_true] at hp
      obtain ⟨⟨hr, hc⟩, hp⟩ := hp
      have hdo : ∀ k, o.dst = some k → k < n := fun k hk => by
        rw [List.all_eq_true] at hd
        have := hd o (List.mem_of_getElem? (by rw [Array.getElem?_toList]; exact hi))
        unfold dstOk at this
        rw [hk] at this
        simpa using this
      have hl' : r.length ≤ fuel := by simpa using hl
      have hput : ∀ v, Has n (a.put o.dst v) (put o.dst v L) := fun v => by
        unfold put
        cases hd : o.dst with
        | none => exact ha
        | some k => exact ha.put (hdo k hd) v
      by_cases hcalm : calmB o.op = true
      · simp only [hcalm, if_true] at h hc
        obtain ⟨v, hy, hk⟩ := stgc_sound (n := n) h ha
        refine wpAnyH_take hi hs hc hr (fun c a w ⟨L1, _, q⟩ => absurd q (hQ c L1 w)) hy hx ?_
        exact RH_sound hs hd hQ r fuel _ _ w _ hl' hp hk hx (hput v)
      · simp only [hcalm, Bool.false_eq_true, if_false] at h hc
        have hrs : Region.ready .any ops listed = [i] := by simpa using hc
        refine wpAnyH_all hrs (by simp) fun j hj => ?_
        simp only [List.mem_singleton] at hj
        subst hj
        unfold wpOp
        rw [hi]
        dsimp only
        exact stg_sound h ha (fun L' w' hk a' ha' => ⟨hk.1, RH_sound hs hd hQ r fuel _ L' w' a' hl' hp hk.2 hk.1 ha'⟩) hdo

/-- A drawn region. -/
theorem Wp.held {id : Nat} {ops : List Oper} {Q : Pst} {L : AL} {w : World} (F : Nat → Prop) (order : List Nat) (hm : P.follows .mixedOrders = true)
    (hc : (Region.noSelect ops.toArray && ops.all (dstOk n) && decide (order.length ≤ ops.length) && planB ops.toArray (Array.replicate ops.length false) order) = true) (hQ : ∀ c L w, ¬ Q (.panic c) L w)
    (h : ∀ w1, Ext w w1 → w1.heap = w.heap → RH P (hid ops) (hid Q) F w1 order L w1) : Wp P n (hid (.region id ops.toArray true)) (hid Q) L w := by
  simp only [Bool.and_eq_true, decide_eq_true_eq] at hc
  intro a ha
  refine wp_region_held hm (RH_sound (ops := ops.toArray) hc.1.1.1 hc.1.1.2 hQ order _ _ L _ a (by simpa using hc.1.2) (by simpa using hc.2) (h _ (Eff.drew w _) rfl) (Eff.refl _ _) ha)
end Go.Ig
