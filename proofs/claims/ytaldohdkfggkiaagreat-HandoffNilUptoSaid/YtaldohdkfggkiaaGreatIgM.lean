import Derived.Test.YtaldohdkfggkiaaGreatIg8
set_option linter.unusedVariables false
set_option linter.unusedSimpArgs false
set_option linter.unusedSectionVars false
set_option linter.unnecessarySimpa false
namespace Go.Ig
/-! Knowing more of the frame, and asking less of the rest, keeps a walk. -/
/-- What L says of some slots. -/
def grab (L : AL) : List Nat → AL
  | [] => []
  | k :: ks => (k, (lkt L k).getD undef) :: grab L ks
theorem grab_nil {L : AL} : grab L [] = [] := (rfl)
theorem grab_cons {L : AL} {k : Nat} {ks : List Nat} : grab L (k :: ks) = (k, (lkt L k).getD undef) :: grab L ks := (rfl)

section
variable {P : Program} {n : Nat} {L L' : AL} {w : World}

theorem look_sub (hs : Sub L L') {x : Operand} {v : Value} (h : look L x = some v) : look L' x = some v := by
  cases x with
  | tmp t => exact hs t v h
  | _ => exact h
theorem looks_sub (hs : Sub L L') : ∀ {xs : List Operand} {vs : List Value}, looks L xs = some vs → looks L' xs = some vs
  | [], _, h => h
  | x :: xs, vs, h => by
    unfold looks at h ⊢
    split at h
    · rename_i v vs' h1 h2
      rw [look_sub hs h1, looks_sub hs h2]; exact h
    · simp at h
theorem opt_sub (hs : Sub L L') {x : Option Operand} {v : Option Value} (h : opt L x = some v) : opt L' x = some v := by
  cases x with
  | none => exact h
  | some x =>
    simp only [opt, Option.map_eq_some_iff] at h ⊢
    obtain ⟨u, hu, e⟩ := h
    exact ⟨u, look_sub hs hu, e⟩
theorem put_sub (hs : Sub L L') (d : Option Tmp) (v : Value) : Sub (put d v L) (put d v L') := by
  cases d with
  | none => exact hs
  | some k =>
    intro t u h
    simp only [put, lkt_cons] at h ⊢
    split at h
    · rename_i e; rw [if_pos e]; exact h
    · rename_i e; rw [if_neg e]; exact hs t u h
theorem Sub.trans {A B C : AL} (h : Sub A B) (k : Sub B C) : Sub A C := fun t v e => k t v (h t v e)

theorem ob_mono {o o' : Option Value} {k k' : Value → Prop} (h : ob o k) (ho : ∀ v, o = some v → o' = some v) (hk : ∀ v, k v → k' v) : ob o' k' := by
  obtain ⟨v, hv, h⟩ := h; exact ⟨v, ho v hv, hk v h⟩
theorem obs_mono {o o' : Option (List Value)} {k k' : List Value → Prop} (h : obs o k) (ho : ∀ v, o = some v → o' = some v) (hk : ∀ v, k v → k' v) : obs o' k' := by
  obtain ⟨v, hv, h⟩ := h; exact ⟨v, ho v hv, hk v h⟩
theorem obo_mono {o o' : Option (Option Value)} {k k' : Option Value → Prop} (h : obo o k) (ho : ∀ v, o = some v → o' = some v) (hk : ∀ v, k v → k' v) : obo o' k' := by
  obtain ⟨v, hv, h⟩ := h; exact ⟨v, ho v hv, hk v h⟩
theorem obF_mono {o : Option (Nat × TypeId)} {k k' : Nat → TypeId → Prop} (h : obF o k) (hk : ∀ a b, k a b → k' a b) : obF o k' := by
  obtain ⟨a, b, hv, h⟩ := h; exact ⟨a, b, hv, hk a b h⟩
theorem obT_mono {o : Option (Bool × Nat)} {k k' : Bool → Nat → Prop} (h : obT o k) (hk : ∀ a b, k a b → k' a b) : obT o k' := by
  obtain ⟨a, b, hv, h⟩ := h; exact ⟨a, b, hv, hk a b h⟩
theorem aggP_mono {v : Value} {k k' : List Value → Prop} (h : aggP v k) (hk : ∀ v, k v → k' v) : aggP v k' := by
  obtain ⟨c, hc, h⟩ := h; exact ⟨c, hc, hk _ h⟩
theorem ptrP_mono {v : Value} {k k' : Addr → Prop} (h : ptrP v k) (hk : ∀ v, k v → k' v) : ptrP v k' := by
  obtain ⟨c, hc, h⟩ := h; exact ⟨c, hc, hk _ h⟩
theorem LoadP_mono {t : TypeId} {a : Addr} {k k' : Value → Prop} (h : LoadP P t a w k) (hk : ∀ v, k v → k' v) : LoadP P t a w k' :=
  obT_mono h fun _ _ h => obs_mono h (fun _ e => e) fun _ h => hk _ h
theorem RunP.mono {α : Type} {s : Sem α} {K K' : α → World → Prop} (h : RunP P s w K) (hk : ∀ v w, K v w → K' v w) : RunP P s w K' := by
  obtain ⟨v, w', hr, h⟩ := h.ex; exact ⟨v, w', hr, hk _ _ h⟩
theorem VorR.mono {o : Option Value} {s : Sem Value} {K K' : Value → World → Prop} (h : VorR P o s w K) (hk : ∀ v w, K v w → K' v w) : VorR P o s w K' := by
  cases o with
  | none => exact RunP.mono h hk
  | some v => exact hk _ _ h
theorem CallP.mono {f : FuncId} {as : List Value} {K K' : Value → World → Prop} (h : CallP P f as w K) (hk : ∀ v w, K v w → K' v w) : CallP P f as w K' := by
  rcases h.ex with h | ⟨v, w', hr, h⟩
  · exact ⟨.inl (h.mono hk)⟩
  · exact ⟨.inr ⟨v, w', hr, hk _ _ h⟩⟩
theorem InvP.mono {r : Value} {m : String} {as : List Value} {K K' : Value → World → Prop} (h : InvP P r m as w K) (hk : ∀ v w, K v w → K' v w) : InvP P r m as w K' := by
  obtain ⟨t, v, f, r', h1, h2, h3⟩ := h
  exact ⟨t, v, f, r', h1, h2, h3.mono hk⟩
theorem FunP_mono {v : Value} {k k' : FuncId → List Value → List Value → Prop} (h : FunP v k) (hk : ∀ f a b, k f a b → k' f a b) : FunP v k' := by
  obtain ⟨f, a, b, e, h⟩ := h; exact ⟨f, a, b, e, hk _ _ _ h⟩
theorem BuildP_mono {T : TypeId} {ps : List (Nat × Value)} {k k' : Value → Prop} (h : BuildP P T ps k) (hk : ∀ v, k v → k' v) : BuildP P T ps k' :=
  ⟨h.1, obs_mono h.2 (fun _ e => e) fun _ h => obs_mono h (fun _ e => e) fun _ h => hk _ h⟩
theorem AllocP.mono {T : TypeId} {cs : List Value} {K K' : Value → World → Prop} (h : AllocP T cs w K) (hk : ∀ v w, K v w → K' v w) : AllocP T cs w K' := ⟨hk _ _ h.ex⟩
theorem StoreP.mono {t : TypeId} {a : Addr} {v : Value} {K K' : World → Prop} (h : StoreP P t a v w K) (hk : ∀ w, K w → K' w) : StoreP P t a v w K' := by
  obtain ⟨T, cs, h1, h2, h3, h4, h5, h6⟩ := h.ex
  exact ⟨T, cs, h1, h2, h3, h4, h5, hk _ h6⟩
theorem CondP.mono {o o' : Option Value} {A B A' B' : Prop} (h : CondP o A B) (ho : ∀ v, o = some v → o' = some v) (ha : A → A') (hb : B → B') : CondP o' A' B' := by
  obtain ⟨b, hv, h1, h2⟩ := h.ex
  exact ⟨b, ho _ hv, fun e => ha (h1 e), fun e => hb (h2 e)⟩
theorem GuardP.mono {o o' : Option Value} {b : Bool} {A B A' B' : Prop} (h : GuardP o b A B) (ho : ∀ v, o = some v → o' = some v) (ha : A → A') (hb : B → B') : GuardP o' b A' B' := by
  obtain ⟨v, hv, h1, h2⟩ := h.ex
  exact ⟨v, ho _ hv, fun e => ha (h1 e), fun e => hb (h2 e)⟩

set_option maxHeartbeats 1000000 in
theorem stp_mono {o : Oper} {K K' : AL → World → Prop} (h : stp P o L w K) (hs : Sub L L') (hK : ∀ L1 L2 w, Sub L1 L2 → K L1 w → K' L2 w) : stp P o L' w K' := by
  unfold stp at h ⊢
  obtain ⟨dst, op, type, pos, after, guard⟩ := o
  dsimp only at h ⊢
  have fin : ∀ v w, K (put dst v L) w → K' (put dst v L') w := fun v w => hK _ _ _ (put_sub hs dst v)
  cases op with
  | pick c x y =>
    exact CondP.mono h (fun _ => look_sub hs) (fun h => ob_mono h (fun _ => look_sub hs) fun _ h => obs_mono h (fun _ => looks_sub hs) fun _ h => fin _ _ h) (fun h => ob_mono h (fun _ => look_sub hs) fun _ h => obs_mono h (fun _ => looks_sub hs) fun _ h => fin _ _ h)
  | unOp op T x =>
    cases op <;> dsimp only at h ⊢ <;> (repeat (first
      | exact h.elim
      | exact fin _ _ h
      | exact ⟨h.1, fin _ _ h.2⟩
      | (obtain ⟨b, e, h⟩ := h; exact ⟨b, e, fin _ _ h⟩)
      | (refine ob_mono h (fun _ => look_sub hs) fun _ h => ?_)
      | (refine ob_mono h (fun _ e => e) fun _ h => ?_)
      | (refine obs_mono h (fun _ => looks_sub hs) fun _ h => ?_)
      | (refine obs_mono h (fun _ e => e) fun _ h => ?_)
      | (refine obo_mono h (fun _ => opt_sub hs) fun _ h => ?_)
      | (refine obF_mono h fun _ _ h => ?_)
      | (refine obT_mono h fun _ _ h => ?_)
      | (refine aggP_mono h fun _ h => ?_)
      | (refine ptrP_mono h fun _ h => ?_)
      | (refine LoadP_mono h fun _ h => ?_)
      | (refine FunP_mono h fun _ _ _ h => ?_)
      | (refine BuildP_mono h fun _ h => ?_)
      | (refine AllocP.mono h fun _ _ h => ?_)
      | (refine StoreP.mono h fun _ h => ?_)
      | (refine RunP.mono h fun _ _ h => ?_)
      | (refine VorR.mono h fun _ _ h => ?_)
      | (refine CallP.mono h fun _ _ h => ?_)
      | (refine InvP.mono h fun _ _ h => ?_)))
  | call c =>
    obtain ⟨callee, args, ty⟩ := c
    cases callee with
    | builtin b => cases b <;> dsimp only at h ⊢ <;> (repeat (first
      | exact h.elim
      | exact fin _ _ h
      | exact ⟨h.1, fin _ _ h.2⟩
      | (obtain ⟨b, e, h⟩ := h; exact ⟨b, e, fin _ _ h⟩)
      | (refine ob_mono h (fun _ => look_sub hs) fun _ h => ?_)
      | (refine ob_mono h (fun _ e => e) fun _ h => ?_)
      | (refine obs_mono h (fun _ => looks_sub hs) fun _ h => ?_)
      | (refine obs_mono h (fun _ e => e) fun _ h => ?_)
      | (refine obo_mono h (fun _ => opt_sub hs) fun _ h => ?_)
      | (refine obF_mono h fun _ _ h => ?_)
      | (refine obT_mono h fun _ _ h => ?_)
      | (refine aggP_mono h fun _ h => ?_)
      | (refine ptrP_mono h fun _ h => ?_)
      | (refine LoadP_mono h fun _ h => ?_)
      | (refine FunP_mono h fun _ _ _ h => ?_)
      | (refine BuildP_mono h fun _ h => ?_)
      | (refine AllocP.mono h fun _ _ h => ?_)
      | (refine StoreP.mono h fun _ h => ?_)
      | (refine RunP.mono h fun _ _ h => ?_)
      | (refine VorR.mono h fun _ _ h => ?_)
      | (refine CallP.mono h fun _ _ h => ?_)
      | (refine InvP.mono h fun _ _ h => ?_)))
    | _ => dsimp only at h ⊢; (repeat (first
      | exact h.elim
      | exact fin _ _ h
      | exact ⟨h.1, fin _ _ h.2⟩
      | (obtain ⟨b, e, h⟩ := h; exact ⟨b, e, fin _ _ h⟩)
      | (refine ob_mono h (fun _ => look_sub hs) fun _ h => ?_)
      | (refine ob_mono h (fun _ e => e) fun _ h => ?_)
      | (refine obs_mono h (fun _ => looks_sub hs) fun _ h => ?_)
      | (refine obs_mono h (fun _ e => e) fun _ h => ?_)
      | (refine obo_mono h (fun _ => opt_sub hs) fun _ h => ?_)
      | (refine obF_mono h fun _ _ h => ?_)
      | (refine obT_mono h fun _ _ h => ?_)
      | (refine aggP_mono h fun _ h => ?_)
      | (refine ptrP_mono h fun _ h => ?_)
      | (refine LoadP_mono h fun _ h => ?_)
      | (refine FunP_mono h fun _ _ _ h => ?_)
      | (refine BuildP_mono h fun _ h => ?_)
      | (refine AllocP.mono h fun _ _ h => ?_)
      | (refine StoreP.mono h fun _ h => ?_)
      | (refine RunP.mono h fun _ _ h => ?_)
      | (refine VorR.mono h fun _ _ h => ?_)
      | (refine CallP.mono h fun _ _ h => ?_)
      | (refine InvP.mono h fun _ _ h => ?_)))
  | _ => dsimp only at h ⊢; (repeat (first
      | exact h.elim
      | exact fin _ _ h
      | exact ⟨h.1, fin _ _ h.2⟩
      | (obtain ⟨b, e, h⟩ := h; exact ⟨b, e, fin _ _ h⟩)
      | (refine ob_mono h (fun _ => look_sub hs) fun _ h => ?_)
      | (refine ob_mono h (fun _ e => e) fun _ h => ?_)
      | (refine obs_mono h (fun _ => looks_sub hs) fun _ h => ?_)
      | (refine obs_mono h (fun _ e => e) fun _ h => ?_)
      | (refine obo_mono h (fun _ => opt_sub hs) fun _ h => ?_)
      | (refine obF_mono h fun _ _ h => ?_)
      | (refine obT_mono h fun _ _ h => ?_)
      | (refine aggP_mono h fun _ h => ?_)
      | (refine ptrP_mono h fun _ h => ?_)
      | (refine LoadP_mono h fun _ h => ?_)
      | (refine FunP_mono h fun _ _ _ h => ?_)
      | (refine BuildP_mono h fun _ h => ?_)
      | (refine AllocP.mono h fun _ _ h => ?_)
      | (refine StoreP.mono h fun _ h => ?_)
      | (refine RunP.mono h fun _ _ h => ?_)
      | (refine VorR.mono h fun _ _ h => ?_)
      | (refine CallP.mono h fun _ _ h => ?_)
      | (refine InvP.mono h fun _ _ h => ?_)))

theorem stg_mono {ops : List Oper} {o : Oper} {K K' : AL → World → Prop} (h : stg P ops o L w K) (hs : Sub L L') (hK : ∀ L1 L2 w, Sub L1 L2 → K L1 w → K' L2 w) : stg P ops o L' w K' := by
  unfold stg at h ⊢
  cases hg : o.guard with
  | none => rw [hg] at h; exact stp_mono h hs hK
  | some g =>
    rw [hg] at h
    refine GuardP.mono h (fun v hv => ?_) (fun h => stp_mono h hs hK) (fun h => hK _ _ _ (put_sub hs _ _) h)
    obtain ⟨k, hk, e⟩ := Option.bind_eq_some_iff.1 hv
    rw [hk]; exact hs k v e

theorem R_mono {ops : List Oper} {Q Q' : Pst} (hQ : ∀ L1 L2 w, Sub L1 L2 → Q .normal L1 w → Q' .normal L2 w) : ∀ {rest : List Oper} {L L' : AL} {w : World}, R P ops Q rest L w → Sub L L' → R P ops Q' rest L' w
  | [], L, L', w, h, hs => hQ _ _ _ hs h
  | o :: rest, L, L', w, h, hs => stg_mono h hs fun _ _ _ hs h => R_mono hQ h hs

/-- A post that keeps when more is known. -/
def PostM (Q Q' : Pst) : Prop := ∀ e L1 L2 w, Sub L1 L2 → Q e L1 w → Q' e L2 w

theorem PostM.th {K K' : AL → World → Prop} {Q Q' : Pst} (hK : ∀ L1 L2 w, Sub L1 L2 → K L1 w → K' L2 w) (hQ : PostM Q Q') : PostM (Th K Q) (Th K' Q') := by
  intro e L1 L2 w hs h
  cases e with
  | normal => exact hK _ _ _ hs h
  | _ => exact hQ _ _ _ _ hs h
theorem PostM.inB {id : Nat} {Q Q' : Pst} (hQ : PostM Q Q') : PostM (InB id Q) (InB id Q') := by
  intro e L1 L2 w hs h
  cases e with
  | exit j =>
    simp only [InB] at h ⊢
    split
    · rename_i e; rw [if_pos e] at h; exact hQ _ _ _ _ hs h
    · rename_i e; rw [if_neg e] at h; exact hQ _ _ _ _ hs h
  | _ => exact hQ _ _ _ _ hs h

theorem Wp.monoM {c : Code} {Q Q' : Pst} (h : Wp P n c Q L w) (hs : Sub L L') (hQ : PostM Q Q') : Wp P n c Q' L' w :=
  (h.sub hs).mono fun e L w q => hQ e L L w (Sub.refl L) q

theorem W_mono : ∀ {c : Code} {Q Q' : Pst} {L L' : AL} {w : World}, W P n c Q L w → Sub L L' → PostM Q Q' → W P n c Q' L' w
  | .skip, Q, Q', L, L', w, h, hs, hQ => hQ _ _ _ _ hs h
  | .seq a b, Q, Q', L, L', w, h, hs, hQ => W_mono (c := a) h hs (.th (fun _ _ _ hs h => W_mono (c := b) h hs hQ) hQ)
  | .region id ops d, Q, Q', L, L', w, h, hs, hQ => by
    unfold W at h ⊢
    split
    · rename_i e; rw [if_pos e] at h; exact Wp.monoM h hs hQ
    · rename_i e; rw [if_neg e] at h; exact R_mono (fun _ _ _ hs h => hQ _ _ _ _ hs h) h hs
  | .cond c x y, Q, Q', L, L', w, h, hs, hQ => CondP.mono h (fun _ => look_sub hs) (fun h => W_mono (c := x) h hs hQ) (fun h => W_mono (c := y) h hs hQ)
  | .block id b, Q, Q', L, L', w, h, hs, hQ => W_mono (c := b) h hs (.inB hQ)
  | .exit id, Q, Q', L, L', w, h, hs, hQ => hQ _ _ _ _ hs h
  | .ret, Q, Q', L, L', w, h, hs, hQ => hQ _ _ _ _ hs h
  | .label l, Q, Q', L, L', w, h, hs, hQ => hQ _ _ _ _ hs h
  | .loop b, Q, Q', L, L', w, h, hs, hQ => Wp.monoM h hs hQ
  | .rangeFunc f ps a b, Q, Q', L, L', w, h, hs, hQ => Wp.monoM h hs hQ
  | .scope b, Q, Q', L, L', w, h, hs, hQ => Wp.monoM h hs hQ
  | .goto l, Q, Q', L, L', w, h, hs, hQ => Wp.monoM h hs hQ
  | .refuse r, Q, Q', L, L', w, h, hs, hQ => Wp.monoM h hs hQ

theorem resP_mono : ∀ {rs : List ResultVar} {k : List Value → Prop}, resP P rs L w k → Sub L L' → resP P rs L' w k
  | [], _, h, _ => h
  | .tmp t :: rs, _, h, hs => ob_mono h (fun v e => hs t v e) fun _ h => resP_mono h hs
  | .cell t T :: rs, _, h, hs => ob_mono h (fun v e => hs t v e) fun _ h => ptrP_mono h fun _ h => LoadP_mono h fun _ h => resP_mono h hs

/-! Posts and rests that keep, found by their form. -/
class QM (Q : Pst) : Prop where
  m : PostM Q Q
class KM (K : AL → World → Prop) : Prop where
  m : ∀ L1 L2 w, Sub L1 L2 → K L1 w → K L2 w
instance QM.hid {Q : Pst} [h : QM Q] : QM (hid Q) := h
instance KM.hid {K : AL → World → Prop} [h : KM K] : KM (hid K) := h
instance QM.th {K : AL → World → Prop} {Q : Pst} [hK : KM K] [hQ : QM Q] : QM (Th K Q) := ⟨.th hK.m hQ.m⟩
instance QM.inB {i : Nat} {Q : Pst} [hQ : QM Q] : QM (InB i Q) := ⟨.inB hQ.m⟩
instance QM.fn {rs : List ResultVar} {R : Value → World → Prop} : QM (FnQ P rs R) := ⟨fun e L1 L2 w hs h => by
  cases e with
  | normal => exact resP_mono h hs
  | ret => exact resP_mono h hs
  | _ => exact h⟩
instance KM.code {c : Code} {Q : Pst} [hQ : QM Q] : KM (fun L w => W P n c Q L w) := ⟨fun _ _ _ hs h => W_mono h hs hQ.m⟩
instance KM.rnd {c : Code} {Q : Pst} {k : Nat} [hQ : QM Q] : KM (fun L w => Rnd P n c Q k L w) := ⟨by
  induction k with
  | zero => intro _ _ _ _ h; exact h
  | succ k ih => intro L1 L2 w hs h; exact W_mono (c := c) h hs (.th ih hQ.m)⟩
instance KM.inv {σ : Type} {μ : σ → Prop} {X : σ → AL} {I : σ → World → Prop} : KM (fun L' w' => ∃ s', μ s' ∧ Sub (X s') L' ∧ I s' w') := ⟨fun _ _ _ hs ⟨s, a, b, c⟩ => ⟨s, a, b.trans hs, c⟩⟩
instance KM.inv' {σ : Type} {X : σ → AL} {I : σ → World → Prop} : KM (fun L' w' => ∃ s', Sub (X s') L' ∧ I s' w') := ⟨fun _ _ _ hs ⟨s, b, c⟩ => ⟨s, b.trans hs, c⟩⟩
instance KM.r {ops rest : List Oper} {Q : Pst} [hQ : QM Q] : KM (fun L w => R P ops Q rest L w) := ⟨fun _ _ _ hs h => R_mono (fun _ _ _ hs h => hQ.m _ _ _ _ hs h) h hs⟩

/-- The ways from a test meet again: in V and K of the frame, and in Inv. -/
theorem CondP.meet {o : Option Value} {x y : Code} {K : AL → World → Prop} {Q : Pst} {σ : Type} (ks : List Nat) {C : AL} (V : σ → AL) (Inv : σ → World → Prop) (hC : grab L ks = C) [hK : KM K] [hQ : QM Q]
    (h1 : CondP o (hid (W P n (hid x) (hid (Th (hid fun L' w' => ∃ s, Sub (V s ++ C) L' ∧ Inv s w') (hid Q))) L w)) (hid (W P n (hid y) (hid (Th (hid fun L' w' => ∃ s, Sub (V s ++ C) L' ∧ Inv s w') (hid Q))) L w)))
    (h2 : ∀ s w, Inv s w → K (V s ++ C) w) : CondP o (hid (W P n (hid x) (hid (Th (hid K) (hid Q))) L w)) (hid (W P n (hid y) (hid (Th (hid K) (hid Q))) L w)) := by
  have hm : PostM (Th (fun L' w' => ∃ s, Sub (V s ++ C) L' ∧ Inv s w') Q) (Th K Q) :=
    .th (fun L1 L2 w hs ⟨s, a, b⟩ => hK.m _ _ _ (a.trans hs) (h2 s w b)) hQ.m
  exact CondP.mono h1 (fun _ e => e) (fun h => W_mono (c := x) h (Sub.refl L) hm) (fun h => W_mono (c := y) h (Sub.refl L) hm)

/-! ### drawn regions in more than one order -/
/-- An order: calm operations are taken as they come (go); of the others, each that may be next (fork .. none). -/
inductive Plan
  | done
  | go (i : Nat) (p : Plan)
  | fork (i : Nat) (p r : Plan)
  | none

def Plan.forks : Plan → List Nat
  | .fork i _ r => i :: r.forks
  | _ => []
def Plan.size : Plan → Nat
  | .go _ p => p.size + 1
  | .fork _ p r => max (p.size + 1) r.size
  | _ => 0

def planT (ops : Array Oper) : Bool → Array Bool → Plan → Bool
  | false, l, .done => (Region.ready .any ops l).isEmpty
  | false, l, .go i p => (match ops[i]? with
    | none => false
    | some o => calmB o.op && (Region.ready .any ops l).contains i && Region.free .any ops l i) && planT ops false (l.setIfInBounds i true) p
  | false, l, .fork i p r => (Region.ready .any ops l == i :: r.forks) && (ops[i]?).isSome && planT ops false (l.setIfInBounds i true) p && planT ops true l r
  | true, l, .fork i p r => (ops[i]?).isSome && planT ops false (l.setIfInBounds i true) p && planT ops true l r
  | true, _, .none => true
  | _, _, _ => false

def RT (P : Program) (ops : List Oper) (Q : Pst) (F : Nat → Prop) (w0 : World) : Plan → AL → World → Prop
  | .done, L, w => Q .normal L w
  | .go i p, L, w => match ops[i]? with
    | none => False
    | some o => stgc P F ops o L w0 fun L => RT P ops Q F w0 p L w
  | .fork i p r, L, w => (match ops[i]? with
    | none => False
    | some o => stg P ops o L w fun L w' => Eff F w0 w' ∧ RT P ops Q F w0 p L w') ∧ RT P ops Q F w0 r L w
  | .none, _, _ => True

theorem RT_fork {ops : Array Oper} {Q : Pst} {F : Nat → Prop} {w0 : World} {j : Nat} : ∀ (p : Plan) (l : Array Bool) (L : AL) (w : World), RT P ops.toList Q F w0 p L w → planT ops true l p = true → j ∈ p.forks →
    ∃ q o, q.size + 1 ≤ p.size ∧ ops[j]? = some o ∧ planT ops false (l.setIfInBounds j true) q = true ∧ stg P ops.toList o L w fun L w' => Eff F w0 w' ∧ RT P ops.toList Q F w0 q L w'
  | .fork i p r, l, L, w, h, hp, hj => by
    simp only [planT, Bool.and_eq_true] at hp
    simp only [Plan.forks, List.mem_cons] at hj
    rcases hj with rfl | hj
    · obtain ⟨o, ho⟩ := Option.isSome_iff_exists.1 hp.1.1
      simp only [RT, Array.getElem?_toList, ho] at h
      exact ⟨p, o, by simp only [Plan.size]; omega, ho, hp.1.2, h.1⟩
    · have h' : RT P ops.toList Q F w0 r L w := by simp only [RT] at h; exact h.2
      obtain ⟨q, o, h1, h2⟩ := RT_fork r l L w h' hp.2 hj
      exact ⟨q, o, by simp only [Plan.size]; omega, h2⟩
  | .done, _, _, _, _, hp, _ => by simp [planT] at hp
  | .go _ _, _, _, _, _, hp, _ => by simp [planT] at hp
  | .none, _, _, _, _, _, hj => by simp [Plan.forks] at hj

theorem RT_sound {F : Nat → Prop} {ops : Array Oper} {Q : Pst} {w0 : World} (hs : Region.noSelect ops = true) (hd : ops.toList.all (dstOk n) = true) (hQ : ∀ c L w, ¬ Q (.panic c) L w) :
    ∀ (fuel : Nat) (p : Plan) (listed : Array Bool) (L : AL) (w : World) (a : Act), p.size ≤ fuel → planT ops false listed p = true → RT P ops.toList Q F w0 p L w → Eff F w0 w → Has n a L →
      wpAnyH P .any ops (lift n Q) (Eff F w0) fuel listed a w
  | fuel, .done, listed, L, w, a, _, hp, h, _, ha => by
    simp only [planT, List.isEmpty_iff] at hp
    exact wpAnyH_done hp ⟨L, ha, h⟩ fuel
  | 0, .go i p, listed, L, w, a, hl, _, _, _, _ => by simp [Plan.size] at hl
  | fuel + 1, .go i p, listed, L, w, a, hl, hp, h, hx, ha => by
    unfold planT at hp
    unfold RT at h
    rw [Array.getElem?_toList] at h
    cases hi : ops[i]? with
    | none => simp [hi] at hp
    | some o =>
      rw [hi] at hp h
      simp only [Bool.and_eq_true] at hp
      obtain ⟨⟨⟨_, hr⟩, hc⟩, hp⟩ := hp
      have hdo : ∀ k, o.dst = some k → k < n := fun k hk => by
        rw [List.all_eq_true] at hd
        have := hd o (List.mem_of_getElem? (by rw [Array.getElem?_toList]; exact hi))
        unfold dstOk at this
        rw [hk] at this
        simpa using this
      have hput : ∀ v, Has n (a.put o.dst v) (put o.dst v L) := fun v => by
        unfold put
        cases hd : o.dst with
        | none => exact ha
        | some k => exact ha.put (hdo k hd) v
      obtain ⟨v, hy, hk⟩ := stgc_sound (n := n) h ha
      refine wpAnyH_take hi hs hc hr (fun c a w ⟨L1, _, q⟩ => absurd q (hQ c L1 w)) hy hx ?_
      exact RT_sound hs hd hQ fuel p _ _ w _ (by simp only [Plan.size] at hl; omega) hp hk hx (hput v)
  | 0, .fork i p r, listed, L, w, a, hl, _, _, _, _ => by simp only [Plan.size] at hl; omega
  | fuel + 1, .fork i p r, listed, L, w, a, hl, hp, h, hx, ha => by
    have hpf : planT ops true listed (.fork i p r) = true := by
      simp only [planT, Bool.and_eq_true] at hp ⊢
      exact ⟨⟨hp.1.1.2, hp.1.2⟩, hp.2⟩
    have hrs : Region.ready .any ops listed = (Plan.fork i p r).forks := by
      simp only [planT, Bool.and_eq_true, beq_iff_eq] at hp
      exact hp.1.1.1
    refine wpAnyH_all hrs (by simp [Plan.forks]) fun j hj => ?_
    obtain ⟨q, o, h1, h2, h3, h4⟩ := RT_fork _ listed L w h hpf hj
    have hdo : ∀ k, o.dst = some k → k < n := fun k hk => by
      rw [List.all_eq_true] at hd
      have := hd o (List.mem_of_getElem? (by rw [Array.getElem?_toList]; exact h2))
      unfold dstOk at this
      rw [hk] at this
      simpa using this
    unfold wpOp
    rw [h2]
    dsimp only
    exact stg_sound h4 ha (fun L' w' hk a' ha' => ⟨hk.1, RT_sound hs hd hQ fuel q _ L' w' a' (by omega) h3 hk.2 hk.1 ha'⟩) hdo
  | _, .none, _, _, _, _, _, hp, _, _, _ => by simp [planT] at hp

/-- A drawn region; the ways through it meet again. -/
theorem Wp.heldM {id : Nat} {ops : List Oper} {Q : Pst} {σ : Type} (F : Nat → Prop) (p : Plan) (ks : List Nat) {C : AL} (V : σ → AL) (Inv : σ → World → Prop) (hC : grab L ks = C) (hm : P.follows .mixedOrders = true)
    (hc : (Region.noSelect ops.toArray && ops.all (dstOk n) && decide (p.size ≤ ops.length) && planT ops.toArray false (Array.replicate ops.length false) p) = true) (hQ : ∀ c L w, ¬ Q (.panic c) L w) [hQM : QM Q]
    (h : ∀ w1, Ext w w1 → w1.heap = w.heap → RT P (hid ops) (hid (Th (hid fun L' w' => ∃ s, Sub (V s ++ C) L' ∧ Inv s w') (hid Q))) F w1 (hid p) L w1)
    (h2 : ∀ s w, Inv s w → Q .normal (V s ++ C) w) : Wp P n (hid (.region id ops.toArray true)) (hid Q) L w := by
  simp only [Bool.and_eq_true, decide_eq_true_eq] at hc
  have h1 : Wp P n (.region id ops.toArray true) (Th (fun L' w' => ∃ s, Sub (V s ++ C) L' ∧ Inv s w') Q) L w := by
    intro a ha
    refine wp_region_held hm (RT_sound (ops := ops.toArray) hc.1.1.1 hc.1.1.2 ?_ _ p _ L _ a (by simpa using hc.1.2) (by simpa using hc.2) (h _ (Eff.drew w _) rfl) (Eff.refl _ _) ha)
    exact fun c L w h => hQ c L w h
  refine h1.mono fun e L1 w1 q => ?_
  cases e with
  | normal =>
    obtain ⟨s, a, b⟩ := q
    exact hQM.m _ _ _ _ a (h2 s w1 b)
  | _ => exact q

theorem RT_done {ops : List Oper} {Q : Pst} {F : Nat → Prop} {w0 : World} : RT P (hid ops) (hid Q) F w0 (hid .done) L w = Q .normal L w := (rfl)
theorem RT_none {ops : List Oper} {Q : Pst} {F : Nat → Prop} {w0 : World} : RT P (hid ops) (hid Q) F w0 (hid .none) L w = True := (rfl)
def RTg (P : Program) (ops : List Oper) (F : Nat → Prop) (w0 : World) (o : Option Oper) (K : AL → World → Prop) (L : AL) (w : World) : Prop :=
  match o with
  | none => False
  | some o => stgc P F ops o L w0 fun L => K L w
def RTf (P : Program) (ops : List Oper) (F : Nat → Prop) (w0 : World) (o : Option Oper) (K : AL → World → Prop) (L : AL) (w : World) : Prop :=
  match o with
  | none => False
  | some o => stg P ops o L w fun L w' => Eff F w0 w' ∧ K L w'
theorem RT_go {ops : List Oper} {Q : Pst} {F : Nat → Prop} {w0 : World} {i : Nat} {p : Plan} : RT P (hid ops) (hid Q) F w0 (hid (.go i p)) L w = RTg P (hid ops) F w0 (gop (hid ops) i) (hid fun L w => RT P (hid ops) (hid Q) F w0 (hid p) L w) L w := by
  unfold hid
  conv => lhs; unfold RT
  rw [gop_eq]
  cases gop ops i <;> rfl
structure Both (A B : Prop) : Prop where
  a : A
  b : B
theorem Both_true {A : Prop} : Both A True = A := propext ⟨fun h => h.a, fun h => ⟨h, trivial⟩⟩
theorem RT_fork' {ops : List Oper} {Q : Pst} {F : Nat → Prop} {w0 : World} {i : Nat} {p r : Plan} : RT P (hid ops) (hid Q) F w0 (hid (.fork i p r)) L w = Both (RTf P (hid ops) F w0 (gop (hid ops) i) (hid fun L w => RT P (hid ops) (hid Q) F w0 (hid p) L w) L w) (RT P (hid ops) (hid Q) F w0 (hid r) L w) := by
  rw [show ∀ A B : Prop, Both A B = (A ∧ B) from fun A B => propext ⟨fun h => ⟨h.a, h.b⟩, fun h => ⟨h.1, h.2⟩⟩]
  unfold hid
  conv => lhs; unfold RT
  rw [gop_eq]
  cases gop ops i <;> rfl
theorem RTg_some {ops : List Oper} {F : Nat → Prop} {w0 : World} {K : AL → World → Prop} {dst : Option Tmp} {op : Op} {ty : TypeId} {ps : String} {af : Array Edge} {g : Option (Nat × Bool)} : RTg P (hid ops) F w0 (some (hid ⟨dst, op, ty, ps, af, g⟩)) (hid K) L w =
    stgc P F (hid ops) (hid ⟨dst, op, ty, ps, af, g⟩) L w0 (hid fun L => K L w) := (rfl)
theorem RTf_some {ops : List Oper} {F : Nat → Prop} {w0 : World} {K : AL → World → Prop} {dst : Option Tmp} {op : Op} {ty : TypeId} {ps : String} {af : Array Edge} {g : Option (Nat × Bool)} : RTf P (hid ops) F w0 (some (hid ⟨dst, op, ty, ps, af, g⟩)) (hid K) L w =
    stg P (hid ops) (hid ⟨dst, op, ty, ps, af, g⟩) L w (hid fun L w' => Eff F w0 w' ∧ K L w') := (rfl)
attribute [go_sem] Both_true RT_done RT_none RT_go RT_fork' RTg_some RTf_some
end
end Go.Ig
