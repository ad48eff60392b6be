import Derived.Orders
import Derived.Tactics
set_option linter.unusedVariables false
set_option linter.unusedSimpArgs false
set_option linter.unusedSectionVars false
set_option linter.unnecessarySimpa false
namespace Go.Ig

/-- What is known of a frame: the newest fact of a slot counts. -/
abbrev AL := List (Nat × Value)

def lkt : AL → Nat → Option Value
  | [], _ => none
  | (k, v) :: L, t => if k = t then some v else lkt L t

@[simp] theorem lkt_nil (t : Nat) : lkt [] t = none := rfl
theorem lkt_cons (k : Nat) (v : Value) (L : AL) (t : Nat) : lkt ((k, v) :: L) t = if k = t then some v else lkt L t := rfl

def look (L : AL) : Operand → Option Value
  | .tmp t => lkt L t
  | .const v => some v
  | .global g => some (.pointer (some ⟨g, 0, none⟩))
  | .func f => some (.func (.func f) #[] #[])

def looks (L : AL) : List Operand → Option (List Value)
  | [] => some []
  | x :: xs => match look L x, looks L xs with
    | some v, some vs => some (v :: vs)
    | _, _ => none

/-- The frame a holds what L says. -/
def Has (n : Nat) (a : Act) (L : AL) : Prop := a.tmps.size = n ∧ a.defers = [] ∧ ∀ t v, lkt L t = some v → a.tmps[t]? = some v

def Sub (L L' : AL) : Prop := ∀ t v, lkt L t = some v → lkt L' t = some v

theorem Has.sub {n : Nat} {a : Act} {L L' : AL} (h : Has n a L) (hs : Sub L' L) : Has n a L' :=
  ⟨h.1, h.2.1, fun t v ht => h.2.2 t v (hs t v ht)⟩

theorem Has.look {n : Nat} {a : Act} {L : AL} (h : Has n a L) {x : Operand} {v : Value} (hx : look L x = some v) : a.eval x = v := by
  cases x with
  | tmp t =>
    have := h.2.2 t v hx
    simp [Act.eval, Array.getD_eq_getD_getElem?, this]
  | const u => simpa [Ig.look, Act.eval] using hx
  | global g => simpa [Ig.look, Act.eval] using hx
  | func f => simpa [Ig.look, Act.eval] using hx

theorem Has.looks {n : Nat} {a : Act} {L : AL} (h : Has n a L) : ∀ {xs : List Operand} {vs : List Value}, looks L xs = some vs → xs.map a.eval = vs
  | [], vs, hx => by simpa [Ig.looks] using hx
  | x :: xs, vs, hx => by
    unfold Ig.looks at hx
    split at hx
    · rename_i v vs' h1 h2
      simp only [Option.some.injEq] at hx
      subst hx
      simp [h.look h1, h.looks h2]
    · simp at hx

theorem Has.put {n : Nat} {a : Act} {L : AL} (h : Has n a L) {d : Nat} (hd : d < n) (v : Value) : Has n (a.put (some d) v) ((d, v) :: L) := by
  obtain ⟨h1, h2, h3⟩ := h
  refine ⟨by simp [Act.put, h1], by simp [Act.put, h2], fun t u ht => ?_⟩
  simp only [lkt_cons] at ht
  simp only [Act.put]
  split at ht
  · rename_i e
    subst e
    simp only [Option.some.injEq] at ht
    subst ht
    simp [h1, hd]
  · rename_i e
    rw [Array.getElem?_setIfInBounds_ne (by omega)]
    exact h3 t u ht

theorem Has.put' {n : Nat} {a : Act} {L : AL} (h : Has n a L) {d : Option Tmp} (hd : ∀ k, d = some k → k < n) (v : Value) :
    Has n (a.put d v) (match d with | some k => (k, v) :: L | none => L) := by
  cases d with
  | none => exact h
  | some k => exact h.put (hd k rfl) v

/-- The post of a piece of code, over what is known of the frame. -/
abbrev Pst := Exit → AL → World → Prop
def lift (n : Nat) (Q : Pst) : Exit → Act → World → Prop := fun e a w => ∃ L, Has n a L ∧ Q e L w

def Th (K : AL → World → Prop) (Q : Pst) : Pst
  | .normal, L, w => K L w
  | e, L, w => Q e L w

def InB (id : Nat) (Q : Pst) : Pst
  | .exit id', L, w => if id' = id then Q .normal L w else Q (.exit id') L w
  | e, L, w => Q e L w

def Wp (P : Program) (n : Nat) (c : Code) (Q : Pst) (L : AL) (w : World) : Prop :=
  ∀ a, Has n a L → c.wp P (lift n Q) a w

section
variable {P : Program} {n : Nat} {Q Q' : Pst} {L L' : AL} {w : World}

theorem Wp.mono {c : Code} (h : Wp P n c Q L w) (hq : ∀ e L w, Q e L w → Q' e L w) : Wp P n c Q' L w :=
  fun a ha => wp_mono (h a ha) fun _ _ _ ⟨L1, h1, h2⟩ => ⟨L1, h1, hq _ _ _ h2⟩

theorem Wp.sub {c : Code} (h : Wp P n c Q L w) (hs : Sub L L') : Wp P n c Q L' w := fun a ha => h a (ha.sub hs)

theorem Wp.skip (h : Q .normal L w) : Wp P n .skip Q L w := fun _ ha => wp_skip ⟨L, ha, h⟩
theorem Wp.label {l : Nat} (h : Q .normal L w) : Wp P n (.label l) Q L w := fun _ ha => wp_label ⟨L, ha, h⟩
theorem Wp.ret (h : Q .ret L w) : Wp P n .ret Q L w := fun _ ha => wp_ret ⟨L, ha, h⟩
theorem Wp.exit {id : Nat} (h : Q (.exit id) L w) : Wp P n (.exit id) Q L w := fun _ ha => wp_exit ⟨L, ha, h⟩

theorem Wp.seq {x y : Code} (h : Wp P n x (Th (Wp P n y Q) Q) L w) : Wp P n (.seq x y) Q L w := by
  intro a ha
  refine wp_seq (wp_mono (h a ha) ?_)
  rintro e a1 w1 ⟨L1, h1, h2⟩
  cases e with
  | normal => exact h2 a1 h1
  | _ => exact ⟨L1, h1, h2⟩

theorem Wp.cond {c : Operand} {x y : Code} {t : Bool} (hc : look L c = some (.bool t)) (h1 : t = true → Wp P n x Q L w) (h2 : t = false → Wp P n y Q L w) :
    Wp P n (.cond c x y) Q L w := fun a ha => by
  refine wp_cond_split (ha.look hc) (fun h => h1 h a ha) (fun h => h2 h a ha)

theorem Wp.block {id : Nat} {c : Code} (h : Wp P n c (InB id Q) L w) : Wp P n (.block id c) Q L w := fun a ha => by
  refine wp_block (wp_mono (h a ha) ?_)
  rintro e a1 w1 ⟨L1, h1, h2⟩
  cases e with
  | exit id' =>
    simp only [InB, Exit.inBlock] at h2 ⊢
    split
    · rename_i e; rw [if_pos e] at h2; exact ⟨L1, h1, h2⟩
    · rename_i e; rw [if_neg e] at h2; exact ⟨L1, h1, h2⟩
  | _ => exact ⟨L1, h1, h2⟩

theorem Wp.loop {c : Code} {σ : Type} (I : σ → AL → World → Prop) (μ : σ → Nat) (s : σ) (h0 : I s L w)
    (round : ∀ s L w, I s L w → Wp P n c (Th (fun L' w' => ∃ s', μ s' < μ s ∧ I s' L' w') Q) L w) : Wp P n (.loop c) Q L w := by
  intro a ha b K cs
  have key : ∀ k s L w a, μ s = k → I s L w → Has n a L →
      ∃ e a' w', lift n Q e a' w' ∧ Arrives P (lone (b.at a (.code c :: .inLoop c :: K)) cs w) b K cs e a' w' := by
    intro k
    induction k using Nat.strongRecOn with
    | _ k ih =>
      intro s L w a hk hI ha
      obtain ⟨e, a1, w1, ⟨L1, h1, h2⟩, harr⟩ := round s L w hI a ha b (.inLoop c :: K) cs
      cases e with
      | normal =>
        obtain ⟨s', hlt, hI'⟩ := h2
        obtain ⟨e2, a2, w2, q2, harr2⟩ := ih (μ s') (hk ▸ hlt) s' L1 w1 a1 rfl hI' h1
        exact ⟨e2, a2, w2, q2, .of_steps (Steps.trans harr (.one step_inLoop)) harr2⟩
      | exit id => exact ⟨_, a1, w1, ⟨L1, h1, h2⟩, .pass (x := .inLoop c) rfl (fun _ _ => .inl (by simp)) harr⟩
      | goto l => exact ⟨_, a1, w1, ⟨L1, h1, h2⟩, .pass (x := .inLoop c) rfl (fun _ _ => .inl (by simp)) harr⟩
      | ret => exact ⟨_, a1, w1, ⟨L1, h1, h2⟩, .pass (x := .inLoop c) rfl (fun _ _ => .inl (by simp)) harr⟩
      | panic ch => exact ⟨_, a1, w1, ⟨L1, h1, h2⟩, .pass (x := .inLoop c) rfl (fun _ _ => .inl (by simp)) harr⟩
      | outgrown => exact ⟨_, a1, w1, ⟨L1, h1, h2⟩, .pass (x := .inLoop c) rfl (fun _ _ => .inl (by simp)) harr⟩
  obtain ⟨e, a', w', hq, harr⟩ := key _ s L w a rfl h0 ha
  exact ⟨e, a', w', hq, .of_steps (.one step_loop) harr⟩
end
end Go.Ig
