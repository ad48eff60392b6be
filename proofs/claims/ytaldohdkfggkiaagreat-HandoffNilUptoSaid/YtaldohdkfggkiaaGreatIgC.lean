/-
More of the engine: loops that keep what they leave alone; known blocks told by their places.
-/
import Derived.Test.YtaldohdkfggkiaaGreatIgB
import Derived.Test.YtaldohdkfggkiaaGreatIgM
set_option linter.unusedVariables false
set_option linter.unusedSimpArgs false
set_option linter.unusedSectionVars false
set_option linter.unnecessarySimpa false
namespace Go.Ig
variable {P : Program} {n : Nat}

/-- A loop: ks: slots that it leaves alone; V: those that vary. -/
theorem Wp.loopG {c : Code} {Q : Pst} {L : AL} {w : World} {σ : Type} (ks : List Nat) {K : AL} (V : σ → AL) (Inv : σ → World → Prop) (μ : σ → Nat) (s : σ) (hK : grab L ks = K) (hd : dstsIn n c = true) (hs : Sub (V s ++ K) L) (h0 : Inv s w)
    (round : ∀ s w, Inv s w → W P n (hid c) (hid (Th (hid fun L' w' => ∃ s', μ s' < μ s ∧ Sub (V s' ++ K) L' ∧ Inv s' w') (hid Q))) (V s ++ K) w) : Wp P n (hid (.loop c)) (hid Q) L w :=
  Wp.loopL (fun s => V s ++ K) Inv μ s hd hs h0 round

abbrev St.M {F : Nat → Prop} {w0 w : World} {M : List (Nat × Obj)} (_ : St F w0 w M) : List (Nat × Obj) := M

def recell : Obj → List Value → Obj
  | .cells _ T fr, cs => .cells cs.toArray T fr
  | o, _ => o
/-- The known block at a place has other cells. -/
def upC : List (Nat × Obj) → Nat → List Value → List (Nat × Obj)
  | [], _, _ => []
  | p :: M, 0, cs => (p.1, recell p.2 cs) :: M
  | p :: M, i + 1, cs => p :: upC M i cs
theorem upC_zero {b : Nat} {c cs : List Value} {T : TypeId} {M : List (Nat × Obj)} : upC ((b, Cl T c) :: M) 0 cs = (b, Cl T cs) :: M := (rfl)
theorem upC_succ {p : Nat × Obj} {M : List (Nat × Obj)} {i : Nat} {cs : List Value} : upC (p :: M) (i + 1) cs = p :: upC M i cs := (rfl)

/-- Where a block is known: what it holds, and what is known when it holds other cells. -/
class Knw (M : List (Nat × Obj)) (b : Nat) (T : outParam TypeId) (cs : outParam (List Value)) (f : outParam (List Value → List (Nat × Obj))) : Prop where
  ex : ∃ i, M[i]? = some (b, Cl T cs) ∧ ∀ cs', M.set i (b, Cl T cs') = f cs'
instance Knw.here {b : Nat} {T : TypeId} {cs : List Value} {M : List (Nat × Obj)} : Knw ((b, Cl T cs) :: M) b T cs fun c => (b, Cl T c) :: M := ⟨0, rfl, fun _ => rfl⟩
instance (priority := low) Knw.next {p : Nat × Obj} {b : Nat} {T : TypeId} {cs : List Value} {M : List (Nat × Obj)} {f : List Value → List (Nat × Obj)} [h : Knw M b T cs f] : Knw (p :: M) b T cs fun c => p :: f c :=
  let ⟨i, h1, h2⟩ := h.ex
  ⟨i + 1, by simpa using h1, fun c => by simp [h2]⟩

theorem StoreP.tc {F : Nat → Prop} {w0 w : World} {M : List (Nat × Obj)} {t : TypeId} {b off : Nat} {v : Value} {K : World → Prop} {T : TypeId} {cs : List Value} {f : List Value → List (Nat × Obj)} (S : St F w0 w M) [hi : Knw M b T cs f]
    (k : ∀ w', St F w0 w' (f (spl cs off v.cells.toList)) → K w') (hsz : (tyL P t).map (·.2) = some v.cells.size := by simp -dsimp only [go_sem, seval])
    (hl : off + v.cells.size ≤ cs.length := by simp -dsimp only [go_sem, seval]) (h1 : v.cells.toList.all (·.oneCell') = true := by rfl) : StoreP P t ⟨b, off, none⟩ v w (hid K) := by
  obtain ⟨i, h2, h3⟩ := hi.ex
  exact StoreP.st i S h2 hsz hl h1 fun w' S => k w' (by rw [← h3]; exact S)

instance (priority := low) Knw.app {A : List (Nat × Obj)} {b : Nat} {T : TypeId} {cs : List Value} {M : List (Nat × Obj)} {f : List Value → List (Nat × Obj)} [h : Knw M b T cs f] : Knw (A ++ M) b T cs fun c => A ++ f c :=
  let ⟨i, h1, h2⟩ := h.ex
  ⟨A.length + i, by rw [List.getElem?_append_right (by omega)]; simpa using h1, fun c => by simp [List.set_append, ← h2]⟩

theorem AllocP.stx {F : Nat → Prop} {w0 w : World} {M : List (Nat × Obj)} {T : TypeId} {cs : List Value} {K : Value → World → Prop} (S : St F w0 w M) (k : ∀ b w', Ext w w' → w.heap.size ≤ b → St F w0 w' ((b, Cl T cs) :: M) → K (.pointer (some ⟨b, 0, none⟩)) w') : AllocP T cs w (hid K) :=
  ⟨k _ _ (Ext.push w _) (Nat.le_refl _) (S.new _)⟩

theorem StoreP.tcx {F : Nat → Prop} {w0 w : World} {M : List (Nat × Obj)} {t : TypeId} {b off : Nat} {v : Value} {K : World → Prop} {T : TypeId} {cs : List Value} {f : List Value → List (Nat × Obj)} (S : St F w0 w M) [hi : Knw M b T cs f]
    (k : ∀ w', Eff (· = b) w w' → St F w0 w' (f (spl cs off v.cells.toList)) → K w') (hsz : (tyL P t).map (·.2) = some v.cells.size := by simp -dsimp only [go_sem, seval])
    (hl : off + v.cells.size ≤ cs.length := by simp -dsimp only [go_sem, seval]) (h1 : v.cells.toList.all (·.oneCell') = true := by rfl) : StoreP P t ⟨b, off, none⟩ v w (hid K) := by
  obtain ⟨i, h2, h3⟩ := hi.ex
  have hb : w.heap[b]? = some (Cl T cs) := S.k.get (b, Cl T cs) (List.mem_of_getElem? h2)
  refine ⟨T, cs, hb, rfl, hl, by rw [← Array.all_toList]; exact h1, hsz, k _ (eff_setRow w b _) ?_⟩
  rw [← h3]
  refine S.turn h2 (eff_setRow w b _) ?_
  rw [setRow_heap w b _ _ T (0, 0) hb]
  simp [spl]

theorem St.get {F : Nat → Prop} {w0 w : World} {M : List (Nat × Obj)} (S : St F w0 w M) {b : Nat} {T : TypeId} {cs : List Value} {f : List Value → List (Nat × Obj)} [hi : Knw M b T cs f] : w.heap[b]? = some (Cl T cs) := by
  obtain ⟨i, h2, h3⟩ := hi.ex
  exact S.k.get (b, Cl T cs) (List.mem_of_getElem? h2)

/-- A known block of its own turns, and nothing else. -/
theorem St.put {F : Nat → Prop} {w0 w w' : World} {M : List (Nat × Obj)} (S : St F w0 w M) {b : Nat} {T : TypeId} {cs : List Value} {f : List Value → List (Nat × Obj)} [hi : Knw M b T cs f] {cs' : List Value} (x : Eff (· = b) w w') (hb : w'.heap[b]? = some (Cl T cs')) : St F w0 w' (f cs') := by
  obtain ⟨i, h2, h3⟩ := hi.ex
  rw [← h3]; exact S.turn h2 x hb

/-- B is among what is known. -/
class Prt (B M : List (Nat × Obj)) : Prop where
  sub : B ⊆ M
instance Prt.self {B : List (Nat × Obj)} : Prt B B := ⟨fun _ h => h⟩
instance Prt.left {B M : List (Nat × Obj)} : Prt B (B ++ M) := ⟨fun _ h => by simp [h]⟩
instance (priority := low) Prt.app {A B M : List (Nat × Obj)} [h : Prt B M] : Prt B (A ++ M) := ⟨fun p hp => by have := h.sub hp; simp [this]⟩
instance (priority := low) Prt.cons {p : Nat × Obj} {B M : List (Nat × Obj)} [h : Prt B M] : Prt B (p :: M) := ⟨fun q hq => by have := h.sub hq; simp [this]⟩
theorem St.prt {F : Nat → Prop} {w0 w : World} {B M : List (Nat × Obj)} (S : St F w0 w M) [h : Prt B M] : KnC w B := KnC.mk fun p hp => S.k.get p (h.sub hp)
theorem Bf.form {T : TypeId} {sz : Nat} {v : Value} {rows : List (List Value)} {B : List (Nat × Obj)} (h : Bf T sz v rows B) : ∃ a n c, v = .slice a n c ∧ n = rows.length := by
  obtain ⟨_, _, ⟨rfl, rfl, _⟩ | ⟨b, c, rest, rfl, _⟩⟩ := h
  · exact ⟨_, _, _, rfl, rfl⟩
  · exact ⟨_, _, _, rfl, rfl⟩
theorem Bf.at {T : TypeId} {sz : Nat} {v : Value} {rows : List (List Value)} {F : Nat → Prop} {w0 w : World} {B M : List (Nat × Obj)} (h : Bf T sz v rows B) (S : St F w0 w M) [Prt B M] : Sl w T sz v rows := h.sl S.prt

/-- B is a part of what is known; f: the whole, with another part in its place. -/
class Sel (M B : List (Nat × Obj)) (f : outParam (List (Nat × Obj) → List (Nat × Obj))) : Prop where
  ex : ∃ M1 M2, M = M1 ++ (B ++ M2) ∧ ∀ B', f B' = M1 ++ (B' ++ M2)
instance (priority := high) Sel.nil {M : List (Nat × Obj)} : Sel M [] fun B' => B' ++ M := ⟨[], M, rfl, fun _ => rfl⟩
instance Sel.self {B : List (Nat × Obj)} : Sel B B fun B' => B' := ⟨[], [], by simp, fun _ => by simp⟩
instance Sel.left {B M : List (Nat × Obj)} : Sel (B ++ M) B fun B' => B' ++ M := ⟨[], M, rfl, fun _ => rfl⟩
instance (priority := low) Sel.app {A B M : List (Nat × Obj)} {f : List (Nat × Obj) → List (Nat × Obj)} [h : Sel M B f] : Sel (A ++ M) B fun B' => A ++ f B' :=
  let ⟨M1, M2, h1, h2⟩ := h.ex
  ⟨A ++ M1, M2, by rw [h1, List.append_assoc], fun B' => by rw [h2, List.append_assoc]⟩
instance (priority := low) Sel.cons {p : Nat × Obj} {B M : List (Nat × Obj)} {f : List (Nat × Obj) → List (Nat × Obj)} [h : Sel M B f] : Sel (p :: M) B fun B' => p :: f B' :=
  let ⟨M1, M2, h1, h2⟩ := h.ex
  ⟨p :: M1, M2, by rw [h1]; rfl, fun B' => by rw [h2]; rfl⟩

theorem RunP.appendT {F : Nat → Prop} {w0 w : World} {M B : List (Nat × Obj)} {f : List (Nat × Obj) → List (Nat × Obj)} {sT uT ty T : TypeId} {sz bytes : Nat} {v x : Value} {rows new : List (List Value)} {K : Value → World → Prop}
    (S : St F w0 w M) (he : elF P sT = some (T, sz, bytes)) (hb : Bf T sz v rows B) [hf : Sel M B f] (hx : Src P w T sz uT x new) (h1 : ∀ r ∈ new, ∀ u ∈ r, u.oneCell' = true) (hlim : (rows.length + new.length) * bytes < 140737488355328)
    (k : ∀ v' B' w', Bf T sz v' (rows ++ new) B' → St F w0 w' (f B') → K v' w') : RunB P Builtin.append_ #[sT, uT] ty #[v, x] w (hid K) := by
  obtain ⟨M1, M2, h2, h3⟩ := hf.ex
  subst h2
  exact RunP.append S he hb hx h1 hlim fun v' B' w' h S => k v' B' w' h (by rw [h3]; exact S)

/-- append(v, x): one element of a literal. -/
theorem RunP.append1 {F : Nat → Prop} {w0 w : World} {M B : List (Nat × Obj)} {f : List (Nat × Obj) → List (Nat × Obj)} {sT ty T : TypeId} {sz bytes b : Nat} {cs : List Value} {v : Value} {rows : List (List Value)} {K : Value → World → Prop} {g : List Value → List (Nat × Obj)}
    (S : St F w0 w M) [hg : Knw M b T cs g] (he : elF P sT = some (T, sz, bytes)) (hb : Bf T sz v rows B) [hf : Sel M B f] (hs : cs.length = sz) (h1 : cs.all (·.oneCell') = true) (hlim : (rows.length + 1) * bytes < 140737488355328)
    (k : ∀ v' B' w', Bf T sz v' (rows ++ [cs]) B' → St F w0 w' (f B') → K v' w') : RunB P Builtin.append_ #[sT, sT] ty #[v, .slice (some ⟨b, 0, none⟩) 1 1] w (hid K) :=
  RunP.appendT S he hb ((Sl.lit [cs] (by simpa using hs) (by simp) S.get (by simp) (by simp)).src (elF_facts he).1) (fun r hr u hu => by
    simp only [List.mem_singleton] at hr
    subst hr
    rw [List.all_eq_true] at h1
    exact h1 u hu) (by simpa using hlim) k

theorem St.subset {F : Nat → Prop} {w0 w : World} {M M' : List (Nat × Obj)} (S : St F w0 w M) (hm : ∀ p ∈ M', p ∈ M) (hn : (M'.map (·.1)).Nodup) : St F w0 w M' :=
  ⟨S.eff, hn, KnC.mk fun p hp => S.k.get p (hm p hp), fun p hp => S.own p (hm p hp)⟩

theorem St.one {w : World} {b : Nat} {o : Obj} (h : w.heap[b]? = some o) : St (· = b) w w [(b, o)] := ⟨Eff.refl _ w, by simp, ⟨h, trivial⟩, by simp⟩

/-- A known block turns, and new ones come. -/
theorem St.putJ {F : Nat → Prop} {w0 w w' : World} {M B : List (Nat × Obj)} (S : St F w0 w M) {b : Nat} {T : TypeId} {cs cs' : List Value} {f : List Value → List (Nat × Obj)} [hi : Knw M b T cs f] (H : St (· = b) w w' ((b, Cl T cs') :: B)) : St F w0 w' (f cs' ++ B) := by
  have S1 := S.put H.eff H.k.1
  have hkeys : (f cs').map (·.1) = M.map (·.1) := by
    obtain ⟨i, h2, h3⟩ := hi.ex
    rw [← h3]
    apply List.ext_getElem?
    intro j
    simp only [List.getElem?_map, List.getElem?_set]
    split
    · rename_i e; subst e; rw [h2]
      have : i < M.length := by rw [List.getElem?_eq_some_iff] at h2; exact h2.1
      simp [this]
    · rfl
  have hB : ∀ q ∈ B, w.heap.size ≤ q.1 := fun q hq => by
    rcases H.own q (by simp [hq]) with h | h
    · exact h
    · have := H.nodup
      simp only [List.map_cons, List.nodup_cons] at this
      exact absurd (List.mem_map.2 ⟨q, hq, h⟩) this.1
  refine ⟨S1.eff, ?_, KnC.app.2 ⟨S1.k, H.k.2⟩, fun p hp => ?_⟩
  · rw [List.map_append, List.nodup_append]
    refine ⟨S1.nodup, (List.nodup_cons.1 H.nodup).2, fun a ha c hc e => ?_⟩
    rw [hkeys] at ha
    obtain ⟨p, hp, e1⟩ := List.mem_map.1 ha
    obtain ⟨q, hq, e2⟩ := List.mem_map.1 hc
    have h1 := getO_lt (S.k.get p hp)
    have h2 := hB q hq
    omega
  · rcases List.mem_append.1 hp with e | e
    · exact S1.own p e
    · left
      have := hB p e
      have := S.eff.size
      omega

theorem KnC.ext {w w' : World} {B : List (Nat × Obj)} (h : KnC w B) (x : Ext w w') : KnC w' B := KnC.mk fun p hp => x.get (h.get p hp) id
/-- What was its own is as it was: nothing has turned. -/
theorem St.ro {w w' : World} {B M : List (Nat × Obj)} (S : St (fun x => x ∈ B.map (·.1)) w w' M) (hk : KnC w B) [h : Prt B M] : Ext w w' := by
  refine ⟨S.eff.os, S.eff.tape, S.eff.output, S.eff.size, fun b hb _ => ?_⟩
  by_cases hm : b ∈ B.map (·.1)
  · obtain ⟨p, hp, e⟩ := List.mem_map.1 hm
    subst e
    rw [hk.get p hp, S.k.get p (h.sub hp)]
  · exact S.eff.keep b hb hm
instance (priority := high) Prt.nil {M : List (Nat × Obj)} : Prt [] M := ⟨by simp⟩
class PIn (p : Nat × Obj) (M : List (Nat × Obj)) : Prop where
  m : p ∈ M
instance PIn.head {p : Nat × Obj} {M : List (Nat × Obj)} : PIn p (p :: M) := ⟨by simp⟩
instance (priority := low) PIn.tail {p q : Nat × Obj} {M : List (Nat × Obj)} [h : PIn p M] : PIn p (q :: M) := ⟨by simp [h.m]⟩
instance (priority := low) PIn.right {p : Nat × Obj} {A M : List (Nat × Obj)} [h : PIn p M] : PIn p (A ++ M) := ⟨by simp [h.m]⟩
instance (priority := low) Prt.each {p : Nat × Obj} {B M : List (Nat × Obj)} [h : PIn p M] [k : Prt B M] : Prt (p :: B) M := ⟨fun q hq => by
  rcases List.mem_cons.1 hq with rfl | hq
  · exact h.m
  · exact k.sub hq⟩

theorem St.ownB {w : World} {B : List (Nat × Obj)} (hk : KnC w B) (hn : (B.map (·.1)).Nodup) : St (fun x => x ∈ B.map (·.1)) w w B :=
  ⟨Eff.refl _ w, hn, hk, fun p hp => .inr (List.mem_map.2 ⟨p, hp, rfl⟩)⟩
/-- A call that turned its own part of what is known. -/
theorem St.callB {F : Nat → Prop} {w0 w w' : World} {M B B' : List (Nat × Obj)} {f : List (Nat × Obj) → List (Nat × Obj)} (S : St F w0 w M) [hs : Sel M B f] (H : St (fun x => x ∈ B.map (·.1)) w w' B') : St F w0 w' (f B') := by
  obtain ⟨M1, M2, rfl, hf⟩ := hs.ex
  rw [hf]
  have hnd := S.nodup
  simp only [List.map_append, List.nodup_append, List.mem_append] at hnd
  obtain ⟨n1, ⟨n2, n3, n23⟩, n12⟩ := hnd
  have k1 : ∀ p ∈ M1, w'.heap[p.1]? = some p.2 := fun p hp => H.eff.get (S.k.get p (by simp [hp])) fun h => n12 p.1 (List.mem_map.2 ⟨p, hp, rfl⟩) p.1 (.inl h) rfl
  have k2 : ∀ p ∈ M2, w'.heap[p.1]? = some p.2 := fun p hp => H.eff.get (S.k.get p (by simp [hp])) fun h => n23 p.1 h p.1 (List.mem_map.2 ⟨p, hp, rfl⟩) rfl
  have hB : ∀ q ∈ B', ∀ p, p ∈ M1 ∨ p ∈ M2 → q.1 ≠ p.1 := fun q hq p hp e => by
    have hpw : p.1 < w.heap.size := getO_lt (S.k.get p (by rcases hp with h | h <;> simp [h]))
    rcases H.own q hq with h | h
    · omega
    · rcases hp with hp | hp
      · exact n12 p.1 (List.mem_map.2 ⟨p, hp, rfl⟩) q.1 (.inl h) e.symm
      · exact n23 q.1 h p.1 (List.mem_map.2 ⟨p, hp, rfl⟩) e
  refine ⟨S.eff.trans' H.eff fun y hy e => ?_, ?_, KnC.mk fun p hp => ?_, fun p hp => ?_⟩
  · obtain ⟨q, hq, rfl⟩ := List.mem_map.1 e
    rcases S.own q (by simp [hq]) with h | h
    · omega
    · exact h
  · simp only [List.map_append, List.nodup_append, List.mem_append]
    refine ⟨n1, ⟨H.nodup, n3, fun a ha b hb e => ?_⟩, fun a ha b hb e => ?_⟩
    · obtain ⟨q, hq, rfl⟩ := List.mem_map.1 ha
      obtain ⟨p, hp, rfl⟩ := List.mem_map.1 hb
      exact hB q hq p (.inr hp) e
    · obtain ⟨p, hp, rfl⟩ := List.mem_map.1 ha
      rcases hb with hb | hb
      · obtain ⟨q, hq, rfl⟩ := List.mem_map.1 hb
        exact hB q hq p (.inl hp) e.symm
      · exact n12 p.1 ha b (.inr hb) e
  · simp only [List.mem_append] at hp
    rcases hp with hp | hp | hp
    · exact k1 p hp
    · exact H.k.get p hp
    · exact k2 p hp
  · simp only [List.mem_append] at hp
    rcases hp with hp | hp | hp
    · exact S.own p (by simp [hp])
    · rcases H.own p hp with h | h
      · exact .inl (Nat.le_trans S.eff.size h)
      · obtain ⟨q, hq, e⟩ := List.mem_map.1 h
        rw [← e]
        exact S.own q (by simp [hq])
    · exact S.own p (by simp [hp])

theorem St.sublist {F : Nat → Prop} {w0 w : World} {M M' : List (Nat × Obj)} (S : St F w0 w M) (h : M'.Sublist M) : St F w0 w M' :=
  ⟨S.eff, S.nodup.sublist (h.map _), KnC.mk fun p hp => S.k.get p (h.subset hp), fun p hp => S.own p (h.subset hp)⟩
section cmp
def isSl (P : Program) (T : TypeId) : Bool := match P.underlying T with | some (.slice _) => true | _ => false
def isPt (P : Program) (T : TypeId) : Bool := match P.underlying T with | some (.pointer _) => true | _ => false
def isMp (P : Program) (T : TypeId) : Bool := match P.underlying T with | some (.map _ _) => true | _ => false
def isFn (P : Program) (T : TypeId) : Bool := match P.underlying T with | some (.func _ _ _) => true | _ => false
theorem isSl_e {T : TypeId} (h : isSl P T = true) : ∃ e, P.underlying T = some (.slice e) := by unfold isSl at h; split at h <;> first | exact ⟨_, by assumption⟩ | simp at h
theorem isPt_e {T : TypeId} (h : isPt P T = true) : ∃ e, P.underlying T = some (.pointer e) := by unfold isPt at h; split at h <;> first | exact ⟨_, by assumption⟩ | simp at h
theorem isMp_e {T : TypeId} (h : isMp P T = true) : ∃ k e, P.underlying T = some (.map k e) := by unfold isMp at h; split at h <;> first | exact ⟨_, _, by assumption⟩ | simp at h
theorem isFn_e {T : TypeId} (h : isFn P T = true) : ∃ a b c, P.underlying T = some (.func a b c) := by unfold isFn at h; split at h <;> first | exact ⟨_, _, _, by assumption⟩ | simp at h
variable {w : World} {K : Value → World → Prop} {T : TypeId} {p q : Option Addr} {n c : Nat}
theorem RunP_eqs (hT : isSl P T = true) : RunP P ((pure () : Sem Unit) >>= fun _ => binOp .eql T (.slice p n c) (.slice none 0 0)) w (hid K) = K (.bool p.isNone) w :=
  RunP_ok (by obtain ⟨e, hT⟩ := isSl_e hT; have := eq_slice (P := P) (w := w) (ox := .tmp 0) (oy := .tmp 0) (p := p) (n := n) (c := c) hT; simpa [eqGuard] using this)
theorem RunP_nes (hT : isSl P T = true) : RunP P ((pure () : Sem Unit) >>= fun _ => binOp .neq T (.slice p n c) (.slice none 0 0)) w (hid K) = K (.bool !p.isNone) w :=
  RunP_ok (by obtain ⟨e, hT⟩ := isSl_e hT; have := ne_slice (P := P) (w := w) (ox := .tmp 0) (oy := .tmp 0) (p := p) (n := n) (c := c) hT; simpa [eqGuard] using this)
theorem RunP_eqp (hT : isPt P T = true) : RunP P ((pure () : Sem Unit) >>= fun _ => binOp .eql T (.pointer p) (.pointer none)) w (hid K) = K (.bool p.isNone) w :=
  RunP_ok (by obtain ⟨e, hT⟩ := isPt_e hT; have := eq_ptr (P := P) (w := w) (ox := .tmp 0) (oy := .tmp 0) (p := p) hT; simpa [eqGuard] using this)
theorem RunP_nep (hT : isPt P T = true) : RunP P ((pure () : Sem Unit) >>= fun _ => binOp .neq T (.pointer p) (.pointer none)) w (hid K) = K (.bool !p.isNone) w :=
  RunP_ok (by obtain ⟨e, hT⟩ := isPt_e hT; have := ne_ptr (P := P) (w := w) (ox := .tmp 0) (oy := .tmp 0) (p := p) hT; simpa [eqGuard] using this)
theorem RunP_eqm {r : Option Nat} (hT : isMp P T = true) : RunP P ((pure () : Sem Unit) >>= fun _ => binOp .eql T (.map r) (.map none)) w (hid K) = K (.bool r.isNone) w :=
  RunP_ok (by obtain ⟨k, e, hT⟩ := isMp_e hT; have := eq_map (P := P) (w := w) (ox := .tmp 0) (oy := .tmp 0) (p := r) hT; simpa [eqGuard] using this)
theorem RunP_eqf {f : Fn} {a b : Array Value} (hT : isFn P T = true) : RunP P ((pure () : Sem Unit) >>= fun _ => binOp .eql T (.func f a b) .nilFunc) w (hid K) = K (.bool false) w :=
  RunP_ok (by obtain ⟨_, _, _, hT⟩ := isFn_e hT; have := eq_func (P := P) (w := w) (ox := .tmp 0) (oy := .tmp 0) (f := f) (a := a) (b := b) hT; simpa [eqGuard] using this)
end cmp
theorem b_feq {f : Fn} {a b : Array Value} {y : Value} : binV .eql (.func f a b) y = none := by unfold binV; split <;> simp_all
theorem b_aeq {x y : Array Value} : binV .eql (.agg x) (.agg y) = none := (rfl)
theorem b_ane {x y : Array Value} : binV .neq (.agg x) (.agg y) = none := (rfl)
theorem b_peq {x y : Option Addr} : binV .eql (.pointer x) (.pointer y) = none := (rfl)
theorem b_pne {x y : Option Addr} : binV .neq (.pointer x) (.pointer y) = none := (rfl)
theorem b_meq {x y : Option Nat} : binV .eql (.map x) (.map y) = none := (rfl)
theorem b_mne {x y : Option Nat} : binV .neq (.map x) (.map y) = none := (rfl)
theorem b_seqn {x y : Option Addr} {a b c d : Nat} : binV .eql (.slice x a b) (.slice y c d) = none := (rfl)
theorem b_snen {x y : Option Addr} {a b c d : Nat} : binV .neq (.slice x a b) (.slice y c d) = none := (rfl)
attribute [go_sem] Option.isNone_none Option.isNone_some isSl isPt isMp isFn RunP_eqs RunP_nes RunP_eqp RunP_nep RunP_eqm RunP_eqf b_feq b_aeq b_ane b_peq b_pne b_meq b_mne b_seqn b_snen Option.getD_some grab_nil grab_cons upC_zero upC_succ List.cons_append List.nil_append
end Go.Ig
