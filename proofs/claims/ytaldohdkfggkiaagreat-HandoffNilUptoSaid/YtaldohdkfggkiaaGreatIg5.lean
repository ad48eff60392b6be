import Derived.Test.YtaldohdkfggkiaaGreatIg4
set_option linter.unusedVariables false
set_option linter.unusedSimpArgs false
set_option linter.unusedSectionVars false
set_option linter.unnecessarySimpa false
namespace Go.Ig

/-! ### what changes, what stays -/
/-- All blocks of w but those of F are as they were; new ones may have come. -/
structure Eff (F : Nat → Prop) (w w' : World) : Prop where
  os : w'.os = w.os
  tape : w'.tape = w.tape
  output : w'.output = w.output
  size : w.heap.size ≤ w'.heap.size
  keep : ∀ b, b < w.heap.size → ¬ F b → w'.heap[b]? = w.heap[b]?

abbrev Ext (w w' : World) : Prop := Eff (fun _ => False) w w'

theorem Eff.refl (F : Nat → Prop) (w : World) : Eff F w w := ⟨rfl, rfl, rfl, Nat.le_refl _, fun _ _ _ => rfl⟩
theorem Eff.trans {F : Nat → Prop} {a b c : World} (h : Eff F a b) (k : Eff F b c) : Eff F a c :=
  ⟨k.os.trans h.os, k.tape.trans h.tape, k.output.trans h.output, Nat.le_trans h.size k.size, fun i hi hf => (k.keep i (Nat.lt_of_lt_of_le hi h.size) hf).trans (h.keep i hi hf)⟩
theorem Eff.mono {F G : Nat → Prop} {a b : World} (h : Eff F a b) (hg : ∀ x, F x → G x) : Eff G a b := ⟨h.os, h.tape, h.output, h.size, fun i hi hf => h.keep i hi (fun x => hf (hg i x))⟩
theorem Eff.trans' {F G : Nat → Prop} {a b c : World} (h : Eff F a b) (k : Eff G b c) (hg : ∀ x, x < a.heap.size → G x → F x) : Eff F a c :=
  ⟨k.os.trans h.os, k.tape.trans h.tape, k.output.trans h.output, Nat.le_trans h.size k.size, fun i hi hf => (k.keep i (Nat.lt_of_lt_of_le hi h.size) (fun x => hf (hg i hi x))).trans (h.keep i hi hf)⟩
theorem Ext.eff {F : Nat → Prop} {a b : World} (h : Ext a b) : Eff F a b := h.mono fun _ x => x.elim

theorem getO_lt {w : World} {b : Nat} {o : Obj} (h : w.heap[b]? = some o) : b < w.heap.size := by
  rw [Array.getElem?_eq_some_iff] at h
  exact h.1

theorem Eff.get {F : Nat → Prop} {w w' : World} (h : Eff F w w') {b : Nat} {o : Obj} (hb : w.heap[b]? = some o) (hf : ¬ F b) : w'.heap[b]? = some o := by
  rw [h.keep b (getO_lt hb) hf]; exact hb

theorem Eff.drew {F : Nat → Prop} (w : World) (k : Nat) : Eff F w { w with drawn := k } := ⟨rfl, rfl, rfl, Nat.le_refl _, fun _ _ _ => rfl⟩

theorem Ext.push (w : World) (o : Obj) : Ext w { w with heap := w.heap.push o } :=
  ⟨rfl, rfl, rfl, by simp, fun b hb _ => by simp [Array.getElem?_push]; omega⟩

theorem eff_setRow (w : World) (b : Nat) (cs : Array Value) : Eff (· = b) w (w.setRow b cs) :=
  ⟨rfl, rfl, rfl, by simp, fun k _ hk => setRow_other w b k cs hk⟩

@[reducible] def KnC (w : World) : List (Nat × Obj) → Prop
  | [] => True
  | (b, o) :: M => w.heap[b]? = some o ∧ KnC w M

/-- The world w has come out of w0, of whose blocks those of F alone may have turned; M: what is known of those, and of new ones, now. -/
structure St (F : Nat → Prop) (w0 w : World) (M : List (Nat × Obj)) : Prop where
  eff : Eff F w0 w
  nodup : (M.map (·.1)).Nodup
  k : KnC w M
  own : ∀ p ∈ M, w0.heap.size ≤ p.1 ∨ F p.1

theorem KnC.get {w : World} : ∀ {M : List (Nat × Obj)}, KnC w M → ∀ p ∈ M, w.heap[p.1]? = some p.2
  | [], _, p, hp => by simp at hp
  | (b, o) :: M, h, p, hp => by
    rcases List.mem_cons.1 hp with e | e
    · subst e; exact h.1
    · exact h.2.get p e

theorem KnC.mk {w : World} : ∀ {M : List (Nat × Obj)}, (∀ p ∈ M, w.heap[p.1]? = some p.2) → KnC w M
  | [], _ => trivial
  | (b, o) :: M, h => ⟨h (b, o) (by simp), KnC.mk fun p hp => h p (by simp [hp])⟩

theorem St.start (F : Nat → Prop) (w : World) : St F w w [] := ⟨Eff.refl F w, by simp, trivial, by simp⟩

section
variable {F : Nat → Prop} {w0 w w' : World} {M : List (Nat × Obj)}

/-- A step that turns nothing of what is known. -/
theorem St.ext (h : St F w0 w M) (x : Ext w w') : St F w0 w' M :=
  ⟨h.eff.trans x.eff, h.nodup, KnC.mk fun p hp => x.get (h.k.get p hp) id, h.own⟩

theorem St.drew (h : St F w0 w M) (k : Nat) : St F w0 { w with drawn := k } M := h.ext (Eff.drew w k)

theorem St.new (h : St F w0 w M) (o : Obj) : St F w0 { w with heap := w.heap.push o } ((w.heap.size, o) :: M) := by
  have hx := h.ext (Ext.push w o)
  refine ⟨hx.eff, ?_, ⟨by simp, hx.k⟩, ?_⟩
  · simp only [List.map_cons, List.nodup_cons]
    refine ⟨fun hm => ?_, h.nodup⟩
    obtain ⟨p, hp, e⟩ := List.mem_map.1 hm
    have := getO_lt (h.k.get p hp)
    omega
  · intro p hp
    rcases List.mem_cons.1 hp with e | e
    · subst e; exact .inl h.eff.size
    · exact h.own p e

/-- A block of what is known is written. -/
theorem St.turn (h : St F w0 w M) {i b : Nat} {o o' : Obj} (hi : M[i]? = some (b, o)) (x : Eff (· = b) w w') (hb : w'.heap[b]? = some o') : St F w0 w' (M.set i (b, o')) := by
  have hil : i < M.length := by
    rcases Nat.lt_or_ge i M.length with h | h
    · exact h
    · simp [List.getElem?_eq_none h] at hi
  have hmem : (b, o) ∈ M := List.mem_of_getElem? hi
  have hkeys : (M.set i (b, o')).map (·.1) = M.map (·.1) := by
    apply List.ext_getElem?
    intro j
    simp only [List.getElem?_map, List.getElem?_set]
    split
    · rename_i e; subst e; rw [hi]; rfl
    · rfl
  refine ⟨h.eff.trans' x (fun y hy e => ?_), by rw [hkeys]; exact h.nodup, KnC.mk ?_, ?_⟩
  · subst e
    rcases h.own (y, o) hmem with hh | hh
    · exact absurd hh (by simpa using Nat.not_le.2 hy)
    · exact hh
  · intro p hp
    obtain ⟨j, hj⟩ := List.getElem?_of_mem hp
    rw [List.getElem?_set] at hj
    split at hj
    · rename_i e; subst e
      cases hj; exact hb
    · rename_i hne
      have hpm : p ∈ M := List.mem_of_getElem? hj
      refine x.get (h.k.get p hpm) (fun e => hne ?_)
      have h1 : (M.map (·.1))[i]? = some b := by simp [hi]
      have h2 : (M.map (·.1))[j]? = some b := by simp [hj, e]
      have := h.nodup
      exact (List.getElem?_inj (by simpa using hil) this).1 (h1.trans h2.symm)
  · intro p hp
    rcases List.mem_or_eq_of_mem_set hp with e | e
    · exact h.own p e
    · subst e; exact h.own (b, o) hmem

theorem St.old (h : St F w0 w M) {b : Nat} {o : Obj} (hb : w0.heap[b]? = some o) (hf : ¬ F b) : w.heap[b]? = some o := h.eff.get hb hf

end

theorem ldC_eq {w w' : World} {a : Addr} {sz : Nat} (h : w'.heap[a.block]? = w.heap[a.block]?) : ldC w' a sz = ldC w a sz := by simp [ldC, h]

theorem ldC_lt {w : World} {a : Addr} {sz : Nat} {cs : List Value} (h : ldC w a sz = some cs) : a.block < w.heap.size := by
  unfold ldC at h
  split at h
  · simp at h
  · cases hb : w.heap[a.block]? with
    | none => simp [hb, cellsO] at h
    | some o => exact getO_lt hb

theorem Eff.ld {F : Nat → Prop} {w w' : World} (h : Eff F w w') {a : Addr} {sz : Nat} {cs : List Value} (hl : ldC w a sz = some cs) (hf : ¬ F a.block) : ldC w' a sz = some cs := by
  rw [ldC_eq (h.keep a.block (ldC_lt hl) hf)]; exact hl

theorem Ext.ld {w w' : World} (h : Ext w w') {a : Addr} {sz : Nat} {cs : List Value} (hl : ldC w a sz = some cs) : ldC w' a sz = some cs := Eff.ld h hl id

/-! ### what simp does not look into -/
class Opq {α : Type} (x : α) where
instance {α : Type} (x : α) : Opq x := ⟨⟩
def hid {α : Type} (x : α) [Opq x] : α := x
end Go.Ig
