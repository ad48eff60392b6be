/-
Slices of the function's own: appended to, written, handed on.
-/
import Derived.Test.YtaldohdkfggkiaaGreatIg9
import Derived.Laws.AppendOwn
import Derived.Laws.OwnMore
import Derived.Laws.MakeOwn
set_option linter.unusedVariables false
set_option linter.unusedSimpArgs false
set_option linter.unusedSectionVars false
set_option linter.unnecessarySimpa false
namespace Go.Ig
variable {P : Program}

/-- v is a slice of the function's own with these rows; B: its block, if it has one. -/
def Bf (T : TypeId) (sz : Nat) (v : Value) (rows : List (List Value)) (B : List (Nat × Obj)) : Prop :=
  (∀ r ∈ rows, r.length = sz) ∧ rows.length < 140737488355328 ∧
    ((v = .slice none 0 0 ∧ rows = [] ∧ B = []) ∨
     ∃ b c rest, v = .slice (some ⟨b, 0, none⟩) rows.length c ∧ rows.length ≤ c ∧ c ≤ maxLen ∧ (rows.flatten ++ rest).length = c * sz ∧ B = [(b, Cl T (rows.flatten ++ rest))])

theorem Bf.nil (T : TypeId) (sz : Nat) : Bf T sz (.slice none 0 0) [] [] := ⟨by simp, by simp, .inl ⟨rfl, rfl, rfl⟩⟩

theorem flat_len {sz : Nat} : ∀ {rows : List (List Value)}, (∀ r ∈ rows, r.length = sz) → rows.flatten.length = rows.length * sz
  | [], _ => by simp
  | r :: l, h => by
    simp only [List.flatten_cons, List.length_append, List.length_cons]
    rw [flat_len fun r hr => h r (by simp [hr]), h r (by simp), Nat.succ_mul]; omega

theorem flat_at {sz : Nat} {rest : List Value} : ∀ {rows : List (List Value)}, (∀ r ∈ rows, r.length = sz) → ∀ {i : Nat} {r : List Value}, rows[i]? = some r → ((rows.flatten ++ rest).drop (i * sz)).take sz = r ∧ i * sz + sz ≤ (rows.flatten ++ rest).length
  | [], _, i, r, hi => by simp at hi
  | x :: l, h, 0, r, hi => by
    simp at hi; subst hi
    have := h x (by simp)
    simp only [List.flatten_cons, List.append_assoc, Nat.zero_mul, List.drop_zero, List.length_append]
    exact ⟨by rw [← this, List.take_left], by omega⟩
  | x :: l, h, i + 1, r, hi => by
    have hx := h x (by simp)
    have := flat_at (rest := rest) (rows := l) (fun r hr => h r (List.mem_cons_of_mem _ hr)) (i := i) (r := r) (by simpa using hi)
    simp only [List.flatten_cons, List.append_assoc, Nat.succ_mul]
    rw [show i * sz + sz = x.length + i * sz by omega, List.drop_append]
    simp only [List.length_append] at this ⊢
    rw [List.drop_eq_nil_of_le (by omega), List.nil_append, show x.length + i * sz - x.length = i * sz by omega]
    exact ⟨this.1, by omega⟩

theorem Bf.sl {T : TypeId} {sz : Nat} {v : Value} {rows : List (List Value)} {B : List (Nat × Obj)} {w : World} (h : Bf T sz v rows B) (hk : KnC w B) : Sl w T sz v rows := by
  obtain ⟨h1, h2, ⟨rfl, rfl, rfl⟩ | ⟨b, c, rest, rfl, h3, h3', h4, rfl⟩⟩ := h
  · exact Sl.nil
  · refine ⟨_, c, rfl, h3, h2, h1, .inr ⟨b, 0, _, _, rfl, Lie.of hk.1, fun i r hi => ?_⟩⟩
    have := flat_at (rest := rest) h1 hi
    have hb : w.heap[b]? = some (Cl T (rows.flatten ++ rest)) := hk.1
    simp only [Nat.zero_add, ldC_mk, hb, cellsO_Cl, Option.bind_some, sliceL]
    rw [if_pos this.2, this.1]

/-- A literal's block is a slice of rows. -/
theorem Sl.lit {T : TypeId} {sz b : Nat} {cs : List Value} {w : World} (rows : List (List Value)) (hr : ∀ r ∈ rows, r.length = sz) (hc : rows.flatten = cs) (hb : w.heap[b]? = some (Cl T cs)) (hs : rows.length < 140737488355328) {n : Nat} (hn : n = rows.length) : Sl w T sz (.slice (some ⟨b, 0, none⟩) n n) rows := by
  subst hn
  have : Bf T sz (.slice (some ⟨b, 0, none⟩) rows.length rows.length) rows [(b, Cl T (rows.flatten ++ []))] :=
    ⟨hr, hs, .inr ⟨b, _, [], rfl, Nat.le_refl _, by simp only [maxLen]; omega, by simp [flat_len hr], rfl⟩⟩
  exact this.sl ⟨by simpa [hc] using hb, trivial⟩

theorem ldC_flat {w : World} {b off sz : Nat} {cs : Array Value} {T : TypeId} {fr : Nat × Nat} (hb : w.heap[b]? = some (.cells cs T fr)) : ∀ {rows : List (List Value)} {off : Nat}, (∀ i r, rows[i]? = some r → ldC w ⟨b, off + i * sz, none⟩ sz = some r) → (∀ r ∈ rows, r.length = sz) →
    ∀ j u, rows.flatten[j]? = some u → w.cell? ⟨b, off + j, none⟩ = some u
  | [], _, _, _, j, u, hj => by simp at hj
  | x :: l, off, h, hl, j, u, hj => by
    have hx := hl x (by simp)
    simp only [List.flatten_cons, List.getElem?_append] at hj
    split at hj
    · have h0 := h 0 x (by simp)
      simp only [Nat.zero_mul, Nat.add_zero] at h0
      have := (ldC_cell h0).2 j u hj
      rwa [add_mk] at this
    · have := ldC_flat (off := off + sz) hb (rows := l) (fun i r hi => by
        have := h (i + 1) r (by simpa using hi)
        rw [show off + (i + 1) * sz = off + sz + i * sz by rw [Nat.succ_mul]; omega] at this; exact this) (fun r hr => hl r (by simp [hr])) (j - x.length) u hj
      rw [show off + j = off + sz + (j - x.length) by omega]
      exact this

/-- What is appended: a slice's rows, or a text's bytes. -/
def Src (P : Program) (w : World) (T : TypeId) (sz : Nat) (u : TypeId) (x : Value) (rows : List (List Value)) : Prop :=
  (∃ U, P.underlying u = some U ∧ (U = .string ∨ ∃ e, U = .slice e)) ∧ (Builtin.lenOf x).run P w = .ok rows.length w ∧ (∀ r ∈ rows, r.length = sz) ∧
    ∀ w', w'.heap = w.heap → (Builtin.firstCells sz rows.length x).run P w' = .ok rows.flatten.toArray w'

theorem Sl.src {w : World} {T : TypeId} {sz : Nat} {u : TypeId} {x : Value} {rows : List (List Value)} (h : Sl w T sz x rows) (hu : P.underlying u = some (.slice T)) : Src P w T sz u x rows := by
  obtain ⟨a, c, rfl, h2, h3, h4, h5⟩ := h
  refine ⟨⟨_, hu, .inr ⟨_, rfl⟩⟩, by simp [Builtin.lenOf], h4, fun w' hw => ?_⟩
  rcases h5 with rfl | ⟨b, off, cs, fr, rfl, hb, h5⟩
  · cases a with
    | none => exact run_firstCells_none _ _ _ _ _
    | some a => exact run_firstCells_some _ _ _ _ _ _ _ (by simp) (by simp)
  · obtain ⟨T', _, hb⟩ := hb
    refine run_firstCells_some _ _ _ _ _ _ _ (flat_len h4) fun j v hj => ?_
    rw [add_mk]
    have := ldC_flat (off := off) (sz := sz) hb (rows := rows) h5 h4 j v hj
    unfold World.cell? at this ⊢
    rw [hw]; exact this

def strRows (s : ByteArray) : List (List Value) := s.data.toList.map fun b => [.int .u8 b.toNat]
theorem strRows_len (s : ByteArray) : (strRows s).length = s.size := by simp [strRows]
theorem strRows_flat (s : ByteArray) : (strRows s).flatten = s.data.toList.map fun b => .int .u8 b.toNat := by
  unfold strRows
  induction s.data.toList with
  | nil => rfl
  | cons b l ih => simp [ih]

theorem Str.src {w : World} {T : TypeId} {u : TypeId} (s : ByteArray) (hu : P.underlying u = some .string) : Src P w T 1 u (.string s) (strRows s) := by
  refine ⟨⟨_, hu, .inl rfl⟩, by simp [Builtin.lenOf, strRows_len], by simp [strRows], fun w' _ => ?_⟩
  simp only [Builtin.firstCells, Sem.run_pure, strRows_len, strRows_flat]
  congr 1
  apply Array.ext'
  simp

theorem cell?_eq {w : World} {b off : Nat} {T : TypeId} {cs : List Value} (h : w.heap[b]? = some (Cl T cs)) : w.drew.cell? ⟨b, off, none⟩ = cs[off]? := by
  have h' : w.drew.heap[b]? = some (Cl T cs) := h
  unfold World.cell?
  rw [h']
  simp

theorem alloc_drew (w : World) (o o' : Obj) (h : o = o') : w.drew.alloc o = { w with drawn := w.drawn + 1, heap := w.heap.push o' } := by subst h; rfl

theorem run_append_src {w : World} {T sT uT ty : TypeId} {i : TypeInfo} {z : Value} {sz : Nat} {v x : Value} {rows new : List (List Value)} (hT : P.underlying sT = some (.slice T)) (hi : P.info? T = some i) (hz : i.zero = some z) (hsz : i.size = sz) (hzs : z.cells.size = sz) (hs0 : 0 < sz)
    {B : List (Nat × Obj)} (hb : Bf T sz v rows B) (hk : KnC w B) (hx : Src P w T sz uT x new) (h1 : ∀ r ∈ new, ∀ u ∈ r, u.oneCell' = true) (hlim : (rows.length + new.length) * i.bytes ≤ 140737488355328) (hlim' : rows.length + new.length < 140737488355328) :
    (∃ v', (Builtin.append_ #[sT, uT] ty #[v, x]).run P w = .ok v' w ∧ new = [] ∧ v' = v) ∨
    (∃ b c rest rest', v = .slice (some ⟨b, 0, none⟩) rows.length c ∧ B = [(b, Cl T (rows.flatten ++ rest))] ∧ (Builtin.append_ #[sT, uT] ty #[v, x]).run P w = .ok (.slice (some ⟨b, 0, none⟩) (rows ++ new).length c) (w.setRow b ((rows ++ new).flatten ++ rest').toArray) ∧ (rows ++ new).length ≤ c ∧ c ≤ maxLen ∧ ((rows ++ new).flatten ++ rest').length = c * sz) ∨
    (∃ c rest' k, (Builtin.append_ #[sT, uT] ty #[v, x]).run P w = .ok (.slice (some ⟨w.heap.size, 0, none⟩) (rows ++ new).length c) { w with drawn := k, heap := w.heap.push (Cl T ((rows ++ new).flatten ++ rest')) } ∧ (rows ++ new).length ≤ c ∧ c ≤ maxLen ∧ ((rows ++ new).flatten ++ rest').length = c * sz) := by
  obtain ⟨⟨U, hU, hUi⟩, hlen, hnl, hfc⟩ := hx
  have hfc0 := hfc w rfl
  have hfcd := hfc w.drew rfl
  obtain ⟨g1, g2, ⟨rfl, rfl, rfl⟩ | ⟨b, c, rest, rfl, g3, g4, g5, rfl⟩⟩ := hb
  · by_cases h0 : new.length = 0
    · have : new = [] := List.length_eq_zero_iff.1 h0
      subst this
      refine .inl ⟨_, ?_, rfl, rfl⟩
      simp at hfc0
      rcases hUi with rfl | ⟨e', rfl⟩ <;> simp [Builtin.append_, run_underlying hT, run_underlying hU, sizeOf, typeInfo, hi, hsz, hlen, hfc0]
    · refine .inr (.inr ?_)
      simp only [List.length_nil, Nat.zero_add] at hlim hlim'
      have hns : Builtin.nextslicecap new.length 0 * i.bytes ≤ 281474976710656 := growslice_fits (by omega) hlim
      have e1 : ¬ new.length = 0 := h0
      have e2 : ¬ (281474976710656 < Builtin.nextslicecap new.length 0 * i.bytes) := by omega
      have e3 : ¬ (9223372036854775807 < (new.length : Int)) := by omega
      have hge := grownCap_ge w new.length 0 T
      refine ⟨grownCap w new.length 0 T, (Builtin.zeroCells z.cells (grownCap w new.length 0 T - new.length)).toList, w.drawn + 1, ?_, by simpa using hge, grownCap_le_maxLen w _ _ _ (by simp only [maxLen]; omega), ?_⟩
      · rcases hUi with rfl | ⟨e', rfl⟩ <;> simp [Builtin.append_, run_underlying hT, run_underlying hU, sizeOf, typeInfo, zeroValue, hi, hz, hsz, hlen, e1, e2, e3, Question.forced, run_firstCells_none, hfcd, newRow, grownCap]
        all_goals
          refine alloc_drew _ _ _ (congrArg (fun c => Obj.cells c T (0, 0)) ?_)
          apply Array.ext'
          simp
      · simp only [List.nil_append, List.length_append, Array.length_toList, size_zeroCells, hzs, flat_len hnl, ← Nat.add_mul]
        congr 1; omega
  · by_cases hroom : rows.length + new.length ≤ c
    · refine .inr (.inl ?_)
      refine ⟨b, c, rest, rest.drop new.flatten.length, rfl, rfl, ?_, by simpa using hroom, g4, ?_⟩
      · have hfl := flat_len g1
        have hnf := flat_len hnl
        have hmm : rows.length * sz + new.length * sz ≤ c * sz := by rw [← Nat.add_mul]; exact Nat.mul_le_mul_right _ hroom
        have hst := run_storeCells_at P b (rows.length * sz) T new.flatten 0 (rows.flatten ++ rest).toArray w hk.1 (by simp only [List.size_toArray]; rw [g5, hnf]; omega) (fun u hu => by
          obtain ⟨r, hr, hu⟩ := List.mem_flatten.1 hu
          exact h1 r hr u hu)
        simp only [Nat.add_zero] at hst
        rcases hUi with rfl | ⟨e', rfl⟩ <;> simp [Builtin.append_, run_underlying hT, run_underlying hU, sizeOf, typeInfo, hi, hsz, hlen, hroom, hfc0, Addr.add_lit, hst]
        all_goals
          refine congrArg _ ?_
          rw [← hfl, List.take_left, List.drop_append]
          simp
      · have := g5
        have hnf := flat_len hnl
        have hfl := flat_len g1
        have hmm : rows.length * sz + new.length * sz ≤ c * sz := by rw [← Nat.add_mul]; exact Nat.mul_le_mul_right _ hroom
        simp only [List.flatten_append, List.length_append, List.length_drop, hnf, hfl] at *
        omega
    · refine .inr (.inr ?_)
      have hns : Builtin.nextslicecap (rows.length + new.length) c * i.bytes ≤ 281474976710656 := growslice_fits (by omega) hlim
      have e2 : ¬ (281474976710656 < Builtin.nextslicecap (rows.length + new.length) c * i.bytes) := by omega
      have e3 : ¬ (9223372036854775807 < (rows.length : Int) + (new.length : Int)) := by omega
      have hge := grownCap_ge w (rows.length + new.length) c T
      have hfo := run_firstCells_some (P := P) w.drew sz rows.length ⟨b, 0, none⟩ rows.length c rows.flatten (flat_len g1) (fun j u hj => by
        rw [add_mk]
        have : w.heap[b]? = some (Cl T (rows.flatten ++ rest)) := hk.1
        rw [cell?_eq this, Nat.zero_add]
        exact (List.getElem?_append_left (by rw [List.getElem?_eq_some_iff] at hj; exact hj.1)).trans hj)
      refine ⟨grownCap w (rows.length + new.length) c T, (Builtin.zeroCells z.cells (grownCap w (rows.length + new.length) c T - (rows.length + new.length))).toList, w.drawn + 1, ?_, by simpa using hge, grownCap_le_maxLen w _ _ _ (by simp only [maxLen]; omega), ?_⟩
      · rcases hUi with rfl | ⟨e', rfl⟩ <;> simp [Builtin.append_, run_underlying hT, run_underlying hU, sizeOf, typeInfo, zeroValue, hi, hz, hsz, hlen, hroom, e2, e3, Question.forced, hfo, hfcd, newRow, grownCap]
        all_goals
          refine alloc_drew _ _ _ (congrArg (fun c => Obj.cells c T (0, 0)) ?_)
          apply Array.ext'
          simp
      · simp only [List.length_append, Array.length_toList, size_zeroCells, hzs, List.flatten_append, flat_len hnl, flat_len g1, ← Nat.add_mul]
        congr 1; omega

/-! ### rules -/
/-- Of a slice's type: its elements' type, how many cells and bytes one has. -/
def elF (P : Program) (sT : TypeId) : Option (TypeId × Nat × Nat) :=
  match P.underlying sT with
  | some (.slice T) => match P.info? T with
    | some i => match i.zero with
      | some z => if z.cells.size = i.size ∧ 0 < i.size ∧ 0 < i.bytes then some (T, i.size, i.bytes) else none
      | none => none
    | none => none
  | _ => none
theorem elF_facts {sT T : TypeId} {sz bytes : Nat} (h : elF P sT = some (T, sz, bytes)) : P.underlying sT = some (.slice T) ∧ ∃ i z, P.info? T = some i ∧ i.zero = some z ∧ i.size = sz ∧ i.bytes = bytes ∧ z.cells.size = sz ∧ 0 < sz ∧ 0 < bytes := by
  unfold elF at h
  split at h
  · split at h
    · split at h
      · split at h
        · simp only [Option.some.injEq, Prod.mk.injEq] at h
          obtain ⟨rfl, rfl, rfl⟩ := h
          rename_i h1 _ _ h2 _ _ h3 h4
          exact ⟨h1, _, _, h2, h3, rfl, rfl, h4.1, h4.2⟩
        · simp at h
      · simp at h
    · simp at h
  · simp at h

theorem St.dropAt {F : Nat → Prop} {w0 w : World} {M1 B M2 : List (Nat × Obj)} (S : St F w0 w (M1 ++ (B ++ M2))) : St F w0 w (M1 ++ M2) :=
  ⟨S.eff, by have := S.nodup; simp only [List.map_append] at this ⊢; exact this.sublist (List.Sublist.append_left (List.sublist_append_right _ _) _), KnC.mk fun p hp => S.k.get p (by simp at hp ⊢; rcases hp with h | h <;> simp [h]), fun p hp => S.own p (by simp at hp ⊢; rcases hp with h | h <;> simp [h])⟩

theorem KnC.app {w : World} {A B : List (Nat × Obj)} : KnC w (A ++ B) ↔ KnC w A ∧ KnC w B :=
  ⟨fun h => ⟨KnC.mk fun p hp => h.get p (by simp [hp]), KnC.mk fun p hp => h.get p (by simp [hp])⟩, fun h => KnC.mk fun p hp => by
    rcases List.mem_append.1 hp with e | e
    · exact h.1.get p e
    · exact h.2.get p e⟩

theorem St.push {F : Nat → Prop} {w0 w : World} {M1 M2 : List (Nat × Obj)} (S : St F w0 w (M1 ++ M2)) (o : Obj) (k : Nat) : St F w0 { w with drawn := k, heap := w.heap.push o } (M1 ++ ([(w.heap.size, o)] ++ M2)) := by
  have S2 := (S.new o).drew k
  refine ⟨S2.eff, ?_, KnC.mk fun p hp => S2.k.get p (by simp at hp ⊢; rcases hp with h | h | h <;> simp [h]), fun p hp => S2.own p (by simp at hp ⊢; rcases hp with h | h | h <;> simp [h])⟩
  have := S2.nodup
  simp only [List.map_append, List.map_cons, List.map_nil] at this ⊢
  exact (List.perm_middle.nodup_iff).2 (by simpa using this)

theorem RunP.append {F : Nat → Prop} {w0 w : World} {M1 B M2 : List (Nat × Obj)} {sT uT ty T : TypeId} {sz bytes : Nat} {v x : Value} {rows new : List (List Value)} {K : Value → World → Prop}
    (S : St F w0 w (M1 ++ (B ++ M2))) (he : elF P sT = some (T, sz, bytes)) (hb : Bf T sz v rows B) (hx : Src P w T sz uT x new) (h1 : ∀ r ∈ new, ∀ u ∈ r, u.oneCell' = true) (hlim : (rows.length + new.length) * bytes < 140737488355328)
    (k : ∀ v' B' w', Bf T sz v' (rows ++ new) B' → St F w0 w' (M1 ++ (B' ++ M2)) → K v' w') : RunB P Builtin.append_ #[sT, uT] ty #[v, x] w (hid K) := by
  obtain ⟨hT, i, z, hi, hz, hsz, hby, hzs, hs0, hb0⟩ := elF_facts he
  subst hby
  have hlim' : rows.length + new.length < 140737488355328 := by
    refine Nat.lt_of_le_of_lt ?_ hlim
    exact Nat.le_mul_of_pos_right _ hb0
  have hkB : KnC w B := (KnC.app.1 (KnC.app.1 S.k).2).1
  have hwf : ∀ r ∈ rows ++ new, r.length = sz := by
    intro r hr
    rcases List.mem_append.1 hr with e | e
    · exact hb.1 r e
    · exact hx.2.2.1 r e
  rcases run_append_src (ty := ty) hT hi hz hsz hzs hs0 hb hkB hx h1 (Nat.le_of_lt hlim) hlim' with ⟨v', hr, rfl, rfl⟩ | ⟨b, c, rest, rest', rfl, rfl, hr, g1, g2, g3⟩ | ⟨c, rest', kk, hr, g1, g2, g3⟩
  · exact ⟨_, _, hr, k _ B _ (by simpa using hb) S⟩
  · refine ⟨_, _, hr, k _ [(b, Cl T ((rows ++ new).flatten ++ rest'))] _ ⟨hwf, by simpa using hlim', .inr ⟨b, c, rest', rfl, g1, g2, g3, rfl⟩⟩ ?_⟩
    have hi : (M1 ++ ([(b, Cl T (rows.flatten ++ rest))] ++ M2))[M1.length]? = some (b, Cl T (rows.flatten ++ rest)) := by simp
    have := S.turn (o' := Cl T ((rows ++ new).flatten ++ rest')) hi (eff_setRow w b _) (setRow_heap w b _ _ T _ hkB.1)
    simpa using this
  · refine ⟨_, _, hr, k _ [(w.heap.size, Cl T ((rows ++ new).flatten ++ rest'))] _ ⟨hwf, by simpa using hlim', .inr ⟨_, c, rest', rfl, g1, g2, g3, rfl⟩⟩ ?_⟩
    exact S.dropAt.push _ _

theorem RunP.append' {F : Nat → Prop} {w0 w : World} {M1 B : List (Nat × Obj)} {sT uT ty T : TypeId} {sz bytes : Nat} {v x : Value} {rows new : List (List Value)} {K : Value → World → Prop}
    (S : St F w0 w (M1 ++ B)) (he : elF P sT = some (T, sz, bytes)) (hb : Bf T sz v rows B) (hx : Src P w T sz uT x new) (h1 : ∀ r ∈ new, ∀ u ∈ r, u.oneCell' = true) (hlim : (rows.length + new.length) * bytes < 140737488355328)
    (k : ∀ v' B' w', Bf T sz v' (rows ++ new) B' → St F w0 w' (M1 ++ B') → K v' w') : RunB P Builtin.append_ #[sT, uT] ty #[v, x] w (hid K) :=
  RunP.append (M2 := []) (by simpa using S) he hb hx h1 hlim fun v' B' w' h S => k v' B' w' h (by simpa using S)

/-- append(v, x..) with a literal's elements. -/
theorem RunP.appendLit {F : Nat → Prop} {w0 w : World} {M1 B : List (Nat × Obj)} {sT ty T : TypeId} {sz bytes b n : Nat} {cs : List Value} {v : Value} {rows : List (List Value)} {K : Value → World → Prop}
    (S : St F w0 w ((b, Cl T cs) :: (M1 ++ B))) (new : List (List Value)) (he : elF P sT = some (T, sz, bytes)) (hb : Bf T sz v rows B) (hn : n = new.length) (hc : new.flatten = cs) (hr : ∀ r ∈ new, r.length = sz) (h1 : ∀ r ∈ new, ∀ u ∈ r, u.oneCell' = true) (hlim : (rows.length + new.length) * bytes < 140737488355328)
    (k : ∀ v' B' w', Bf T sz v' (rows ++ new) B' → St F w0 w' (M1 ++ B') → K v' w') : RunB P Builtin.append_ #[sT, sT] ty #[v, .slice (some ⟨b, 0, none⟩) n n] w (hid K) := by
  have hb0 := (elF_facts he).2
  obtain ⟨i, z, _, _, _, _, _, _, hb0⟩ := hb0
  have hlim' : rows.length + new.length < 140737488355328 := Nat.lt_of_le_of_lt (Nat.le_mul_of_pos_right _ hb0) hlim
  exact RunP.append' (M1 := (b, Cl T cs) :: M1) S he hb ((Sl.lit new hr hc S.k.1 (by omega) hn).src (elF_facts he).1) h1 hlim fun v' B' w' h S => k v' B' w' h S.tail

def fillS (sz : Nat) : List (Nat × Value) → List Value → Option (List Value)
  | [], cs => some cs
  | (i, v) :: rest, cs => if v.cells.size = sz ∧ i * sz + sz ≤ cs.length then fillS sz rest (cs.take (i * sz) ++ v.cells.toList ++ cs.drop (i * sz + sz)) else none
theorem fillS_nil {sz : Nat} {cs : List Value} : fillS sz [] cs = some cs := (rfl)
theorem fillS_cons {sz i : Nat} {v : Value} {rest : List (Nat × Value)} {cs : List Value} : fillS sz ((i, v) :: rest) cs =
    if v.cells.size = sz ∧ i * sz + sz ≤ cs.length then fillS sz rest (cs.take (i * sz) ++ v.cells.toList ++ cs.drop (i * sz + sz)) else none := (rfl)

theorem run_fillS {sz : Nat} : ∀ (ps : List (Nat × Value)) (cs r : List Value), fillS sz ps cs = some r → Instr.fill (fun i => some (i * sz, sz)) cs.toArray ps = some r.toArray
  | [], cs, r, h => by simp [fillS] at h; simp [Instr.fill, h]
  | (i, v) :: rest, cs, r, h => by
    unfold fillS at h
    split at h
    · rename_i hh
      obtain ⟨h1, h2⟩ := hh
      have ih := run_fillS rest _ r h
      subst h1
      unfold Instr.fill
      dsimp only
      rw [if_neg (by simp; omega)]
      have := fold_set cs v.cells.toList 0 (i * v.cells.size) (by simpa using h2)
      rw [← ih]
      congr 1
      apply Array.ext'
      simp only [Nat.add_zero, Array.length_toList] at this
      rw [← Array.foldl_toList, Array.toList_zipIdx]
      simpa using this
    · simp at h

theorem zr (z : List Value) : ∀ n, (List.range (n * z.length)).map (fun i => z[i % z.length]!) = (List.replicate n z).flatten
  | 0 => by simp
  | n + 1 => by
    rw [Nat.succ_mul, List.range_add, List.map_append, zr z n, List.replicate_succ', List.flatten_append]
    congr 1
    simp only [List.map_map, List.flatten_cons, List.flatten_nil, List.append_nil]
    apply List.ext_getElem (by simp)
    intro j h1 h2
    simp [Nat.mod_eq_of_lt h2, h2]

theorem RunP.lit {F : Nat → Prop} {w0 w : World} {M : List (Nat × Obj)} {sT T : TypeId} {sz bytes n : Nat} {ps : List (Nat × Value)} {z cs : List Value} {K : Value → World → Prop}
    (S : St F w0 w M) (he : elF P sT = some (T, sz, bytes)) (hz : zeroL P T = some z) (hn : n * sz ≤ 4096) (hc : fillS sz ps (List.replicate n z).flatten = some cs)
    (k : ∀ b w', St F w0 w' ((b, Cl T cs) :: M) → K (.slice (some ⟨b, 0, none⟩) n n) w') : RunP P (Ir.buildSlice sT n ps.toArray) w (hid K) := by
  obtain ⟨hT, i, z', hi, hz', hsz, hby, hzs, hs0, hb0⟩ := elF_facts he
  unfold zeroL at hz
  simp [hi, hz'] at hz
  subst hz
  refine ⟨_, _, ?_, k w.heap.size _ (S.new _)⟩
  have hf := run_fillS (sz := sz) ps _ _ hc
  have hlim : ¬ (16777216 < n * sz) := by omega
  by_cases h0 : n * sz = 0
  · have hn0 : n = 0 := by
      rcases Nat.mul_eq_zero.1 h0 with h | h <;> omega
    subst hn0
    simp at hf
    simp [Ir.buildSlice, Instr.buildSlice, run_underlying hT, sizeOf, typeInfo, zeroValue, hi, hz', hsz, newRow]
    rw [show Array.map (fun _ => (default : Value)) (Array.range 0) = (#[] : Array Value) from Array.ext' (by simp [Array.range]), hf]
    simp
  · have hbase : (Array.range (n * sz)).map (fun i => z'.cells[i % z'.cells.size]!) = ((List.replicate n z'.cells.toList).flatten).toArray := by
      apply Array.ext'
      simp only [Array.toList_map, Array.toList_range]
      rw [← zr]
      simp only [Array.length_toList, hzs]
      apply List.map_congr_left
      intro a ha
      have : a % sz < z'.cells.size := by rw [hzs]; exact Nat.mod_lt _ hs0
      simp [this]
    rw [← hbase] at hf
    simp [Ir.buildSlice, Instr.buildSlice, run_underlying hT, sizeOf, typeInfo, zeroValue, hi, hz', hsz, hlim, h0, newRow, hf]

theorem Bf.made {T : TypeId} {sz b c : Nat} {z : List Value} (hz : z.length = sz) (hc : c ≤ maxLen) : Bf T sz (.slice (some ⟨b, 0, none⟩) 0 c) [] [(b, Cl T (List.replicate c z).flatten)] :=
  ⟨by simp, by simp, .inr ⟨b, c, _, rfl, Nat.zero_le _, hc, by
    simp only [List.flatten_nil, List.nil_append]
    rw [flat_len (sz := sz) (fun r hr => by rw [(List.mem_replicate.1 hr).2, hz]), List.length_replicate], rfl⟩⟩

theorem RunP.make {F : Nat → Prop} {w0 w : World} {M : List (Nat × Obj)} {sT T : TypeId} {sz bytes : Nat} {z : List Value} {kl kc : IntKind} {li ci : Int} {K : Value → World → Prop} (l c : Nat)
    (S : St F w0 w M) (he : elF P sT = some (T, sz, bytes)) (hz : zeroL P T = some z) (hl : li = l) (hc : ci = c) (hlc : l ≤ c) (hb : bytes * c ≤ 281474976710656)
    (k : ∀ b w', z.length = sz → c ≤ maxLen → St F w0 w' ((b, Cl T (List.replicate c z).flatten) :: M) → K (.slice (some ⟨b, 0, none⟩) l c) w') : RunP P (Ir.makeSlice sT (.int kl li) (.int kc ci)) w (hid K) := by
  obtain ⟨hT, i, z', hi, hz', hsz, hby, hzs, hs0, hb0⟩ := elF_facts he
  unfold zeroL at hz
  simp [hi, hz'] at hz
  subst hz; subst hl; subst hc
  have hcm : c ≤ 281474976710656 := Nat.le_trans (Nat.le_mul_of_pos_left _ hb0) hb
  have hr := run_make (P := P) w sT T i z' hT hi hz' kl kc l c (by omega) (by omega) (by rw [hby, ← Int.natCast_mul]; omega) (by omega)
  refine ⟨_, _, hr, k w.heap.size _ (by simpa using hzs) (by simp only [maxLen]; omega) ?_⟩
  have := S.new (Cl T (List.replicate c z'.cells.toList).flatten)
  have e : (madeCells z'.cells ((c : Int).toNat * i.size)) = ((List.replicate c z'.cells.toList).flatten).toArray := by
    apply Array.ext'
    rw [← zr]
    simp only [madeCells, hsz, Array.toList_map, Array.toList_range, Array.length_toList, hzs, Int.toNat_natCast]
    apply List.map_congr_left
    intro a ha
    have : a % sz < z'.cells.size := by rw [hzs]; exact Nat.mod_lt _ hs0
    simp [this]
  rw [e]
  exact this

/-- A function's result that is a slice of its own, new. -/
def Nw (T : TypeId) (sz : Nat) (w w' : World) (v : Value) (rows : List (List Value)) : Prop := ∃ B, Bf T sz v rows B ∧ St (fun _ => False) w w' B

theorem St.join {F : Nat → Prop} {w0 w w' : World} {M B : List (Nat × Obj)} (S : St F w0 w M) (h : St (fun _ => False) w w' B) : St F w0 w' (M ++ B) := by
  refine ⟨S.eff.trans (Ext.eff h.eff), ?_, KnC.app.2 ⟨(S.ext h.eff).k, h.k⟩, ?_⟩
  · rw [List.map_append, List.nodup_append]
    refine ⟨S.nodup, h.nodup, fun a ha b hb e => ?_⟩
    obtain ⟨p, hp, e1⟩ := List.mem_map.1 ha
    obtain ⟨q, hq, e2⟩ := List.mem_map.1 hb
    have h1 := getO_lt (S.k.get p hp)
    have h2 := h.own q hq
    simp at h2
    omega
  · intro p hp
    rcases List.mem_append.1 hp with e | e
    · exact S.own p e
    · refine .inl ?_
      have := h.own p e
      simp at this
      have := S.eff.size
      omega

theorem St.left {F : Nat → Prop} {w0 w : World} {M1 M2 : List (Nat × Obj)} (S : St F w0 w (M1 ++ M2)) : St F w0 w M1 := by
  have := St.dropAt (M1 := M1) (B := M2) (M2 := []) (by simpa using S)
  simpa using this
theorem St.right {F : Nat → Prop} {w0 w : World} {M1 M2 : List (Nat × Obj)} (S : St F w0 w (M1 ++ M2)) : St F w0 w M2 := by
  have := St.dropAt (M1 := []) (B := M1) (M2 := M2) (by simpa using S)
  simpa using this
theorem Nw.ext {T : TypeId} {sz : Nat} {w w' : World} {v : Value} {rows : List (List Value)} (h : Nw T sz w w' v rows) : Ext w w' := by obtain ⟨B, _, h⟩ := h; exact h.eff
theorem Nw.sl {T : TypeId} {sz : Nat} {w w' : World} {v : Value} {rows : List (List Value)} (h : Nw T sz w w' v rows) : Sl w' T sz v rows := by obtain ⟨B, hb, h⟩ := h; exact hb.sl h.k

theorem Sl.formM {α : Type} {f : α → List Value} {l : List α} {w : World} {T : TypeId} {sz : Nat} {v : Value} (h : Sl w T sz v (l.map f)) : ∃ a c, v = .slice a l.length c ∧ l.length ≤ c ∧ l.length < 140737488355328 := by
  obtain ⟨a, c, h1, h2, h3, _⟩ := h
  rw [List.length_map] at h1 h2 h3
  exact ⟨a, c, h1, h2, h3⟩
end Go.Ig
