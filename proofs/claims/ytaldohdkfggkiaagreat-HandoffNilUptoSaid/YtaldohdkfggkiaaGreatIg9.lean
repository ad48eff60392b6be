/-
Slices that are read: rows of cells; what they keep while other memory turns.
-/
import Derived.Test.YtaldohdkfggkiaaGreatIg8
import Derived.Test.YtaldohdkfggkiaaGreatIgW
import Derived.Scope
import Derived.Laws.Strings
set_option linter.unusedVariables false
set_option linter.unusedSimpArgs false
set_option linter.unusedSectionVars false
set_option linter.unnecessarySimpa false
namespace Go.Ig
variable {P : Program}

/-- May a block of rows of type T' hold elements of type T? -/
def simT (T T' : TypeId) : Bool := T' == T || alien.contains (T', T)
theorem simT_self (T : TypeId) : simT T T = true := by simp [simT]
/-- Block b has cells cs, in rows that may hold elements of type T. -/
def Lie (w : World) (b : Nat) (cs : Array Value) (T : TypeId) (fr : Nat × Nat) : Prop := ∃ T', simT T T' = true ∧ w.heap[b]? = some (.cells cs T' fr)
theorem Lie.of {w : World} {b : Nat} {cs : Array Value} {T : TypeId} {fr : Nat × Nat} (h : w.heap[b]? = some (.cells cs T fr)) : Lie w b cs T fr := ⟨T, simT_self T, h⟩
/-- A slice whose elements have sz cells each, in a block that may hold elements of type T. -/
def Sl (w : World) (T : TypeId) (sz : Nat) (v : Value) (rows : List (List Value)) : Prop :=
  ∃ a c, v = .slice a rows.length c ∧ rows.length ≤ c ∧ rows.length < 140737488355328 ∧ (∀ r ∈ rows, r.length = sz) ∧
    (rows = [] ∨ ∃ b off cs fr, a = some ⟨b, off, none⟩ ∧ Lie w b cs T fr ∧ ∀ i r, rows[i]? = some r → ldC w ⟨b, off + i * sz, none⟩ sz = some r)

theorem Sl.form {w : World} {T : TypeId} {sz : Nat} {v : Value} {rows : List (List Value)} (h : Sl w T sz v rows) : ∃ a c, v = .slice a rows.length c ∧ rows.length ≤ c := by
  obtain ⟨a, c, h1, h2, _⟩ := h; exact ⟨a, c, h1, h2⟩
theorem Sl.small {w : World} {T : TypeId} {sz : Nat} {v : Value} {rows : List (List Value)} (h : Sl w T sz v rows) : rows.length < 140737488355328 := by
  obtain ⟨a, c, _, _, h, _⟩ := h; exact h
theorem Sl.nil {w : World} {T : TypeId} {sz : Nat} {a : Option Addr} {c : Nat} : Sl w T sz (.slice a 0 c) [] := ⟨a, c, rfl, by simp, by simp, by simp, .inl rfl⟩

theorem Sl.at {w : World} {T : TypeId} {sz : Nat} {a : Option Addr} {n c : Nat} {rows : List (List Value)} (h : Sl w T sz (.slice a n c) rows) {TT E : TypeId} (he : elL P TT = some (none, E, sz)) {i : Nat} {r : List Value} (hi : rows[i]? = some r) :
    ∃ p, idxA P TT (.slice a n c) (.int .i64 i) = some (.pointer (some p)) ∧ ldC w p sz = some r := by
  obtain ⟨a', c', h1, h2, _, h3, h4⟩ := h
  cases h1
  have hlt : i < rows.length := by
    rw [List.getElem?_eq_some_iff] at hi; exact hi.1
  rcases h4 with h4 | ⟨b, off, cs, fr, rfl, hb, h4⟩
  · subst h4; simp at hi
  · refine ⟨⟨b, off + i * sz, none⟩, ?_, h4 i r hi⟩
    simp [idxA, he, hlt, add_mk]

/-- Of a block of another type, or one that stays, a slice reads on as it did. -/
theorem Sl.eff {F : Nat → Prop} {w w' : World} {T : TypeId} {sz : Nat} {v : Value} {rows : List (List Value)} (h : Sl w T sz v rows) (x : Eff F w w') (hf : ∀ b cs T' fr, simT T T' = true → w.heap[b]? = some (.cells cs T' fr) → ¬ F b) : Sl w' T sz v rows := by
  obtain ⟨a, c, h1, h2, h2', h3, h4⟩ := h
  refine ⟨a, c, h1, h2, h2', h3, h4.imp id ?_⟩
  rintro ⟨b, off, cs, fr, e, hb, h4⟩
  obtain ⟨T', hs, hb⟩ := hb
  exact ⟨b, off, cs, fr, e, ⟨T', hs, x.get hb (hf b cs T' fr hs hb)⟩, fun i r hi => x.ld (h4 i r hi) (hf b cs T' fr hs hb)⟩

/-- A slice reads on as it did when a block turns that cannot hold its elements. -/
theorem Sl.old {w w' : World} {T Tb : TypeId} {sz b : Nat} {v : Value} {rows : List (List Value)} {cs : List Value} (h : Sl w T sz v rows) (x : Eff (· = b) w w') (hb : w.heap[b]? = some (Cl Tb cs)) (hn : simT T Tb = false) : Sl w' T sz v rows := h.eff x fun b' cs' T' fr hs hb' e => by
  subst e
  rw [hb] at hb'
  simp only [Cl, Option.some.injEq, Obj.cells.injEq] at hb'
  rw [← hb'.2.1, hn] at hs
  cases hs
theorem Sl.ext {w w' : World} {T : TypeId} {sz : Nat} {v : Value} {rows : List (List Value)} (h : Sl w T sz v rows) (x : Ext w w') : Sl w' T sz v rows := h.eff x fun _ _ _ _ _ _ => id

/-- A part of a slice. -/
theorem Sl.sub {w : World} {T : TypeId} {sz : Nat} {a : Option Addr} {n c lo hi : Nat} {rows : List (List Value)} (h : Sl w T sz (.slice a n c) rows) {TT : TypeId} {i : TypeInfo} (hT : P.underlying TT = some (.slice T)) (hi' : P.info? T = some i) (hs : i.size = sz) (h1 : lo ≤ hi) (h2 : hi ≤ rows.length) {l u : Option Value}
    (hl : ∀ k, lo ≤ k → bndV l 0 k = some lo) (hu : bndV u n c = some hi) : ∃ a', slV P TT (.slice a n c) l u none = some (.slice a' (hi - lo) (c - lo)) ∧ Sl w T sz (.slice a' (hi - lo) (c - lo)) ((rows.drop lo).take (hi - lo)) := by
  obtain ⟨a', c', e, g2, g2', g3, g4⟩ := h
  cases e
  refine ⟨if c = lo then a else a.map (·.add (lo * i.size)), by simp only [slV, hT, hu, Option.bind_some, hl hi h1, hi', Option.map_some], ?_⟩
  have hlen : ((rows.drop lo).take (hi - lo)).length = hi - lo := by simp; omega
  refine ⟨_, c - lo, by rw [hlen], by rw [hlen]; omega, by rw [hlen]; omega, fun r hr => g3 r (List.mem_of_mem_drop (List.mem_of_mem_take hr)), ?_⟩
  rcases g4 with rfl | ⟨b, off, cs, fr, rfl, hb, g4⟩
  · left; simp
  · by_cases hc : c = lo
    · left
      apply List.eq_nil_of_length_eq_zero
      rw [hlen]; omega
    · right
      refine ⟨b, off + lo * sz, cs, fr, by rw [if_neg hc, hs, Option.map_some, add_mk], hb, fun k r hk => ?_⟩
      rw [List.getElem?_take] at hk
      split at hk
      · rw [List.getElem?_drop] at hk
        have := g4 (lo + k) r hk
        rw [Nat.add_mul, ← Nat.add_assoc] at this
        exact this
      · simp at hk

theorem wr_succ {k : Nat} (h : k < 140737488355328) : IntKind.i64.wrap ((k : Int) + 1) = ((k + 1 : Nat) : Int) := by
  rw [wr_i64 (by omega) (by omega)]; omega
/-! ### code with labels, where no goto is taken -/
def NoG (Q : Pst) : Pst
  | .goto _, _, _ => False
  | e, L, w => Q e L w
theorem NoG_normal {Q : Pst} {L : AL} {w : World} : NoG (hid Q) .normal L w = Q .normal L w := (rfl)
theorem NoG_ret {Q : Pst} {L : AL} {w : World} : NoG (hid Q) .ret L w = Q .ret L w := (rfl)
theorem NoG_exit {Q : Pst} {i : Nat} {L : AL} {w : World} : NoG (hid Q) (.exit i) L w = Q (.exit i) L w := (rfl)
theorem Wp.scope {n : Nat} {c : Code} {Q : Pst} {L : AL} {w : World} (hd : dstsIn n c = true) (h : W P n (hid c) (hid (NoG (hid Q))) L w) : Wp P n (hid (.scope c)) (hid Q) L w := by
  intro a ha
  refine wp_scope_straight (wp_mono (W_sound (c := c) h hd a ha) ?_)
  rintro e a1 w1 ⟨L1, h1, h2⟩
  cases e with
  | goto l => exact (h2 : False).elim
  | _ => exact ⟨L1, h1, h2⟩

section
variable {F : Nat → Prop} {w0 w : World} {M : List (Nat × Obj)}

theorem RunP.new {α : Type} {s : Sem α} {o : Obj} {r : Nat → α} {K : α → World → Prop} (S : St F w0 w M) (h : s.run P w = .ok (r w.heap.size) { w with heap := w.heap.push o })
    (k : ∀ b w', St F w0 w' ((b, o) :: M) → K (r b) w') : RunP P s w (hid K) := ⟨_, _, h, k _ _ (S.new o)⟩

theorem RunP.rangeStr {T : TypeId} {s : ByteArray} {K : Value → World → Prop} (S : St F w0 w M) (hT : P.underlying T = some .string)
    (k : ∀ b w', St F w0 w' ((b, .stringIter s 0) :: M) → K (.pointer (some ⟨b, 0, none⟩)) w') : RunP P (Ir.range T (.string s)) w (hid K) :=
  RunP.new S (r := fun b => .pointer (some ⟨b, 0, none⟩)) (by simp [Ir.range, Instr.range, run_underlying hT]) k

theorem eff_set (w : World) (b : Nat) (o : Obj) : Eff (· = b) w { w with heap := w.heap.setIfInBounds b o } :=
  ⟨rfl, rfl, rfl, by simp, fun k _ hk => by simp [Array.getElem?_setIfInBounds_ne (Ne.symm hk)]⟩

theorem St.set (S : St F w0 w M) {i b : Nat} {o o' : Obj} (hi : M[i]? = some (b, o)) : St F w0 { w with heap := w.heap.setIfInBounds b o' } (M.set i (b, o')) := by
  have hb : w.heap[b]? = some o := S.k.get (b, o) (List.mem_of_getElem? hi)
  exact S.turn hi (eff_set w b o') (by simp [getO_lt hb])

theorem run_getObj_map {w : World} {b : Nat} {o : Obj} (hb : w.heap[b]? = some o) (ho : ∀ c T fr, o ≠ .cells c T fr) : (getObj b).run P w = .ok o w := by
  cases o <;> first | (simp only [getObj, Sem.run, hb]; done) | exact absurd rfl (ho _ _ _)

theorem run_setObj_map {w : World} {b : Nat} {o o' : Obj} (hb : w.heap[b]? = some o) (ho : ∀ c T fr, o ≠ .cells c T fr) : (setObj b o').run P w = .ok () { w with heap := w.heap.setIfInBounds b o' } := by
  cases o <;> first | (simp only [setObj, Sem.run, hb]; done) | exact absurd rfl (ho _ _ _)

theorem RunP.nextStr {b pos ty : Nat} {s : ByteArray} {K : Value → World → Prop} (i : Nat) (S : St F w0 w M) (hi : M[i]? = some (b, .stringIter s pos))
    (k1 : pos < s.size → ∀ w', St F w0 w' (M.set i (b, .stringIter s (pos + (Utf8.decode s pos).2))) → K (.tuple #[.bool true, .int .i64 pos, .int .i32 (Utf8.decode s pos).1]) w')
    (k2 : ¬ pos < s.size → K (.tuple #[.bool false]) w) : RunP P (Ir.next (.pointer (some ⟨b, 0, none⟩)) true ty) w (hid K) := by
  have hb : w.heap[b]? = some (.stringIter s pos) := S.k.get (b, _) (List.mem_of_getElem? hi)
  have hg := run_getObj_map (P := P) hb (by simp)
  by_cases h : pos < s.size
  · refine ⟨_, _, ?_, k1 h _ (S.set hi)⟩
    simp only [Ir.next, Instr.next, Sem.run_bind, hg, Result.andThen_ok, h, if_true, run_setObj_map hb (show ∀ c T fr, Obj.stringIter s pos ≠ .cells c T fr by simp), Sem.run_pure, goInt]
  · refine ⟨_, _, ?_, k2 h⟩
    simp only [Ir.next, Instr.next, Sem.run_bind, hg, Result.andThen_ok, h, if_false, Sem.run_pure]
end
attribute [go_sem] NoG_normal NoG_ret NoG_exit
/-! ### == and != beyond numbers and strings -/
section eqs
variable {w : World} {T : TypeId} {ox oy : Operand}
theorem run_equal {t : TypeId} {x y : Value} {b : Bool} (h : ∀ d, (Op.equalIn (d + 2) t x y).run P w = .ok b w) : (Op.equal t x y).run P w = .ok b w := h 9998

theorem run_eql_of {x y : Value} {b : Bool} (hg : (eqGuard .eql T ox oy x y).run P w = .ok () w) (hb : ∀ k n s, x ≠ .int k n ∧ x ≠ .string s) (hf : ∀ k n c i, x ≠ .float k n ∧ x ≠ .complex k c i) (h : (Op.equal T x y).run P w = .ok b w) :
    (do eqGuard .eql T ox oy x y; binOp .eql T x y : Sem Value).run P w = .ok (.bool b) w := by
  rw [Sem.run_bind, hg]
  cases x <;> first
    | (simp [binOp, h]; done)
    | exact absurd rfl (hb _ _ default).1
    | exact absurd rfl (hb default default _).2
    | exact absurd rfl (hf _ _ default default).1
    | exact absurd rfl (hf _ default _ _).2
theorem run_neq_of {x y : Value} {b : Bool} (hg : (eqGuard .neq T ox oy x y).run P w = .ok () w) (hb : ∀ k n s, x ≠ .int k n ∧ x ≠ .string s) (hf : ∀ k n c i, x ≠ .float k n ∧ x ≠ .complex k c i) (h : (Op.equal T x y).run P w = .ok b w) :
    (do eqGuard .neq T ox oy x y; binOp .neq T x y : Sem Value).run P w = .ok (.bool !b) w := by
  rw [Sem.run_bind, hg]
  cases x <;> first
    | (simp [binOp, h]; done)
    | exact absurd rfl (hb _ _ default).1
    | exact absurd rfl (hb default default _).2
    | exact absurd rfl (hf _ _ default default).1
    | exact absurd rfl (hf _ default _ _).2

theorem eq_bool {a b : Bool} (hT : P.underlying T = some .bool) : (do eqGuard .eql T ox oy (.bool a) (.bool b); binOp .eql T (.bool a) (.bool b) : Sem Value).run P w = .ok (.bool (a == b)) w :=
  run_eql_of (by simp [eqGuard]) (by simp) (by simp) (run_equal fun d => by simp [Op.equalIn, run_underlying hT])
theorem ne_bool {a b : Bool} (hT : P.underlying T = some .bool) : (do eqGuard .neq T ox oy (.bool a) (.bool b); binOp .neq T (.bool a) (.bool b) : Sem Value).run P w = .ok (.bool !(a == b)) w :=
  run_neq_of (by simp [eqGuard]) (by simp) (by simp) (run_equal fun d => by simp [Op.equalIn, run_underlying hT])
theorem eq_ptr {p : Option Addr} {e : TypeId} (hT : P.underlying T = some (.pointer e)) : (do eqGuard .eql T ox oy (.pointer p) (.pointer none); binOp .eql T (.pointer p) (.pointer none) : Sem Value).run P w = .ok (.bool p.isNone) w :=
  run_eql_of (by simp [eqGuard]) (by simp) (by simp) (run_equal fun d => by cases p <;> simp [Op.equalIn, run_underlying hT])
theorem ne_ptr {p : Option Addr} {e : TypeId} (hT : P.underlying T = some (.pointer e)) : (do eqGuard .neq T ox oy (.pointer p) (.pointer none); binOp .neq T (.pointer p) (.pointer none) : Sem Value).run P w = .ok (.bool !p.isNone) w :=
  run_neq_of (by simp [eqGuard]) (by simp) (by simp) (run_equal fun d => by cases p <;> simp [Op.equalIn, run_underlying hT])
theorem eq_slice {p : Option Addr} {n c : Nat} {e : TypeId} (hT : P.underlying T = some (.slice e)) : (do eqGuard .eql T ox oy (.slice p n c) (.slice none 0 0); binOp .eql T (.slice p n c) (.slice none 0 0) : Sem Value).run P w = .ok (.bool p.isNone) w :=
  run_eql_of (by simp [eqGuard]) (by simp) (by simp) (run_equal fun d => by cases p <;> simp [Op.equalIn, run_underlying hT])
theorem ne_slice {p : Option Addr} {n c : Nat} {e : TypeId} (hT : P.underlying T = some (.slice e)) : (do eqGuard .neq T ox oy (.slice p n c) (.slice none 0 0); binOp .neq T (.slice p n c) (.slice none 0 0) : Sem Value).run P w = .ok (.bool !p.isNone) w :=
  run_neq_of (by simp [eqGuard]) (by simp) (by simp) (run_equal fun d => by cases p <;> simp [Op.equalIn, run_underlying hT])
theorem eq_map {p : Option Nat} {k e : TypeId} (hT : P.underlying T = some (.map k e)) : (do eqGuard .eql T ox oy (.map p) (.map none); binOp .eql T (.map p) (.map none) : Sem Value).run P w = .ok (.bool p.isNone) w :=
  run_eql_of (by simp [eqGuard]) (by simp) (by simp) (run_equal fun d => by cases p <;> simp [Op.equalIn, run_underlying hT])
theorem eq_func {f : Fn} {a b : Array Value} {ps rs : Array TypeId} {v : Bool} (hT : P.underlying T = some (.func ps rs v)) : (do eqGuard .eql T ox oy (.func f a b) .nilFunc; binOp .eql T (.func f a b) .nilFunc : Sem Value).run P w = .ok (.bool false) w :=
  run_eql_of (by simp [eqGuard]) (by simp) (by simp) (run_equal fun d => by simp [Op.equalIn, run_underlying hT])
theorem ne_iface {t : TypeId} {v : Value} {ms : Array (String × TypeId)} (hT : P.underlying T = some (.interface ms)) : (do eqGuard .neq T ox oy (.iface t v) .nilIface; binOp .neq T (.iface t v) .nilIface : Sem Value).run P w = .ok (.bool !false) w :=
  run_neq_of (by simp [eqGuard]) (by simp) (by simp) (run_equal fun d => by simp [Op.equalIn, run_underlying hT])
theorem ne_niface {c : Value} {ms : Array (String × TypeId)} (hT : P.underlying T = some (.interface ms)) : (do eqGuard .neq T ox (.const c) .nilIface .nilIface; binOp .neq T .nilIface .nilIface : Sem Value).run P w = .ok (.bool !true) w :=
  run_neq_of (by simp [eqGuard]) (by simp) (by simp) (run_equal fun d => by simp [Op.equalIn, run_underlying hT])
end eqs
theorem VorR_none {w : World} (s : Sem Value) (K : Value → World → Prop) : VorR P none (hid s) w (hid K) = RunP P s w (hid K) := (rfl)
theorem W_scope {n : Nat} {c : Code} {Q : Pst} {L : AL} {w : World} : W P n (hid (.scope c)) (hid Q) L w = Wp P n (hid (.scope c)) (hid Q) L w := (rfl)
theorem CallP.ext {f : FuncId} {xs : List Value} {w w' : World} {v : Value} {K : Value → World → Prop} (h : (callFunc f xs.toArray).run P w = .ok (.value v) w') (k : K v w') : CallP P f xs w (hid K) := ⟨.inr ⟨v, w', h, k⟩⟩
theorem RunP.ok {α : Type} {s : Sem α} {r : α} {w w' : World} {K : α → World → Prop} (h : s.run P w = .ok r w') (k : K r w') : RunP P s w (hid K) := ⟨r, w', h, k⟩
theorem RunP.same {α : Type} {s : Sem α} {r : α} {w : World} {K : α → World → Prop} (h : s.run P w = .ok r w) (k : K r w) : RunP P s w (hid K) := ⟨r, w, h, k⟩
theorem str_eq (s t : ByteArray) : (s.toList == t.toList) = decide (s = t) := by
  rw [ByteArray.toList_eq, ByteArray.toList_eq, Bool.eq_iff_iff]
  simp only [beq_iff_eq, decide_eq_true_eq]
  exact ⟨fun h => by cases s; cases t; simp at h; rw [h], fun h => by rw [h]⟩
attribute [go_sem] str_eq VorR_none W_scope
theorem VorC.run {o : Option Value} {s : Sem Value} {r : Value} {K : Value → Prop} (ho : o = none) (h : ∀ w, s.run P w = .ok r w) (k : K r) : VorC P o (hid s) (hid K) := by
  subst ho; exact ⟨r, h, k⟩
theorem VorR.run {o : Option Value} {s : Sem Value} {r : Value} {w : World} {K : Value → World → Prop} (ho : o = none) (h : s.run P w = .ok r w) (k : K r w) : VorR P o (hid s) w (hid K) := by
  subst ho; exact ⟨r, w, h, k⟩
end Go.Ig
