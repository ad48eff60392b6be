/-
Equality of structs and arrays whose parts are numbers, bools and texts.
-/
import Derived.Test.YtaldohdkfggkiaaGreatIgA
import Derived.Laws.StructEq
set_option linter.unusedVariables false
set_option linter.unusedSimpArgs false
set_option linter.unusedSectionVars false
set_option linter.unnecessarySimpa false
namespace Go.Ig
variable {P : Program}

def partP (P : Program) (t : TypeId) (cs : List Value) (off : Nat) : Option Value :=
  match tyL P t with
  | some (true, sz) => some (.agg ((cs.drop off).take sz).toArray)
  | some (false, _) => cs[off]?
  | none => none

def eqAll (f : TypeId → Value → Value → Option Bool) (P : Program) (xs ys : List Value) : List (TypeId × Nat) → Option Bool
  | [] => some true
  | (t, off) :: l => (partP P t xs off).bind fun a => (partP P t ys off).bind fun b => (f t a b).bind fun r => (eqAll f P xs ys l).map (r && ·)

def eqP (P : Program) : Nat → TypeId → Value → Value → Option Bool
  | 0, _, _, _ => none
  | d + 1, t, x, y =>
    match P.underlying t, x, y with
    | some .bool, .bool a, .bool b => some (a == b)
    | some (.int _), .int k a, .int k' b => if k = k' then some (a == b) else none
    | some .string, .string a, .string b => some (a.toList == b.toList)
    | some (.struct fs), .agg xs, .agg ys => if P.stoodInHeld t then none else if fs.any (fun f => f.name == "_") then none else eqAll (eqP P d) P xs.toList ys.toList (fs.toList.map fun f => (f.type, f.offset))
    | some (.array n e), .agg xs, .agg ys => match tyL P e with
      | some (_, sz) => eqAll (eqP P d) P xs.toList ys.toList ((List.range n).map fun i => (e, i * sz))
      | none => none
    | _, _, _ => none

theorem run_partP {t : TypeId} {cs : List Value} {off : Nat} {v : Value} {w : World} (h : partP P t cs off = some v) : (part t cs.toArray off).run P w = .ok v w := by
  unfold partP at h
  split at h
  · rename_i sz ht
    obtain ⟨i, d, hi, hd, hs, h1, h2, h3⟩ := run_tyL (w := w) ht
    simp at h; subst h
    simp only [part, Sem.run_bind, h1, Result.andThen_ok, if_true, h2, Sem.run_pure]
    congr 2
    apply Array.ext'
    simp [List.extract, Nat.add_sub_cancel_left]
  · rename_i sz ht
    obtain ⟨i, d, hi, hd, hs, h1, h2, h3⟩ := run_tyL (w := w) ht
    have h' : cs.toArray[off]? = some v := by simpa using h
    simp [part, h1, h']
  · simp at h

theorem eqAll_fields {d : Nat} (ih : ∀ (t : TypeId) (x y : Value) (b : Bool) (w : World), eqP P d t x y = some b → (Op.equalIn d t x y).run P w = .ok b w) {xs ys : List Value} {w : World} : ∀ (fs : List Field) (b : Bool), fs.any (fun f => f.name == "_") = false →
    eqAll (eqP P d) P xs ys (fs.map fun f => (f.type, f.offset)) = some b → (Op.eqFields d xs.toArray ys.toArray fs).run P w = .ok b w
  | [], b, _, h => by simp [eqAll] at h; subst h; simp [Op.eqFields]
  | f :: fs, b, hn, h => by
    simp only [List.any_cons, Bool.or_eq_false_iff] at hn
    simp only [List.map_cons, eqAll, Option.bind_eq_some_iff, Option.map_eq_some_iff] at h
    obtain ⟨a, ha, c, hc, r, hr, q, hq, rfl⟩ := h
    have hne : f.name ≠ "_" := by simpa using hn.1
    have i2 := eqAll_fields (w := w) ih fs q hn.2 hq
    simp only [Op.eqFields]
    simp [hne, run_partP ha, run_partP hc, ih _ _ _ _ w hr]
    cases r <;> simp [i2]

theorem eqP_run : ∀ (d : Nat) (t : TypeId) (x y : Value) (b : Bool) (w : World), eqP P d t x y = some b → (Op.equalIn d t x y).run P w = .ok b w
  | 0, t, x, y, b, w, h => by simp [eqP] at h
  | d + 1, t, x, y, b, w, h => by
    unfold eqP at h
    split at h
    · rename_i hu; simp at h; subst h; exact run_equalIn_bool' w d t _ _ hu
    · rename_i hu
      split at h
      · rename_i hk; subst hk; simp at h; subst h; exact run_equalIn_int w d t _ _ _ _ hu
      · simp at h
    · rename_i hu; simp at h; subst h; exact run_equalIn_string w d t _ _ hu
    · rename_i fs xs ys hu
      split at h
      · simp at h
      · split at h
        · simp at h
        · rename_i hs hn
          have hf : P.fieldsOf t = fs := by simp [Program.fieldsOf, hu]
          rw [run_equalIn_agg w d t xs ys (by rw [hf]; exact hu) (by simpa using hs), hf]
          exact eqAll_fields (eqP_run d) fs.toList b (by simpa using hn) h
    · rename_i n e xs ys hu
      split at h
      · rename_i g sz ht
        obtain ⟨i, dd, hi, hd, hs, h1, h2, h3⟩ := run_tyL (w := w) ht
        simp only [Op.equalIn, Sem.run_bind, run_underlying hu, Result.andThen_ok, h2]
        simp only [Std.Legacy.Range.forIn_eq_forIn_range', Std.Legacy.Range.size, Nat.sub_zero, Nat.add_sub_cancel, Nat.div_one]
        rw [List.range_eq_range'] at h
        generalize List.range' 0 n = L at h
        clear hu
        induction L generalizing b with
        | nil => simp [eqAll] at h; subst h; simp
        | cons j L ihL =>
          simp only [List.map_cons, eqAll, Option.bind_eq_some_iff, Option.map_eq_some_iff] at h
          obtain ⟨a, ha, c, hc, r, hr, q, hq, rfl⟩ := h
          have i2 := ihL q hq
          have p1 := run_partP (w := w) ha
          have p2 := run_partP (w := w) hc
          simp at p1 p2
          have p3 := eqP_run d _ _ _ _ w hr
          cases r
          · simp [p1, p2, p3]
          · simp [p1, p2, p3] at i2 ⊢
            exact i2
      · simp at h
    · simp at h

theorem eq_agg {w : World} {T : TypeId} {ox oy : Operand} {xs ys : Array Value} {b : Bool} (hm : P.eqGuardType P.depth T = false) (h : eqP P 10000 T (.agg xs) (.agg ys) = some b) :
    (do eqGuard .eql T ox oy (.agg xs) (.agg ys); binOp .eql T (.agg xs) (.agg ys) : Sem Value).run P w = .ok (.bool b) w := by
  rw [Sem.run_bind, run_eqGuard_agg w .eql T ox oy xs ys hm, Result.andThen_ok, run_eql_struct, eqP_run _ _ _ _ _ _ h]
  rfl
theorem ne_agg {w : World} {T : TypeId} {ox oy : Operand} {xs ys : Array Value} {b : Bool} (hm : P.eqGuardType P.depth T = false) (h : eqP P 10000 T (.agg xs) (.agg ys) = some b) :
    (do eqGuard .neq T ox oy (.agg xs) (.agg ys); binOp .neq T (.agg xs) (.agg ys) : Sem Value).run P w = .ok (.bool !b) w := by
  rw [Sem.run_bind, run_eqGuard_agg w .neq T ox oy xs ys hm, Result.andThen_ok, run_neq_struct, eqP_run _ _ _ _ _ _ h]
  rfl
end Go.Ig
