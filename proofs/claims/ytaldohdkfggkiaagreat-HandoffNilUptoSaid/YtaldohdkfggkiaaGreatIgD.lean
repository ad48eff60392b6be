/-
Interfaces compared with nil; methods.
-/
import Derived.Test.YtaldohdkfggkiaaGreatC13
set_option linter.unusedVariables false
set_option linter.unusedSimpArgs false
set_option linter.unusedSectionVars false
set_option linter.unnecessarySimpa false
namespace Go.Ig
variable {P : Program}
def isIf (P : Program) (T : TypeId) : Bool := match P.underlying T with | some (.interface _) => true | _ => false
theorem isIf_e {T : TypeId} (h : isIf P T = true) : ∃ e, P.underlying T = some (.interface e) := by unfold isIf at h; split at h <;> first | exact ⟨_, by assumption⟩ | simp at h
section
variable {w : World} {K : Value → World → Prop} {T t : TypeId} {v : Value}
theorem RunP_nei (hT : isIf P T = true) : RunP P ((pure () : Sem Unit) >>= fun _ => binOp .neq T (.iface t v) .nilIface) w (hid K) = K (.bool true) w :=
  RunP_ok (by obtain ⟨e, hT⟩ := isIf_e hT; have := ne_iface (P := P) (w := w) (ox := .tmp 0) (oy := .tmp 0) (t := t) (v := v) hT; simpa [eqGuard] using this)
theorem RunP_nei' {ox oy : Operand} (hT : isIf P T = true) : RunP P (do eqGuard .neq T ox oy (.iface t v) .nilIface; binOp .neq T (.iface t v) .nilIface : Sem Value) w (hid K) = K (.bool true) w :=
  RunP_ok (by obtain ⟨e, hT⟩ := isIf_e hT; exact ne_iface (P := P) (w := w) (ox := ox) (oy := oy) (t := t) (v := v) hT)
theorem RunP_nen {ox : Operand} {c : Value} (hT : isIf P T = true) : RunP P (do eqGuard .neq T ox (.const c) .nilIface .nilIface; binOp .neq T .nilIface .nilIface : Sem Value) w (hid K) = K (.bool false) w :=
  RunP_ok (by obtain ⟨e, hT⟩ := isIf_e hT; exact ne_niface (P := P) (w := w) (ox := ox) (c := c) hT)
theorem RunP_nen' (hT : isIf P T = true) : RunP P ((pure () : Sem Unit) >>= fun _ => binOp .neq T .nilIface .nilIface) w (hid K) = K (.bool false) w :=
  RunP_ok (by obtain ⟨e, hT⟩ := isIf_e hT; have := ne_niface (P := P) (w := w) (c := .nilIface) (ox := .tmp 0) hT; simpa [eqGuard] using this)
end
theorem b_ine {a : TypeId} {x y : Value} : binV .neq (.iface a x) y = none := by unfold binV; split <;> simp_all
theorem b_nne {y : Value} : binV .neq .nilIface y = none := by unfold binV; split <;> simp_all
attribute [go_sem] isIf RunP_nei RunP_nei' RunP_nen RunP_nen' b_ine b_nne
theorem InvP.of {t : TypeId} {v r : Value} {f : FuncId} {name : String} {args : List Value} {w : World} {K : Value → World → Prop} (h : (method (P.types.size + Made.depth) t v name).run P w = .ok (f, r) w) (k : CallP P f (r :: args) w (hid K)) : InvP P (.iface t v) name args w (hid K) :=
  ⟨t, v, f, r, rfl, h, k⟩
theorem VorC_ok {s : Sem Value} {r : Value} {K : Value → Prop} (h : ∀ w, s.run P w = .ok r w) : VorC P none (hid s) (hid K) = K r := by
  apply propext
  constructor
  · intro k
    obtain ⟨r', h', k⟩ : ∃ r, (∀ w', s.run P w' = .ok r w') ∧ K r := k
    have e := (h default).symm.trans (h' default)
    simp at e
    rw [e]; exact k
  · exact fun k => VorC.run rfl h k
section
variable {K : Value → Prop} {T t : TypeId} {v : Value} {ox oy : Operand} {p : Option Addr}
theorem VorC_nei (hT : isIf P T = true) : VorC P none (hid (do eqGuard .neq T ox oy (.iface t v) .nilIface; binOp .neq T (.iface t v) .nilIface : Sem Value)) (hid K) = K (.bool true) :=
  VorC_ok fun w => by obtain ⟨e, hT⟩ := isIf_e hT; exact ne_iface (P := P) (w := w) (ox := ox) (oy := oy) (t := t) (v := v) hT
theorem VorC_nen {c : Value} (hT : isIf P T = true) : VorC P none (hid (do eqGuard .neq T ox (.const c) .nilIface .nilIface; binOp .neq T .nilIface .nilIface : Sem Value)) (hid K) = K (.bool false) :=
  VorC_ok fun w => by obtain ⟨e, hT⟩ := isIf_e hT; exact ne_niface (P := P) (w := w) (ox := ox) (c := c) hT
theorem VorC_eqp (hT : isPt P T = true) : VorC P none (hid (do eqGuard .eql T ox oy (.pointer p) (.pointer none); binOp .eql T (.pointer p) (.pointer none) : Sem Value)) (hid K) = K (.bool p.isNone) :=
  VorC_ok fun w => by obtain ⟨e, hT⟩ := isPt_e hT; exact eq_ptr hT
theorem VorC_nep (hT : isPt P T = true) : VorC P none (hid (do eqGuard .neq T ox oy (.pointer p) (.pointer none); binOp .neq T (.pointer p) (.pointer none) : Sem Value)) (hid K) = K (.bool !p.isNone) :=
  VorC_ok fun w => by obtain ⟨e, hT⟩ := isPt_e hT; exact ne_ptr hT
end
attribute [go_sem] VorC_nei VorC_nen VorC_eqp VorC_nep
/-- Blocks M0 that were known, and held as they were: what is new beside them. -/
theorem St.unown {ks : List Nat} {w0 w : World} {M M0 B : List (Nat × Obj)} (S : St (fun x => x ∈ ks) w0 w M) (hk : KnC w0 M0) (hs : (B ++ M0).Sublist M) (e : ks = M0.map (·.1)) : St (fun _ => False) w0 w B := by
  subst e
  have S1 := S.sublist hs
  have x : Ext w0 w := St.ro (S1.sublist (List.sublist_append_right _ _)) hk
  refine ⟨x, (S1.sublist (List.sublist_append_left _ _)).nodup, (S1.sublist (List.sublist_append_left _ _)).k, fun p hp => ?_⟩
  rcases S1.own p (List.mem_append_left _ hp) with h | h
  · exact .inl h
  · exfalso
    have hn := S1.nodup
    rw [List.map_append, List.nodup_append] at hn
    exact hn.2.2 p.1 (List.mem_map_of_mem hp) p.1 h rfl
end Go.Ig
