import Derived.Test.YtaldohdkfggkiaaGreatIg6
import Derived.LoopN
set_option linter.unusedVariables false
set_option linter.unusedSimpArgs false
set_option linter.unusedSectionVars false
set_option linter.unnecessarySimpa false
namespace Go.Ig
variable {P : Program} {n : Nat}

/-! ### a function's beginning and end -/
def resP (P : Program) : List ResultVar → AL → World → (List Value → Prop) → Prop
  | [], _, _, k => k []
  | .tmp t :: rs, L, w, k => ob (lkt L t) fun v => resP P rs L w fun vs => k (v :: vs)
  | .cell t T :: rs, L, w, k => ob (lkt L t) fun p => ptrP p fun a => LoadP P T a w fun v => resP P rs L w fun vs => k (v :: vs)

def retV : List Value → Value
  | [v] => v
  | vs => .tuple vs.toArray

def FnQ (P : Program) (rs : List ResultVar) (R : Value → World → Prop) : Pst
  | .normal, L, w => resP P rs L w fun vs => R (retV vs) w
  | .ret, L, w => resP P rs L w fun vs => R (retV vs) w
  | _, _, _ => False

def argsL : Nat → List Value → AL
  | _, [] => []
  | k, v :: vs => (k, v) :: argsL (k + 1) vs

def okF (fn : Func) : Bool := !(fn.name == "runtime.NumGoroutine") && (match fn.body with | some c => dstsIn fn.ntmps c | none => false)

def resG (tmps : Array Value) : ResultVar → Sem Value
  | .tmp t => pure (tmps.getD t undef)
  | .cell a t => do loadVar t (← asAddr (tmps.getD a undef))

theorem results_eq (fn : Func) (tmps : Array Value) : results fn tmps = (do let vs ← fn.results.mapM (resG tmps); pure (if h : vs.size = 1 then vs[0] else .tuple vs)) := by
  unfold results
  congr 1

theorem resP_run {a : Act} {L : AL} {w : World} (ha : Has n a L) : ∀ (rs : List ResultVar) (k : List Value → Prop), resP P rs L w k →
    ∃ vs, (rs.mapM (resG a.tmps)).run P w = .ok vs w ∧ k vs
  | [], k, h => ⟨[], rfl, h⟩
  | .tmp t :: rs, k, h => by
    obtain ⟨v, hv, h⟩ := h
    obtain ⟨vs, hr, hk⟩ := resP_run ha rs _ h
    have hg : a.tmps.getD t undef = v := by simp [Array.getD_eq_getD_getElem?, ha.2.2 t v hv]
    refine ⟨v :: vs, ?_, hk⟩
    simp only [List.mapM_cons, resG, Sem.run_bind, Sem.run_pure, Result.andThen_ok, hr, hg]
  | .cell t T :: rs, k, h => by
    obtain ⟨v, hv, p, rfl, g, sz, ht, cs, hl, h⟩ := h
    obtain ⟨vs, hr, hk⟩ := resP_run ha rs _ h
    have hg : a.tmps.getD t undef = .pointer (some p) := by simp [Array.getD_eq_getD_getElem?, ha.2.2 t _ hv]
    have hA : asAddr (Value.pointer (some p)) = (pure p : Sem Addr) := rfl
    refine ⟨mkV g cs :: vs, ?_, hk⟩
    simp only [List.mapM_cons, resG, Sem.run_bind, Sem.run_pure, Result.andThen_ok, hr, hg, hA, run_loadVar_ldC ht hl]

theorem results_run {fn : Func} {a : Act} {L : AL} {w : World} {R : Value → World → Prop} (ha : Has n a L) (h : resP P fn.results.toList L w fun vs => R (retV vs) w) :
    ∃ v, (results fn a.tmps).run P w = .ok v w ∧ R v w := by
  obtain ⟨vs, hr, hk⟩ := resP_run ha _ _ h
  refine ⟨retV vs, ?_, hk⟩
  rw [results_eq, Array.mapM_eq_mapM_toList]
  simp only [Sem.run_bind, Sem.run_map, hr, Result.andThen_ok, Sem.run_pure]
  congr 1
  match vs with
  | [] => rfl
  | [v] => rfl
  | v :: u :: vs => simp [retV]

theorem argsL_has (args : Array Value) (m : Nat) : Has (args.size + m) { tmps := args ++ Array.replicate m undef, defers := [] } (argsL 0 args.toList) := by
  refine ⟨by simp, rfl, ?_⟩
  have key : ∀ (vs : List Value) (k t : Nat) (v : Value), lkt (argsL k vs) t = some v → k ≤ t ∧ vs[t - k]? = some v := by
    intro vs
    induction vs with
    | nil => intro k t v h; simp [argsL] at h
    | cons u vs ih =>
      intro k t v h
      simp only [argsL, lkt_cons] at h
      split at h
      · rename_i e; subst e; simp at h; simp [h]
      · rename_i e
        obtain ⟨h1, h2⟩ := ih _ _ _ h
        refine ⟨by omega, ?_⟩
        have : t - k = (t - (k + 1)) + 1 := by omega
        rw [this]; simpa using h2
  intro t v h
  have := (key _ _ _ _ h).2
  simp only [Nat.sub_zero, Array.getElem?_toList] at this
  have hlt : t < args.size := by
    rw [Array.getElem?_eq_some_iff] at this; exact this.1
  show (args ++ Array.replicate m undef)[t]? = some v
  rw [Array.getElem?_append_left hlt]; exact this

/-- Into a function. -/
theorem Fnc.enter {f : FuncId} {fn : Func} {c : Code} {args : List Value} {w : World} {R : Value → World → Prop} (hf : P.funcs[f]? = some fn) (hok : okF fn = true) (hb : fn.body = some c)
    (hn : fn.ntmps = n) (ha : args.length ≤ n) (h : Wp P n c (FnQ P fn.results.toList R) (argsL 0 args) w) : Fnc P f args w R := by
  unfold okF at hok
  simp only [Bool.and_eq_true] at hok
  refine ⟨by simp [callable, hf, hok.1, hb], calls_of_wp hf hb ?_⟩
  have hH := argsL_has args.toArray (fn.ntmps - args.toArray.size)
  have hsz : args.toArray.size + (fn.ntmps - args.toArray.size) = n := by simp; omega
  rw [hsz] at hH
  refine wp_mono (h _ hH) ?_
  rintro e a w' ⟨L, hL, hq⟩
  cases e with
  | normal =>
    obtain ⟨v, hr, hR⟩ := results_run hL hq
    exact ⟨hL.2.1, v, hr, v, rfl, hR⟩
  | ret =>
    obtain ⟨v, hr, hR⟩ := results_run hL hq
    exact ⟨hL.2.1, v, hr, v, rfl, hR⟩
  | _ => exact hq.elim

theorem Fnc.enterW {f : FuncId} {fn : Func} {rs : List ResultVar} {c : Code} {args : List Value} {w : World} {R : Value → World → Prop} (hf : P.funcs[f]? = some fn) (hok : okF fn = true) (hb : fn.body = some c)
    (hn : fn.ntmps = n) (ha : args.length ≤ n) (hr : fn.results = rs.toArray) (h : W P n (hid c) (hid (FnQ P rs (hid R))) (argsL 0 args) w) : Fnc P f args w R := by
  have hr' : fn.results.toList = rs := by rw [hr]
  subst hr'
  refine Fnc.enter hf hok hb hn ha (W_sound h ?_)
  unfold okF at hok
  simp only [hb, Bool.and_eq_true] at hok
  rw [← hn]; exact hok.2

theorem Sub.refl (L : AL) : Sub L L := fun _ _ h => h
theorem Sub.nil (L : AL) : Sub [] L := fun _ _ h => by simp at h
theorem Sub.cons {k : Nat} {v : Value} {L L' : AL} (h : lkt L' k = some v) (hs : Sub L L') : Sub ((k, v) :: L) L' := fun t u ht => by
  rw [lkt_cons] at ht
  split at ht
  · rename_i e; subst e; cases ht; exact h
  · exact hs t u ht

/-- A loop: Lof: what is known of the frame at a round's head; Inv: what holds then; μ goes down. -/
theorem Wp.loopL {c : Code} {Q : Pst} {L : AL} {w : World} {σ : Type} (Lof : σ → AL) (Inv : σ → World → Prop) (μ : σ → Nat) (s : σ) (hd : dstsIn n c = true) (hs : Sub (Lof s) L) (h0 : Inv s w)
    (round : ∀ s w, Inv s w → W P n (hid c) (hid (Th (hid fun L' w' => ∃ s', μ s' < μ s ∧ Sub (Lof s') L' ∧ Inv s' w') (hid Q))) (Lof s) w) : Wp P n (hid (.loop c)) (hid Q) L w := by
  refine Wp.sub (Wp.loop (fun s L w => Sub (Lof s) L ∧ Inv s w) μ s ⟨Sub.refl _, h0⟩ ?_) hs
  rintro s L w ⟨h1, h2⟩
  refine Wp.sub ((W_sound (c := c) (round s w h2) hd).mono fun e L w hq => ?_) h1
  cases e with
  | normal =>
    obtain ⟨s', a, b, c⟩ := hq
    exact ⟨s', a, b, c⟩
  | _ => exact hq

/-- A loop of at most k rounds. -/
def Rnd (P : Program) (n : Nat) (c : Code) (Q : Pst) : Nat → AL → World → Prop
  | 0, _, _ => False
  | k + 1, L, w => W P n (hid c) (hid (Th (hid fun L w => Rnd P n c Q k L w) (hid Q))) L w

theorem Rnd_succ {c : Code} {Q : Pst} {k : Nat} {L : AL} {w : World} : Rnd P n c Q (k + 1) L w = W P n (hid c) (hid (Th (hid fun L w => Rnd P n c Q k L w) (hid Q))) L w := (rfl)

theorem Wp.unroll {c : Code} {Q : Pst} {L : AL} {w : World} (k : Nat) (hd : dstsIn n c = true) (h : Rnd P n c Q k L w) : Wp P n (hid (.loop c)) (hid Q) L w := by
  intro a ha
  refine wp_loop_rounds k ?_
  have key : ∀ k L w a, Rnd P n c Q k L w → Has n a L → Code.rounds P c (lift n Q) k a w := by
    intro k
    induction k with
    | zero => intro L w a h _; exact h.elim
    | succ k ih =>
      intro L w a h ha
      rw [rounds_succ]
      refine wp_mono (W_sound (c := c) h hd a ha) ?_
      rintro e a1 w1 ⟨L1, h1, h2⟩
      cases e with
      | normal => exact ih L1 w1 a1 h2 h1
      | _ => exact ⟨L1, h1, h2⟩
  exact key k L w a h ha

/-- The ways through a piece of code meet again. -/
theorem Wp.cut {x y : Code} {Q : Pst} {L : AL} {w : World} {σ : Type} (Lof : σ → AL) (Inv : σ → World → Prop) (hd : dstsIn n x = true)
    (h1 : W P n (hid x) (hid (Th (hid fun L' w' => ∃ s, Sub (Lof s) L' ∧ Inv s w') (hid Q))) L w) (h2 : ∀ s w, Inv s w → Wp P n y Q (Lof s) w) : Wp P n (.seq x y) Q L w := by
  refine Wp.seq ((W_sound (c := x) h1 hd).mono fun e L w hq => ?_)
  cases e with
  | normal =>
    obtain ⟨s, a, b⟩ := hq
    exact Wp.sub (h2 s w b) a
  | _ => exact hq

theorem CondP.mk {b : Bool} {A B : Prop} (h1 : b = true → A) (h2 : b = false → B) : CondP (some (.bool b)) (hid A) (hid B) := ⟨b, rfl, h1, h2⟩
theorem CondP.dec {p : Prop} [Decidable p] {A B : Prop} (h1 : p → A) (h2 : ¬ p → B) : CondP (some (.bool (decide p))) (hid A) (hid B) := ⟨_, rfl, fun e => h1 (of_decide_eq_true e), fun e => h2 (of_decide_eq_false e)⟩
theorem GuardP.mk {b want : Bool} {A B : Prop} (h1 : b = want → A) (h2 : b = !want → B) : GuardP (some (.bool b)) want (hid A) (hid B) :=
  ⟨_, rfl, fun e => h1 (by simpa using e), fun e => h2 (by cases b <;> cases want <;> simp_all)⟩

theorem CallP.fn {f : FuncId} {as : List Value} {w : World} {K R : Value → World → Prop} (h : Fnc P f as w R) (k : ∀ v w', R v w' → K v w') : CallP P f as w (hid K) := ⟨.inl (h.mono k)⟩

section
variable {F : Nat → Prop} {w0 w : World} {M : List (Nat × Obj)}

theorem St.tail {p : Nat × Obj} (h : St F w0 w (p :: M)) : St F w0 w M :=
  ⟨h.eff, (List.nodup_cons.1 h.nodup).2, h.k.2, fun q hq => h.own q (List.mem_cons_of_mem _ hq)⟩

theorem AllocP.st {T : TypeId} {cs : List Value} {K : Value → World → Prop} (S : St F w0 w M) (k : ∀ b w', St F w0 w' ((b, Cl T cs) :: M) → K (.pointer (some ⟨b, 0, none⟩)) w') : AllocP T cs w (hid K) :=
  ⟨k _ _ (S.new _)⟩

def spl (cs : List Value) (off : Nat) (vs : List Value) : List Value := cs.take off ++ vs ++ cs.drop (off + vs.length)

theorem StoreP.st {t : TypeId} {b off : Nat} {v : Value} {K : World → Prop} {T : TypeId} {cs : List Value} (i : Nat) (S : St F w0 w M) (hi : M[i]? = some (b, Cl T cs)) (hsz : (tyL P t).map (·.2) = some v.cells.size)
    (hl : off + v.cells.size ≤ cs.length) (h1 : v.cells.toList.all (·.oneCell') = true) (k : ∀ w', St F w0 w' (M.set i (b, Cl T (spl cs off v.cells.toList))) → K w') : StoreP P t ⟨b, off, none⟩ v w (hid K) := by
  have hb : w.heap[b]? = some (Cl T cs) := S.k.get (b, Cl T cs) (List.mem_of_getElem? hi)
  refine ⟨T, cs, hb, rfl, hl, by rw [← Array.all_toList]; exact h1, hsz, k _ (S.turn hi (eff_setRow w b _) ?_)⟩
  rw [setRow_heap w b _ _ T (0, 0) hb]
  simp [spl]
end
def gop : List Oper → Nat → Option Oper
  | [], _ => none
  | o :: _, 0 => some o
  | _ :: l, j + 1 => gop l j
theorem gop_eq : ∀ (l : List Oper) (j : Nat), l[j]? = gop l j
  | [], _ => by simp [gop]
  | o :: l, 0 => by simp [gop]
  | o :: l, j + 1 => by simp [gop, gop_eq l j]
def RHb (c : Bool) (A B : Prop) : Prop := if c then A else B
def RHo (P : Program) (ops : List Oper) (F : Nat → Prop) (w0 : World) (o : Option Oper) (K : AL → World → Prop) (L : AL) (w : World) : Prop :=
  match o with
  | none => False
  | some o => if calmB o.op then stgc P F ops o L w0 (fun L => K L w) else stg P ops o L w fun L w' => Eff F w0 w' ∧ K L w'
/-- A builtin's run: what simp does not look into. -/
def RunB (P : Program) (f : Array TypeId → TypeId → Array Value → Sem Value) (ts : Array TypeId) (ty : TypeId) (as : Array Value) (w : World) (K : Value → World → Prop) : Prop := RunP P (f ts ty as) w K
/-! Steps as they are, under names that simp does not look into. -/
def Ir.buildSlice := @Instr.buildSlice
def Ir.lookup := @Instr.lookup
def Ir.mapUpdate := @Instr.mapUpdate
def Ir.mapEntry := @Instr.mapEntry
def Ir.entryStore := @Instr.entryStore
def Ir.range := @Instr.range
def Ir.next := @Instr.next
def Ir.entry := @Instr.entry
def Ir.typeAssert := @Instr.typeAssert
def Ir.makeMap := @Instr.makeMap
def Ir.makeSlice := @Instr.makeSlice
end Go.Ig
