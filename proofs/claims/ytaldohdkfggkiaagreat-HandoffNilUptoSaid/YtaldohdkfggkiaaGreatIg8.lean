import Derived.Test.YtaldohdkfggkiaaGreatIg7
set_option linter.unusedVariables false
set_option linter.unusedSimpArgs false
set_option linter.unusedSectionVars false
set_option linter.unnecessarySimpa false
namespace Go.Ig
variable {P : Program} {n : Nat}

/-! ### how simp reads a walk -/
section eqs
variable {T : TypeId} {w : World} {ox oy : Operand} {k : IntKind} {a b : Int} {x y : ByteArray} {Q : Pst} {L : AL} {K : AL → World → Prop} {dst : Option Tmp} {ty : TypeId} {ps : String} {af : Array Edge} {gd : Option (Nat × Bool)}
theorem ob_some (v : Value) (k : Value → Prop) : ob (some v) (hid k) = k v := by simp [ob, hid]
theorem obs_some (v : List Value) (k : List Value → Prop) : obs (some v) (hid k) = k v := by simp [obs, hid]
theorem obo_some (v : Option Value) (k : Option Value → Prop) : obo (some v) (hid k) = k v := by simp [obo, hid]
theorem obF_some (a : Nat) (b : TypeId) (k : Nat → TypeId → Prop) : obF (some (a, b)) (hid k) = k a b := by
  simp only [obF, eq_iff_iff]
  exact ⟨fun ⟨_, _, e, h⟩ => by cases e; exact h, fun h => ⟨_, _, rfl, h⟩⟩
theorem obT_some (a : Bool) (b : Nat) (k : Bool → Nat → Prop) : obT (some (a, b)) (hid k) = k a b := by
  simp only [obT, eq_iff_iff]
  exact ⟨fun ⟨_, _, e, h⟩ => by cases e; exact h, fun h => ⟨_, _, rfl, h⟩⟩
theorem aggP_agg (l : List Value) (k : List Value → Prop) : aggP (.agg l.toArray) (hid k) = k l := by
  simp only [aggP, eq_iff_iff]
  exact ⟨fun ⟨_, e, h⟩ => by cases e; exact h, fun h => ⟨_, rfl, h⟩⟩
theorem ptrP_some (a : Addr) (k : Addr → Prop) : ptrP (.pointer (some a)) (hid k) = k a := by simp [ptrP, hid]
theorem FunP_func (f : FuncId) (a b : List Value) (k : FuncId → List Value → List Value → Prop) : FunP (.func (.func f) a.toArray b.toArray) (hid k) = k f a b := by
  simp only [FunP, hid, eq_iff_iff]
  constructor
  · rintro ⟨f', a', b', e, h⟩
    simp only [Value.func.injEq, Fn.func.injEq] at e
    obtain ⟨rfl, rfl, rfl⟩ := e
    simpa using h
  · intro h; exact ⟨f, _, _, rfl, by simpa using h⟩
theorem CondP_true (A B : Prop) : CondP (some (.bool true)) (hid A) (hid B) = A := by simp [CondP_def, hid]
theorem CondP_false (A B : Prop) : CondP (some (.bool false)) (hid A) (hid B) = B := by simp [CondP_def, hid]
theorem GuardP_tt (A B : Prop) : GuardP (some (.bool true)) true (hid A) (hid B) = A := by simp [GuardP_def, hid]
theorem GuardP_ff (A B : Prop) : GuardP (some (.bool false)) false (hid A) (hid B) = A := by simp [GuardP_def, hid]
theorem GuardP_tf (A B : Prop) : GuardP (some (.bool true)) false (hid A) (hid B) = B := by simp [GuardP_def, hid]
theorem GuardP_ft (A B : Prop) : GuardP (some (.bool false)) true (hid A) (hid B) = B := by simp [GuardP_def, hid]
theorem GuardP_un (b : Bool) (A B : Prop) : GuardP (some undef) b (hid A) (hid B) = B := by simp [GuardP_def, undef, hid]
theorem Th_normal (K : AL → World → Prop) (Q : Pst) (L : AL) (w : World) : Th (hid K) (hid Q) .normal L w = K L w := (rfl)
theorem Th_ret (K : AL → World → Prop) (Q : Pst) (L : AL) (w : World) : Th (hid K) (hid Q) .ret L w = Q .ret L w := (rfl)
theorem Th_exit (K : AL → World → Prop) (Q : Pst) (i : Nat) (L : AL) (w : World) : Th (hid K) (hid Q) (.exit i) L w = Q (.exit i) L w := (rfl)
theorem InB_normal (i : Nat) (Q : Pst) (L : AL) (w : World) : InB i (hid Q) .normal L w = Q .normal L w := (rfl)
theorem InB_ret (i : Nat) (Q : Pst) (L : AL) (w : World) : InB i (hid Q) .ret L w = Q .ret L w := (rfl)
theorem InB_same (i : Nat) (Q : Pst) (L : AL) (w : World) : InB i (hid Q) (.exit i) L w = Q .normal L w := by simp [InB, hid]
theorem InB_exit (i j : Nat) (Q : Pst) (L : AL) (w : World) (h : (j == i) = false) : InB i (hid Q) (.exit j) L w = Q (.exit j) L w := by simp at h; simp [InB, hid, h]
theorem VorR_some (v : Value) (s : Sem Value) (K : Value → World → Prop) : VorR P (some v) (hid s) w (hid K) = K v w := (rfl)
theorem VorC_some (v : Value) (s : Sem Value) (K : Value → Prop) : VorC P (some v) (hid s) (hid K) = K v := (rfl)
theorem RunP_ok {α : Type} {s : Sem α} {r : α} {w' : World} {K : α → World → Prop} (h : s.run P w = .ok r w') : RunP P s w K = K r w' := by
  rw [RunP_def]
  rw [h]
  simp only [Result.ok.injEq, eq_iff_iff]
  exact ⟨fun ⟨_, _, ⟨rfl, rfl⟩, h⟩ => h, fun h => ⟨_, _, ⟨rfl, rfl⟩, h⟩⟩

theorem b_add : binV .add (.int k a) (.int k b) = some (.int k (k.wrap (a + b))) := by simp [binV]
theorem b_sub : binV .sub (.int k a) (.int k b) = some (.int k (k.wrap (a - b))) := by simp [binV]
theorem b_mul : binV .mul (.int k a) (.int k b) = some (.int k (k.wrap (a * b))) := by simp [binV]
theorem b_and : binV .and (.int k a) (.int k b) = some (.int k (k.wrap (BitVec.ofInt k.bits a &&& BitVec.ofInt k.bits b).toNat)) := by simp [binV]
theorem b_or : binV .or (.int k a) (.int k b) = some (.int k (k.wrap (BitVec.ofInt k.bits a ||| BitVec.ofInt k.bits b).toNat)) := by simp [binV]
theorem b_xor : binV .xor (.int k a) (.int k b) = some (.int k (k.wrap (BitVec.ofInt k.bits a ^^^ BitVec.ofInt k.bits b).toNat)) := by simp [binV]
theorem b_andNot : binV .andNot (.int k a) (.int k b) = some (.int k (k.wrap (BitVec.ofInt k.bits a &&& ~~~ BitVec.ofInt k.bits b).toNat)) := by simp [binV]
theorem b_eql : binV .eql (.int k a) (.int k b) = some (.bool (a == b)) := by simp [binV]
theorem b_neq : binV .neq (.int k a) (.int k b) = some (.bool (a != b)) := by simp [binV]
theorem b_lss : binV .lss (.int k a) (.int k b) = some (.bool (decide (a < b))) := by simp [binV]
theorem b_leq : binV .leq (.int k a) (.int k b) = some (.bool (decide (a ≤ b))) := by simp [binV]
theorem b_gtr : binV .gtr (.int k a) (.int k b) = some (.bool (decide (b < a))) := by simp [binV]
theorem b_geq : binV .geq (.int k a) (.int k b) = some (.bool (decide (b ≤ a))) := by simp [binV]
theorem b_quo (h : (b == 0) = false) : binV .quo (.int k a) (.int k b) = some (.int k (k.wrap (a.tdiv b))) := by simp at h; simp [binV, h]
theorem b_rem (h : (b == 0) = false) : binV .rem (.int k a) (.int k b) = some (.int k (a.tmod b)) := by simp at h; simp [binV, h]
theorem b_shl {k' : IntKind} (h : 0 ≤ b) : binV .shl (.int k a) (.int k' b) = some (.int k (k.wrap (a * 2 ^ (min b.toNat k.bits)))) := by simp [binV]; omega
theorem b_shr {k' : IntKind} (h : 0 ≤ b) : binV .shr (.int k a) (.int k' b) = some (.int k (a.fdiv (2 ^ (min b.toNat k.bits)))) := by simp [binV]; omega
theorem b_cat (h : (x.size + y.size : Nat) < 9223372036854775808) : binV .add (.string x) (.string y) = some (.string (x ++ y)) := by simp [binV, h]
theorem b_seq : binV .eql (.string x) (.string y) = some (.bool (x.toList == y.toList)) := by simp [binV]
theorem b_sne : binV .neq (.string x) (.string y) = some (.bool !(x.toList == y.toList)) := by simp [binV]
theorem b_slt : binV .lss (.string x) (.string y) = some (.bool (Op.bytesLess x.toList y.toList)) := by simp [binV]
theorem b_sle : binV .leq (.string x) (.string y) = some (.bool (Op.bytesLess x.toList y.toList || x.toList == y.toList)) := by simp [binV]
theorem b_sgt : binV .gtr (.string x) (.string y) = some (.bool !(Op.bytesLess x.toList y.toList || x.toList == y.toList)) := by simp [binV]
theorem b_sge : binV .geq (.string x) (.string y) = some (.bool !(Op.bytesLess x.toList y.toList)) := by simp [binV]
theorem not_bool (b : Bool) (K : Value → Prop) : (∃ c, Value.bool b = .bool c ∧ hid K (.bool !c)) = K (.bool !b) := by simp [hid]
theorem W_skip : W P n (hid .skip) (hid Q) L w = Q .normal L w := (rfl)
theorem W_label {l : Nat} : W P n (hid (.label l)) (hid Q) L w = Q .normal L w := (rfl)
theorem W_ret : W P n (hid .ret) (hid Q) L w = Q .ret L w := (rfl)
theorem W_exit {i : Nat} : W P n (hid (.exit i)) (hid Q) L w = Q (.exit i) L w := (rfl)
theorem W_seq {c d : Code} : W P n (hid (.seq c d)) (hid Q) L w = W P n (hid c) (hid (Th (hid fun L w => W P n (hid d) (hid Q) L w) (hid Q))) L w := (rfl)
theorem W_cond {o : Operand} {c d : Code} : W P n (hid (.cond o c d)) (hid Q) L w = CondP (look L o) (hid (W P n (hid c) (hid Q) L w)) (hid (W P n (hid d) (hid Q) L w)) := (rfl)
theorem W_block {i : Nat} {c : Code} : W P n (hid (.block i c)) (hid Q) L w = W P n (hid c) (hid (InB i (hid Q))) L w := (rfl)
theorem W_loop {c : Code} : W P n (hid (.loop c)) (hid Q) L w = Wp P n (hid (.loop c)) (hid Q) L w := (rfl)
theorem W_draw {i : Nat} {ops : Array Oper} : W P n (hid (.region i ops true)) (hid Q) L w = Wp P n (hid (.region i ops true)) (hid Q) L w := (rfl)
theorem W_region {i : Nat} {ops : List Oper} : W P n (hid (.region i ops.toArray false)) (hid Q) L w = R P (hid ops) (hid Q) (hid ops) L w := by simp [W, hid]
theorem R_nil {ops : List Oper} : R P (hid ops) (hid Q) (hid []) L w = Q .normal L w := (rfl)
theorem R_cons {ops : List Oper} {d : Option Tmp} {o : Op} {g : Option (Nat × Bool)} {rest : List Oper} :
    R P (hid ops) (hid Q) (hid (⟨d, o, ty, ps, af, g⟩ :: rest)) L w = stg P (hid ops) (hid ⟨d, o, ty, ps, af, g⟩) L w (hid fun L w => R P (hid ops) (hid Q) (hid rest) L w) := (rfl)
theorem stg_none {ops : List Oper} {o : Op} : stg P (hid ops) (hid ⟨dst, o, ty, ps, af, none⟩) L w (hid K) = stp P (hid ⟨dst, o, ty, ps, af, none⟩) L w (hid K) := (rfl)
theorem stg_some {ops : List Oper} {o : Op} {j : Nat} {b : Bool} : stg P (hid ops) (hid ⟨dst, o, ty, ps, af, some (j, b)⟩) L w (hid K) =
    GuardP ((gdst (hid ops) j).bind (lkt L)) b (hid (stp P (hid ⟨dst, o, ty, ps, af, some (j, b)⟩) L w (hid K))) (hid (K (put dst undef L) w)) := (rfl)
theorem put_some {d : Nat} {v : Value} : put (some d) v L = (d, v) :: L := (rfl)
theorem put_none {v : Value} : put none v L = L := (rfl)

theorem FnQ_normal {rs : List ResultVar} {R : Value → World → Prop} : FnQ P rs (hid R) .normal L w = resP P rs L w (hid fun vs => R (retV vs) w) := (rfl)
theorem FnQ_ret {rs : List ResultVar} {R : Value → World → Prop} : FnQ P rs (hid R) .ret L w = resP P rs L w (hid fun vs => R (retV vs) w) := (rfl)
theorem resP_nil {k : List Value → Prop} : resP P [] L w (hid k) = k [] := (rfl)
theorem resP_tmp {t : Nat} {rs : List ResultVar} {k : List Value → Prop} : resP P (.tmp t :: rs) L w (hid k) = ob (lkt L t) (hid fun v => resP P rs L w (hid fun vs => k (v :: vs))) := (rfl)
theorem resP_cell {t : Nat} {rs : List ResultVar} {k : List Value → Prop} : resP P (.cell t T :: rs) L w (hid k) = ob (lkt L t) (hid fun p => ptrP p (hid fun a => LoadP P T a w (hid fun v => resP P rs L w (hid fun vs => k (v :: vs))))) := (rfl)
theorem retV_one {v : Value} : retV [v] = v := (rfl)
theorem retV_two {v u : Value} : retV [v, u] = .tuple #[v, u] := (rfl)
theorem retV_three {v u x : Value} : retV [v, u, x] = .tuple #[v, u, x] := (rfl)
theorem retV_nil : retV [] = .tuple #[] := (rfl)
theorem gop_zero {o : Oper} {l : List Oper} : gop (hid (o :: l)) 0 = some (hid o) := (rfl)
theorem gop_succ {o : Oper} {l : List Oper} {j : Nat} : gop (hid (o :: l)) (j + 1) = gop (hid l) j := (rfl)
theorem RHb_true {A B : Prop} : RHb true (hid A) (hid B) = A := by simp [RHb, hid]
theorem RHb_false {A B : Prop} : RHb false (hid A) (hid B) = B := by simp [RHb, hid]
theorem RH_nil {ops : List Oper} {F : Nat → Prop} {w0 : World} : RH P (hid ops) (hid Q) F w0 [] L w = Q .normal L w := (rfl)
theorem RH_cons {ops : List Oper} {F : Nat → Prop} {w0 : World} {i : Nat} {r : List Nat} : RH P (hid ops) (hid Q) F w0 (i :: r) L w =
    RHo P (hid ops) F w0 (gop (hid ops) i) (hid fun L w => RH P (hid ops) (hid Q) F w0 r L w) L w := by
  unfold hid
  conv => lhs; unfold RH
  rw [gop_eq]
  cases gop ops i <;> rfl
theorem RHo_some {ops : List Oper} {F : Nat → Prop} {w0 : World} {d : Option Tmp} {op : Op} {g : Option (Nat × Bool)} : RHo P (hid ops) F w0 (some (hid ⟨d, op, ty, ps, af, g⟩)) (hid K) L w =
    RHb (calmB op) (hid (stgc P F (hid ops) (hid ⟨d, op, ty, ps, af, g⟩) L w0 (hid fun L => K L w))) (hid (stg P (hid ops) (hid ⟨d, op, ty, ps, af, g⟩) L w (hid fun L w' => Eff F w0 w' ∧ K L w'))) := (rfl)
theorem stgc_none {F : Nat → Prop} {ops : List Oper} {o : Op} {K : AL → Prop} : stgc P F (hid ops) (hid ⟨dst, o, ty, ps, af, none⟩) L w (hid K) = stc P F (hid ⟨dst, o, ty, ps, af, none⟩) L w (hid K) := (rfl)
theorem stgc_some {F : Nat → Prop} {ops : List Oper} {o : Op} {K : AL → Prop} {j : Nat} {b : Bool} : stgc P F (hid ops) (hid ⟨dst, o, ty, ps, af, some (j, b)⟩) L w (hid K) =
    GuardP ((gdst (hid ops) j).bind (lkt L)) b (hid (stc P F (hid ⟨dst, o, ty, ps, af, some (j, b)⟩) L w (hid K))) (hid (K (put dst undef L))) := (rfl)
theorem gdst_zero {o : Op} {l : List Oper} : gdst (hid (⟨dst, o, ty, ps, af, gd⟩ :: l)) 0 = dst := (rfl)
theorem gdst_succ {o : Oper} {l : List Oper} {j : Nat} : gdst (hid (o :: l)) (j + 1) = gdst (hid l) j := (rfl)
attribute [go_sem] calmB idxV bndV lenV convV ifaceV
theorem slV_str {s : ByteArray} {lo hi : Option Value} (h : P.underlying T = some .string) : slV P T (.string s) lo hi none = (bndV hi s.size s.size).bind fun h => (bndV lo 0 h).map fun l => .string (s.extract l h) := by simp [slV, h]
theorem slV_arr {e k : Nat} {a : Addr} {lo hi : Option Value} (h : P.underlying T = some (.array k e)) : slV P T (.pointer (some a)) lo hi none = (bndV hi k k).bind fun h => (bndV lo 0 h).bind fun l => (P.info? e).map fun i => .slice (some (if k = l then a else a.add (l * i.size))) (h - l) (k - l) := by simp [slV, h]
theorem st_move {x : Operand} : stp P (hid ⟨dst, .move x, ty, ps, af, gd⟩) L w (hid K) = ob (look L x) (hid fun v => K (put dst v L) w) := (rfl)
theorem sc_move {F : Nat → Prop} {K : AL → Prop} {x : Operand} : stc P F (hid ⟨dst, .move x, ty, ps, af, gd⟩) L w (hid K) = ob (look L x) (hid fun v => K (put dst v L)) := (rfl)
theorem st_assign {x : Operand} : stp P (hid ⟨dst, .assign x, ty, ps, af, gd⟩) L w (hid K) = ob (look L x) (hid fun v => K (put dst v L) w) := (rfl)
theorem sc_assign {F : Nat → Prop} {K : AL → Prop} {x : Operand} : stc P F (hid ⟨dst, .assign x, ty, ps, af, gd⟩) L w (hid K) = ob (look L x) (hid fun v => K (put dst v L)) := (rfl)
theorem st_pick {c x y : Operand} : stp P (hid ⟨dst, .pick c x y, ty, ps, af, gd⟩) L w (hid K) = CondP (look L c) (hid (ob (look L x) (hid fun v => obs (looks L [y]) (hid fun _ => K (put dst v L) w)))) (hid (ob (look L y) (hid fun v => obs (looks L [x]) (hid fun _ => K (put dst v L) w)))) := (rfl)
theorem sc_pick {F : Nat → Prop} {K : AL → Prop} {c x y : Operand} : stc P F (hid ⟨dst, .pick c x y, ty, ps, af, gd⟩) L w (hid K) = CondP (look L c) (hid (ob (look L x) (hid fun v => obs (looks L [y]) (hid fun _ => K (put dst v L))))) (hid (ob (look L y) (hid fun v => obs (looks L [x]) (hid fun _ => K (put dst v L))))) := (rfl)
theorem st_alloc : stp P (hid ⟨dst, .alloc T, ty, ps, af, gd⟩) L w (hid K) = obs (zeroL P T) (hid fun cs => AllocP T cs w (hid fun v w => K (put dst v L) w)) := (rfl)
theorem st_box {x : Operand} : stp P (hid ⟨dst, .box T x, ty, ps, af, gd⟩) L w (hid K) = ob (look L x) (hid fun v => AllocP T v.cells.toList w (hid fun p w => K (put dst p L) w)) := (rfl)
theorem st_load {x : Operand} : stp P (hid ⟨dst, .load T x, ty, ps, af, gd⟩) L w (hid K) = ob (look L x) (hid fun v => ptrP v (hid fun a => LoadP P T a w (hid fun v => K (put dst v L) w))) := (rfl)
theorem sc_load {F : Nat → Prop} {K : AL → Prop} {x : Operand} : stc P F (hid ⟨dst, .load T x, ty, ps, af, gd⟩) L w (hid K) = ob (look L x) (hid fun v => ptrP v (hid fun a => ¬ F a.block ∧ LoadP P T a w (hid fun v => K (put dst v L)))) := (rfl)
theorem st_store {a x : Operand} : stp P (hid ⟨dst, .store T a x, ty, ps, af, gd⟩) L w (hid K) = ob (look L a) (hid fun p => ob (look L x) (hid fun v => ptrP p (hid fun a => StoreP P T a v w (hid fun w => K (put dst undef L) w)))) := (rfl)
theorem st_nilCheck {x : Operand} : stp P (hid ⟨dst, .nilCheck x, ty, ps, af, gd⟩) L w (hid K) = ob (look L x) (hid fun v => NilOk v ∧ K (put dst v L) w) := (rfl)
theorem sc_nilCheck {F : Nat → Prop} {K : AL → Prop} {x : Operand} : stc P F (hid ⟨dst, .nilCheck x, ty, ps, af, gd⟩) L w (hid K) = ob (look L x) (hid fun v => NilOk v ∧ K (put dst v L)) := (rfl)
theorem st_binOp {op : BinOp} {x y : Operand} {T2 : TypeId} : stp P (hid ⟨dst, .binOp op T x y T2, ty, ps, af, gd⟩) L w (hid K) = ob (look L x) (hid fun v => ob (look L y) (hid fun u => VorR P (binV op v u) (hid (do eqGuard op T x y v u; binOp op T v u)) w (hid fun r w => K (put dst r L) w))) := (rfl)
theorem sc_binOp {F : Nat → Prop} {K : AL → Prop} {op : BinOp} {x y : Operand} {T2 : TypeId} : stc P F (hid ⟨dst, .binOp op T x y T2, ty, ps, af, gd⟩) L w (hid K) = ob (look L x) (hid fun v => ob (look L y) (hid fun u => VorC P (binV op v u) (hid (do eqGuard op T x y v u; binOp op T v u)) (hid fun r => K (put dst r L)))) := (rfl)
theorem st_not {x : Operand} : stp P (hid ⟨dst, .unOp .not T x, ty, ps, af, gd⟩) L w (hid K) = ob (look L x) (hid fun v => ∃ c, v = .bool c ∧ hid (fun u => K (put dst u L) w) (.bool !c)) := (rfl)
theorem sc_not {F : Nat → Prop} {K : AL → Prop} {x : Operand} : stc P F (hid ⟨dst, .unOp .not T x, ty, ps, af, gd⟩) L w (hid K) = ob (look L x) (hid fun v => ∃ c, v = .bool c ∧ hid (fun u => K (put dst u L)) (.bool !c)) := (rfl)
theorem st_convert {s t : TypeId} {x : Operand} : stp P (hid ⟨dst, .convert s t x, ty, ps, af, gd⟩) L w (hid K) = ob (look L x) (hid fun v => VorR P (convV P s t v) (hid (convert s t v)) w (hid fun r w => K (put dst r L) w)) := (rfl)
theorem sc_convert {F : Nat → Prop} {K : AL → Prop} {s t : TypeId} {x : Operand} : stc P F (hid ⟨dst, .convert s t x, ty, ps, af, gd⟩) L w (hid K) = ob (look L x) (hid fun v => ob (convV P s t v) (hid fun r => K (put dst r L))) := (rfl)
theorem st_iface {x : Operand} : stp P (hid ⟨dst, .makeInterface T x, ty, ps, af, gd⟩) L w (hid K) = ob (look L x) (hid fun v => ob (ifaceV P T v) (hid fun r => K (put dst r L) w)) := (rfl)
theorem sc_iface {F : Nat → Prop} {K : AL → Prop} {x : Operand} : stc P F (hid ⟨dst, .makeInterface T x, ty, ps, af, gd⟩) L w (hid K) = ob (look L x) (hid fun v => ob (ifaceV P T v) (hid fun r => K (put dst r L))) := (rfl)
theorem st_func {fn : Fn} {xs ys : Array Operand} : stp P (hid ⟨dst, .makeFunc fn xs ys, ty, ps, af, gd⟩) L w (hid K) = obs (looks L xs.toList) (hid fun a => obs (looks L ys.toList) (hid fun b => K (put dst (.func fn a.toArray b.toArray) L) w)) := (rfl)
theorem sc_func {F : Nat → Prop} {K : AL → Prop} {fn : Fn} {xs ys : Array Operand} : stc P F (hid ⟨dst, .makeFunc fn xs ys, ty, ps, af, gd⟩) L w (hid K) = obs (looks L xs.toList) (hid fun a => obs (looks L ys.toList) (hid fun b => K (put dst (.func fn a.toArray b.toArray) L))) := (rfl)
theorem st_build {pa : Array (Nat × Operand)} : stp P (hid ⟨dst, .build T pa, ty, ps, af, gd⟩) L w (hid K) = obs (looks L (pa.toList.map (·.2))) (hid fun vs => BuildP P T ((pa.toList.map (·.1)).zip vs) (hid fun v => K (put dst v L) w)) := (rfl)
theorem sc_build {F : Nat → Prop} {K : AL → Prop} {pa : Array (Nat × Operand)} : stc P F (hid ⟨dst, .build T pa, ty, ps, af, gd⟩) L w (hid K) = obs (looks L (pa.toList.map (·.2))) (hid fun vs => BuildP P T ((pa.toList.map (·.1)).zip vs) (hid fun v => K (put dst v L))) := (rfl)
theorem st_buildSlice {k : Nat} {pa : Array (Nat × Operand)} : stp P (hid ⟨dst, .buildSlice T k pa, ty, ps, af, gd⟩) L w (hid K) = obs (looks L (pa.toList.map (·.2))) (hid fun vs => RunP P (Ir.buildSlice T k ((pa.toList.map (·.1)).zip vs).toArray) w (hid fun v w => K (put dst v L) w)) := (rfl)
theorem st_fieldAddr {x : Operand} {i : Nat} : stp P (hid ⟨dst, .fieldAddr T x i, ty, ps, af, gd⟩) L w (hid K) = ob (look L x) (hid fun v => ptrP v (hid fun a => obF (fldL P T i) (hid fun off _ => K (put dst (.pointer (some (a.add off))) L) w))) := (rfl)
theorem sc_fieldAddr {F : Nat → Prop} {K : AL → Prop} {x : Operand} {i : Nat} : stc P F (hid ⟨dst, .fieldAddr T x i, ty, ps, af, gd⟩) L w (hid K) = ob (look L x) (hid fun v => ptrP v (hid fun a => obF (fldL P T i) (hid fun off _ => K (put dst (.pointer (some (a.add off))) L)))) := (rfl)
theorem st_field {x : Operand} {i : Nat} : stp P (hid ⟨dst, .field T x i, ty, ps, af, gd⟩) L w (hid K) = ob (look L x) (hid fun v => aggP v (hid fun cs => obF (fldL P T i) (hid fun off ft => obT (tyL P ft) (hid fun g sz => obs (sliceL cs off sz) (hid fun c => K (put dst (mkV g c) L) w))))) := (rfl)
theorem sc_field {F : Nat → Prop} {K : AL → Prop} {x : Operand} {i : Nat} : stc P F (hid ⟨dst, .field T x i, ty, ps, af, gd⟩) L w (hid K) = ob (look L x) (hid fun v => aggP v (hid fun cs => obF (fldL P T i) (hid fun off ft => obT (tyL P ft) (hid fun g sz => obs (sliceL cs off sz) (hid fun c => K (put dst (mkV g c) L)))))) := (rfl)
theorem st_indexAddr {x i : Operand} : stp P (hid ⟨dst, .indexAddr T x i, ty, ps, af, gd⟩) L w (hid K) = ob (look L x) (hid fun v => ob (look L i) (hid fun i => ob (idxA P T v i) (hid fun r => K (put dst r L) w))) := (rfl)
theorem sc_indexAddr {F : Nat → Prop} {K : AL → Prop} {x i : Operand} : stc P F (hid ⟨dst, .indexAddr T x i, ty, ps, af, gd⟩) L w (hid K) = ob (look L x) (hid fun v => ob (look L i) (hid fun i => ob (idxA P T v i) (hid fun r => K (put dst r L)))) := (rfl)
theorem st_index {x i : Operand} : stp P (hid ⟨dst, .index T x i, ty, ps, af, gd⟩) L w (hid K) = ob (look L x) (hid fun v => ob (look L i) (hid fun i => ob (idxV P T v i) (hid fun r => K (put dst r L) w))) := (rfl)
theorem sc_index {F : Nat → Prop} {K : AL → Prop} {x i : Operand} : stc P F (hid ⟨dst, .index T x i, ty, ps, af, gd⟩) L w (hid K) = ob (look L x) (hid fun v => ob (look L i) (hid fun i => ob (idxV P T v i) (hid fun r => K (put dst r L)))) := (rfl)
theorem st_extract {x : Operand} {i : Nat} : stp P (hid ⟨dst, .extract x i, ty, ps, af, gd⟩) L w (hid K) = ob (look L x) (hid fun v => ob (tupV v i) (hid fun r => K (put dst r L) w)) := (rfl)
theorem sc_extract {F : Nat → Prop} {K : AL → Prop} {x : Operand} {i : Nat} : stc P F (hid ⟨dst, .extract x i, ty, ps, af, gd⟩) L w (hid K) = ob (look L x) (hid fun v => ob (tupV v i) (hid fun r => K (put dst r L))) := (rfl)
theorem st_slice {x : Operand} {lo hi mx : Option Operand} : stp P (hid ⟨dst, .slice T x lo hi mx, ty, ps, af, gd⟩) L w (hid K) = ob (look L x) (hid fun v => obo (opt L lo) (hid fun lo => obo (opt L hi) (hid fun hi => obo (opt L mx) (hid fun mx => ob (slV P T v lo hi mx) (hid fun r => K (put dst r L) w))))) := (rfl)
theorem sc_slice {F : Nat → Prop} {K : AL → Prop} {x : Operand} {lo hi mx : Option Operand} : stc P F (hid ⟨dst, .slice T x lo hi mx, ty, ps, af, gd⟩) L w (hid K) = ob (look L x) (hid fun v => obo (opt L lo) (hid fun lo => obo (opt L hi) (hid fun hi => obo (opt L mx) (hid fun mx => ob (slV P T v lo hi mx) (hid fun r => K (put dst r L)))))) := (rfl)
theorem st_lookup {x i : Operand} {ok : Bool} : stp P (hid ⟨dst, .lookup T x i ok, ty, ps, af, gd⟩) L w (hid K) = ob (look L x) (hid fun x => ob (look L i) (hid fun i => RunP P (Ir.lookup T x i ok) w (hid fun r w => K (put dst r L) w))) := (rfl)
theorem st_mapUpdate {m k x : Operand} : stp P (hid ⟨dst, .mapUpdate T m k x, ty, ps, af, gd⟩) L w (hid K) = ob (look L m) (hid fun m => ob (look L k) (hid fun k => ob (look L x) (hid fun x => RunP P (Ir.mapUpdate T m k x) w (hid fun _ w => K (put dst undef L) w)))) := (rfl)
theorem st_insert {m k x : Operand} : stp P (hid ⟨dst, .insert T m k x, ty, ps, af, gd⟩) L w (hid K) = ob (look L m) (hid fun m => ob (look L k) (hid fun k => ob (look L x) (hid fun x => RunP P (Ir.mapUpdate T m k x) w (hid fun _ w => K (put dst undef L) w)))) := (rfl)
theorem st_mapEntry {m k : Operand} : stp P (hid ⟨dst, .mapEntry T m k, ty, ps, af, gd⟩) L w (hid K) = ob (look L m) (hid fun m => ob (look L k) (hid fun k => RunP P (Ir.mapEntry T m k) w (hid fun r w => K (put dst r L) w))) := (rfl)
theorem st_entryStore {m s x : Operand} : stp P (hid ⟨dst, .entryStore T m s x, ty, ps, af, gd⟩) L w (hid K) = ob (look L m) (hid fun m => ob (look L s) (hid fun s => ob (look L x) (hid fun x => RunP P (Ir.entryStore T m s x) w (hid fun _ w => K (put dst undef L) w)))) := (rfl)
theorem st_range {x : Operand} : stp P (hid ⟨dst, .range T x, ty, ps, af, gd⟩) L w (hid K) = ob (look L x) (hid fun x => RunP P (Ir.range T x) w (hid fun r w => K (put dst r L) w)) := (rfl)
theorem st_next {x : Operand} {s : Bool} : stp P (hid ⟨dst, .next x s, ty, ps, af, gd⟩) L w (hid K) = ob (look L x) (hid fun x => RunP P (Ir.next x s ty) w (hid fun r w => K (put dst r L) w)) := (rfl)
theorem st_entry {x : Operand} : stp P (hid ⟨dst, .entry x, ty, ps, af, gd⟩) L w (hid K) = ob (look L x) (hid fun x => RunP P (Ir.entry x) w (hid fun r w => K (put dst r L) w)) := (rfl)
theorem st_typeAssert {x : Operand} {s t : TypeId} {ok : Bool} : stp P (hid ⟨dst, .typeAssert x s t ok, ty, ps, af, gd⟩) L w (hid K) = ob (look L x) (hid fun x => RunP P (Ir.typeAssert x s t ok) w (hid fun r w => K (put dst r L) w)) := (rfl)
theorem st_makeMap {r : Option Operand} : stp P (hid ⟨dst, .makeMap T r, ty, ps, af, gd⟩) L w (hid K) = obo (opt L r) (hid fun r => RunP P (Ir.makeMap T r) w (hid fun r w => K (put dst r L) w)) := (rfl)
theorem st_makeSlice {l c : Operand} : stp P (hid ⟨dst, .makeSlice T l c, ty, ps, af, gd⟩) L w (hid K) = ob (look L l) (hid fun l => ob (look L c) (hid fun c => RunP P (Ir.makeSlice T l c) w (hid fun r w => K (put dst r L) w))) := (rfl)
theorem st_call {f : Operand} {as : Array Operand} {ts : Array TypeId} : stp P (hid ⟨dst, .call ⟨.value f, as, ts⟩, ty, ps, af, gd⟩) L w (hid K) = ob (look L f) (hid fun f => obs (looks L as.toList) (hid fun as => FunP f (hid fun g a b => CallP P g (a ++ as ++ b) w (hid fun v w => K (put dst v L) w)))) := (rfl)
theorem st_invoke {r : Operand} {m : String} {as : Array Operand} {ts : Array TypeId} : stp P (hid ⟨dst, .call ⟨.invoke r m, as, ts⟩, ty, ps, af, gd⟩) L w (hid K) = ob (look L r) (hid fun r => obs (looks L as.toList) (hid fun as => InvP P r m as w (hid fun v w => K (put dst v L) w))) := (rfl)
theorem st_append {as : Array Operand} {ts : Array TypeId} : stp P (hid ⟨dst, .call ⟨.builtin .append, as, ts⟩, ty, ps, af, gd⟩) L w (hid K) = obs (looks L as.toList) (hid fun as => RunB P Builtin.append_ ts ty as.toArray w (hid fun v w => K (put dst v L) w)) := (rfl)
theorem st_cap {as : Array Operand} {ts : Array TypeId} : stp P (hid ⟨dst, .call ⟨.builtin .cap, as, ts⟩, ty, ps, af, gd⟩) L w (hid K) = obs (looks L as.toList) (hid fun as => RunB P Builtin.cap_ ts ty as.toArray w (hid fun v w => K (put dst v L) w)) := (rfl)
theorem st_copy {as : Array Operand} {ts : Array TypeId} : stp P (hid ⟨dst, .call ⟨.builtin .copy, as, ts⟩, ty, ps, af, gd⟩) L w (hid K) = obs (looks L as.toList) (hid fun as => RunB P Builtin.copy_ ts ty as.toArray w (hid fun v w => K (put dst v L) w)) := (rfl)
theorem st_clear {as : Array Operand} {ts : Array TypeId} : stp P (hid ⟨dst, .call ⟨.builtin .clear, as, ts⟩, ty, ps, af, gd⟩) L w (hid K) = obs (looks L as.toList) (hid fun as => RunB P Builtin.clear_ ts ty as.toArray w (hid fun v w => K (put dst v L) w)) := (rfl)
theorem st_delete {as : Array Operand} {ts : Array TypeId} : stp P (hid ⟨dst, .call ⟨.builtin .delete, as, ts⟩, ty, ps, af, gd⟩) L w (hid K) = obs (looks L as.toList) (hid fun as => RunB P Builtin.delete_ ts ty as.toArray w (hid fun v w => K (put dst v L) w)) := (rfl)
theorem st_min {as : Array Operand} {ts : Array TypeId} : stp P (hid ⟨dst, .call ⟨.builtin .min, as, ts⟩, ty, ps, af, gd⟩) L w (hid K) = obs (looks L as.toList) (hid fun as => RunB P Builtin.min_ ts ty as.toArray w (hid fun v w => K (put dst v L) w)) := (rfl)
theorem st_max {as : Array Operand} {ts : Array TypeId} : stp P (hid ⟨dst, .call ⟨.builtin .max, as, ts⟩, ty, ps, af, gd⟩) L w (hid K) = obs (looks L as.toList) (hid fun as => RunB P Builtin.max_ ts ty as.toArray w (hid fun v w => K (put dst v L) w)) := (rfl)
theorem st_len {as : Array Operand} {ts : Array TypeId} : stp P (hid ⟨dst, .call ⟨.builtin .len, as, ts⟩, ty, ps, af, gd⟩) L w (hid K) = obs (looks L as.toList) (hid fun as => VorR P (lenV P ts[0]? as[0]?) (hid (Builtin.len_ ts ty as.toArray)) w (hid fun v w => K (put dst v L) w)) := (rfl)
theorem sc_len {F : Nat → Prop} {K : AL → Prop} {as : Array Operand} {ts : Array TypeId} : stc P F (hid ⟨dst, .call ⟨.builtin .len, as, ts⟩, ty, ps, af, gd⟩) L w (hid K) = obs (looks L as.toList) (hid fun as => ob (lenV P ts[0]? as[0]?) (hid fun v => K (put dst v L))) := (rfl)
theorem RunB_def {f : Array TypeId → TypeId → Array Value → Sem Value} {ts : Array TypeId} {as : Array Value} {K : Value → World → Prop} (h : RunP P (f ts ty as) w (hid K)) : RunB P f ts ty as w (hid K) := h
theorem LoadP_eq {t : TypeId} {a : Addr} {K : Value → Prop} : LoadP P t a w (hid K) = obT (tyL P t) (hid fun g sz => obs (ldC w a sz) (hid fun cs => K (mkV g cs))) := (rfl)
theorem BuildP_eq {ps : List (Nat × Value)} {K : Value → Prop} (h : bldL P T = true) : BuildP P T ps (hid K) = obs (zeroL P T) (hid fun z => obs (fillV P T ps z) (hid fun cs => K (.agg cs.toArray))) := by
  simp [BuildP, h, hid]
theorem fillV_nil {cs : List Value} : fillV P T [] cs = some cs := (rfl)
theorem fillV_cons {i : Nat} {v : Value} {rest : List (Nat × Value)} {cs : List Value} : fillV P T ((i, v) :: rest) cs =
    (placeV P T i).bind fun p => if v.cells.size = p.2 ∧ p.1 + p.2 ≤ cs.length then fillV P T rest (cs.take p.1 ++ v.cells.toList ++ cs.drop (p.1 + p.2)) else none := (rfl)
theorem mkV_true {cs : List Value} : mkV true cs = .agg cs.toArray := (rfl)
theorem mkV_false {v : Value} : mkV false [v] = v := (rfl)
theorem NilOk_ptr {a : Addr} : NilOk (.pointer (some a)) = True := (rfl)
theorem NilOk_slice {a : Option Addr} {n c : Nat} : NilOk (.slice a n c) = True := (rfl)
theorem NilOk_func {f : FuncId} {a b : Array Value} : NilOk (.func (.func f) a b) = True := (rfl)
theorem NilOk_iface {t : TypeId} {v : Value} : NilOk (.iface t v) = True := (rfl)
theorem tupV_eq {vs : List Value} {i : Nat} : tupV (.tuple vs.toArray) i = vs[i]? := by simp [tupV]
theorem looks_nil : looks L [] = some [] := (rfl)
theorem looks_cons {x : Operand} {xs : List Operand} : looks L (x :: xs) = (look L x).bind fun v => (looks L xs).map (v :: ·) := by
  conv => lhs; unfold looks
  cases look L x <;> cases looks L xs <;> rfl
theorem argsL_nil {k : Nat} : argsL k [] = [] := (rfl)
theorem argsL_cons {k : Nat} {v : Value} {vs : List Value} : argsL k (v :: vs) = (k, v) :: argsL (k + 1) vs := (rfl)
theorem look_tmp {t : Nat} : look L (.tmp t) = lkt L t := (rfl)
theorem look_const {v : Value} : look L (.const v) = some v := (rfl)
theorem look_global {g : Nat} : look L (.global g) = some (.pointer (some ⟨g, 0, none⟩)) := (rfl)
theorem look_func {f : FuncId} : look L (.func f) = some (.func (.func f) #[] #[]) := (rfl)
theorem lkt_same {v : Value} {t : Nat} : lkt ((t, v) :: L) t = some v := by simp [lkt]
theorem lkt_other {v : Value} {k t : Nat} (h : (k == t) = false) : lkt ((k, v) :: L) t = lkt L t := by simp at h; simp [lkt, h]
theorem idxA_ptr {k : IntKind} {i : Int} {ad : Addr} : idxA P T (.pointer (some ad)) (.int k i) = (elL P T).bind fun e => e.1.bind fun m => if 0 ≤ i ∧ i < m then some (.pointer (some (ad.add (i.toNat * e.2.2)))) else none := by
  unfold idxA
  cases h : elL P T with
  | none => rfl
  | some e => obtain ⟨m, e1, e2⟩ := e; cases m <;> rfl
theorem opt_none : opt L none = some none := (rfl)
theorem opt_some {x : Operand} : opt L (some x) = (look L x).map some := (rfl)
end eqs

theorem wrap_id (k : IntKind) {n : Int} (h1 : k.min ≤ n) (h2 : n ≤ k.max) : k.wrap n = n := by
  cases k <;> simp [IntKind.wrap, IntKind.min, IntKind.max, IntKind.bits, IntKind.signed] at * <;> omega
theorem wr_i64 {n : Int} (h1 : -9223372036854775808 ≤ n) (h2 : n ≤ 9223372036854775807) : IntKind.i64.wrap n = n := wrap_id .i64 h1 h2
theorem wr_u64 {n : Int} (h1 : 0 ≤ n) (h2 : n ≤ 18446744073709551615) : IntKind.u64.wrap n = n := wrap_id .u64 h1 h2
theorem wr_u32 {n : Int} (h1 : 0 ≤ n) (h2 : n ≤ 4294967295) : IntKind.u32.wrap n = n := wrap_id .u32 h1 h2
theorem wr_i32 {n : Int} (h1 : -2147483648 ≤ n) (h2 : n ≤ 2147483647) : IntKind.i32.wrap n = n := wrap_id .i32 h1 h2
theorem wr_u8 {n : Int} (h1 : 0 ≤ n) (h2 : n ≤ 255) : IntKind.u8.wrap n = n := wrap_id .u8 h1 h2
theorem sliceL_eq (cs : List Value) (off sz : Nat) : sliceL cs off sz = if off + sz ≤ cs.length then some ((cs.drop off).take sz) else none := (rfl)
theorem ldC_mk (w : World) (b off sz : Nat) : ldC w ⟨b, off, none⟩ sz = (cellsO w.heap[b]?).bind fun cs => sliceL cs off sz := by simp [ldC]
theorem cellsO_Cl (T : TypeId) (cs : List Value) (fr : Nat × Nat) : cellsO (some (.cells cs.toArray T fr)) = some cs := by simp [cellsO]
theorem add_mk (b off k : Nat) : (⟨b, off, none⟩ : Addr).add k = ⟨b, off + k, none⟩ := by unfold Addr.add; split <;> simp_all
theorem cells_agg {cs : Array Value} : (Value.agg cs).cells = cs := (rfl)
theorem cells_int {k : IntKind} {n : Int} : (Value.int k n).cells = #[.int k n] := (rfl)
theorem cells_bool {b : Bool} : (Value.bool b).cells = #[.bool b] := (rfl)
theorem cells_string {b : ByteArray} : (Value.string b).cells = #[.string b] := (rfl)
theorem cells_ptr {b : Option Addr} : (Value.pointer b).cells = #[.pointer b] := (rfl)
theorem cells_slice {a : Option Addr} {n c : Nat} : (Value.slice a n c).cells = #[.slice a n c] := (rfl)
theorem cells_map {b : Option Nat} : (Value.map b).cells = #[.map b] := (rfl)
theorem cells_func {f : Fn} {a b : Array Value} : (Value.func f a b).cells = #[.func f a b] := (rfl)
theorem cells_iface {t : TypeId} {v : Value} : (Value.iface t v).cells = #[.iface t v] := (rfl)
theorem cells_nilIface : Value.nilIface.cells = #[.nilIface] := (rfl)
theorem cells_nilFunc : Value.nilFunc.cells = #[.nilFunc] := (rfl)
attribute [go_sem] ob_some obs_some obo_some obF_some obT_some aggP_agg ptrP_some FunP_func CondP_true CondP_false GuardP_tt GuardP_ff GuardP_tf GuardP_ft GuardP_un Th_normal Th_ret Th_exit InB_normal InB_ret InB_same InB_exit VorR_some VorC_some b_add b_sub b_mul b_and b_or b_xor b_andNot b_eql b_neq b_lss b_leq b_gtr b_geq b_quo b_rem b_shl b_shr b_cat b_seq b_sne b_slt b_sle b_sgt b_sge not_bool W_skip W_label W_ret W_exit W_seq W_cond W_block W_loop W_draw W_region R_nil R_cons stg_none stg_some put_some put_none FnQ_normal FnQ_ret resP_nil resP_tmp resP_cell retV_one retV_two retV_three retV_nil gop_zero gop_succ RHb_true RHb_false RH_nil RH_cons RHo_some stgc_none stgc_some gdst_zero gdst_succ slV_str slV_arr st_move sc_move st_assign sc_assign st_pick sc_pick st_alloc st_box st_load sc_load st_store st_nilCheck sc_nilCheck st_binOp sc_binOp st_not sc_not st_convert sc_convert st_iface sc_iface st_func sc_func st_build sc_build st_buildSlice st_fieldAddr sc_fieldAddr st_field sc_field st_indexAddr sc_indexAddr st_index sc_index st_extract sc_extract st_slice sc_slice st_lookup st_mapUpdate st_insert st_mapEntry st_entryStore st_range st_next st_entry st_typeAssert st_makeMap st_makeSlice st_call st_invoke st_append st_cap st_copy st_clear st_delete st_min st_max st_len sc_len LoadP_eq BuildP_eq fillV_nil fillV_cons mkV_true mkV_false NilOk_ptr NilOk_slice NilOk_func NilOk_iface tupV_eq looks_nil looks_cons argsL_nil argsL_cons look_tmp look_const look_global look_func lkt_same lkt_other idxA_ptr opt_none opt_some wr_i64 wr_u64 wr_u32 wr_i32 wr_u8 sliceL_eq ldC_mk cellsO_Cl add_mk cells_agg cells_int cells_bool cells_string cells_ptr cells_slice cells_map cells_func cells_iface cells_nilIface cells_nilFunc
attribute [go_sem] spl List.set_cons_zero List.set_cons_succ Option.bind_some Option.map_some List.length_cons List.length_nil List.drop_zero List.drop_succ_cons List.take_zero List.take_succ_cons List.cons_append List.nil_append List.append_nil List.map_cons List.map_nil List.zip_cons_cons List.zip_nil_left List.getElem?_cons_zero List.getElem?_cons_succ List.toList_toArray List.size_toArray List.getElem?_toArray true_and and_true not_false_eq_true Int.toNat_natCast if_true if_false Bool.not_true Bool.not_false decide_true decide_false Bool.true_and Bool.and_true Bool.false_and Bool.and_false Bool.true_or Bool.or_true Bool.false_or Bool.or_false and_self ite_true ite_false dite_true dite_false
end Go.Ig
