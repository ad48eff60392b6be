import Derived.Test.YtaldohdkfggkiaaGreatIg2
set_option linter.unusedVariables false
set_option linter.unusedSimpArgs false
set_option linter.unusedSectionVars false
set_option linter.unnecessarySimpa false
namespace Go.Ig

def zeroL (P : Program) (t : TypeId) : Option (List Value) := ((P.info? t).bind (·.zero)).map (·.cells.toList)

def lkd (L : AL) (x : Operand) : Value := (look L x).getD undef

def gdst : List Oper → Nat → Option Tmp
  | [], _ => none
  | o :: _, 0 => o.dst
  | _ :: l, j + 1 => gdst l j

theorem gdst_eq : ∀ (l : List Oper) (j : Nat), gdst l j = (l[j]?).bind (·.dst)
  | [], _ => by simp [gdst]
  | o :: l, 0 => by simp [gdst]
  | o :: l, j + 1 => by simp [gdst, gdst_eq l j]

structure GuardP (o : Option Value) (want : Bool) (A B : Prop) : Prop where intro ::
  ex : ∃ v, o = some v ∧ ((v = .bool want → A) ∧ (v ≠ .bool want → B))

theorem GuardP_def {o : Option Value} {want : Bool} {A B : Prop} : GuardP o want A B = ∃ v, o = some v ∧ ((v = .bool want → A) ∧ (v ≠ .bool want → B)) := propext ⟨fun h => h.ex, fun h => ⟨h⟩⟩
def NilOk : Value → Prop
  | .pointer (some _) => True
  | .slice .. => True
  | .iface .. => True
  | .func (.func _) _ _ => True
  | _ => False

/-- The places of the parts that a struct or an array is built of. -/
def placeV (P : Program) (T : TypeId) (i : Nat) : Option (Nat × Nat) :=
  match P.underlying T with
  | some (.struct fs) => (fs[i]?).bind fun f => (P.info? f.type).map fun inf => (f.offset, inf.size)
  | some (.array _ e) => (P.info? e).map fun inf => (i * inf.size, inf.size)
  | _ => none

/-- Parts laid into cells. -/
def fillV (P : Program) (T : TypeId) : List (Nat × Value) → List Value → Option (List Value)
  | [], cs => some cs
  | (i, v) :: rest, cs => (placeV P T i).bind fun p => if v.cells.size = p.2 ∧ p.1 + p.2 ≤ cs.length then fillV P T rest (cs.take p.1 ++ v.cells.toList ++ cs.drop (p.1 + p.2)) else none

/-- A struct or an array whose parts' types are all known. -/
def bldL (P : Program) (T : TypeId) : Bool :=
  match P.underlying T with
  | some (.struct fs) => fs.all fun f => (P.info? f.type).isSome
  | some (.array _ e) => (P.info? e).isSome
  | _ => false

def BuildP (P : Program) (T : TypeId) (ps : List (Nat × Value)) (K : Value → Prop) : Prop := bldL P T = true ∧ obs (zeroL P T) fun z => obs (fillV P T ps z) fun cs => K (.agg cs.toArray)

/-- The address of an element. -/
def idxA (P : Program) (T : TypeId) (x i : Value) : Option Value :=
  match elL P T, x, i with
  | some (none, _, sz), .slice (some a) n _, .int _ i => if 0 ≤ i ∧ i < n then some (.pointer (some (a.add (i.toNat * sz)))) else none
  | some (some m, _, sz), .pointer (some a), .int _ i => if 0 ≤ i ∧ i < m then some (.pointer (some (a.add (i.toNat * sz)))) else none
  | _, _, _ => none

/-- An element of an array or a string. -/
def idxV (P : Program) (T : TypeId) (x i : Value) : Option Value :=
  match P.underlying T, x, i with
  | some (.array m e), .agg cs, .int _ i => if 0 ≤ i ∧ i < m then (tyL P e).bind fun gs => (sliceL cs.toList (i.toNat * gs.2) gs.2).map (mkV gs.1) else none
  | some .string, .string s, .int _ i => if 0 ≤ i then (s[i.toNat]?).map fun b => .int .u8 b.toNat else none
  | _, _, _ => none

def bndV (x : Option Value) (d y : Nat) : Option Nat :=
  match x with
  | none => some d
  | some (.int _ i) => if 0 ≤ i ∧ i ≤ y then some i.toNat else none
  | _ => none

/-- A piece of a slice, of a string, of an array behind a pointer. -/
def slV (P : Program) (T : TypeId) (x : Value) (lo hi mx : Option Value) : Option Value :=
  match P.underlying T, x, mx with
  | some .string, .string s, none => (bndV hi s.size s.size).bind fun h => (bndV lo 0 h).map fun l => .string (s.extract l h)
  | some (.slice e), .slice a n c, none => (bndV hi n c).bind fun h => (bndV lo 0 h).bind fun l => (P.info? e).map fun i => .slice (if c = l then a else a.map (·.add (l * i.size))) (h - l) (c - l)
  | some (.slice e), .slice a _ c, some mx => (bndV (some mx) c c).bind fun m => hi.bind fun hi => (bndV (some hi) 0 m).bind fun h => (bndV lo 0 h).bind fun l => (P.info? e).map fun i => .slice (if m = l then a else a.map (·.add (l * i.size))) (h - l) (m - l)
  | some (.array k e), .pointer (some a), none => (bndV hi k k).bind fun h => (bndV lo 0 h).bind fun l => (P.info? e).map fun i => .slice (some (if k = l then a else a.add (l * i.size))) (h - l) (k - l)
  | _, _, _ => none

def lenV (P : Program) (T : Option TypeId) (x : Option Value) : Option Value :=
  match T.bind P.underlying, x with
  | some .string, some (.string s) => some (.int .i64 s.size)
  | some (.slice _), some (.slice _ n _) => some (.int .i64 n)
  | some (.array n _), some _ => some (.int .i64 n)
  | _, _ => none

def convV (P : Program) (s t : TypeId) (x : Value) : Option Value :=
  match P.underlying s, P.underlying t, x with
  | some (.int _), some (.int k), .int _ n => some (.int k (k.wrap n))
  | _, _, _ => none

def ifaceV (P : Program) (T : TypeId) (x : Value) : Option Value :=
  match P.underlying T with
  | some (.interface _) => none
  | some _ => some (.iface T x)
  | none => none

/-- A value that is worked out, or else an operation that is run. -/
def VorR (P : Program) (o : Option Value) (s : Sem Value) (w : World) (K : Value → World → Prop) : Prop :=
  match o with
  | some v => K v w
  | none => RunP P s w K

theorem VorR.cases {P : Program} {o : Option Value} {s : Sem Value} {w : World} {K : Value → World → Prop} (h : VorR P o s w K) : (∃ v, o = some v ∧ K v w) ∨ RunP P s w K := by
  cases o with
  | none => exact .inr h
  | some v => exact .inl ⟨v, rfl, h⟩

def tupV (v : Value) (i : Nat) : Option Value := match v with | .tuple vs => vs[i]? | _ => none

def FunP (v : Value) (k : FuncId → List Value → List Value → Prop) : Prop := ∃ f a b, v = .func (.func f) a b ∧ k f a.toList b.toList

def opt (L : AL) : Option Operand → Option (Option Value)
  | none => some none
  | some x => (look L x).map some

def obo (o : Option (Option Value)) (k : Option Value → Prop) : Prop := ∃ v, o = some v ∧ k v

/-- One operation, over what is known of the frame. -/
def stp (P : Program) (o : Oper) (L : AL) (w : World) (K : AL → World → Prop) : Prop :=
  match o.op with
  | .move x => ob (look L x) fun v => K (put o.dst v L) w
  | .assign x => ob (look L x) fun v => K (put o.dst v L) w
  | .pick c x y => CondP (look L c) (ob (look L x) fun v => obs (looks L [y]) fun _ => K (put o.dst v L) w) (ob (look L y) fun v => obs (looks L [x]) fun _ => K (put o.dst v L) w)
  | .alloc T => obs (zeroL P T) fun cs => AllocP T cs w fun v w => K (put o.dst v L) w
  | .box T x => ob (look L x) fun v => AllocP T v.cells.toList w fun p w => K (put o.dst p L) w
  | .load T x => ob (look L x) fun v => ptrP v fun a => LoadP P T a w fun v => K (put o.dst v L) w
  | .store T a x => ob (look L a) fun p => ob (look L x) fun v => ptrP p fun a => StoreP P T a v w fun w => K (put o.dst undef L) w
  | .nilCheck x => ob (look L x) fun v => NilOk v ∧ K (put o.dst v L) w
  | .binOp op T x y _ => ob (look L x) fun v => ob (look L y) fun u => VorR P (binV op v u) (do eqGuard op T x y v u; binOp op T v u) w fun r w => K (put o.dst r L) w
  | .unOp .not _ x => ob (look L x) fun v => ∃ b, v = .bool b ∧ K (put o.dst (.bool !b) L) w
  | .convert s t x => ob (look L x) fun v => VorR P (convV P s t v) (convert s t v) w fun r w => K (put o.dst r L) w
  | .makeInterface T x => ob (look L x) fun v => ob (ifaceV P T v) fun r => K (put o.dst r L) w
  | .makeFunc fn xs ys => obs (looks L xs.toList) fun a => obs (looks L ys.toList) fun b => K (put o.dst (.func fn a.toArray b.toArray) L) w
  | .build T ps => obs (looks L (ps.toList.map (·.2))) fun vs => BuildP P T ((ps.toList.map (·.1)).zip vs) fun v => K (put o.dst v L) w
  | .buildSlice T n ps => obs (looks L (ps.toList.map (·.2))) fun vs => RunP P (Instr.buildSlice T n ((ps.toList.map (·.1)).zip vs).toArray) w fun v w => K (put o.dst v L) w
  | .fieldAddr T x i => ob (look L x) fun v => ptrP v fun a => obF (fldL P T i) fun off _ => K (put o.dst (.pointer (some (a.add off))) L) w
  | .field T x i => ob (look L x) fun v => aggP v fun cs => obF (fldL P T i) fun off ft => obT (tyL P ft) fun g sz => obs (sliceL cs off sz) fun c => K (put o.dst (mkV g c) L) w
  | .indexAddr T x i => ob (look L x) fun v => ob (look L i) fun i => ob (idxA P T v i) fun r => K (put o.dst r L) w
  | .index T x i => ob (look L x) fun v => ob (look L i) fun i => ob (idxV P T v i) fun r => K (put o.dst r L) w
  | .extract x i => ob (look L x) fun v => ob (tupV v i) fun r => K (put o.dst r L) w
  | .slice T x lo hi mx => ob (look L x) fun v => obo (opt L lo) fun lo => obo (opt L hi) fun hi => obo (opt L mx) fun mx => ob (slV P T v lo hi mx) fun r => K (put o.dst r L) w
  | .lookup T x i ok => ob (look L x) fun v => ob (look L i) fun i => RunP P (Instr.lookup T v i ok) w fun r w => K (put o.dst r L) w
  | .mapUpdate T m k x => ob (look L m) fun m => ob (look L k) fun k => ob (look L x) fun x => RunP P (Instr.mapUpdate T m k x) w fun _ w => K (put o.dst undef L) w
  | .insert T m k x => ob (look L m) fun m => ob (look L k) fun k => ob (look L x) fun x => RunP P (Instr.mapUpdate T m k x) w fun _ w => K (put o.dst undef L) w
  | .mapEntry T m k => ob (look L m) fun m => ob (look L k) fun k => RunP P (Instr.mapEntry T m k) w fun r w => K (put o.dst r L) w
  | .entryStore T m s x => ob (look L m) fun m => ob (look L s) fun s => ob (look L x) fun x => RunP P (Instr.entryStore T m s x) w fun _ w => K (put o.dst undef L) w
  | .range T x => ob (look L x) fun v => RunP P (Instr.range T v) w fun r w => K (put o.dst r L) w
  | .next x s => ob (look L x) fun v => RunP P (Instr.next v s o.type) w fun r w => K (put o.dst r L) w
  | .entry x => ob (look L x) fun v => RunP P (Instr.entry v) w fun r w => K (put o.dst r L) w
  | .typeAssert x s t ok => ob (look L x) fun v => RunP P (Instr.typeAssert v s t ok) w fun r w => K (put o.dst r L) w
  | .makeMap T r => obo (opt L r) fun r => RunP P (Instr.makeMap T r) w fun r w => K (put o.dst r L) w
  | .makeSlice T l c => ob (look L l) fun l => ob (look L c) fun c => RunP P (Instr.makeSlice T l c) w fun r w => K (put o.dst r L) w
  | .call c => match c.callee with
    | .value f => ob (look L f) fun f => obs (looks L c.args.toList) fun as => FunP f fun g a b => CallP P g (a ++ as ++ b) w fun v w => K (put o.dst v L) w
    | .invoke r m => ob (look L r) fun r => obs (looks L c.args.toList) fun as => InvP P r m as w fun v w => K (put o.dst v L) w
    | .builtin .append => obs (looks L c.args.toList) fun as => RunP P (Builtin.append_ c.argTypes o.type as.toArray) w fun v w => K (put o.dst v L) w
    | .builtin .len => obs (looks L c.args.toList) fun as => VorR P (lenV P c.argTypes[0]? as[0]?) (Builtin.len_ c.argTypes o.type as.toArray) w fun v w => K (put o.dst v L) w
    | .builtin .cap => obs (looks L c.args.toList) fun as => RunP P (Builtin.cap_ c.argTypes o.type as.toArray) w fun v w => K (put o.dst v L) w
    | .builtin .copy => obs (looks L c.args.toList) fun as => RunP P (Builtin.copy_ c.argTypes o.type as.toArray) w fun v w => K (put o.dst v L) w
    | .builtin .clear => obs (looks L c.args.toList) fun as => RunP P (Builtin.clear_ c.argTypes o.type as.toArray) w fun v w => K (put o.dst v L) w
    | .builtin .delete => obs (looks L c.args.toList) fun as => RunP P (Builtin.delete_ c.argTypes o.type as.toArray) w fun v w => K (put o.dst v L) w
    | .builtin .min => obs (looks L c.args.toList) fun as => RunP P (Builtin.min_ c.argTypes o.type as.toArray) w fun v w => K (put o.dst v L) w
    | .builtin .max => obs (looks L c.args.toList) fun as => RunP P (Builtin.max_ c.argTypes o.type as.toArray) w fun v w => K (put o.dst v L) w
    | _ => False
  | _ => False

/-- An operation under its guard. -/
def stg (P : Program) (ops : List Oper) (o : Oper) (L : AL) (w : World) (K : AL → World → Prop) : Prop :=
  match o.guard with
  | none => stp P o L w K
  | some (j, b) => GuardP ((gdst ops j).bind (lkt L)) b (stp P o L w K) (K (put o.dst undef L) w)

def R (P : Program) (ops : List Oper) (Q : Pst) : List Oper → AL → World → Prop
  | [], L, w => Q .normal L w
  | o :: rest, L, w => stg P ops o L w fun L w => R P ops Q rest L w

def W (P : Program) (n : Nat) : Code → Pst → AL → World → Prop
  | .skip, Q, L, w => Q .normal L w
  | .seq a b, Q, L, w => W P n a (Th (fun L w => W P n b Q L w) Q) L w
  | .region id ops d, Q, L, w => if d then Wp P n (.region id ops true) Q L w else R P ops.toList Q ops.toList L w
  | .cond c x y, Q, L, w => CondP (look L c) (W P n x Q L w) (W P n y Q L w)
  | .block id b, Q, L, w => W P n b (InB id Q) L w
  | .exit id, Q, L, w => Q (.exit id) L w
  | .ret, Q, L, w => Q .ret L w
  | .label _, Q, L, w => Q .normal L w
  | .loop b, Q, L, w => Wp P n (.loop b) Q L w
  | .rangeFunc f ps a b, Q, L, w => Wp P n (.rangeFunc f ps a b) Q L w
  | .scope b, Q, L, w => Wp P n (.scope b) Q L w
  | .goto l, Q, L, w => Wp P n (.goto l) Q L w
  | .refuse r, Q, L, w => Wp P n (.refuse r) Q L w

def dstOk (n : Nat) (o : Oper) : Bool := match o.dst with | some k => decide (k < n) | none => true

/-- All slots that a piece of code writes are there. -/
def dstsIn (n : Nat) : Code → Bool
  | .seq a b => dstsIn n a && dstsIn n b
  | .region _ ops _ => ops.toList.all (dstOk n)
  | .cond _ a b => dstsIn n a && dstsIn n b
  | .block _ b => dstsIn n b
  | .loop b => dstsIn n b
  | _ => true
end Go.Ig
