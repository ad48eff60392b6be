/-
Plain data: nodes, queues, tasks, operations, machines, jobs, states; what the layers model and oper work out of them.
-/
import Derived.Test.YtaldohdkfggkiaaGreatM1
import Derived.Test.YtaldohdkfggkiaaGreatIgC
set_option linter.unusedVariables false
set_option linter.unusedSimpArgs false
set_option linter.unusedSectionVars false
set_option linter.unnecessarySimpa false
namespace Go.Ig

/-- api.Node; la, lc: where the labels lie, and what room they have -/
structure Nd where
  name : Str
  cap : R3
  la : Option Addr
  lc : Nat
  labels : List Lbl
abbrev Nd.lv (n : Nd) : Value := .slice n.la n.labels.length n.lc
@[reducible] def Nd.cs (n : Nd) : List Value := [.string n.name, .int .i64 n.cap.a, .int .i64 n.cap.b, .int .i64 n.cap.c, n.lv]
abbrev Nd.v (n : Nd) : Value := .agg n.cs.toArray

/-- api.Queue -/
structure Qu where
  name : Str
  quota : R3
  deriving DecidableEq, Inhabited
@[reducible] def Qu.cs (q : Qu) : List Value := [.string q.name, .int .i64 q.quota.a, .int .i64 q.quota.b, .int .i64 q.quota.c]
abbrev Qu.v (q : Qu) : Value := .agg q.cs.toArray

/-- api.Task -/
structure Tk where
  name : Str
  queue : Str
  prio : Int
  need : R3
  wa : Option Addr
  wc : Nat
  wants : List Lbl
  apart : Str
  gang : Str
  size : Int
abbrev Tk.wv (t : Tk) : Value := .slice t.wa t.wants.length t.wc
@[reducible] def Tk.cs (t : Tk) : List Value := [.string t.name, .string t.queue, .int .i64 t.prio, .int .i64 t.need.a, .int .i64 t.need.b, .int .i64 t.need.c, t.wv, .string t.apart, .string t.gang, .int .i64 t.size]
abbrev Tk.v (t : Tk) : Value := .agg t.cs.toArray

/-- api.Op -/
structure Opn where
  kind : Int
  node : Nd
  queue : Qu
  task : Tk
  name : Str
@[reducible] def Opn.cs (o : Opn) : List Value := .int .i64 o.kind :: (o.node.cs ++ (o.queue.cs ++ (o.task.cs ++ [.string o.name])))
abbrev Opn.v (o : Opn) : Value := .agg o.cs.toArray

/-- api.Act -/
structure Act where
  kind : Int
  task : Str
  node : Str
  deriving DecidableEq, Inhabited
@[reducible] def Act.cs (a : Act) : List Value := [.int .i64 a.kind, .string a.task, .string a.node]
abbrev Act.v (a : Act) : Value := .agg a.cs.toArray

/-- api.Machine -/
structure Mc where
  node : Nd
  up : Bool
  till : Int
@[reducible] def Mc.cs (m : Mc) : List Value := [.string m.node.name, .int .i64 m.node.cap.a, .int .i64 m.node.cap.b, .int .i64 m.node.cap.c, m.node.lv, .bool m.up, .int .i64 m.till]
abbrev Mc.v (m : Mc) : Value := .agg m.cs.toArray

/-- api.Job -/
structure Jb where
  task : Tk
  seq : Int
  node : Str
  bound : Int
@[reducible] def Jb.cs (j : Jb) : List Value := [.string j.task.name, .string j.task.queue, .int .i64 j.task.prio, .int .i64 j.task.need.a, .int .i64 j.task.need.b, .int .i64 j.task.need.c, j.task.wv, .string j.task.apart, .string j.task.gang, .int .i64 j.task.size, .int .i64 j.seq, .string j.node, .int .i64 j.bound]
abbrev Jb.v (j : Jb) : Value := .agg j.cs.toArray

/-! ### model -/
def nodeB (n : Nd) : Bool := nameB n.name && n.cap.ok && labelsB n.labels
def queueB (q : Qu) : Bool := nameB q.name && q.quota.ok
def noneB (s : Str) : Bool := decide (s = ByteArray.mk #[])
def maybeB (s : Str) : Bool := noneB s || nameB s
theorem maybeB_nil : maybeB (ByteArray.mk #[]) = true := by decide
def taskB (t : Tk) : Bool :=
  nameB t.name && nameB t.queue && decide (0 ≤ t.prio) && decide (t.prio ≤ 9) && t.need.ok && labelsB t.wants && maybeB t.apart && maybeB t.gang &&
    if noneB t.gang then decide (t.size = 0) else decide (2 ≤ t.size) && decide (t.size ≤ 4)

def putI (n : Int) : List UInt8 := putN n.toNat
def putR (r : R3) : List UInt8 := putI r.a ++ putI r.b ++ putI r.c
def putLs : List Lbl → List UInt8
  | [] => []
  | x :: l => putT x.key ++ putT x.val ++ putLs l
def putL (l : List Lbl) : List UInt8 := putN l.length ++ putLs l
def putNd (n : Nd) : List UInt8 := putT n.name ++ putR n.cap ++ putL n.labels
def putQu (q : Qu) : List UInt8 := putT q.name ++ putR q.quota
def putTk (t : Tk) : List UInt8 := putT t.name ++ putT t.queue ++ putI t.prio ++ putR t.need ++ putL t.wants ++ putT t.apart ++ putT t.gang ++ putI t.size

/-! A reader: the place, the error. -/
structure Rd where
  at' : Int
  e : Int
/-- reader.number -/
def rdN (l : List UInt8) (most e : Int) (r : Rd) : Int × Rd :=
  if r.e ≠ 0 then (0, r)
  else if (takeN l r.at').2.2 ≠ 0 then (0, ⟨r.at', (takeN l r.at').2.2⟩)
  else if most < (takeN l r.at').1 then (0, ⟨r.at', e⟩)
  else ((takeN l r.at').1, ⟨(takeN l r.at').2.1, 0⟩)
/-- reader.text -/
def rdT (l : List UInt8) (r : Rd) : Str × Rd :=
  if r.e ≠ 0 then (ByteArray.mk #[], r) else ((takeT l r.at' 16).1, ⟨(takeT l r.at' 16).2.1, (takeT l r.at' 16).2.2⟩)
/-- reader.amount -/
def rdA (l : List UInt8) (r : Rd) : R3 × Rd :=
  let a := rdN l 1048576 3 r
  let b := rdN l 1048576 3 a.2
  let c := rdN l 1048576 3 b.2
  (⟨a.1, b.1, c.1⟩, c.2)
def rdLs (l : List UInt8) : Nat → Rd → List Lbl × Rd
  | 0, r => ([], r)
  | k + 1, r =>
    let x := rdT l r
    let y := rdT l x.2
    let z := rdLs l k y.2
    (⟨x.1, y.1⟩ :: z.1, z.2)
/-- reader.labels -/
def rdL (l : List UInt8) (r : Rd) : List Lbl × Rd := rdLs l (rdN l 4 4 r).1.toNat (rdN l 4 4 r).2
/-- reader.end -/
def rdE (r : Rd) (ok : Bool) : Int × Int := if r.e ≠ 0 then (0, r.e) else if ok then (r.at', 0) else (0, 3)
end Go.Ig
namespace Go.Ig
def R3.z : R3 := ⟨0, 0, 0⟩
def Nd.zero : Nd := ⟨ByteArray.mk #[], R3.z, none, 0, []⟩
def Qu.zero : Qu := ⟨ByteArray.mk #[], R3.z⟩
def Tk.zero : Tk := ⟨ByteArray.mk #[], ByteArray.mk #[], 0, R3.z, none, 0, [], ByteArray.mk #[], ByteArray.mk #[], 0⟩
/-- what TakeNode reads; its labels lie nowhere -/
def rdNd (l : List UInt8) (at' : Int) : Nd × Rd :=
  let n := rdT l ⟨at', 0⟩
  let c := rdA l n.2
  let b := rdL l c.2
  (⟨n.1, c.1, none, 0, b.1⟩, b.2)
def takeNd (l : List UInt8) (at' : Int) : Nd × Int × Int :=
  let x := rdNd l at'
  let y := rdE x.2 (nodeB x.1)
  if y.2 ≠ 0 then (Nd.zero, 0, y.2) else (x.1, y.1, 0)
def rdQu (l : List UInt8) (at' : Int) : Qu × Rd :=
  let n := rdT l ⟨at', 0⟩
  let c := rdA l n.2
  (⟨n.1, c.1⟩, c.2)
def takeQu (l : List UInt8) (at' : Int) : Qu × Int × Int :=
  let x := rdQu l at'
  let y := rdE x.2 (queueB x.1)
  if y.2 ≠ 0 then (Qu.zero, 0, y.2) else (x.1, y.1, 0)
def rdTk (l : List UInt8) (at' : Int) : Tk × Rd :=
  let n := rdT l ⟨at', 0⟩
  let q := rdT l n.2
  let p := rdN l 1048576 3 q.2
  let r := rdA l p.2
  let b := rdL l r.2
  let a := rdT l b.2
  let g := rdT l a.2
  let s := rdN l 1048576 3 g.2
  (⟨n.1, q.1, p.1, r.1, none, 0, b.1, a.1, g.1, s.1⟩, s.2)
def takeTk (l : List UInt8) (at' : Int) : Tk × Int × Int :=
  let x := rdTk l at'
  let y := rdE x.2 (taskB x.1)
  if y.2 ≠ 0 then (Tk.zero, 0, y.2) else (x.1, y.1, 0)
def Nd.with (n : Nd) (a : Option Addr) (c : Nat) : Nd := { n with la := a, lc := c }
def Tk.with (t : Tk) (a : Option Addr) (c : Nat) : Tk := { t with wa := a, wc := c }
end Go.Ig
