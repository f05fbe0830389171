/-
  Definitions: an abstract machine (own work): a small language, its heap, its evaluator with fuel.
-/
import Derived.RangeFuncLeaves
import Derived.RangeFuncRecord
import Derived.Below
import Derived.Maps.AppendAt
import Derived.Laws.CopyRow
import Derived.Laws.StructEq
import Derived.KernelRfl
set_option linter.unusedVariables false
namespace Go.Am
open Go

/-- Operations. -/
inductive IOp where
  | mov (x : Operand)
  | pick (c x y : Operand)
  | alloc (e : TypeId) (z : List Value)
  | box (e : TypeId) (x : Operand)
  | build (z : List Value) (parts : List (Nat × Nat × Operand))
  | bslice (e : TypeId) (z : List Value) (len : Nat) (parts : List (Nat × Nat × Operand))
  | load1 (x : Operand)
  | loadN (n : Nat) (x : Operand)
  | store (n : Nat) (x v : Operand)
  | nilck (x : Operand)
  | bin (op : BinOp) (x y : Operand)
  | beq (neg : Bool) (x y : Operand)
  | neq (neg : Bool) (x y : Operand)
  | sneq (neg : Bool) (x y : Operand)
  | seq (neg : Bool) (offs : List (Nat × Bool)) (x y : Operand)
  | un (op : UnOp) (x : Operand)
  | conv (k : IntKind) (x : Operand)
  | fld1 (off : Nat) (x : Operand)
  | fldN (n off : Nat) (x : Operand)
  | faddr (off : Nat) (x : Operand)
  | iaddr (size : Nat) (x i : Operand)
  | iaddrA (len size : Nat) (x i : Operand)
  | idx1 (len size : Nat) (x i : Operand)
  | slice (e : TypeId) (size : Nat) (x : Operand) (lo hi mx : Option Operand)
  | len (x : Operand)
  | mkfn (f : FuncId) (first captured : List Operand)
  | ext (x : Operand) (i : Nat)
  | minmax (mx : Bool) (x y : Operand)
  | app (e : TypeId) (size bytes : Nat) (x y : Operand)
  | call (f : Operand) (args : List Operand)
  deriving Inhabited

structure IOper where
  dst : Option Nat
  op : IOp
  guard : Option (Nat × Bool)
  deriving Inhabited

inductive IC where
  | skip
  | region (ops : List IOper)
  | draw (ops : List IOper) (chk : List (Nat × Nat))
  | seq (x y : IC)
  | cond (c : Operand) (x y : IC)
  | block (id : Nat) (x : IC)
  | loop (x : IC)
  | rangeF (f : Operand) (ps : List Nat) (asg body : IC)
  | exit (id : Nat)
  | ret
  deriving Inhabited

inductive IRes where
  | tmp (t : Nat)
  | cell1 (t : Nat)
  | cellN (n t : Nat)
  deriving Inhabited

structure IFun where
  n : Nat
  body : IC
  res : List IRes
  deriving Inhabited

/-- How code is left. -/
inductive Ex where
  | normal
  | exit (id : Nat)
  | ret
  deriving DecidableEq, Inhabited

/-- The jump that is left pending. -/
def Ex.jump : Ex → Option Ex
  | .normal => none
  | e => some e

structure LoopRec where
  state : LoopState
  pending : Option Ex
  tmps : Nat → Value
  params : List Nat
  asg : IC
  body : IC
  deferB : Nat

inductive Blk where
  | dead
  | cells (c : List Value) (e : TypeId) (ro : Bool)
  | loop (r : LoopRec)
  | defer
  | map (es : List (Value × Value))

structure Heap where
  n : Nat
  get : Nat → Blk

def Heap.push (h : Heap) (b : Blk) : Heap := ⟨h.n + 1, fun i => if i = h.n then b else h.get i⟩
def Heap.set (h : Heap) (k : Nat) (b : Blk) : Heap := ⟨h.n, fun i => if i = k then b else h.get i⟩

/-- The cells of a value that may be stored. -/
def vcells : Value → Option (List Value)
  | .agg cs => some cs.toList
  | .tuple _ => none
  | v => some [v]

def getAt (c : List Value) (o : Nat) : Nat → Option (List Value)
  | 0 => some []
  | n + 1 => match c[o]? with
    | some v => match getAt c (o + 1) n with
      | some r => some (v :: r)
      | none => none
    | none => none

def setAt (c : List Value) (o : Nat) : List Value → List Value
  | [] => c
  | v :: r => setAt (c.set o v) (o + 1) r

def Heap.load (h : Heap) (b o n : Nat) : Option (List Value) :=
  match h.get b with
  | .cells c _ _ => getAt c o n
  | _ => none

def Heap.store (h : Heap) (b o : Nat) (vs : List Value) : Option Heap :=
  match h.get b with
  | .cells c e false => if o + vs.length ≤ c.length then some (h.set b (.cells (setAt c o vs) e false)) else none
  | _ => none

def opd (a : Nat → Value) : Operand → Value
  | .tmp t => a t
  | .const v => v
  | .global g => .pointer (some ⟨g, 0, none⟩)
  | .func f => .func (.func f) #[] #[]

def put (a : Nat → Value) (t : Nat) (v : Value) : Nat → Value := fun u => if u = t then v else a u
def putO (a : Nat → Value) (t : Option Nat) (v : Value) : Nat → Value := match t with | some t => put a t v | none => a

/-- What a computation without memory answers. -/
def calmV (s : Sem Value) : Option Value := match s with | .pure v => some v | _ => none

/-- A plain number or truth value. -/
def constV : Value → Bool
  | .bool _ | .int _ _ => true
  | _ => false

def fillL : List Value → List (Nat × Nat × Value) → Option (List Value)
  | cs, [] => some cs
  | cs, (off, size, v) :: r => match vcells v with
    | some vs => if vs.length = size ∧ off + size ≤ cs.length then fillL (setAt cs off vs) r else none
    | none => none

/-- Equality of two plain values (a number, or a truth value). -/
def plainEq : Bool → Value → Value → Option Bool
  | true, .int k a, .int k' b => if k = k' then some (a == b) else none
  | false, .bool a, .bool b => some (a == b)
  | _, _, _ => none

def seqEq (xs ys : Array Value) : List (Nat × Bool) → Option Bool
  | [] => some true
  | (o, k) :: r => match xs[o]?, ys[o]? with
    | some x, some y => match plainEq k x y with
      | some true => seqEq xs ys r
      | some false => some false
      | none => none
    | _, _ => none

def boundOf (a : Nat → Value) (y d : Nat) : Option Operand → Option Nat
  | none => some d
  | some x => match opd a x with
    | .int _ i => if 0 ≤ i ∧ i ≤ y then some i.toNat else none
    | _ => none

def undefV : Value := .tuple #[]

def partsV (a : Nat → Value) (ps : List (Nat × Nat × Operand)) : List (Nat × Nat × Value) := ps.map fun p => (p.1, p.2.1, opd a p.2.2)

/-- An append. -/
def appV (h : Heap) (e : TypeId) (size bytes : Nat) (x y : Value) : Option (Value × Heap) :=
  match x, y with
  | .slice A n c, .slice B m _ =>
    if m = 0 then some (x, h) else
    match B with
    | none => none
    | some ⟨b, o, none⟩ =>
      match h.load b o (m * size) with
      | none => none
      | some news =>
        if ¬ ((n + m) * bytes ≤ 140737488355328 ∧ n + m ≤ 9223372036854775807) then none else
        match A with
        | none => if n = 0 ∧ c = 0 then some (.slice (some ⟨h.n, 0, none⟩) m m, h.push (.cells news e false)) else none
        | some ⟨g, 0, none⟩ =>
          match h.get g with
          | .cells _ e' false =>
            if e' = e then
              if n + m ≤ c then
                match h.store g (n * size) news with
                | some h' => some (.slice (some ⟨g, 0, none⟩) (n + m) c, h')
                | none => none
              else
                match h.load g 0 (n * size) with
                | some olds => some (.slice (some ⟨h.n, 0, none⟩) (n + m) (n + m), (h.set g .dead).push (.cells (olds ++ news) e false))
                | none => none
            else none
          | _ => none
        | _ => none
    | _ => none
  | _, _ => none

abbrev CallT := Value → List Value → Heap → Option (Value × Heap)

def evOp (call : CallT) (a : Nat → Value) (h : Heap) : IOp → Option (Value × Heap)
  | .mov x => some (opd a x, h)
  | .pick c x y => match opd a c with
    | .bool b => some (if b then opd a x else opd a y, h)
    | _ => none
  | .alloc e z => some (.pointer (some ⟨h.n, 0, none⟩), h.push (.cells z e false))
  | .box e x => match vcells (opd a x) with
    | some cs => some (.pointer (some ⟨h.n, 0, none⟩), h.push (.cells cs e false))
    | none => none
  | .build z ps => match fillL z (partsV a ps) with
    | some cs => some (.agg cs.toArray, h)
    | none => none
  | .bslice e z len ps => match fillL z (partsV a ps) with
    | some cs => some (.slice (some ⟨h.n, 0, none⟩) len len, h.push (.cells cs e false))
    | none => none
  | .load1 x => match opd a x with
    | .pointer (some ⟨b, o, none⟩) => match h.load b o 1 with
      | some [v] => some (v, h)
      | _ => none
    | _ => none
  | .loadN n x => match opd a x with
    | .pointer (some ⟨b, o, none⟩) => match h.load b o n with
      | some vs => some (.agg vs.toArray, h)
      | none => none
    | _ => none
  | .store n x v => match opd a x with
    | .pointer (some ⟨b, o, none⟩) => match vcells (opd a v) with
      | some vs => if vs.length = n then match h.store b o vs with
          | some h' => some (undefV, h')
          | none => none
        else none
      | none => none
    | _ => none
  | .nilck x => match opd a x with
    | .pointer (some p) => some (.pointer (some p), h)
    | .func (.func f) u v => some (.func (.func f) u v, h)
    | .func (.yield f) u v => some (.func (.yield f) u v, h)
    | _ => none
  | .bin op x y => match opd a x, opd a y with
    | .int k m, .int k' m' => match calmV (Go.binOp op 0 (.int k m) (.int k' m')) with
      | some v => if constV v then some (v, h) else none
      | none => none
    | _, _ => none
  | .beq neg x y => match opd a x, opd a y with
    | .bool m, .bool m' => some (.bool (if neg then !(m == m') else m == m'), h)
    | _, _ => none
  | .neq neg x y => match opd a x, opd a y with
    | .pointer p, .pointer none => some (.bool (if neg then !p.isNone else p.isNone), h)
    | _, _ => none
  | .sneq neg x y => match opd a x, opd a y with
    | .slice p _ _, .slice none _ _ => some (.bool (if neg then !p.isNone else p.isNone), h)
    | _, _ => none
  | .seq neg offs x y => match opd a x, opd a y with
    | .agg xs, .agg ys => match seqEq xs ys offs with
      | some b => some (.bool (if neg then !b else b), h)
      | none => none
    | _, _ => none
  | .un op x => match opd a x with
    | .int k m => match calmV (Op.unary op (.int k m)) with
      | some v => if constV v then some (v, h) else none
      | none => none
    | .bool m => match calmV (Op.unary op (.bool m)) with
      | some v => if constV v then some (v, h) else none
      | none => none
    | _ => none
  | .conv k x => match opd a x with
    | .int _ m => some (.int k (k.wrap m), h)
    | _ => none
  | .fld1 off x => match opd a x with
    | .agg cs => match cs[off]? with
      | some v => some (v, h)
      | none => none
    | _ => none
  | .fldN n off x => match opd a x with
    | .agg cs => some (.agg (cs.extract off (off + n)), h)
    | _ => none
  | .faddr off x => match opd a x with
    | .pointer (some ⟨b, o, none⟩) => some (.pointer (some ⟨b, o + off, none⟩), h)
    | _ => none
  | .iaddr size x i => match opd a x, opd a i with
    | .slice (some ⟨b, o, none⟩) n _, .int _ j => if 0 ≤ j ∧ j < n then some (.pointer (some ⟨b, o + j.toNat * size, none⟩), h) else none
    | _, _ => none
  | .iaddrA len size x i => match opd a x, opd a i with
    | .pointer (some ⟨b, o, none⟩), .int _ j => if 0 ≤ j ∧ j < len then some (.pointer (some ⟨b, o + j.toNat * size, none⟩), h) else none
    | _, _ => none
  | .idx1 len size x i => match opd a x, opd a i with
    | .agg cs, .int _ j => if 0 ≤ j ∧ j < len then match cs[j.toNat * size]? with
        | some v => some (v, h)
        | none => none
      else none
    | _, _ => none
  | .slice e size x lo hi mx => match opd a x with
    | .slice A n c => match boundOf a c c mx with
      | none => none
      | some m => match boundOf a (if mx.isSome then m else c) n hi with
        | none => none
        | some r => match boundOf a r 0 lo with
          | none => none
          | some l => match A with
            | some ⟨b, o, none⟩ => match h.get b with
              | .cells _ e' ro => if r ≤ m ∧ (ro = true ∨ e' = e) then some (.slice (some ⟨b, o + l * size, none⟩) (r - l) (m - l), h) else none
              | _ => none
            | none => if c = 0 ∧ n = 0 then some (.slice none 0 0, h) else none
            | _ => none
    | _ => none
  | .len x => match opd a x with
    | .slice _ n _ => some (.int .i64 n, h)
    | _ => none
  | .mkfn f u v => some (.func (.func f) (u.map (opd a)).toArray (v.map (opd a)).toArray, h)
  | .ext x i => match opd a x with
    | .tuple vs => match vs[i]? with
      | some v => some (v, h)
      | none => none
    | _ => none
  | .minmax mx x y => match opd a x, opd a y with
    | .int k m, .int k' m' => some (.int k (if mx then (if m' > m then m' else m) else (if m' < m then m' else m)), h)
    | _, _ => none
  | .app e size bytes x y => appV h e size bytes (opd a x) (opd a y)
  | .call f args => call (opd a f) (args.map (opd a)) h

/-- What a region's check looks at: of each operation the heap ahead of it and behind it, and, of a load, where it read. -/
structure TE where
  run : Bool
  hb : Heap
  ha : Heap
  at_ : Option (Nat × Nat × Nat)

def loadAddr (a : Nat → Value) : IOp → Option (Nat × Nat × Nat)
  | .load1 x => match opd a x with
    | .pointer (some ⟨b, o, none⟩) => some (b, o, 1)
    | _ => none
  | .loadN n x => match opd a x with
    | .pointer (some ⟨b, o, none⟩) => some (b, o, n)
    | _ => none
  | _ => none

def wants (a : Nat → Value) : Option (Nat × Bool) → Option Bool
  | none => some true
  | some (t, want) => match a t with
    | .bool b => some (b == want)
    | .tuple _ => some false
    | _ => none

def evOps (call : CallT) : List IOper → (Nat → Value) → Heap → Option ((Nat → Value) × Heap)
  | [], a, h => some (a, h)
  | o :: r, a, h => match wants a o.guard with
    | some true => match evOp call a h o.op with
      | some (v, h') => evOps call r (putO a o.dst v) h'
      | none => none
    | some false => evOps call r (putO a o.dst undefV) h
    | none => none

def evTr (call : CallT) : List IOper → (Nat → Value) → Heap → Option ((Nat → Value) × Heap × List TE)
  | [], a, h => some (a, h, [])
  | o :: r, a, h => match wants a o.guard with
    | some true => match evOp call a h o.op with
      | some (v, h') => match evTr call r (putO a o.dst v) h' with
        | some (a', h'', tr) => some (a', h'', ⟨true, h, h', loadAddr a o.op⟩ :: tr)
        | none => none
      | none => none
    | some false => match evTr call r (putO a o.dst undefV) h with
        | some (a', h'', tr) => some (a', h'', ⟨false, h, h, none⟩ :: tr)
        | none => none
    | none => none

/-- An effect (j) left what a load (i) reads as it was. -/
def chkOne (tr : List TE) (p : Nat × Nat) : Prop :=
  match tr[p.1]?, tr[p.2]? with
  | some ej, some ei => match ei.at_ with
    | some (b, o, n) => ej.hb.load b o n = ej.ha.load b o n
    | none => True
  | _, _ => True

def chkAll (tr : List TE) : List (Nat × Nat) → Prop
  | [] => True
  | p :: r => chkOne tr p ∧ chkAll tr r

structure AAct where
  get : Nat → Value
  marks : List Nat

def initA (args : List Value) : Nat → Value := fun i => args.getD i undefV

def setParams (a : Nat → Value) : List Nat → List Value → Option (Nat → Value)
  | [], [] => some a
  | p :: ps, v :: vs => setParams (put a p v) ps vs
  | _, _ => none

def resOne (a : Nat → Value) (h : Heap) : IRes → Option Value
  | .tmp t => some (a t)
  | .cell1 t => match a t with
    | .pointer (some ⟨b, o, none⟩) => match h.load b o 1 with
      | some [v] => some v
      | _ => none
    | _ => none
  | .cellN n t => match a t with
    | .pointer (some ⟨b, o, none⟩) => match h.load b o n with
      | some vs => some (.agg vs.toArray)
      | none => none
    | _ => none

def resAll (a : Nat → Value) (h : Heap) : List IRes → Option (List Value)
  | [] => some []
  | r :: rs => match resOne a h r with
    | some v => match resAll a h rs with
      | some vs => some (v :: vs)
      | none => none
    | none => none

def resV : List Value → Value
  | [v] => v
  | vs => .tuple vs.toArray

def killAll (h : Heap) : List Nat → Option Heap
  | [] => some h
  | k :: r => match h.get k with
    | .defer => killAll (h.set k .dead) r
    | _ => none

abbrev ExecT := Option Nat → IC → AAct → Heap → Option (Ex × AAct × Heap)

def callV (T : FuncId → Option IFun) (ex : ExecT) : CallT := fun v args h =>
  match v with
  | .func (.func f) first captured => match T f with
    | some fn => if (first.toList ++ args ++ captured.toList).length ≤ fn.n then
      match ex none fn.body ⟨initA (first.toList ++ args ++ captured.toList), []⟩ h with
      | some (.exit _, _, _) => none
      | some (_, a, h') => match killAll h' a.marks with
        | some h'' => match resAll a.get h'' fn.res with
          | some vs => some (resV vs, h'')
          | none => none
        | none => none
      | none => none
      else none
    | none => none
  | .func (.yield l) ⟨[]⟩ ⟨[]⟩ => match h.get l with
    | .loop r => match setParams r.tmps r.params args with
      | some a0 => match ex (some l) r.asg ⟨a0, []⟩ h with
        | some (.normal, a1, h1) => match h1.get l with
          | .loop r1 => match r1.state with
            | .ready => match ex (some l) r.body a1 (h1.set l (.loop { r1 with state := .busy })) with
              | some (e, _, h2) => match h2.get l with
                | .loop r2 => some (.bool e.jump.isNone, h2.set l (.loop { r2 with state := if e.jump.isNone then .ready else .done, pending := e.jump }))
                | _ => none
              | none => none
            | _ => none
          | _ => none
        | _ => none
      | none => none
    | _ => none
  | _ => none

open Classical in
noncomputable def exec (T : FuncId → Option IFun) : Nat → ExecT
  | 0, _, _, _, _ => none
  | n + 1, rd, c, a, h => match c with
    | .skip => some (.normal, a, h)
    | .region ops => match evOps (callV T (exec T n)) ops a.get h with
      | some (a', h') => some (.normal, ⟨a', a.marks⟩, h')
      | none => none
    | .draw ops chk => match evTr (callV T (exec T n)) ops a.get h with
      | some (a', h', tr) => if chkAll tr chk then some (.normal, ⟨a', a.marks⟩, h') else none
      | none => none
    | .seq x y => match exec T n rd x a h with
      | some (.normal, a', h') => exec T n rd y a' h'
      | r => r
    | .cond c x y => match opd a.get c with
      | .bool true => exec T n rd x a h
      | .bool false => exec T n rd y a h
      | _ => none
    | .block id x => match exec T n rd x a h with
      | some (.exit id', a', h') => if id' = id then some (.normal, a', h') else some (.exit id', a', h')
      | r => r
    | .loop x => match exec T n rd x a h with
      | some (.normal, a', h') => exec T n rd (.loop x) a' h'
      | r => r
    | .exit id => some (.exit id, a, h)
    | .ret => some (.ret, a, h)
    | .rangeF f ps asg body =>
      match opd a.get f with
      | .func (.func gf) u v =>
        let st : Option (Heap × Nat × List Nat) := match rd with
          | none => some (h.push .defer, h.n, [h.n])
          | some l0 => match h.get l0 with
            | .loop r0 => some (h, r0.deferB, [])
            | _ => none
        match st with
        | none => none
        | some (h1, db, mk) =>
          match callV T (exec T n) (.func (.func gf) u v) [.func (.yield h1.n) #[] #[]] (h1.push (.loop ⟨.ready, none, a.get, ps, asg, body, db⟩)) with
          | none => none
          | some (_, h2) => match h2.get h1.n with
            | .loop r => if r.state = .busy then none else
              some (r.pending.getD .normal, ⟨a.get, mk ++ a.marks⟩, h2.set h1.n (.loop { r with state := .exhausted }))
            | _ => none
      | _ => none

end Go.Am
