/-
  Definitions: how the model's code becomes code of the abstract machine (checked by the kernel, function by function).
-/
import Derived.Test.YtdcppkhobfbpeaaDoorAmA
set_option linter.unusedVariables false
namespace Go.Am
open Go

def constOk : Value → Bool
  | .bool _ | .int _ _ | .string _ | .pointer none | .nilFunc => true
  | .slice none 0 0 => true
  | _ => false

def opOk (P : Program) (N : Nat) : Operand → Bool
  | .tmp _ => true
  | .const v => constOk v
  | .global g => g < P.globals.size
  | .func _ => true

def optOk (P : Program) (N : Nat) : Option Operand → Bool
  | none => true
  | some x => opOk P N x

inductive TK where
  | int (k : IntKind) | bool | agg | slice (e : TypeId) | ptr | fn | other
  deriving DecidableEq

def tk (P : Program) (t : TypeId) : TK :=
  match P.underlying t with
  | some (.int k) => .int k
  | some .bool => .bool
  | some (.struct _) => .agg
  | some (.array _ _) => .agg
  | some (.slice e) => .slice e
  | some (.pointer _) => .ptr
  | some (.func _ _ _) => .fn
  | _ => .other

def sizeOf? (P : Program) (t : TypeId) : Option Nat := (P.info? t).map (·.size)

def zeros? (P : Program) (t : TypeId) : Option (List Value) :=
  match P.info? t with
  | some i => match i.zero with
    | some z => if z.cells.toList.all constOk then some z.cells.toList else none
    | none => none
  | none => none

/-- Where the plain fields of a flat struct lie. -/
def flatFields (P : Program) : List Field → Option (List (Nat × Bool))
  | [] => some []
  | f :: r => match flatFields P r with
    | none => none
    | some l => match tk P f.type with
      | .int _ => some (if f.name ≠ "_" then (f.offset, true) :: l else l)
      | .bool => some (if f.name ≠ "_" then (f.offset, false) :: l else l)
      | _ => none

def flatOffs (P : Program) (t : TypeId) : Option (List (Nat × Bool)) :=
  match P.underlying t with
  | some (.struct fs) => if P.stoodInHeld t || P.eqGuardType P.depth t then none else flatFields P fs.toList
  | some (.array n e) => if P.eqGuardType P.depth t then none else
    match tk P e, sizeOf? P e with
    | .int _, some 1 => some ((List.range n).map fun i => (i, true))
    | _, _ => none
  | _ => none

def buildOk (P : Program) (t : TypeId) : Bool :=
  match P.underlying t with
  | some (.struct fs) => fs.toList.all (fun f => (P.info? f.type).isSome)
  | some (.array _ e) => (P.info? e).isSome
  | _ => false

def placeOf (P : Program) (t : TypeId) (i : Nat) : Option (Nat × Nat) :=
  match P.underlying t with
  | some (.struct fs) => (fs.map fun f => (f.offset, P.cellsOf f.type))[i]?
  | some (.array _ e) => some (i * P.cellsOf e, P.cellsOf e)
  | _ => none

def partsOf (P : Program) (N : Nat) (pl : Nat → Option (Nat × Nat)) : List (Nat × Operand) → Option (List (Nat × Nat × Operand))
  | [] => some []
  | (i, x) :: r => match pl i with
    | some (off, n) => if opOk P N x then match partsOf P N pl r with
        | some l => some ((off, n, x) :: l)
        | none => none
      else none
    | none => none

def isNilC : Operand → Bool
  | .const (.pointer none) | .const (.slice none 0 0) => true
  | _ => false

def compBin (P : Program) (N : Nat) (op : BinOp) (t : TypeId) (x y : Operand) : Option IOp :=
  if !(opOk P N x && opOk P N y) then none else
  match tk P t with
  | .int _ => some (.bin op x y)
  | .bool => match op with
    | .eql => some (.beq false x y)
    | .neq => some (.beq true x y)
    | _ => none
  | .agg => match flatOffs P t with
    | none => none
    | some l => match op with
      | .eql => some (.seq false l x y)
      | .neq => some (.seq true l x y)
      | _ => none
  | .ptr => if isNilC y then match op with
      | .eql => some (.neq false x y)
      | .neq => some (.neq true x y)
      | _ => none
    else none
  | .slice _ => if isNilC y then match op with
      | .eql => some (.sneq false x y)
      | .neq => some (.sneq true x y)
      | _ => none
    else none
  | _ => none

def zeroFits (i : TypeInfo) : Bool := match i.zero with | some z => decide (z.cells.size = i.size) | none => false

theorem zeroFits_spec {i : TypeInfo} (h : zeroFits i = true) : ∃ z, i.zero = some z ∧ z.cells.size = i.size := by
  unfold zeroFits at h
  split at h
  · rename_i z hz; exact ⟨z, hz, of_decide_eq_true h⟩
  · cases h

def dstOk (N : Nat) : Option Nat → Bool
  | some d => decide (d < N)
  | none => true

def compBuiltin (P : Program) (N : Nat) (b : Builtin) (args : List Operand) (tys : List TypeId) : Option IOp :=
  if !(args.all (opOk P N)) then none else
  match b, args, tys with
  | .len, [x], [t] => match tk P t with
    | .slice _ => some (.len x)
    | _ => none
  | .max, [x, y], _ => some (.minmax true x y)
  | .min, [x, y], _ => some (.minmax false x y)
  | .append, [x, y], [t, u] => if t = u then match tk P t with
      | .slice e => match P.info? e with
        | some i => if zeroFits i && decide (0 < i.size) then some (.app e i.size i.bytes x y) else none
        | none => none
      | _ => none
    else none
  | _, _, _ => none

def compOp (P : Program) (N : Nat) : Op → Option IOp
  | .move x => if opOk P N x then some (.mov x) else none
  | .assign x => if opOk P N x then some (.mov x) else none
  | .pick c x y => if opOk P N c && opOk P N x && opOk P N y then some (.pick c x y) else none
  | .alloc e => match zeros? P e with
    | some z => some (.alloc e z)
    | none => none
  | .box e x => if opOk P N x then some (.box e x) else none
  | .build t ps => if buildOk P t then match zeros? P t with
    | some z => match partsOf P N (placeOf P t) ps.toList with
      | some l => some (.build z l)
      | none => none
    | none => none
    else none
  | .buildSlice t len ps => match tk P t with
    | .slice e => match P.info? e with
      | some i => match (if len * i.size = 0 then some [] else zeros? P e) with
        | some z => if len * i.size ≤ 16777216 ∧ (len * i.size ≠ 0 → z ≠ []) then
            match partsOf P N (fun k => some (k * i.size, i.size)) ps.toList with
            | some l => some (.bslice e ((List.range (len * i.size)).map fun k => z.getD (k % z.length) undefV) len l)
            | none => none
          else none
        | none => none
      | none => none
    | _ => none
  | .load t x => if opOk P N x then match tk P t with
      | .agg => match sizeOf? P t with
        | some n => some (.loadN n x)
        | none => none
      | .other => none
      | _ => some (.load1 x)
    else none
  | .store t x v => if opOk P N x && opOk P N v then match sizeOf? P t with
      | some n => some (.store n x v)
      | none => none
    else none
  | .nilCheck x => if opOk P N x then some (.nilck x) else none
  | .binOp op t x y _ => compBin P N op t x y
  | .unOp op _ x => if opOk P N x then some (.un op x) else none
  | .convert s d x => if opOk P N x then match tk P s, tk P d with
      | .int _, .int k => some (.conv k x)
      | _, _ => none
    else none
  | .field t x i => if opOk P N x then match P.underlying t with
      | some (.struct fs) => match fs[i]? with
        | some f => match tk P f.type with
          | .agg => match sizeOf? P f.type with
            | some n => some (.fldN n f.offset x)
            | none => none
          | .other => none
          | _ => some (.fld1 f.offset x)
        | none => none
      | _ => none
    else none
  | .fieldAddr t x i => if opOk P N x then match P.underlying t with
      | some (.struct fs) => match fs[i]? with
        | some f => match sizeOf? P f.type with
          | some 0 => none
          | some _ => some (.faddr f.offset x)
          | none => none
        | none => none
      | _ => none
    else none
  | .indexAddr t x i => if opOk P N x && opOk P N i then match P.underlying t with
      | some (.slice e) => match sizeOf? P e with
        | some n => some (.iaddr n x i)
        | none => none
      | some (.array len e) => match sizeOf? P e with
        | some n => some (.iaddrA len n x i)
        | none => none
      | _ => none
    else none
  | .index t x i => if opOk P N x && opOk P N i then match P.underlying t with
      | some (.array len e) => match sizeOf? P e with
        | some n => match tk P e with
          | .agg => none
          | .other => none
          | _ => some (.idx1 len n x i)
        | none => none
      | _ => none
    else none
  | .slice t x lo hi mx => if opOk P N x && optOk P N lo && optOk P N hi && optOk P N mx && (hi.isSome || mx.isNone) then match tk P t with
      | .slice e => match sizeOf? P e with
        | some n => some (.slice e n x lo hi mx)
        | none => none
      | _ => none
    else none
  | .makeFunc (.func f) u v => if u.toList.all (opOk P N) && v.toList.all (opOk P N) then some (.mkfn f u.toList v.toList) else none
  | .extract x i => if opOk P N x then some (.ext x i) else none
  | .call ⟨.builtin b, args, tys⟩ => compBuiltin P N b args.toList tys.toList
  | .call ⟨.value f, args, _⟩ => if opOk P N f && args.toList.all (opOk P N) then some (.call f args.toList) else none
  | _ => none

def compGuard (N : Nat) (ops : Array Oper) : Option (Nat × Bool) → Option (Option (Nat × Bool))
  | none => some none
  | some (j, want) => match ops[j]? with
    | some o => match o.dst with
      | some t => if t < N then some (some (t, want)) else none
      | none => none
    | none => none

def compOper (P : Program) (N : Nat) (ops : Array Oper) (o : Oper) : Option IOper :=
  if dstOk N o.dst then
    match compOp P N o.op, compGuard N ops o.guard with
    | some op, some g => some ⟨o.dst, op, g⟩
    | _, _ => none
  else none

def compOpers (P : Program) (N : Nat) (ops : Array Oper) : List Oper → Option (List IOper)
  | [] => some []
  | o :: r => match compOper P N ops o with
    | some io => match compOpers P N ops r with
      | some l => some (io :: l)
      | none => none
    | none => none

/-- Ancestors, by the edges that bind whatever compiler. -/
def anc (ops : List Oper) : List (List Nat) :=
  ops.foldl (fun acc o => acc ++ [o.after.toList.foldl (fun s e => if Region.binds .any e then (e.on :: acc.getD e.on []) ++ s else s) []]) []

def isLoadI : IOp → Bool
  | .load1 _ | .loadN _ _ => true
  | _ => false

/-- Operations that leave memory as it is and read none of it. -/
def isPureI : IOp → Bool
  | .mov _ | .pick .. | .build .. | .nilck _ | .bin .. | .beq .. | .neq .. | .sneq .. | .seq .. | .un .. | .conv .. | .fld1 .. | .fldN .. | .faddr .. | .iaddr .. | .iaddrA .. | .idx1 ..
  | .len _ | .mkfn .. | .ext .. | .minmax .. => true
  | _ => false

def operTmps : Operand → List Nat
  | .tmp t => [t]
  | _ => []
def optTmps : Option Operand → List Nat
  | some x => operTmps x
  | none => []

def iopTmps : IOp → List Nat
  | .mov x | .box _ x | .load1 x | .loadN _ x | .nilck x | .un _ x | .conv _ x | .fld1 _ x | .fldN _ _ x | .faddr _ x | .len x | .ext x _ => operTmps x
  | .pick c x y => operTmps c ++ operTmps x ++ operTmps y
  | .alloc _ _ => []
  | .build _ ps | .bslice _ _ _ ps => ps.flatMap fun p => operTmps p.2.2
  | .store _ x v => operTmps x ++ operTmps v
  | .bin _ x y | .beq _ x y | .neq _ x y | .sneq _ x y | .seq _ _ x y | .iaddr _ x y | .iaddrA _ _ x y | .idx1 _ _ x y | .minmax _ x y | .app _ _ _ x y => operTmps x ++ operTmps y
  | .slice _ _ x lo hi mx => operTmps x ++ optTmps lo ++ optTmps hi ++ optTmps mx
  | .mkfn _ u v => u.flatMap operTmps ++ v.flatMap operTmps
  | .call f args => operTmps f ++ args.flatMap operTmps

def reads (o : IOper) : List Nat := iopTmps o.op ++ (match o.guard with | some (t, _) => [t] | none => [])

/-- Whether one puts what the other looks at, or puts. -/
def clash (a b : IOper) : Bool :=
  (match a.dst with | some d => (reads b).contains d || b.dst == some d | none => false) || (match b.dst with | some d => (reads a).contains d | none => false)

theorem clash_spec {a b : IOper} (h : clash a b = false) : (∀ d, a.dst = some d → d ∉ reads b ∧ b.dst ≠ some d) ∧ (∀ d, b.dst = some d → d ∉ reads a) := by
  unfold clash at h
  rw [Bool.or_eq_false_iff] at h
  obtain ⟨c1, c2⟩ := h
  refine ⟨fun d hd => ?_, fun d hd => ?_⟩
  · rw [hd] at c1
    simp only [Bool.or_eq_false_iff, beq_eq_false_iff_ne] at c1
    exact ⟨by simpa using c1.1, c1.2⟩
  · rw [hd] at c2
    simpa using c2

/-- The pairs (effect, load) of a region whose order is open; none: an order that would matter is open. -/
def pairOk (ac : List (List Nat)) (ops : List IOper) (i j : Nat) : Option (List (Nat × Nat)) :=
  match ops[i]?, ops[j]? with
  | some a, some b =>
    if (ac.getD j []).contains i then some [] else
    if clash a b then none else
    if isPureI a.op || isPureI b.op then some [] else
    if isLoadI a.op then (if isLoadI b.op then some [] else some [(j, i)]) else
    if isLoadI b.op then some [(i, j)] else none
  | _, _ => none

def pairsFrom (ac : List (List Nat)) (ops : List IOper) (i : Nat) : List Nat → Option (List (Nat × Nat))
  | [] => some []
  | j :: r => match pairOk ac ops i j with
    | some l => match pairsFrom ac ops i r with
      | some m => some (l ++ m)
      | none => none
    | none => none

def pairsAll (ac : List (List Nat)) (ops : List IOper) (n : Nat) : List Nat → Option (List (Nat × Nat))
  | [] => some []
  | i :: r => match pairsFrom ac ops i ((List.range n).filter (i < ·)) with
    | some l => match pairsAll ac ops n r with
      | some m => some (l ++ m)
      | none => none
    | none => none

def edgesOk (ops : Array Oper) : Bool := ops.zipIdx.toList.all fun (o, i) => o.after.toList.all fun e => !Region.binds .any e || e.on < i

def comp (P : Program) (N : Nat) : Code → Option IC
  | .skip => some .skip
  | .label _ => some .skip
  | .region _ ops d => match compOpers P N ops ops.toList with
    | none => none
    | some l => if d then
        if edgesOk ops && P.follows .mixedOrders then match pairsAll (anc ops.toList) l ops.size (List.range ops.size) with
          | some chk => some (.draw l chk)
          | none => none
        else none
      else some (.region l)
  | .seq x y => match comp P N x, comp P N y with
    | some a, some b => some (.seq a b)
    | _, _ => none
  | .cond c x y => if opOk P N c then match comp P N x, comp P N y with
      | some a, some b => some (.cond c a b)
      | _, _ => none
    else none
  | .block id x => match comp P N x with
    | some a => some (.block id a)
    | none => none
  | .loop x => match comp P N x with
    | some a => some (.loop a)
    | none => none
  | .rangeFunc f ps x y => if opOk P N f && ps.toList.all (fun p => decide (p < N)) then match comp P N x, comp P N y with
      | some a, some b => some (.rangeF f ps.toList a b)
      | _, _ => none
    else none
  | .scope x => match comp P N x with
    | some a => some (.seq a .skip)
    | none => none
  | .exit id => some (.exit id)
  | .ret => some .ret
  | _ => none

def compRes (P : Program) : ResultVar → Option IRes
  | .tmp t => some (.tmp t)
  | .cell a t => match tk P t with
    | .agg => match sizeOf? P t with
      | some n => some (.cellN n a)
      | none => none
    | .other => none
    | _ => some (.cell1 a)

def compResL (P : Program) : List ResultVar → Option (List IRes)
  | [] => some []
  | r :: rs => match compRes P r, compResL P rs with
    | some a, some l => some (a :: l)
    | _, _ => none

/-- A function. -/
def compFun (P : Program) (fn : Func) : Option IFun :=
  match fn.body with
  | some c => match comp P fn.ntmps c, compResL P fn.results.toList with
    | some b, some r => some ⟨fn.ntmps, b, r⟩
    | _, _ => none
  | none => none

end Go.Am
