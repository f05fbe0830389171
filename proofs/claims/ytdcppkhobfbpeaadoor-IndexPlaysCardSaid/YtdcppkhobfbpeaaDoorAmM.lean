/-
  The abstract machine: rules for carrying out code by simp.
-/
import Derived.Test.YtdcppkhobfbpeaaDoorAmL
set_option linter.unusedVariables false
set_option linter.unusedSimpArgs false
namespace Go.Am
open Go

variable {T : FuncId → Option IFun}

attribute [go_sem] WE_skip WE_exit WE_ret WE_region WE_draw WE_seq WE_block WE_cond WI_true WI_false KS_normal KS_exit KS_ret KB_normal KB_ret KB_exit KR_is KO_is VO_is KT_is WO_nil WO_cons WG_none WG_call WN_some WT_nil WT_cons VF_none VF_call VN_some

@[go_sem] theorem wants_none {a : Nat → Value} : wants a none = some true := rfl
@[go_sem] theorem wants_some {a : Nat → Value} {t : Nat} {w : Bool} : wants a (some (t, w)) = match a t with | .bool b => some (b == w) | .tuple _ => some false | _ => none := rfl
@[go_sem] theorem undefV_is : undefV = .tuple #[] := rfl
theorem put_is {a : Nat → Value} {t : Nat} {v : Value} {u : Nat} : put a t v u = if u = t then v else a u := rfl
@[go_sem] theorem putO_some {a : Nat → Value} {t : Nat} {v : Value} : putO a (some t) v = put a t v := rfl
@[go_sem] theorem putO_none {a : Nat → Value} {v : Value} : putO a none v = a := rfl
@[go_sem] theorem opd_tmp {a : Nat → Value} {t : Nat} : opd a (.tmp t) = a t := rfl
@[go_sem] theorem opd_const {a : Nat → Value} {v : Value} : opd a (.const v) = v := rfl
@[go_sem] theorem opd_func {a : Nat → Value} {f : FuncId} : opd a (.func f) = .func (.func f) #[] #[] := rfl
@[go_sem] theorem opd_global {a : Nat → Value} {g : Nat} : opd a (.global g) = .pointer (some ⟨g, 0, none⟩) := rfl
theorem initA_is {l : List Value} {i : Nat} : initA l i = l.getD i undefV := rfl

-- the heap
@[go_sem] theorem push_n {h : Heap} {b : Blk} : (h.push b).n = h.n + 1 := by cases h; rfl
@[go_sem] theorem set_n {h : Heap} {k : Nat} {b : Blk} : (h.set k b).n = h.n := by cases h; rfl
@[go_sem] theorem get_push_lt {h : Heap} {b : Blk} {i : Nat} (hi : i < h.n) : (h.push b).get i = h.get i := by simp only [Heap.push]; rw [if_neg (by omega)]
@[go_sem] theorem get_push_eq {h : Heap} {b : Blk} {i : Nat} (hi : i = h.n) : (h.push b).get i = b := by simp only [Heap.push]; rw [if_pos hi]
@[go_sem] theorem get_set_ne {h : Heap} {b : Blk} {k i : Nat} (hi : i ≠ k) : (h.set k b).get i = h.get i := by simp only [Heap.set]; rw [if_neg hi]
@[go_sem] theorem get_set_eq {h : Heap} {b : Blk} {k i : Nat} (hi : i = k) : (h.set k b).get i = b := by simp only [Heap.set]; rw [if_pos hi]
@[go_sem] theorem set_push_eq {h : Heap} {b b' : Blk} {k : Nat} (hk : k = h.n) : (h.push b).set k b' = h.push b' := by
  subst hk
  simp only [Heap.push, Heap.set]
  congr 1
  funext i
  split <;> rfl
@[go_sem] theorem set_push_lt {h : Heap} {b b' : Blk} {k : Nat} (hk : k < h.n) : (h.push b).set k b' = (h.set k b').push b := by
  simp only [Heap.push, Heap.set]
  congr 1
  funext i
  by_cases h1 : i = k
  · have h2 : i ≠ h.n := by omega
    simp [h1, h2 ∘ (h1 ▸ ·)]
    omega
  · simp [h1]
@[go_sem] theorem set_set {h : Heap} {b b' : Blk} {k : Nat} : (h.set k b).set k b' = h.set k b' := by
  simp only [Heap.set]
  congr 1
  funext i
  by_cases h1 : i = k <;> simp [h1]

@[go_sem] theorem getAt_zero {c : List Value} {o : Nat} : getAt c o 0 = some [] := rfl
@[go_sem] theorem getAt_succ {x : Value} {c : List Value} {o n : Nat} : getAt (x :: c) (o + 1) n = getAt c o n := by
  induction n generalizing o with
  | zero => rfl
  | succ n ih => simp only [getAt, ih, List.getElem?_cons_succ]
@[go_sem] theorem getAt_head {x : Value} {c : List Value} {n : Nat} : getAt (x :: c) 0 (n + 1) = match getAt c 0 n with | some r => some (x :: r) | none => none := by
  simp only [getAt, List.getElem?_cons_zero, getAt_succ]
  rfl
@[go_sem] theorem setAt_nil {c : List Value} {o : Nat} : setAt c o [] = c := rfl
@[go_sem] theorem setAt_succ {x : Value} {c : List Value} {o : Nat} {vs : List Value} : setAt (x :: c) (o + 1) vs = x :: setAt c o vs := by
  induction vs generalizing o c with
  | nil => rfl
  | cons v r ih => simp only [setAt, List.set_cons_succ, ih]
@[go_sem] theorem setAt_head {x : Value} {c : List Value} {v : Value} {vs : List Value} : setAt (x :: c) 0 (v :: vs) = v :: setAt c 0 vs := by
  simp only [setAt, List.set_cons_zero, setAt_succ]

@[go_sem] theorem load_cells {h : Heap} {b o n : Nat} : h.load b o n = match h.get b with | .cells c _ _ => getAt c o n | _ => none := rfl
/-- A store into cells. -/
def storeC (h : Heap) (b o : Nat) (vs c : List Value) (e : TypeId) (n l : Nat) : Option Heap := if n ≤ l then some (h.set b (.cells (setAt c o vs) e false)) else none
@[go_sem] theorem store_cells {h : Heap} {b o : Nat} {vs : List Value} : h.store b o vs = match h.get b with | .cells c e false => storeC h b o vs c e (o + vs.length) c.length | _ => none := rfl
@[go_sem] theorem storeC_in {h : Heap} {b o : Nat} {vs c : List Value} {e : TypeId} {n l : Nat} (hl : n ≤ l) : storeC h b o vs c e n l = some (h.set b (.cells (setAt c o vs) e false)) := if_pos hl

-- the cells of a value
@[go_sem] theorem vcells_ub {x : BitVec 64} : vcells (ub x) = some [ub x] := rfl
@[go_sem] theorem vcells_int {k : IntKind} {x : Int} : vcells (.int k x) = some [.int k x] := rfl
@[go_sem] theorem vcells_bool {x : Bool} : vcells (.bool x) = some [.bool x] := rfl
@[go_sem] theorem vcells_pointer {x : Option Addr} : vcells (.pointer x) = some [.pointer x] := rfl
@[go_sem] theorem vcells_slice {x : Option Addr} {n c : Nat} : vcells (.slice x n c) = some [.slice x n c] := rfl
@[go_sem] theorem vcells_func {f : Fn} {u v : Array Value} : vcells (.func f u v) = some [.func f u v] := rfl
@[go_sem] theorem vcells_nilFunc : vcells .nilFunc = some [.nilFunc] := rfl
@[go_sem] theorem vcells_map {x : Option Nat} : vcells (.map x) = some [.map x] := rfl
@[go_sem] theorem vcells_agg {l : List Value} : vcells (.agg l.toArray) = some l := rfl

@[go_sem] theorem fillL_nil {cs : List Value} : fillL cs [] = some cs := rfl
@[go_sem] theorem fillL_cons {cs : List Value} {off size : Nat} {v : Value} {r : List (Nat × Nat × Value)} : fillL cs ((off, size, v) :: r) = match vcells v with | some vs => if vs.length = size ∧ off + size ≤ cs.length then fillL (setAt cs off vs) r else none | none => none := rfl
@[go_sem] theorem partsV_nil {a : Nat → Value} : partsV a [] = [] := rfl
@[go_sem] theorem partsV_cons {a : Nat → Value} {o s : Nat} {x : Operand} {r : List (Nat × Nat × Operand)} : partsV a ((o, s, x) :: r) = (o, s, opd a x) :: partsV a r := rfl

-- operations on values
def OH (h : Heap) (o : Option Value) : Option (Value × Heap) := match o with | some v => some (v, h) | none => none
@[go_sem] theorem OH_some {h : Heap} {v : Value} : OH h (some v) = some (v, h) := rfl
@[go_sem] theorem OH_ite {h : Heap} {p : Prop} [Decidable p] {x y : Option Value} : OH h (if p then x else y) = if p then OH h x else OH h y := by split <;> rfl

def binE (op : BinOp) (x y : Value) : Option Value := match x, y with
  | .int k m, .int k' m' => match calmV (Go.binOp op 0 (.int k m) (.int k' m')) with
    | some v => if constV v then some v else none
    | none => none
  | _, _ => none
@[go_sem] theorem ev_bin {c : CallT} {a : Nat → Value} {h : Heap} {o : BinOp} {x y : Operand} : evOp c a h (.bin o x y) = OH h (binE o (opd a x) (opd a y)) := by
  simp only [evOp, binE, OH]
  generalize opd a x = X
  generalize opd a y = Y
  cases X <;> try rfl
  cases Y <;> try rfl
  simp only
  generalize calmV _ = C
  cases C with
  | none => rfl
  | some v => simp only; cases constV v <;> rfl
def unE (op : UnOp) (x : Value) : Option Value := match x with
  | .int k m => match calmV (Op.unary op (.int k m)) with
    | some v => if constV v then some v else none
    | none => none
  | .bool m => match calmV (Op.unary op (.bool m)) with
    | some v => if constV v then some v else none
    | none => none
  | _ => none
@[go_sem] theorem ev_un {c : CallT} {a : Nat → Value} {h : Heap} {o : UnOp} {x : Operand} : evOp c a h (.un o x) = OH h (unE o (opd a x)) := by
  simp only [evOp, unE, OH]
  generalize opd a x = X
  cases X <;> try rfl
  all_goals
    simp only
    generalize calmV _ = C
    cases C with
    | none => rfl
    | some v => simp only; cases constV v <;> rfl
def convE (k : IntKind) (x : Value) : Option Value := match x with
  | .int _ m => some (.int k (k.wrap m))
  | _ => none
@[go_sem] theorem ev_conv {c : CallT} {a : Nat → Value} {h : Heap} {k : IntKind} {x : Operand} : evOp c a h (.conv k x) = OH h (convE k (opd a x)) := by
  simp only [evOp, convE, OH]
  cases opd a x <;> rfl
def beqE (neg : Bool) (x y : Value) : Option Value := match x, y with
  | .bool m, .bool m' => some (.bool (if neg then !(m == m') else m == m'))
  | _, _ => none
@[go_sem] theorem ev_beq {c : CallT} {a : Nat → Value} {h : Heap} {n : Bool} {x y : Operand} : evOp c a h (.beq n x y) = OH h (beqE n (opd a x) (opd a y)) := by
  simp only [evOp, beqE, OH]
  cases opd a x <;> cases opd a y <;> rfl
def load1E (h : Heap) (o : Option (List Value)) : Option (Value × Heap) := match o with
  | some [v] => some (v, h)
  | _ => none
@[go_sem] theorem load1E_some {h : Heap} {v : Value} : load1E h (some [v]) = some (v, h) := rfl
@[go_sem] theorem ev_load1 {c : CallT} {a : Nat → Value} {h : Heap} {x : Operand} : evOp c a h (.load1 x) = match opd a x with | .pointer (some ⟨b, o, none⟩) => load1E h (h.load b o 1) | _ => none := rfl
def loadNE (h : Heap) (o : Option (List Value)) : Option (Value × Heap) := match o with
  | some vs => some (.agg vs.toArray, h)
  | none => none
@[go_sem] theorem loadNE_some {h : Heap} {vs : List Value} : loadNE h (some vs) = some (.agg vs.toArray, h) := rfl
@[go_sem] theorem ev_loadN {c : CallT} {a : Nat → Value} {h : Heap} {n : Nat} {x : Operand} : evOp c a h (.loadN n x) = match opd a x with | .pointer (some ⟨b, o, none⟩) => loadNE h (h.load b o n) | _ => none := rfl
def storeE (o : Option Heap) : Option (Value × Heap) := match o with
  | some h' => some (undefV, h')
  | none => none
@[go_sem] theorem storeE_some {h : Heap} : storeE (some h) = some (undefV, h) := rfl
@[go_sem] theorem ev_store {c : CallT} {a : Nat → Value} {h : Heap} {n : Nat} {x v : Operand} : evOp c a h (.store n x v) = match opd a x with
  | .pointer (some ⟨b, o, none⟩) => match vcells (opd a v) with
    | some vs => if vs.length = n then storeE (h.store b o vs) else none
    | none => none
  | _ => none := rfl
@[go_sem] theorem ev_mov {c : CallT} {a : Nat → Value} {h : Heap} {x : Operand} : evOp c a h (.mov x) = some (opd a x, h) := rfl
@[go_sem] theorem ev_pick {c : CallT} {a : Nat → Value} {h : Heap} {x y z : Operand} : evOp c a h (.pick x y z) = match opd a x with | .bool b => some (if b then opd a y else opd a z, h) | _ => none := rfl
@[go_sem] theorem ev_alloc {c : CallT} {a : Nat → Value} {h : Heap} {e : TypeId} {z : List Value} : evOp c a h (.alloc e z) = some (.pointer (some ⟨h.n, 0, none⟩), h.push (.cells z e false)) := rfl
@[go_sem] theorem ev_box {c : CallT} {a : Nat → Value} {h : Heap} {e : TypeId} {x : Operand} : evOp c a h (.box e x) = match vcells (opd a x) with | some cs => some (.pointer (some ⟨h.n, 0, none⟩), h.push (.cells cs e false)) | none => none := rfl
@[go_sem] theorem ev_build {c : CallT} {a : Nat → Value} {h : Heap} {z : List Value} {ps : List (Nat × Nat × Operand)} : evOp c a h (.build z ps) = match fillL z (partsV a ps) with | some cs => some (.agg cs.toArray, h) | none => none := rfl
@[go_sem] theorem ev_bslice {c : CallT} {a : Nat → Value} {h : Heap} {e : TypeId} {z : List Value} {n : Nat} {ps : List (Nat × Nat × Operand)} : evOp c a h (.bslice e z n ps) = match fillL z (partsV a ps) with | some cs => some (.slice (some ⟨h.n, 0, none⟩) n n, h.push (.cells cs e false)) | none => none := rfl
@[go_sem] theorem ev_nilck {c : CallT} {a : Nat → Value} {h : Heap} {x : Operand} : evOp c a h (.nilck x) = match opd a x with | .pointer (some p) => some (.pointer (some p), h) | .func (.func f) u v => some (.func (.func f) u v, h) | .func (.yield f) u v => some (.func (.yield f) u v, h) | _ => none := rfl
@[go_sem] theorem ev_neq {c : CallT} {a : Nat → Value} {h : Heap} {n : Bool} {x y : Operand} : evOp c a h (.neq n x y) = match opd a x, opd a y with | .pointer p, .pointer none => some (.bool (if n then !p.isNone else p.isNone), h) | _, _ => none := rfl
@[go_sem] theorem ev_sneq {c : CallT} {a : Nat → Value} {h : Heap} {n : Bool} {x y : Operand} : evOp c a h (.sneq n x y) = match opd a x, opd a y with | .slice p _ _, .slice none _ _ => some (.bool (if n then !p.isNone else p.isNone), h) | _, _ => none := rfl
def lenE (h : Heap) (v : Value) : Option (Value × Heap) := match v with | .slice _ n _ => some (.int .i64 n, h) | _ => none
@[go_sem] theorem lenE_is {h : Heap} {a : Option Addr} {n c : Nat} : lenE h (.slice a n c) = some (.int .i64 n, h) := rfl
@[go_sem] theorem ev_len {c : CallT} {a : Nat → Value} {h : Heap} {x : Operand} : evOp c a h (.len x) = lenE h (opd a x) := rfl
@[go_sem] theorem ev_mkfn {c : CallT} {a : Nat → Value} {h : Heap} {f : FuncId} {u v : List Operand} : evOp c a h (.mkfn f u v) = some (.func (.func f) (u.map (opd a)).toArray (v.map (opd a)).toArray, h) := rfl
@[go_sem] theorem ev_ext {c : CallT} {a : Nat → Value} {h : Heap} {x : Operand} {i : Nat} : evOp c a h (.ext x i) = match opd a x with | .tuple vs => (match vs[i]? with | some v => some (v, h) | none => none) | _ => none := rfl
@[go_sem] theorem ev_fld1 {c : CallT} {a : Nat → Value} {h : Heap} {x : Operand} {i : Nat} : evOp c a h (.fld1 i x) = match opd a x with | .agg vs => (match vs[i]? with | some v => some (v, h) | none => none) | _ => none := rfl
@[go_sem] theorem ev_fldN {c : CallT} {a : Nat → Value} {h : Heap} {x : Operand} {n i : Nat} : evOp c a h (.fldN n i x) = match opd a x with | .agg vs => some (.agg (vs.extract i (i + n)), h) | _ => none := rfl
@[go_sem] theorem ev_faddr {c : CallT} {a : Nat → Value} {h : Heap} {x : Operand} {i : Nat} : evOp c a h (.faddr i x) = match opd a x with | .pointer (some ⟨b, o, none⟩) => some (.pointer (some ⟨b, o + i, none⟩), h) | _ => none := rfl
/-- An index that lies within. -/
def inE (i : Int) (n : Nat) (r : Option (Value × Heap)) : Option (Value × Heap) := if 0 ≤ i ∧ i < n then r else none
@[go_sem] theorem inE_in {i : Int} {n : Nat} {r : Option (Value × Heap)} (h0 : 0 ≤ i) (h1 : i < n) : inE i n r = r := if_pos ⟨h0, h1⟩
def iaddrE (h : Heap) (s : Nat) (x i : Value) : Option (Value × Heap) := match x, i with | .slice (some ⟨b, o, none⟩) n _, .int _ j => inE j n (some (.pointer (some ⟨b, o + j.toNat * s, none⟩), h)) | _, _ => none
@[go_sem] theorem iaddrE_is {h : Heap} {s b o n c : Nat} {k : IntKind} {j : Int} : iaddrE h s (.slice (some ⟨b, o, none⟩) n c) (.int k j) = inE j n (some (.pointer (some ⟨b, o + j.toNat * s, none⟩), h)) := rfl
@[go_sem] theorem ev_iaddr {c : CallT} {a : Nat → Value} {h : Heap} {s : Nat} {x i : Operand} : evOp c a h (.iaddr s x i) = iaddrE h s (opd a x) (opd a i) := rfl
@[go_sem] theorem ev_iaddrA {c : CallT} {a : Nat → Value} {h : Heap} {l s : Nat} {x i : Operand} : evOp c a h (.iaddrA l s x i) = match opd a x, opd a i with | .pointer (some ⟨b, o, none⟩), .int _ j => inE j l (some (.pointer (some ⟨b, o + j.toNat * s, none⟩), h)) | _, _ => none := rfl
@[go_sem] theorem ev_idx1 {c : CallT} {a : Nat → Value} {h : Heap} {l s : Nat} {x i : Operand} : evOp c a h (.idx1 l s x i) = match opd a x, opd a i with | .agg cs, .int _ j => inE j l (match cs[j.toNat * s]? with | some v => some (v, h) | none => none) | _, _ => none := rfl
def mmE (h : Heap) (m : Bool) (x y : Value) : Option (Value × Heap) := match x, y with | .int k p, .int k' q => some (.int k (if m then (if q > p then q else p) else (if q < p then q else p)), h) | _, _ => none
@[go_sem] theorem ev_minmax {c : CallT} {a : Nat → Value} {h : Heap} {m : Bool} {x y : Operand} : evOp c a h (.minmax m x y) = mmE h m (opd a x) (opd a y) := rfl
@[go_sem] theorem mm_max_r {h : Heap} {k k' : IntKind} {p q : Int} (hpq : p ≤ q) : mmE h true (.int k p) (.int k' q) = some (.int k q, h) := by
  simp only [mmE, if_true]
  by_cases e : p = q
  · subst e; simp
  · rw [if_pos (by omega)]
@[go_sem] theorem mm_max_l {h : Heap} {k k' : IntKind} {p q : Int} (hpq : q ≤ p) : mmE h true (.int k p) (.int k' q) = some (.int k p, h) := by simp only [mmE, if_true]; rw [if_neg (by omega)]
@[go_sem] theorem mm_min_r {h : Heap} {k k' : IntKind} {p q : Int} (hpq : q ≤ p) : mmE h false (.int k p) (.int k' q) = some (.int k q, h) := by
  simp only [mmE, Bool.false_eq_true, if_false]
  by_cases e : p = q
  · subst e; simp
  · rw [if_pos (by omega)]
@[go_sem] theorem mm_min_l {h : Heap} {k k' : IntKind} {p q : Int} (hpq : p ≤ q) : mmE h false (.int k p) (.int k' q) = some (.int k p, h) := by simp only [mmE, Bool.false_eq_true, if_false]; rw [if_neg (by omega)]
@[go_sem] theorem ev_app {c : CallT} {a : Nat → Value} {h : Heap} {e : TypeId} {s b : Nat} {x y : Operand} : evOp c a h (.app e s b x y) = appV h e s b (opd a x) (opd a y) := rfl
@[go_sem] theorem ev_seq {c : CallT} {a : Nat → Value} {h : Heap} {n : Bool} {os : List (Nat × Bool)} {x y : Operand} : evOp c a h (.seq n os x y) = match opd a x, opd a y with | .agg xs, .agg ys => (match seqEq xs ys os with | some b => some (.bool (if n then !b else b), h) | none => none) | _, _ => none := rfl

-- whole numbers
theorem calm_of {k : IntKind} {m n : Int} {op : BinOp} {v : Value} (h : Go.binOp op 0 (.int k m) (.int k n) = .pure v) (hc : constV v = true) : binE op (.int k m) (.int k n) = some v := by
  simp [binE, h, calmV, hc]
@[go_sem] theorem bin_add {k : IntKind} {m n : Int} : binE .add (.int k m) (.int k n) = some (.int k (k.wrap (m + n))) := calm_of (by simp [Go.binOp, Op.intArith]; rfl) rfl
@[go_sem] theorem bin_sub {k : IntKind} {m n : Int} : binE .sub (.int k m) (.int k n) = some (.int k (k.wrap (m - n))) := calm_of (by simp [Go.binOp, Op.intArith]; rfl) rfl
@[go_sem] theorem bin_mul {k : IntKind} {m n : Int} : binE .mul (.int k m) (.int k n) = some (.int k (k.wrap (m * n))) := calm_of (by simp [Go.binOp, Op.intArith]; rfl) rfl
@[go_sem] theorem bin_quo {k : IntKind} {m n : Int} (h : n ≠ 0) : binE .quo (.int k m) (.int k n) = some (.int k (k.wrap (m.tdiv n))) := calm_of (by simp [Go.binOp, Op.intDiv, h]; rfl) rfl
@[go_sem] theorem bin_rem {k : IntKind} {m n : Int} (h : n ≠ 0) : binE .rem (.int k m) (.int k n) = some (.int k (m.tmod n)) := calm_of (by simp [Go.binOp, Op.intDiv, h]; rfl) rfl
@[go_sem] theorem bin_lss {k : IntKind} {m n : Int} : binE .lss (.int k m) (.int k n) = some (.bool (decide (m < n))) := calm_of (by simp [Go.binOp, Op.intCmp]; rfl) rfl
@[go_sem] theorem bin_leq {k : IntKind} {m n : Int} : binE .leq (.int k m) (.int k n) = some (.bool (decide (m ≤ n))) := calm_of (by simp [Go.binOp, Op.intCmp]; rfl) rfl
@[go_sem] theorem bin_gtr {k : IntKind} {m n : Int} : binE .gtr (.int k m) (.int k n) = some (.bool (decide (m > n))) := calm_of (by simp [Go.binOp, Op.intCmp]; rfl) rfl
@[go_sem] theorem bin_geq {k : IntKind} {m n : Int} : binE .geq (.int k m) (.int k n) = some (.bool (decide (m ≥ n))) := calm_of (by simp [Go.binOp, Op.intCmp]; rfl) rfl
@[go_sem] theorem bin_eql {k : IntKind} {m n : Int} : binE .eql (.int k m) (.int k n) = some (.bool (decide (m = n))) := calm_of (by simp [Go.binOp, Op.intCmp]; rfl) rfl
@[go_sem] theorem bin_neq {k : IntKind} {m n : Int} : binE .neq (.int k m) (.int k n) = some (.bool (!decide (m = n))) := calm_of (by simp [Go.binOp, Op.intCmp, bne]; rfl) rfl
@[go_sem] theorem bin_shl {k k' : IntKind} {m n : Int} (h : 0 ≤ n) : binE .shl (.int k m) (.int k' n) = some (.int k (k.wrap (m * 2 ^ (min n.toNat k.bits)))) := by
  simp [binE, Go.binOp, Op.shift, show ¬ n < 0 by omega]; rfl
@[go_sem] theorem bin_shr {k k' : IntKind} {m n : Int} (h : 0 ≤ n) : binE .shr (.int k m) (.int k' n) = some (.int k (m.fdiv (2 ^ (min n.toNat k.bits)))) := by
  simp [binE, Go.binOp, Op.shift, show ¬ n < 0 by omega]; rfl
@[go_sem] theorem un_not {b : Bool} : unE .not (.bool b) = some (.bool (!b)) := rfl
@[go_sem] theorem un_neg {k : IntKind} {m : Int} : unE .neg (.int k m) = some (.int k (k.wrap (0 - m))) := rfl
@[go_sem] theorem beqE_is {m n : Bool} : beqE false (.bool m) (.bool n) = some (.bool (m == n)) := rfl
@[go_sem] theorem beqE_not {m n : Bool} : beqE true (.bool m) (.bool n) = some (.bool (!(m == n))) := rfl
@[go_sem] theorem wrap_i64_in {n : Int} (h0 : -9223372036854775808 ≤ n) (h1 : n ≤ 9223372036854775807) : IntKind.i64.wrap n = n := by
  simp only [IntKind.wrap, IntKind.bits, IntKind.signed]
  simp only [Bool.true_and, decide_eq_true_eq, Nat.reduceSub, ge_iff_le, Int.reducePow]
  split <;> omega

-- words
theorem wrap_u64_is (n : Int) : IntKind.u64.wrap n = n % 18446744073709551616 := by
  simp only [IntKind.wrap, IntKind.bits, IntKind.signed]; rfl
theorem u64_ub (n : Int) : Value.int .u64 (IntKind.u64.wrap n) = ub (BitVec.ofInt 64 n) := by
  rw [wrap_u64_is]
  unfold ub
  congr 1
  rw [BitVec.toNat_ofInt]
  omega
@[go_sem] theorem conv_u64 {k : IntKind} {n : Int} : convE .u64 (.int k n) = some (ub (BitVec.ofInt 64 n)) := by rw [← u64_ub]; rfl
@[go_sem] theorem conv_i64 {k : IntKind} {n : Int} : convE .i64 (.int k n) = some (.int .i64 (IntKind.i64.wrap n)) := rfl
@[go_sem] theorem conv_u64_ub {x : BitVec 64} : convE .u64 (ub x) = some (ub x) := by
  show some (Value.int .u64 _) = _
  rw [u64_ub]
  congr 2
  apply BitVec.eq_of_toNat_eq
  rw [BitVec.toNat_ofInt]
  have := x.isLt
  omega
@[go_sem] theorem conv_i64_ub {x : BitVec 64} : convE .i64 (ub x) = some (.int .i64 (IntKind.i64.wrap x.toNat)) := rfl
theorem ofInt_toNat (x : BitVec 64) : BitVec.ofInt 64 (x.toNat : Int) = x := by
  apply BitVec.eq_of_toNat_eq
  rw [BitVec.toNat_ofInt]
  have := x.isLt
  omega
@[go_sem] theorem ub_add {x y : BitVec 64} : binE .add (ub x) (ub y) = some (ub (x + y)) := by
  unfold ub; rw [bin_add]; rw [u64_ub]; unfold ub
  congr 3
@[go_sem] theorem ub_sub {x y : BitVec 64} : binE .sub (ub x) (ub y) = some (ub (x - y)) := by
  unfold ub; rw [bin_sub]; rw [u64_ub]; unfold ub
  congr 3
  rw [BitVec.toNat_ofInt, BitVec.toNat_sub]; have := x.isLt; have := y.isLt; omega
@[go_sem] theorem ub_mul {x y : BitVec 64} : binE .mul (ub x) (ub y) = some (ub (x * y)) := by
  unfold ub; rw [bin_mul]; rw [u64_ub]; unfold ub
  congr 3
theorem calm_bits {x y : BitVec 64} {op : BinOp} {r : BitVec 64} (h : Go.binOp op 0 (ub x) (ub y) = .pure (.int .u64 (IntKind.u64.wrap r.toNat))) : binE op (ub x) (ub y) = some (ub r) := by
  rw [u64_ub, ofInt_toNat] at h
  exact calm_of h rfl
@[go_sem] theorem ub_and {x y : BitVec 64} : binE .and (ub x) (ub y) = some (ub (x &&& y)) := calm_bits (by simp only [ub, Go.binOp, Op.intBits, IntKind.bits, ofInt_toNat]; rfl)
@[go_sem] theorem ub_or {x y : BitVec 64} : binE .or (ub x) (ub y) = some (ub (x ||| y)) := calm_bits (by simp only [ub, Go.binOp, Op.intBits, IntKind.bits, ofInt_toNat]; rfl)
@[go_sem] theorem ub_xor {x y : BitVec 64} : binE .xor (ub x) (ub y) = some (ub (x ^^^ y)) := calm_bits (by simp only [ub, Go.binOp, Op.intBits, IntKind.bits, ofInt_toNat]; rfl)
@[go_sem] theorem ub_andNot {x y : BitVec 64} : binE .andNot (ub x) (ub y) = some (ub (x &&& ~~~y)) := calm_bits (by simp only [ub, Go.binOp, Op.intBits, IntKind.bits, ofInt_toNat]; rfl)
@[go_sem] theorem ub_eql {x y : BitVec 64} : binE .eql (ub x) (ub y) = some (.bool (decide (x = y))) := by
  unfold ub; rw [bin_eql]; congr 3; apply propext; constructor
  · intro h; apply BitVec.eq_of_toNat_eq; omega
  · intro h; rw [h]
@[go_sem] theorem ub_neq {x y : BitVec 64} : binE .neq (ub x) (ub y) = some (.bool (!decide (x = y))) := by
  unfold ub; rw [bin_neq]; congr 4; apply propext; constructor
  · intro h; apply BitVec.eq_of_toNat_eq; omega
  · intro h; rw [h]
@[go_sem] theorem ub_lss {x y : BitVec 64} : binE .lss (ub x) (ub y) = some (.bool (decide (x.toNat < y.toNat))) := by unfold ub; rw [bin_lss]; simp
@[go_sem] theorem ub_leq {x y : BitVec 64} : binE .leq (ub x) (ub y) = some (.bool (decide (x.toNat ≤ y.toNat))) := by unfold ub; rw [bin_leq]; simp
@[go_sem] theorem ub_gtr {x y : BitVec 64} : binE .gtr (ub x) (ub y) = some (.bool (decide (y.toNat < x.toNat))) := by unfold ub; rw [bin_gtr]; simp
@[go_sem] theorem ub_geq {x y : BitVec 64} : binE .geq (ub x) (ub y) = some (.bool (decide (y.toNat ≤ x.toNat))) := by unfold ub; rw [bin_geq]; simp
@[go_sem] theorem ub_shl {k : IntKind} {x : BitVec 64} {n : Int} (h : 0 ≤ n) : binE .shl (ub x) (.int k n) = some (ub (x <<< n.toNat)) := by
  unfold ub; rw [bin_shl h]; rw [u64_ub]; unfold ub
  congr 3
  rw [BitVec.toNat_ofInt, BitVec.toNat_shiftLeft, Nat.shiftLeft_eq]
  show ((x.toNat : Int) * 2 ^ (min n.toNat 64) % _).toNat = _
  by_cases hn : n.toNat ≤ 64
  · rw [Nat.min_eq_left hn]
    have : ((x.toNat : Int) * 2 ^ n.toNat) = ((x.toNat * 2 ^ n.toNat : Nat) : Int) := by simp
    rw [this]; omega
  · rw [Nat.min_eq_right (by omega)]
    obtain ⟨d, hd⟩ : ∃ d, n.toNat = 64 + d := ⟨n.toNat - 64, by omega⟩
    rw [hd, Nat.pow_add, ← Nat.mul_assoc, Nat.mul_right_comm]
    omega
@[go_sem] theorem ub_shr {k : IntKind} {x : BitVec 64} {n : Int} (h : 0 ≤ n) : binE .shr (ub x) (.int k n) = some (ub (x >>> n.toNat)) := by
  unfold ub; rw [bin_shr h]
  congr 2
  rw [BitVec.toNat_ushiftRight, Nat.shiftRight_eq_div_pow]
  show (x.toNat : Int).fdiv (2 ^ (min n.toNat 64)) = _
  have e : ∀ m : Nat, (x.toNat : Int).fdiv (2 ^ m) = ((x.toNat / 2 ^ m : Nat) : Int) := fun m => by
    rw [Int.fdiv_eq_ediv_of_nonneg _ (Int.pow_nonneg (by decide))]; simp
  rw [e]
  congr 1
  by_cases hn : n.toNat ≤ 64
  · rw [Nat.min_eq_left hn]
  · rw [Nat.min_eq_right (by omega), Nat.div_eq_of_lt x.isLt, Nat.div_eq_of_lt]
    exact Nat.lt_of_lt_of_le x.isLt (Nat.pow_le_pow_right (by decide) (by omega))
@[go_sem] theorem un_xor {x : BitVec 64} : unE .xor (ub x) = some (ub (~~~x)) := by
  have hb : Op.unary .xor (ub x) = .pure (.int .u64 (IntKind.u64.wrap (BitVec.toNat (BitVec.ofInt 64 (IntKind.max .u64) ^^^ BitVec.ofInt 64 (x.toNat : Int))))) := rfl
  have hm : BitVec.ofInt 64 (IntKind.max .u64) = BitVec.allOnes 64 := by decide
  rw [hm, ofInt_toNat, BitVec.allOnes_xor, u64_ub, ofInt_toNat] at hb
  unfold unE
  simp only [ub] at hb ⊢
  rw [hb]; rfl
@[go_sem] theorem ub_quo {x y : BitVec 64} (h : y ≠ 0#64) : binE .quo (ub x) (ub y) = some (ub (x / y)) := by
  unfold ub
  rw [bin_quo (by intro e; apply h; apply BitVec.eq_of_toNat_eq; simpa using e), u64_ub]
  congr 2
  apply BitVec.eq_of_toNat_eq
  rw [BitVec.toNat_ofInt, BitVec.toNat_udiv, Int.tdiv_eq_ediv_of_nonneg (by omega)]
  have : ((x.toNat : Int) / (y.toNat : Int)) = ((x.toNat / y.toNat : Nat) : Int) := by simp
  rw [this]
  have h1 := x.isLt
  have h2 := Nat.div_le_self x.toNat y.toNat
  generalize x.toNat / y.toNat = q at *
  omega
@[go_sem] theorem ub_rem {x y : BitVec 64} (h : y ≠ 0#64) : binE .rem (ub x) (ub y) = some (ub (x % y)) := by
  unfold ub
  rw [bin_rem (by intro e; apply h; apply BitVec.eq_of_toNat_eq; simpa using e)]
  congr 2

-- each operation, unguarded
@[go_sem] theorem WG_mov {d : Option Nat} (x : Operand) {r : List IOper} {a : Nat → Value} {h : Heap} {Q : (Nat → Value) → Heap → Prop} : WG T (some true) d (.mov x) r a h Q = WN T (evOp noCall a h (.mov x)) d r a Q := WG_some rfl
@[go_sem] theorem VF_mov {d : Option Nat} (x : Operand) {r : List IOper} {a : Nat → Value} {h : Heap} {tr0 : List TE} {Q : (Nat → Value) → Heap → List TE → Prop} : VF T (some true) d (.mov x) r a h tr0 Q = VN T (evOp noCall a h (.mov x)) h none d r a tr0 Q := VF_some rfl
@[go_sem] theorem WG_pick {d : Option Nat} (x y z : Operand) {r : List IOper} {a : Nat → Value} {h : Heap} {Q : (Nat → Value) → Heap → Prop} : WG T (some true) d (.pick x y z) r a h Q = WN T (evOp noCall a h (.pick x y z)) d r a Q := WG_some rfl
@[go_sem] theorem VF_pick {d : Option Nat} (x y z : Operand) {r : List IOper} {a : Nat → Value} {h : Heap} {tr0 : List TE} {Q : (Nat → Value) → Heap → List TE → Prop} : VF T (some true) d (.pick x y z) r a h tr0 Q = VN T (evOp noCall a h (.pick x y z)) h none d r a tr0 Q := VF_some rfl
@[go_sem] theorem WG_alloc {d : Option Nat} (e : TypeId) (z : List Value) {r : List IOper} {a : Nat → Value} {h : Heap} {Q : (Nat → Value) → Heap → Prop} : WG T (some true) d (.alloc e z) r a h Q = WN T (evOp noCall a h (.alloc e z)) d r a Q := WG_some rfl
@[go_sem] theorem VF_alloc {d : Option Nat} (e : TypeId) (z : List Value) {r : List IOper} {a : Nat → Value} {h : Heap} {tr0 : List TE} {Q : (Nat → Value) → Heap → List TE → Prop} : VF T (some true) d (.alloc e z) r a h tr0 Q = VN T (evOp noCall a h (.alloc e z)) h none d r a tr0 Q := VF_some rfl
@[go_sem] theorem WG_box {d : Option Nat} (e : TypeId) (x : Operand) {r : List IOper} {a : Nat → Value} {h : Heap} {Q : (Nat → Value) → Heap → Prop} : WG T (some true) d (.box e x) r a h Q = WN T (evOp noCall a h (.box e x)) d r a Q := WG_some rfl
@[go_sem] theorem VF_box {d : Option Nat} (e : TypeId) (x : Operand) {r : List IOper} {a : Nat → Value} {h : Heap} {tr0 : List TE} {Q : (Nat → Value) → Heap → List TE → Prop} : VF T (some true) d (.box e x) r a h tr0 Q = VN T (evOp noCall a h (.box e x)) h none d r a tr0 Q := VF_some rfl
@[go_sem] theorem WG_build {d : Option Nat} (z : List Value) (ps : List (Nat × Nat × Operand)) {r : List IOper} {a : Nat → Value} {h : Heap} {Q : (Nat → Value) → Heap → Prop} : WG T (some true) d (.build z ps) r a h Q = WN T (evOp noCall a h (.build z ps)) d r a Q := WG_some rfl
@[go_sem] theorem VF_build {d : Option Nat} (z : List Value) (ps : List (Nat × Nat × Operand)) {r : List IOper} {a : Nat → Value} {h : Heap} {tr0 : List TE} {Q : (Nat → Value) → Heap → List TE → Prop} : VF T (some true) d (.build z ps) r a h tr0 Q = VN T (evOp noCall a h (.build z ps)) h none d r a tr0 Q := VF_some rfl
@[go_sem] theorem WG_bslice {d : Option Nat} (e : TypeId) (z : List Value) (n : Nat) (ps : List (Nat × Nat × Operand)) {r : List IOper} {a : Nat → Value} {h : Heap} {Q : (Nat → Value) → Heap → Prop} : WG T (some true) d (.bslice e z n ps) r a h Q = WN T (evOp noCall a h (.bslice e z n ps)) d r a Q := WG_some rfl
@[go_sem] theorem VF_bslice {d : Option Nat} (e : TypeId) (z : List Value) (n : Nat) (ps : List (Nat × Nat × Operand)) {r : List IOper} {a : Nat → Value} {h : Heap} {tr0 : List TE} {Q : (Nat → Value) → Heap → List TE → Prop} : VF T (some true) d (.bslice e z n ps) r a h tr0 Q = VN T (evOp noCall a h (.bslice e z n ps)) h none d r a tr0 Q := VF_some rfl
@[go_sem] theorem WG_load1 {d : Option Nat} (x : Operand) {r : List IOper} {a : Nat → Value} {h : Heap} {Q : (Nat → Value) → Heap → Prop} : WG T (some true) d (.load1 x) r a h Q = WN T (evOp noCall a h (.load1 x)) d r a Q := WG_some rfl
@[go_sem] theorem VF_load1 {d : Option Nat} (x : Operand) {r : List IOper} {a : Nat → Value} {h : Heap} {tr0 : List TE} {Q : (Nat → Value) → Heap → List TE → Prop} : VF T (some true) d (.load1 x) r a h tr0 Q = VN T (evOp noCall a h (.load1 x)) h (loadAddr a (.load1 x)) d r a tr0 Q := VF_some rfl
@[go_sem] theorem WG_loadN {d : Option Nat} (n : Nat) (x : Operand) {r : List IOper} {a : Nat → Value} {h : Heap} {Q : (Nat → Value) → Heap → Prop} : WG T (some true) d (.loadN n x) r a h Q = WN T (evOp noCall a h (.loadN n x)) d r a Q := WG_some rfl
@[go_sem] theorem VF_loadN {d : Option Nat} (n : Nat) (x : Operand) {r : List IOper} {a : Nat → Value} {h : Heap} {tr0 : List TE} {Q : (Nat → Value) → Heap → List TE → Prop} : VF T (some true) d (.loadN n x) r a h tr0 Q = VN T (evOp noCall a h (.loadN n x)) h (loadAddr a (.loadN n x)) d r a tr0 Q := VF_some rfl
@[go_sem] theorem WG_store {d : Option Nat} (n : Nat) (x v : Operand) {r : List IOper} {a : Nat → Value} {h : Heap} {Q : (Nat → Value) → Heap → Prop} : WG T (some true) d (.store n x v) r a h Q = WN T (evOp noCall a h (.store n x v)) d r a Q := WG_some rfl
@[go_sem] theorem VF_store {d : Option Nat} (n : Nat) (x v : Operand) {r : List IOper} {a : Nat → Value} {h : Heap} {tr0 : List TE} {Q : (Nat → Value) → Heap → List TE → Prop} : VF T (some true) d (.store n x v) r a h tr0 Q = VN T (evOp noCall a h (.store n x v)) h none d r a tr0 Q := VF_some rfl
@[go_sem] theorem WG_nilck {d : Option Nat} (x : Operand) {r : List IOper} {a : Nat → Value} {h : Heap} {Q : (Nat → Value) → Heap → Prop} : WG T (some true) d (.nilck x) r a h Q = WN T (evOp noCall a h (.nilck x)) d r a Q := WG_some rfl
@[go_sem] theorem VF_nilck {d : Option Nat} (x : Operand) {r : List IOper} {a : Nat → Value} {h : Heap} {tr0 : List TE} {Q : (Nat → Value) → Heap → List TE → Prop} : VF T (some true) d (.nilck x) r a h tr0 Q = VN T (evOp noCall a h (.nilck x)) h none d r a tr0 Q := VF_some rfl
@[go_sem] theorem WG_bin {d : Option Nat} (o : BinOp) (x y : Operand) {r : List IOper} {a : Nat → Value} {h : Heap} {Q : (Nat → Value) → Heap → Prop} : WG T (some true) d (.bin o x y) r a h Q = WN T (evOp noCall a h (.bin o x y)) d r a Q := WG_some rfl
@[go_sem] theorem VF_bin {d : Option Nat} (o : BinOp) (x y : Operand) {r : List IOper} {a : Nat → Value} {h : Heap} {tr0 : List TE} {Q : (Nat → Value) → Heap → List TE → Prop} : VF T (some true) d (.bin o x y) r a h tr0 Q = VN T (evOp noCall a h (.bin o x y)) h none d r a tr0 Q := VF_some rfl
@[go_sem] theorem WG_beq {d : Option Nat} (n : Bool) (x y : Operand) {r : List IOper} {a : Nat → Value} {h : Heap} {Q : (Nat → Value) → Heap → Prop} : WG T (some true) d (.beq n x y) r a h Q = WN T (evOp noCall a h (.beq n x y)) d r a Q := WG_some rfl
@[go_sem] theorem VF_beq {d : Option Nat} (n : Bool) (x y : Operand) {r : List IOper} {a : Nat → Value} {h : Heap} {tr0 : List TE} {Q : (Nat → Value) → Heap → List TE → Prop} : VF T (some true) d (.beq n x y) r a h tr0 Q = VN T (evOp noCall a h (.beq n x y)) h none d r a tr0 Q := VF_some rfl
@[go_sem] theorem WG_neq {d : Option Nat} (n : Bool) (x y : Operand) {r : List IOper} {a : Nat → Value} {h : Heap} {Q : (Nat → Value) → Heap → Prop} : WG T (some true) d (.neq n x y) r a h Q = WN T (evOp noCall a h (.neq n x y)) d r a Q := WG_some rfl
@[go_sem] theorem VF_neq {d : Option Nat} (n : Bool) (x y : Operand) {r : List IOper} {a : Nat → Value} {h : Heap} {tr0 : List TE} {Q : (Nat → Value) → Heap → List TE → Prop} : VF T (some true) d (.neq n x y) r a h tr0 Q = VN T (evOp noCall a h (.neq n x y)) h none d r a tr0 Q := VF_some rfl
@[go_sem] theorem WG_sneq {d : Option Nat} (n : Bool) (x y : Operand) {r : List IOper} {a : Nat → Value} {h : Heap} {Q : (Nat → Value) → Heap → Prop} : WG T (some true) d (.sneq n x y) r a h Q = WN T (evOp noCall a h (.sneq n x y)) d r a Q := WG_some rfl
@[go_sem] theorem VF_sneq {d : Option Nat} (n : Bool) (x y : Operand) {r : List IOper} {a : Nat → Value} {h : Heap} {tr0 : List TE} {Q : (Nat → Value) → Heap → List TE → Prop} : VF T (some true) d (.sneq n x y) r a h tr0 Q = VN T (evOp noCall a h (.sneq n x y)) h none d r a tr0 Q := VF_some rfl
@[go_sem] theorem WG_seq {d : Option Nat} (n : Bool) (os : List (Nat × Bool)) (x y : Operand) {r : List IOper} {a : Nat → Value} {h : Heap} {Q : (Nat → Value) → Heap → Prop} : WG T (some true) d (.seq n os x y) r a h Q = WN T (evOp noCall a h (.seq n os x y)) d r a Q := WG_some rfl
@[go_sem] theorem VF_seq {d : Option Nat} (n : Bool) (os : List (Nat × Bool)) (x y : Operand) {r : List IOper} {a : Nat → Value} {h : Heap} {tr0 : List TE} {Q : (Nat → Value) → Heap → List TE → Prop} : VF T (some true) d (.seq n os x y) r a h tr0 Q = VN T (evOp noCall a h (.seq n os x y)) h none d r a tr0 Q := VF_some rfl
@[go_sem] theorem WG_un {d : Option Nat} (o : UnOp) (x : Operand) {r : List IOper} {a : Nat → Value} {h : Heap} {Q : (Nat → Value) → Heap → Prop} : WG T (some true) d (.un o x) r a h Q = WN T (evOp noCall a h (.un o x)) d r a Q := WG_some rfl
@[go_sem] theorem VF_un {d : Option Nat} (o : UnOp) (x : Operand) {r : List IOper} {a : Nat → Value} {h : Heap} {tr0 : List TE} {Q : (Nat → Value) → Heap → List TE → Prop} : VF T (some true) d (.un o x) r a h tr0 Q = VN T (evOp noCall a h (.un o x)) h none d r a tr0 Q := VF_some rfl
@[go_sem] theorem WG_conv {d : Option Nat} (k : IntKind) (x : Operand) {r : List IOper} {a : Nat → Value} {h : Heap} {Q : (Nat → Value) → Heap → Prop} : WG T (some true) d (.conv k x) r a h Q = WN T (evOp noCall a h (.conv k x)) d r a Q := WG_some rfl
@[go_sem] theorem VF_conv {d : Option Nat} (k : IntKind) (x : Operand) {r : List IOper} {a : Nat → Value} {h : Heap} {tr0 : List TE} {Q : (Nat → Value) → Heap → List TE → Prop} : VF T (some true) d (.conv k x) r a h tr0 Q = VN T (evOp noCall a h (.conv k x)) h none d r a tr0 Q := VF_some rfl
@[go_sem] theorem WG_fld1 {d : Option Nat} (o : Nat) (x : Operand) {r : List IOper} {a : Nat → Value} {h : Heap} {Q : (Nat → Value) → Heap → Prop} : WG T (some true) d (.fld1 o x) r a h Q = WN T (evOp noCall a h (.fld1 o x)) d r a Q := WG_some rfl
@[go_sem] theorem VF_fld1 {d : Option Nat} (o : Nat) (x : Operand) {r : List IOper} {a : Nat → Value} {h : Heap} {tr0 : List TE} {Q : (Nat → Value) → Heap → List TE → Prop} : VF T (some true) d (.fld1 o x) r a h tr0 Q = VN T (evOp noCall a h (.fld1 o x)) h none d r a tr0 Q := VF_some rfl
@[go_sem] theorem WG_fldN {d : Option Nat} (n o : Nat) (x : Operand) {r : List IOper} {a : Nat → Value} {h : Heap} {Q : (Nat → Value) → Heap → Prop} : WG T (some true) d (.fldN n o x) r a h Q = WN T (evOp noCall a h (.fldN n o x)) d r a Q := WG_some rfl
@[go_sem] theorem VF_fldN {d : Option Nat} (n o : Nat) (x : Operand) {r : List IOper} {a : Nat → Value} {h : Heap} {tr0 : List TE} {Q : (Nat → Value) → Heap → List TE → Prop} : VF T (some true) d (.fldN n o x) r a h tr0 Q = VN T (evOp noCall a h (.fldN n o x)) h none d r a tr0 Q := VF_some rfl
@[go_sem] theorem WG_faddr {d : Option Nat} (o : Nat) (x : Operand) {r : List IOper} {a : Nat → Value} {h : Heap} {Q : (Nat → Value) → Heap → Prop} : WG T (some true) d (.faddr o x) r a h Q = WN T (evOp noCall a h (.faddr o x)) d r a Q := WG_some rfl
@[go_sem] theorem VF_faddr {d : Option Nat} (o : Nat) (x : Operand) {r : List IOper} {a : Nat → Value} {h : Heap} {tr0 : List TE} {Q : (Nat → Value) → Heap → List TE → Prop} : VF T (some true) d (.faddr o x) r a h tr0 Q = VN T (evOp noCall a h (.faddr o x)) h none d r a tr0 Q := VF_some rfl
@[go_sem] theorem WG_iaddr {d : Option Nat} (s : Nat) (x i : Operand) {r : List IOper} {a : Nat → Value} {h : Heap} {Q : (Nat → Value) → Heap → Prop} : WG T (some true) d (.iaddr s x i) r a h Q = WN T (evOp noCall a h (.iaddr s x i)) d r a Q := WG_some rfl
@[go_sem] theorem VF_iaddr {d : Option Nat} (s : Nat) (x i : Operand) {r : List IOper} {a : Nat → Value} {h : Heap} {tr0 : List TE} {Q : (Nat → Value) → Heap → List TE → Prop} : VF T (some true) d (.iaddr s x i) r a h tr0 Q = VN T (evOp noCall a h (.iaddr s x i)) h none d r a tr0 Q := VF_some rfl
@[go_sem] theorem WG_iaddrA {d : Option Nat} (l s : Nat) (x i : Operand) {r : List IOper} {a : Nat → Value} {h : Heap} {Q : (Nat → Value) → Heap → Prop} : WG T (some true) d (.iaddrA l s x i) r a h Q = WN T (evOp noCall a h (.iaddrA l s x i)) d r a Q := WG_some rfl
@[go_sem] theorem VF_iaddrA {d : Option Nat} (l s : Nat) (x i : Operand) {r : List IOper} {a : Nat → Value} {h : Heap} {tr0 : List TE} {Q : (Nat → Value) → Heap → List TE → Prop} : VF T (some true) d (.iaddrA l s x i) r a h tr0 Q = VN T (evOp noCall a h (.iaddrA l s x i)) h none d r a tr0 Q := VF_some rfl
@[go_sem] theorem WG_idx1 {d : Option Nat} (l s : Nat) (x i : Operand) {r : List IOper} {a : Nat → Value} {h : Heap} {Q : (Nat → Value) → Heap → Prop} : WG T (some true) d (.idx1 l s x i) r a h Q = WN T (evOp noCall a h (.idx1 l s x i)) d r a Q := WG_some rfl
@[go_sem] theorem VF_idx1 {d : Option Nat} (l s : Nat) (x i : Operand) {r : List IOper} {a : Nat → Value} {h : Heap} {tr0 : List TE} {Q : (Nat → Value) → Heap → List TE → Prop} : VF T (some true) d (.idx1 l s x i) r a h tr0 Q = VN T (evOp noCall a h (.idx1 l s x i)) h none d r a tr0 Q := VF_some rfl
@[go_sem] theorem WG_slice {d : Option Nat} (e : TypeId) (s : Nat) (x : Operand) (lo hi mx : Option Operand) {r : List IOper} {a : Nat → Value} {h : Heap} {Q : (Nat → Value) → Heap → Prop} : WG T (some true) d (.slice e s x lo hi mx) r a h Q = WN T (evOp noCall a h (.slice e s x lo hi mx)) d r a Q := WG_some rfl
@[go_sem] theorem VF_slice {d : Option Nat} (e : TypeId) (s : Nat) (x : Operand) (lo hi mx : Option Operand) {r : List IOper} {a : Nat → Value} {h : Heap} {tr0 : List TE} {Q : (Nat → Value) → Heap → List TE → Prop} : VF T (some true) d (.slice e s x lo hi mx) r a h tr0 Q = VN T (evOp noCall a h (.slice e s x lo hi mx)) h none d r a tr0 Q := VF_some rfl
@[go_sem] theorem WG_len {d : Option Nat} (x : Operand) {r : List IOper} {a : Nat → Value} {h : Heap} {Q : (Nat → Value) → Heap → Prop} : WG T (some true) d (.len x) r a h Q = WN T (evOp noCall a h (.len x)) d r a Q := WG_some rfl
@[go_sem] theorem VF_len {d : Option Nat} (x : Operand) {r : List IOper} {a : Nat → Value} {h : Heap} {tr0 : List TE} {Q : (Nat → Value) → Heap → List TE → Prop} : VF T (some true) d (.len x) r a h tr0 Q = VN T (evOp noCall a h (.len x)) h none d r a tr0 Q := VF_some rfl
@[go_sem] theorem WG_mkfn {d : Option Nat} (f : FuncId) (u v : List Operand) {r : List IOper} {a : Nat → Value} {h : Heap} {Q : (Nat → Value) → Heap → Prop} : WG T (some true) d (.mkfn f u v) r a h Q = WN T (evOp noCall a h (.mkfn f u v)) d r a Q := WG_some rfl
@[go_sem] theorem VF_mkfn {d : Option Nat} (f : FuncId) (u v : List Operand) {r : List IOper} {a : Nat → Value} {h : Heap} {tr0 : List TE} {Q : (Nat → Value) → Heap → List TE → Prop} : VF T (some true) d (.mkfn f u v) r a h tr0 Q = VN T (evOp noCall a h (.mkfn f u v)) h none d r a tr0 Q := VF_some rfl
@[go_sem] theorem WG_ext {d : Option Nat} (x : Operand) (i : Nat) {r : List IOper} {a : Nat → Value} {h : Heap} {Q : (Nat → Value) → Heap → Prop} : WG T (some true) d (.ext x i) r a h Q = WN T (evOp noCall a h (.ext x i)) d r a Q := WG_some rfl
@[go_sem] theorem VF_ext {d : Option Nat} (x : Operand) (i : Nat) {r : List IOper} {a : Nat → Value} {h : Heap} {tr0 : List TE} {Q : (Nat → Value) → Heap → List TE → Prop} : VF T (some true) d (.ext x i) r a h tr0 Q = VN T (evOp noCall a h (.ext x i)) h none d r a tr0 Q := VF_some rfl
@[go_sem] theorem WG_minmax {d : Option Nat} (m : Bool) (x y : Operand) {r : List IOper} {a : Nat → Value} {h : Heap} {Q : (Nat → Value) → Heap → Prop} : WG T (some true) d (.minmax m x y) r a h Q = WN T (evOp noCall a h (.minmax m x y)) d r a Q := WG_some rfl
@[go_sem] theorem VF_minmax {d : Option Nat} (m : Bool) (x y : Operand) {r : List IOper} {a : Nat → Value} {h : Heap} {tr0 : List TE} {Q : (Nat → Value) → Heap → List TE → Prop} : VF T (some true) d (.minmax m x y) r a h tr0 Q = VN T (evOp noCall a h (.minmax m x y)) h none d r a tr0 Q := VF_some rfl
@[go_sem] theorem WG_app {d : Option Nat} (e : TypeId) (s b : Nat) (x y : Operand) {r : List IOper} {a : Nat → Value} {h : Heap} {Q : (Nat → Value) → Heap → Prop} : WG T (some true) d (.app e s b x y) r a h Q = WN T (evOp noCall a h (.app e s b x y)) d r a Q := WG_some rfl
@[go_sem] theorem VF_app {d : Option Nat} (e : TypeId) (s b : Nat) (x y : Operand) {r : List IOper} {a : Nat → Value} {h : Heap} {tr0 : List TE} {Q : (Nat → Value) → Heap → List TE → Prop} : VF T (some true) d (.app e s b x y) r a h tr0 Q = VN T (evOp noCall a h (.app e s b x y)) h none d r a tr0 Q := VF_some rfl

end Go.Am
