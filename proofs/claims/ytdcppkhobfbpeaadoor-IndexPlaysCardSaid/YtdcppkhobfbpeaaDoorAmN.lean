/-
  The abstract machine: slices as lists, appends, ends of functions.
-/
import Derived.Test.YtdcppkhobfbpeaaDoorAmM
set_option linter.unusedVariables false
set_option linter.unusedSimpArgs false
namespace Go.Am
open Go

variable {T : FuncId → Option IFun}

attribute [go_sem] Nat.le_refl Int.toNat_natCast Int.cast_ofNat_Int Nat.mul_one Nat.zero_add Nat.add_zero true_and and_true put_is initA_is List.map_cons List.map_nil List.getD_cons_zero List.getD_cons_succ List.length_cons List.length_nil List.nil_append List.append_nil List.cons_append List.getElem?_toArray List.getElem?_cons_zero List.getElem?_cons_succ

@[go_sem] theorem dec_t {p : Prop} [Decidable p] (h : p) : decide p = true := decide_eq_true h
@[go_sem] theorem dec_f {p : Prop} [Decidable p] (h : ¬ p) : decide p = false := decide_eq_false h
theorem if_t {α : Sort _} {p : Prop} [Decidable p] {x y : α} (h : p) : (if p then x else y) = x := if_pos h
theorem if_f {α : Sort _} {p : Prop} [Decidable p] {x y : α} (h : ¬ p) : (if p then x else y) = y := if_neg h
@[go_sem] theorem dec_true {i : Decidable True} : @decide True i = true := decide_eq_true trivial
@[go_sem] theorem dec_false {i : Decidable False} : @decide False i = false := decide_eq_false id
@[go_sem] theorem tt_beq_tt : (true == true) = true := rfl
@[go_sem] theorem ff_beq_ff : (false == false) = true := rfl
@[go_sem] theorem tt_beq_ff : (true == false) = false := rfl
@[go_sem] theorem ff_beq_tt : (false == true) = false := rfl
@[go_sem] theorem not_tt : (!true) = false := rfl
@[go_sem] theorem not_ff : (!false) = true := rfl
@[go_sem] theorem if_tt {α : Sort _} {x y : α} : (if true = true then x else y) = x := rfl
@[go_sem] theorem if_ff {α : Sort _} {x y : α} : (if false = true then x else y) = y := rfl

@[go_sem] theorem chkAll_nil {tr : List TE} : chkAll tr [] = True := rfl
@[go_sem] theorem chkAll_cons {tr : List TE} {p : Nat × Nat} {r : List (Nat × Nat)} : chkAll tr (p :: r) = (chkOne tr p ∧ chkAll tr r) := rfl
@[go_sem] theorem chkOne_is {tr : List TE} {i j : Nat} : chkOne tr (i, j) = match tr[i]?, tr[j]? with
  | some ej, some ei => (match ei.at_ with
    | some (b, o, n) => ej.hb.load b o n = ej.ha.load b o n
    | none => True)
  | _, _ => True := rfl
attribute [go_sem] List.reverse_cons List.reverse_nil loadAddr
/-- The end of a function. -/
def KV (o : Option Heap) (g : Nat → Value) (res : List IRes) (Q : Value → Heap → Prop) : Prop := match o with
  | some h => ∃ vs, resAll g h res = some vs ∧ Q (resV vs) h
  | none => False
def KW (o : Option (List Value)) (h : Heap) (Q : Value → Heap → Prop) : Prop := match o with
  | some vs => Q (resV vs) h
  | none => False
theorem KF_is {res : List IRes} {Q : Value → Heap → Prop} {e : Ex} {a : AAct} {h : Heap} (he : ∀ id, e ≠ .exit id) : KF res Q e a h = KV (killAll h a.marks) a.get res Q := by
  apply propext
  unfold KF KV
  constructor
  · rintro ⟨_, h', vs, h1, h2, h3⟩
    rw [h1]; exact ⟨vs, h2, h3⟩
  · intro hv
    split at hv
    · rename_i h' h1
      obtain ⟨vs, h2, h3⟩ := hv
      exact ⟨he, h', vs, h1, h2, h3⟩
    · exact hv.elim
@[go_sem] theorem KF_ret {res : List IRes} {Q : Value → Heap → Prop} {a : AAct} {h : Heap} : KF res Q .ret a h = KV (killAll h a.marks) a.get res Q := KF_is (by intro id; exact Ex.noConfusion)
@[go_sem] theorem KF_normal {res : List IRes} {Q : Value → Heap → Prop} {a : AAct} {h : Heap} : KF res Q .normal a h = KV (killAll h a.marks) a.get res Q := KF_is (by intro id; exact Ex.noConfusion)
@[go_sem] theorem KV_some {h : Heap} {g : Nat → Value} {res : List IRes} {Q : Value → Heap → Prop} : KV (some h) g res Q = KW (resAll g h res) h Q := by
  apply propext
  unfold KV KW
  constructor
  · rintro ⟨vs, h1, h2⟩; rw [h1]; exact h2
  · intro hv
    split at hv
    · rename_i vs h1; exact ⟨vs, h1, hv⟩
    · exact hv.elim
@[go_sem] theorem KW_some {vs : List Value} {h : Heap} {Q : Value → Heap → Prop} : KW (some vs) h Q = Q (resV vs) h := rfl
@[go_sem] theorem killAll_nil {h : Heap} : killAll h [] = some h := rfl
@[go_sem] theorem killAll_cons {h : Heap} {k : Nat} {r : List Nat} : killAll h (k :: r) = match h.get k with | .defer => killAll (h.set k .dead) r | _ => none := rfl
@[go_sem] theorem resAll_nil {a : Nat → Value} {h : Heap} : resAll a h [] = some [] := rfl
@[go_sem] theorem resAll_cons {a : Nat → Value} {h : Heap} {r : IRes} {rs : List IRes} : resAll a h (r :: rs) = match resOne a h r with | some v => (match resAll a h rs with | some vs => some (v :: vs) | none => none) | none => none := rfl
@[go_sem] theorem resOne_tmp {a : Nat → Value} {h : Heap} {t : Nat} : resOne a h (.tmp t) = some (a t) := rfl
@[go_sem] theorem resOne_cell1 {a : Nat → Value} {h : Heap} {t : Nat} : resOne a h (.cell1 t) = match a t with | .pointer (some ⟨b, o, none⟩) => (match h.load b o 1 with | some [v] => some v | _ => none) | _ => none := rfl
@[go_sem] theorem resOne_cellN {a : Nat → Value} {h : Heap} {t n : Nat} : resOne a h (.cellN n t) = match a t with | .pointer (some ⟨b, o, none⟩) => (match h.load b o n with | some vs => some (.agg vs.toArray) | none => none) | _ => none := rfl
@[go_sem] theorem resV_one {v : Value} : resV [v] = v := rfl
@[go_sem] theorem resV_two {v w : Value} {r : List Value} : resV (v :: w :: r) = .tuple (v :: w :: r).toArray := rfl
@[go_sem] theorem resV_nil : resV [] = .tuple #[] := rfl

/-- A call of a function of the table. -/
theorem WC_fn {fid : FuncId} {fn : IFun} {args : List Value} {h : Heap} {Q : Value → Heap → Prop} (hT : T fid = some fn) (hlen : Nat.ble args.length fn.n = true)
    (hb : WE T none fn.body ⟨initA args, []⟩ h (KF fn.res Q)) : WC T (.func (.func fid) #[] #[]) args h Q := by
  refine WC_fun hT ?_ ?_
  · simp; exact Nat.le_of_ble_eq_true hlen
  · simpa using hb
theorem WC_clo {fid : FuncId} {fn : IFun} {u v : List Value} {args : List Value} {h : Heap} {Q : Value → Heap → Prop} (hT : T fid = some fn) (hlen : Nat.ble (u ++ (args ++ v)).length fn.n = true)
    (hb : WE T none fn.body ⟨initA (u ++ (args ++ v)), []⟩ h (KF fn.res Q)) : WC T (.func (.func fid) u.toArray v.toArray) args h Q := by
  refine WC_fun hT ?_ ?_
  · simp only [List.append_assoc]; exact Nat.le_of_ble_eq_true hlen
  · simp only [List.append_assoc]; exact hb

/-- A loop, one round of it. -/
def KL (T : FuncId → Option IFun) (rd : Option Nat) (x : IC) (Q : Ex → AAct → Heap → Prop) : Ex → AAct → Heap → Prop
  | .normal, a, h => WE T rd (.loop x) a h Q
  | e, a, h => Q e a h
theorem WE_unroll {rd : Option Nat} {x : IC} {a : AAct} {h : Heap} {Q : Ex → AAct → Heap → Prop} (hw : WE T rd x a h (KL T rd x Q)) : WE T rd (.loop x) a h Q := by
  obtain ⟨n, e, a', h', h1, h2⟩ := hw
  cases e with
  | normal =>
    obtain ⟨k, e2, a2, h2', h3, h4⟩ := h2
    refine ⟨max n k + 1, e2, a2, h2', ?_, h4⟩
    rw [exec, exec_le (Nat.le_max_left n k) _ _ _ _ _ h1]
    exact exec_le (Nat.le_max_right n k) _ _ _ _ _ h3
  | exit id => exact ⟨n + 1, _, _, _, by rw [exec, h1], h2⟩
  | ret => exact ⟨n + 1, _, _, _, by rw [exec, h1], h2⟩
@[go_sem] theorem KL_normal {rd : Option Nat} {x : IC} {a : AAct} {h : Heap} {Q : Ex → AAct → Heap → Prop} : KL T rd x Q .normal a h = WE T rd (.loop x) a h Q := rfl
@[go_sem] theorem KL_exit {rd : Option Nat} {x : IC} {id : Nat} {a : AAct} {h : Heap} {Q : Ex → AAct → Heap → Prop} : KL T rd x Q (.exit id) a h = Q (.exit id) a h := rfl
@[go_sem] theorem KL_ret {rd : Option Nat} {x : IC} {a : AAct} {h : Heap} {Q : Ex → AAct → Heap → Prop} : KL T rd x Q .ret a h = Q .ret a h := rfl

@[go_sem] theorem setParams_nil {a : Nat → Value} : setParams a [] [] = some a := rfl
@[go_sem] theorem setParams_cons {a : Nat → Value} {p : Nat} {ps : List Nat} {v : Value} {vs : List Value} : setParams a (p :: ps) (v :: vs) = setParams (put a p v) ps vs := rfl
@[go_sem] theorem jump_normal : Ex.jump .normal = none := rfl
@[go_sem] theorem jump_exit {i : Nat} : Ex.jump (.exit i) = some (.exit i) := rfl
@[go_sem] theorem jump_ret : Ex.jump .ret = some .ret := rfl
attribute [go_sem] Option.isNone_none Option.isNone_some Option.getD_none Option.getD_some

/-- Rounds of a loop over a function, in pieces. -/
def KY2 (l : Nat) (Q : Value → Heap → Prop) (j : Option Ex) (h : Heap) : Blk → Prop
  | .loop r => Q (.bool j.isNone) (h.set l (.loop { r with state := if j.isNone then .ready else .done, pending := j }))
  | _ => False
def KY (l : Nat) (Q : Value → Heap → Prop) (e : Ex) (a : AAct) (h : Heap) : Prop := KY2 l Q e.jump h (h.get l)
def KA3 (T : FuncId → Option IFun) (l : Nat) (body : IC) (Q : Value → Heap → Prop) (a : AAct) (h : Heap) (r : LoopRec) : LoopState → Prop
  | .ready => WE T (some l) body a (h.set l (.loop { r with state := .busy })) (KY l Q)
  | _ => False
def KA2 (T : FuncId → Option IFun) (l : Nat) (body : IC) (Q : Value → Heap → Prop) (a : AAct) (h : Heap) : Blk → Prop
  | .loop r => KA3 T l body Q a h r r.state
  | _ => False
def KA (T : FuncId → Option IFun) (l : Nat) (body : IC) (Q : Value → Heap → Prop) (e : Ex) (a : AAct) (h : Heap) : Prop := match e with
  | .normal => KA2 T l body Q a h (h.get l)
  | _ => False
@[go_sem] theorem KY_is {l : Nat} {Q : Value → Heap → Prop} {e : Ex} {a : AAct} {h : Heap} : KY l Q e a h = KY2 l Q e.jump h (h.get l) := rfl
@[go_sem] theorem KY2_is {l : Nat} {Q : Value → Heap → Prop} {j : Option Ex} {h : Heap} {r : LoopRec} : KY2 l Q j h (.loop r) = Q (.bool j.isNone) (h.set l (.loop { r with state := if j.isNone then .ready else .done, pending := j })) := rfl
@[go_sem] theorem KA_is {l : Nat} {body : IC} {Q : Value → Heap → Prop} {a : AAct} {h : Heap} : KA T l body Q .normal a h = KA2 T l body Q a h (h.get l) := rfl
@[go_sem] theorem KA2_is {l : Nat} {body : IC} {Q : Value → Heap → Prop} {a : AAct} {h : Heap} {r : LoopRec} : KA2 T l body Q a h (.loop r) = KA3 T l body Q a h r r.state := rfl
@[go_sem] theorem KA3_is {l : Nat} {body : IC} {Q : Value → Heap → Prop} {a : AAct} {h : Heap} {r : LoopRec} : KA3 T l body Q a h r .ready = WE T (some l) body a (h.set l (.loop { r with state := .busy })) (KY l Q) := rfl
theorem WC_rnd {l : Nat} {args : List Value} {h : Heap} {Q : Value → Heap → Prop} {r : LoopRec} {a0 : Nat → Value} (hg : h.get l = .loop r) (hs : setParams r.tmps r.params args = some a0)
    (ha : WE T (some l) r.asg ⟨a0, []⟩ h (KA T l r.body Q)) : WC T (.func (.yield l) #[] #[]) args h Q := by
  refine WC_round hg hs (WE.mono ?_ ha)
  intro e a1 h1 hk
  cases e with
  | normal =>
    refine ⟨rfl, ?_⟩
    rw [KA_is] at hk
    cases hb : h1.get l with
    | loop r1 =>
      rw [hb, KA2_is] at hk
      cases hs : r1.state with
      | ready =>
        rw [hs, KA3_is] at hk
        refine ⟨r1, rfl, hs, WE.mono ?_ hk⟩
        intro e2 a2 h2 hy
        rw [KY_is] at hy
        cases hb2 : h2.get l with
        | loop r2 => rw [hb2, KY2_is] at hy; exact ⟨r2, rfl, hy⟩
        | _ => rw [hb2] at hy; exact hy.elim
      | _ => rw [hs] at hk; exact hk.elim
    | _ => rw [hb] at hk; exact hk.elim
  | exit id => exact hk.elim
  | ret => exact hk.elim
/-- Behind a loop over a function. -/
def KG3 (l : Nat) (marks : List Nat) (Q : Ex → AAct → Heap → Prop) (a : Nat → Value) (h : Heap) (r : LoopRec) : LoopState → Prop
  | .busy => False
  | _ => Q (r.pending.getD .normal) ⟨a, marks⟩ (h.set l (.loop { r with state := .exhausted }))
def KG2 (l : Nat) (marks : List Nat) (Q : Ex → AAct → Heap → Prop) (a : Nat → Value) (h : Heap) : Blk → Prop
  | .loop r => KG3 l marks Q a h r r.state
  | _ => False
def KG (l : Nat) (marks : List Nat) (Q : Ex → AAct → Heap → Prop) (a : Nat → Value) (v : Value) (h : Heap) : Prop := KG2 l marks Q a h (h.get l)
@[go_sem] theorem KG_is {l : Nat} {marks : List Nat} {Q : Ex → AAct → Heap → Prop} {a : Nat → Value} {v : Value} {h : Heap} : KG l marks Q a v h = KG2 l marks Q a h (h.get l) := rfl
@[go_sem] theorem KG2_is {l : Nat} {marks : List Nat} {Q : Ex → AAct → Heap → Prop} {a : Nat → Value} {h : Heap} {r : LoopRec} : KG2 l marks Q a h (.loop r) = KG3 l marks Q a h r r.state := rfl
@[go_sem] theorem KG3_ready {l : Nat} {marks : List Nat} {Q : Ex → AAct → Heap → Prop} {a : Nat → Value} {h : Heap} {r : LoopRec} : KG3 l marks Q a h r .ready = Q (r.pending.getD .normal) ⟨a, marks⟩ (h.set l (.loop { r with state := .exhausted })) := rfl
@[go_sem] theorem KG3_done {l : Nat} {marks : List Nat} {Q : Ex → AAct → Heap → Prop} {a : Nat → Value} {h : Heap} {r : LoopRec} : KG3 l marks Q a h r .done = Q (r.pending.getD .normal) ⟨a, marks⟩ (h.set l (.loop { r with state := .exhausted })) := rfl
theorem KG_post {l : Nat} {marks : List Nat} {Q : Ex → AAct → Heap → Prop} {a : Nat → Value} {v : Value} {h : Heap} (hk : KG l marks Q a v h) : ∃ r, h.get l = .loop r ∧ r.state ≠ .busy ∧ Q (r.pending.getD .normal) ⟨a, marks⟩ (h.set l (.loop { r with state := .exhausted })) := by
  rw [KG_is] at hk
  cases hb : h.get l with
  | loop r =>
    rw [hb, KG2_is] at hk
    refine ⟨r, rfl, ?_⟩
    cases hs : r.state <;> rw [hs] at hk
    · exact ⟨by simp, hk⟩
    · exact hk.elim
    · exact ⟨by simp, hk⟩
    · exact ⟨by simp, hk⟩
  | _ => rw [hb] at hk; exact hk.elim
theorem WE_rng {f : Operand} {ps : List Nat} {asg body : IC} {a : AAct} {h : Heap} {Q : Ex → AAct → Heap → Prop} {gf : FuncId} {u v : Array Value} (hf : opd a.get f = .func (.func gf) u v)
    (hc : WC T (.func (.func gf) u v) [.func (.yield (h.n + 1)) #[] #[]] ((h.push .defer).push (.loop ⟨.ready, none, a.get, ps, asg, body, h.n⟩)) (KG (h.n + 1) (h.n :: a.marks) Q a.get)) :
    WE T none (.rangeF f ps asg body) a h Q := WE_range hf (hc.mono fun _ _ hk => KG_post hk)
theorem WE_rng_in {l0 : Nat} {f : Operand} {ps : List Nat} {asg body : IC} {a : AAct} {h : Heap} {Q : Ex → AAct → Heap → Prop} {gf : FuncId} {u v : Array Value} {r0 : LoopRec} (hf : opd a.get f = .func (.func gf) u v) (hr : h.get l0 = .loop r0)
    (hc : WC T (.func (.func gf) u v) [.func (.yield h.n) #[] #[]] (h.push (.loop ⟨.ready, none, a.get, ps, asg, body, r0.deferB⟩)) (KG h.n a.marks Q a.get)) :
    WE T (some l0) (.rangeF f ps asg body) a h Q := WE_range_in hf hr (hc.mono fun _ _ hk => KG_post hk)

/-- Only new blocks. -/
def Ext (h h' : Heap) : Prop := h.n ≤ h'.n ∧ ∀ i, i < h.n → h'.get i = h.get i
theorem Ext.n_le {h h' : Heap} (x : Ext h h') : h.n ≤ h'.n := x.1
theorem Ext.refl (h : Heap) : Ext h h := ⟨Nat.le_refl _, fun _ _ => rfl⟩
theorem Ext.trans {h1 h2 h3 : Heap} (a : Ext h1 h2) (b : Ext h2 h3) : Ext h1 h3 := ⟨Nat.le_trans a.1 b.1, fun i hi => (b.2 i (Nat.lt_of_lt_of_le hi a.1)).trans (a.2 i hi)⟩
theorem Ext.push {h h' : Heap} {b : Blk} (a : Ext h h') : Ext h (h'.push b) := ⟨by have := a.1; simp only [push_n]; omega, fun i hi => by have := a.1; rw [get_push_lt (by omega)]; exact a.2 i hi⟩
theorem Ext.set {h h' : Heap} {b : Blk} {k : Nat} (a : Ext h h') (hk : h.n ≤ k) : Ext h (h'.set k b) := ⟨a.1, fun i hi => by rw [get_set_ne (by omega)]; exact a.2 i hi⟩

/-- A slice's list, each element as its cells. -/
def vb : Value → Nat
  | .slice (some ⟨b, _, _⟩) _ _ => b
  | _ => 0

structure RS (h : Heap) (s : Nat) (v : Value) (l : List (List Value)) : Prop where
  all : ∀ x ∈ l, x.length = s
  is : (v = .slice none 0 0 ∧ l = []) ∨ ∃ b c e ro, v = .slice (some ⟨b, 0, none⟩) l.length c ∧ h.get b = .cells l.flatten e ro ∧ b < h.n

theorem getAt_append {c d : List Value} {o n : Nat} : getAt (c ++ d) (c.length + o) n = getAt d o n := by
  induction c with
  | nil => simp
  | cons x c ih => rw [List.cons_append, List.length_cons, show c.length + 1 + o = (c.length + o) + 1 by omega, getAt_succ, ih]
theorem getAt_whole : ∀ (c d : List Value), getAt (c ++ d) 0 c.length = some c
  | [], d => rfl
  | x :: c, d => by rw [List.cons_append, List.length_cons, getAt_head, getAt_whole c d]
theorem getAt_all (c : List Value) : getAt c 0 c.length = some c := by have := getAt_whole c []; rwa [List.append_nil] at this

theorem getAt_flatten : ∀ (l : List (List Value)) (s : Nat), (∀ x ∈ l, x.length = s) → ∀ (j : Nat) (x : List Value), l[j]? = some x → getAt l.flatten (j * s) s = some x
  | [], s, _, j, x, hx => by simp at hx
  | y :: l, s, hl, 0, x, hx => by
    simp at hx; subst hx
    rw [List.flatten_cons, Nat.zero_mul, ← hl y (by simp)]
    exact getAt_whole _ _
  | y :: l, s, hl, j + 1, x, hx => by
    rw [List.flatten_cons, Nat.succ_mul, Nat.add_comm (j * s), ← hl y (by simp), getAt_append, hl y (by simp)]
    exact getAt_flatten l s (fun z hz => hl z (by simp [hz])) j x (by simpa using hx)

theorem setAt_append {c d vs : List Value} {o : Nat} : setAt (c ++ d) (c.length + o) vs = c ++ setAt d o vs := by
  induction c with
  | nil => simp
  | cons x c ih => rw [List.cons_append, List.length_cons, show c.length + 1 + o = (c.length + o) + 1 by omega, setAt_succ, ih, List.cons_append]
theorem setAt_whole : ∀ (c d vs : List Value), vs.length = c.length → setAt (c ++ d) 0 vs = vs ++ d
  | [], d, [], _ => rfl
  | x :: c, d, v :: vs, h => by rw [List.cons_append, setAt_head, setAt_whole c d vs (by simpa using h), List.cons_append]
theorem setAt_flatten : ∀ (l : List (List Value)) (s : Nat), (∀ x ∈ l, x.length = s) → ∀ (j : Nat) (vs : List Value), j < l.length → vs.length = s → setAt l.flatten (j * s) vs = (l.set j vs).flatten
  | [], s, _, j, vs, hj, _ => by simp at hj
  | y :: l, s, hl, 0, vs, hj, hv => by
    rw [List.flatten_cons, Nat.zero_mul, setAt_whole _ _ _ (by rw [hv, hl y (by simp)])]
    rfl
  | y :: l, s, hl, j + 1, vs, hj, hv => by
    rw [List.flatten_cons, Nat.succ_mul, Nat.add_comm (j * s), ← hl y (by simp), setAt_append, hl y (by simp), setAt_flatten l s (fun z hz => hl z (by simp [hz])) j vs (by simpa using hj) hv]
    rfl
theorem flatten_length : ∀ (l : List (List Value)) (s : Nat), (∀ x ∈ l, x.length = s) → l.flatten.length = l.length * s
  | [], s, _ => by simp
  | y :: l, s, hl => by rw [List.flatten_cons, List.length_append, hl y (by simp), flatten_length l s (fun z hz => hl z (by simp [hz])), List.length_cons, Nat.succ_mul]; omega

theorem getAt_left {c d : List Value} {o n : Nat} (h : o + n ≤ c.length) : getAt (c ++ d) o n = getAt c o n := by
  induction n generalizing o with
  | zero => rfl
  | succ n ih => simp only [getAt, ih (o := o + 1) (by omega), List.getElem?_append_left (show o < c.length by omega)]
theorem setAt_left : ∀ (vs c d : List Value) (o : Nat), o + vs.length ≤ c.length → setAt (c ++ d) o vs = setAt c o vs ++ d
  | [], c, d, o, _ => rfl
  | v :: vs, c, d, o, h => by
    simp only [List.length_cons] at h
    simp only [setAt]
    rw [List.set_append_left _ _ (by omega), setAt_left vs _ d (o + 1) (by rw [List.length_set]; omega)]
/-- A part of an element. -/
theorem getAt_part : ∀ (l : List (List Value)) (s : Nat), (∀ x ∈ l, x.length = s) → ∀ (j o n : Nat) (x : List Value), l[j]? = some x → o + n ≤ s → getAt l.flatten (j * s + o) n = getAt x o n
  | [], s, _, j, o, n, x, hx, _ => by simp at hx
  | y :: l, s, hl, 0, o, n, x, hx, hn => by
    simp at hx; subst hx
    rw [List.flatten_cons, Nat.zero_mul, Nat.zero_add]
    exact getAt_left (by rw [hl y (by simp)]; exact hn)
  | y :: l, s, hl, j + 1, o, n, x, hx, hn => by
    rw [List.flatten_cons, Nat.succ_mul, Nat.add_assoc, Nat.add_comm s o, ← Nat.add_assoc, Nat.add_comm (j * s + o), ← hl y (by simp), getAt_append, hl y (by simp)]
    exact getAt_part l s (fun z hz => hl z (by simp [hz])) j o n x (by simpa using hx) hn
theorem setAt_part : ∀ (l : List (List Value)) (s : Nat), (∀ x ∈ l, x.length = s) → ∀ (j o : Nat) (vs : List Value) (x : List Value), l[j]? = some x → o + vs.length ≤ s → setAt l.flatten (j * s + o) vs = (l.set j (setAt x o vs)).flatten
  | [], s, _, j, o, vs, x, hx, _ => by simp at hx
  | y :: l, s, hl, 0, o, vs, x, hx, hn => by
    simp at hx; subst hx
    rw [List.flatten_cons, Nat.zero_mul, Nat.zero_add, setAt_left _ _ _ _ (by rw [hl y (by simp)]; exact hn)]
    rfl
  | y :: l, s, hl, j + 1, o, vs, x, hx, hn => by
    rw [List.flatten_cons, Nat.succ_mul, Nat.add_assoc, Nat.add_comm s o, ← Nat.add_assoc, Nat.add_comm (j * s + o), ← hl y (by simp), setAt_append, hl y (by simp)]
    rw [setAt_part l s (fun z hz => hl z (by simp [hz])) j o vs x (by simpa using hx) hn]
    rfl
theorem RS.nil {h : Heap} {s : Nat} : RS h s (.slice none 0 0) [] := ⟨by simp, .inl ⟨rfl, rfl⟩⟩
theorem RS.mono {h h' : Heap} {s : Nat} {v : Value} {l : List (List Value)} (hr : RS h s v l) (hx : Ext h h') : RS h' s v l := by
  refine ⟨hr.all, ?_⟩
  rcases hr.is with h1 | ⟨b, c, e, ro, h1, h2, h3⟩
  · exact .inl h1
  · exact .inr ⟨b, c, e, ro, h1, by rw [hx.2 b h3]; exact h2, by have := hx.1; omega⟩
theorem RS.len {h h' : Heap} {s : Nat} {v : Value} {l : List (List Value)} (hr : RS h s v l) : lenE h' v = some (.int .i64 (l.length : Int), h') := by
  rcases hr.is with ⟨h1, h2⟩ | ⟨b, c, e, ro, h1, h2, h3⟩ <;> subst h1
  · subst h2; rfl
  · rfl
theorem RS.at {h : Heap} {s : Nat} {v : Value} {l : List (List Value)} (hr : RS h s v l) {j : Nat} (hj : j < l.length) : ∃ b c e ro, v = .slice (some ⟨b, 0, none⟩) l.length c ∧ h.get b = .cells l.flatten e ro ∧ b < h.n := by
  rcases hr.is with ⟨h1, h2⟩ | h1
  · subst h2; simp at hj
  · exact h1

/-- A slice of one's own, grown by appends. -/
structure OS (h : Heap) (e : TypeId) (s : Nat) (lo : Nat) (v : Value) (l : List (List Value)) : Prop where
  all : ∀ x ∈ l, x.length = s
  is : (v = .slice none 0 0 ∧ l = []) ∨ ∃ b, v = .slice (some ⟨b, 0, none⟩) l.length l.length ∧ h.get b = .cells l.flatten e false ∧ lo ≤ b ∧ b < h.n ∧ l ≠ []

theorem OS.rs {h : Heap} {e : TypeId} {s lo : Nat} {v : Value} {l : List (List Value)} (ho : OS h e s lo v l) : RS h s v l := by
  refine ⟨ho.all, ?_⟩
  rcases ho.is with h1 | ⟨b, h1, h2, h3, h4, _⟩
  · exact .inl h1
  · exact .inr ⟨b, _, e, false, h1, h2, h4⟩
theorem OS.nil {h : Heap} {e : TypeId} {s lo : Nat} : OS h e s lo (.slice none 0 0) [] := ⟨by simp, .inl ⟨rfl, rfl⟩⟩
theorem OS.mono {h h' : Heap} {e : TypeId} {s lo : Nat} {v : Value} {l : List (List Value)} (hr : OS h e s lo v l) (hn : h.n ≤ h'.n) (hx : ∀ i, lo ≤ i → i < h.n → h'.get i = h.get i) : OS h' e s lo v l := by
  refine ⟨hr.all, ?_⟩
  rcases hr.is with h1 | ⟨b, h1, h2, h3, h4, h5⟩
  · exact .inl h1
  · exact .inr ⟨b, h1, by rw [hx b h3 h4]; exact h2, h3, by omega, h5⟩
/-- Kept where it lies. -/
theorem OS.keep {h h' : Heap} {e : TypeId} {s lo : Nat} {v : Value} {l : List (List Value)} (hr : OS h e s lo v l) (hn : h.n ≤ h'.n) (hx : l ≠ [] → h'.get (vb v) = h.get (vb v)) : OS h' e s lo v l := by
  refine ⟨hr.all, ?_⟩
  rcases hr.is with h1 | ⟨b, h1, h2, h3, h4, h5⟩
  · exact .inl h1
  · refine .inr ⟨b, h1, ?_, h3, by omega, h5⟩
    have := hx h5
    rw [h1] at this
    exact this.trans h2
theorem OS.ext {h h' : Heap} {e : TypeId} {s lo : Nat} {v : Value} {l : List (List Value)} (hr : OS h e s lo v l) (hx : Ext h h') : OS h' e s lo v l := hr.mono hx.1 fun i _ hi => hx.2 i hi
theorem OS.low {h : Heap} {e : TypeId} {s lo lo' : Nat} {v : Value} {l : List (List Value)} (hr : OS h e s lo v l) (hl : lo' ≤ lo) : OS h e s lo' v l := by
  refine ⟨hr.all, ?_⟩
  rcases hr.is with h1 | ⟨b, h1, h2, h3, h4, h5⟩
  · exact .inl h1
  · exact .inr ⟨b, h1, h2, by omega, h4, h5⟩
theorem OS.vb_le {h : Heap} {e : TypeId} {s lo : Nat} {v : Value} {l : List (List Value)} (hr : OS h e s lo v l) (hne : l ≠ []) : lo ≤ vb v ∧ vb v < h.n := by
  rcases hr.is with h1 | ⟨b, h1, h2, h3, h4, h5⟩
  · exact (hne h1.2).elim
  · rw [h1]; exact ⟨h3, h4⟩
theorem OS.vc {h : Heap} {e : TypeId} {s lo : Nat} {v : Value} {l : List (List Value)} (hr : OS h e s lo v l) : vcells v = some [v] := by
  rcases hr.is with h1 | ⟨b, h1, _⟩
  · rw [h1.1]; rfl
  · rw [h1]; rfl
/-- One more at the end: what comes behind may lean on this alone. -/
theorem OS.app {h : Heap} {e : TypeId} {s lo bytes : Nat} {v : Value} {l : List (List Value)} {B : Nat} {e' : TypeId} {ro : Bool} {x : List Value} (hr : OS h e s lo v l) (hB : h.get B = .cells x e' ro) (hx : x.length = s) (hlo : lo ≤ h.n) (hb : bytes ≤ 1048576) (hlen : l.length ≤ 1000000) :
    ∃ v' h', appV h e s bytes v (.slice (some ⟨B, 0, none⟩) 1 1) = some (v', h') ∧ OS h' e s lo v' (l ++ [x]) ∧ h.n ≤ h'.n ∧ (∀ i, i < h.n → (l ≠ [] → i ≠ vb v) → h'.get i = h.get i) ∧ h.n ≤ vb v' := by
  have hall : ∀ y ∈ l ++ [x], y.length = s := fun y hy => by
    rcases List.mem_append.1 hy with h1 | h1
    · exact hr.all y h1
    · simp at h1; rw [h1]; exact hx
  have hn : ((l.length + 1) * bytes ≤ 140737488355328 ∧ l.length + 1 ≤ 9223372036854775807) := by
    refine ⟨?_, by omega⟩
    have : (l.length + 1) * bytes ≤ 1000001 * 1048576 := Nat.mul_le_mul (by omega) hb
    omega
  have hload : h.load B 0 (1 * s) = some x := by
    rw [load_cells, hB, Nat.one_mul, ← hx]; exact getAt_all x
  rcases hr.is with ⟨h1, h2⟩ | ⟨b, h1, h2, h3, h4, h5⟩
  · subst h1 h2
    refine ⟨.slice (some ⟨h.n, 0, none⟩) 1 1, h.push (.cells x e false), ?_, ⟨hall, .inr ⟨h.n, rfl, ?_, hlo, ?_, by simp⟩⟩, ?_, ?_, ?_⟩
    · simp only [appV, hload]
      simp at hn
      simp [hn]
    · rw [get_push_eq rfl]; simp
    · simp [push_n]
    · simp [push_n]
    · intro i hi _; exact get_push_lt hi
    · exact Nat.le_refl _
  · subst h1
    refine ⟨.slice (some ⟨h.n, 0, none⟩) (l.length + 1) (l.length + 1), (h.set b .dead).push (.cells (l.flatten ++ x) e false), ?_, ⟨hall, .inr ⟨h.n, by simp, ?_, hlo, ?_, by simp⟩⟩, ?_, ?_, ?_⟩
    · have hlo2 : h.load b 0 (l.length * s) = some l.flatten := by
        rw [load_cells, h2, ← flatten_length l s hr.all]; exact getAt_all _
      simp only [appV, hload, h2]
      rw [if_neg (by omega), if_neg (by omega)]
      simp only [if_true]
      rw [if_neg (by omega), hlo2]
    · rw [get_push_eq (by rw [set_n])]; simp
    · simp [push_n, set_n]
    · simp [push_n, set_n]
    · intro i hi hne
      rw [get_push_lt (by simpa only [set_n] using hi), get_set_ne (show i ≠ b from hne h5)]
    · exact Nat.le_refl _

/-- The same, where all else lies below. -/
theorem OS.app_ext {h0 h : Heap} {e : TypeId} {s bytes : Nat} {v : Value} {l : List (List Value)} {B : Nat} {e' : TypeId} {ro : Bool} {x : List Value} (hx0 : Ext h0 h) (hr : OS h e s h0.n v l) (hB : h.get B = .cells x e' ro) (hx : x.length = s) (hb : bytes ≤ 1048576) (hlen : l.length ≤ 1000000) :
    ∃ v' h', appV h e s bytes v (.slice (some ⟨B, 0, none⟩) 1 1) = some (v', h') ∧ OS h' e s h0.n v' (l ++ [x]) ∧ Ext h0 h' ∧ h.n ≤ h'.n ∧ (∀ i, i < h.n → (l ≠ [] → i ≠ vb v) → h'.get i = h.get i) ∧ vcells v' = some [v'] := by
  obtain ⟨v', h', h1, h2, h3, h4, h5⟩ := hr.app hB hx hx0.1 hb hlen
  refine ⟨v', h', h1, h2, ⟨Nat.le_trans hx0.1 h3, fun i hi => ?_⟩, h3, h4, h2.vc⟩
  rw [h4 i (Nat.lt_of_lt_of_le hi hx0.1) (fun hne => by have := (hr.vb_le hne).1; omega)]
  exact hx0.2 i hi
theorem getAt_map {α : Type} {f : α → List Value} {s : Nat} (hs : ∀ x, (f x).length = s) {l : List α} {k : Nat} {x : α} (hk : l[k]? = some x) : getAt (l.map f).flatten (k * s) s = some (f x) :=
  getAt_flatten _ s (fun y hy => by obtain ⟨z, _, rfl⟩ := List.mem_map.1 hy; exact hs z) k _ (by rw [List.getElem?_map, hk]; rfl)
theorem getAt_map1 {α : Type} {f : α → List Value} (hs : ∀ x, (f x).length = 1) {l : List α} {k : Nat} {x : α} (hk : l[k]? = some x) : getAt (l.map f).flatten k 1 = some (f x) := by
  have := getAt_map hs hk
  rwa [Nat.mul_one] at this
theorem take_succ {α : Type} {l : List α} {k : Nat} {x : α} (hk : l[k]? = some x) : l.take (k + 1) = l.take k ++ [x] := by
  rw [List.take_add_one, hk]; rfl
theorem RS.atM {α : Type} {f : α → List Value} {h : Heap} {s : Nat} {v : Value} {l : List α} (hr : RS h s v (l.map f)) {j : Nat} (hj : j < l.length) : ∃ b c e ro, v = .slice (some ⟨b, 0, none⟩) l.length c ∧ h.get b = .cells (l.map f).flatten e ro ∧ b < h.n := by
  have := hr.at (j := j) (by simpa using hj)
  simpa using this
theorem RS.lenV {α : Type} {f : α → List Value} {h : Heap} {s : Nat} {v : Value} {l : List α} (hr : RS h s v (l.map f)) : ∃ a c, v = .slice a l.length c := by
  rcases hr.is with ⟨h1, h2⟩ | ⟨b, c, e, ro, h1, _⟩
  · have : l = [] := by simpa using h2
    subst this; exact ⟨none, 0, h1⟩
  · exact ⟨some ⟨b, 0, none⟩, c, by simpa using h1⟩

/-- A slice of all of a block; none, if it is empty. -/
def ixv (b n : Nat) : Value := if n = 0 then .slice none 0 0 else .slice (some ⟨b, 0, none⟩) n n
@[go_sem] theorem lenE_ixv {h : Heap} {b n : Nat} : lenE h (ixv b n) = some (.int .i64 n, h) := by
  unfold ixv; split
  · rename_i e; subst e; rfl
  · rfl
@[go_sem] theorem iaddrE_ixv {h : Heap} {s b n : Nat} {k : IntKind} {j : Int} : iaddrE h s (ixv b n) (.int k j) = inE j n (some (.pointer (some ⟨b, j.toNat * s, none⟩), h)) := by
  unfold ixv; split
  · rename_i e; subst e
    unfold inE
    rw [if_neg (by omega)]
    rfl
  · rw [iaddrE_is, Nat.zero_add]
@[go_sem] theorem vcells_ixv {b n : Nat} : vcells (ixv b n) = some [ixv b n] := by
  unfold ixv; split <;> rfl
theorem OS.ixv {h : Heap} {e : TypeId} {s lo : Nat} {v : Value} {l : List (List Value)} (hr : OS h e s lo v l) : v = Go.Am.ixv (vb v) l.length := by
  rcases hr.is with ⟨h1, h2⟩ | ⟨b, h1, h2, h3, h4, h5⟩
  · subst h1 h2; rfl
  · have : l.length ≠ 0 := by simpa using h5
    unfold Go.Am.ixv
    rw [if_neg this, h1]
    rfl
theorem OS.cells {h : Heap} {e : TypeId} {s lo : Nat} {v : Value} {l : List (List Value)} (hr : OS h e s lo v l) (hne : l ≠ []) : h.get (vb v) = .cells l.flatten e false := by
  rcases hr.is with ⟨h1, h2⟩ | ⟨b, h1, h2, h3, h4, h5⟩
  · exact (hne h2).elim
  · rw [h1]; exact h2

end Go.Am
