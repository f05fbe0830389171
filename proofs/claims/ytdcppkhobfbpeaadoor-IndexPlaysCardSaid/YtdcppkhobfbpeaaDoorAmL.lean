/-
  The abstract machine without fuel: what a run must reach, rule by rule.
-/
import Derived.Test.YtdcppkhobfbpeaaDoorAmK
set_option linter.unusedVariables false
set_option linter.unusedSimpArgs false
namespace Go.Am
open Go

def LeE (x y : ExecT) : Prop := ∀ rd c a h r, x rd c a h = some r → y rd c a h = some r
def LeC (x y : CallT) : Prop := ∀ f args h r, x f args h = some r → y f args h = some r

theorem evOp_mono {x y : CallT} (hl : LeC x y) {a : Nat → Value} {h : Heap} {op : IOp} {r : Value × Heap} (he : evOp x a h op = some r) : evOp y a h op = some r := by
  cases op <;> first | exact he | exact hl _ _ _ _ he

theorem evOps_mono {x y : CallT} (hl : LeC x y) : ∀ (ops : List IOper) (a : Nat → Value) (h : Heap) (r : (Nat → Value) × Heap), evOps x ops a h = some r → evOps y ops a h = some r
  | [], a, h, r, he => he
  | o :: os, a, h, r, he => by
    unfold evOps at he ⊢
    split at he
    · rename_i hw
      split at he
      · rename_i v h' hv
        rw [evOp_mono hl hv]
        exact evOps_mono hl os _ _ _ he
      · cases he
    · exact evOps_mono hl os _ _ _ he
    · cases he

theorem evTr_mono {x y : CallT} (hl : LeC x y) : ∀ (ops : List IOper) (a : Nat → Value) (h : Heap) (r : (Nat → Value) × Heap × List TE), evTr x ops a h = some r → evTr y ops a h = some r
  | [], a, h, r, he => he
  | o :: os, a, h, r, he => by
    unfold evTr at he ⊢
    split at he
    · rename_i hw
      split at he
      · rename_i v h' hv
        rw [evOp_mono hl hv]
        simp only
        split at he
        · rename_i a' h'' tr ht
          rw [evTr_mono hl os _ _ _ ht]
          exact he
        · cases he
      · cases he
    · split at he
      · rename_i a' h'' tr ht
        rw [evTr_mono hl os _ _ _ ht]
        exact he
      · cases he
    · cases he

theorem callV_mono {T : FuncId → Option IFun} {x y : ExecT} (hl : LeE x y) : LeC (callV T x) (callV T y) := by
  intro f args h r he
  unfold callV at he ⊢
  split at he
  · split at he
    · split at he
      · rename_i hlen
        rw [if_pos hlen]
        split at he
        · cases he
        · rename_i e a h' hne hx
          rw [hl _ _ _ _ _ hx]
          cases e with
          | exit id => exact (hne id rfl).elim
          | normal => exact he
          | ret => exact he
        · cases he
      · cases he
    · cases he
  · split at he
    · split at he
      · split at he
        · rename_i a1 h1 hx
          simp only [hl _ _ _ _ _ hx]
          split at he
          · split at he
            · split at he
              · rename_i hx2
                simp only [hl _ _ _ _ _ hx2]
                exact he
              · cases he
            · cases he
          · cases he
        · cases he
      · cases he
    · cases he
  · cases he

theorem exec_succ (T : FuncId → Option IFun) : ∀ n, LeE (exec T n) (exec T (n + 1))
  | 0 => fun rd c a h r he => by simp [exec] at he
  | n + 1 => fun rd c a h r he => by
    have ih := exec_succ T n
    have ihc := callV_mono (T := T) ih
    cases c with
    | skip => simpa only [exec] using he
    | exit id => simpa only [exec] using he
    | ret => simpa only [exec] using he
    | region ops =>
      rw [exec] at he ⊢
      split at he
      · rename_i hx
        rw [evOps_mono ihc _ _ _ _ hx]; exact he
      · cases he
    | draw ops chk =>
      rw [exec] at he ⊢
      split at he
      · rename_i hx
        rw [evTr_mono ihc _ _ _ _ hx]; exact he
      · cases he
    | seq x y =>
      rw [exec] at he ⊢
      cases hx : exec T n rd x a h with
      | none => rw [hx] at he; cases he
      | some q =>
        obtain ⟨e, a', h'⟩ := q
        rw [hx] at he
        rw [ih _ _ _ _ _ hx]
        cases e with
        | normal => exact ih _ _ _ _ _ he
        | exit id => exact he
        | ret => exact he
    | cond cc x y =>
      rw [exec] at he ⊢
      split at he
      · exact ih _ _ _ _ _ he
      · exact ih _ _ _ _ _ he
      · cases he
    | block id x =>
      rw [exec] at he ⊢
      cases hx : exec T n rd x a h with
      | none => rw [hx] at he; cases he
      | some q =>
        obtain ⟨e, a', h'⟩ := q
        rw [hx] at he
        rw [ih _ _ _ _ _ hx]
        exact he
    | loop x =>
      rw [exec] at he ⊢
      cases hx : exec T n rd x a h with
      | none => rw [hx] at he; cases he
      | some q =>
        obtain ⟨e, a', h'⟩ := q
        rw [hx] at he
        rw [ih _ _ _ _ _ hx]
        cases e with
        | normal => exact ih _ _ _ _ _ he
        | exit id => exact he
        | ret => exact he
    | rangeF f ps asg body =>
      rw [exec.eq_def] at he ⊢
      simp only at he ⊢
      split at he
      · rename_i gf u v hf
        split at he
        · cases he
        · rename_i h1 db mk hst
          split at he
          · cases he
          · rename_i vres h2 hcv
            rw [ihc _ _ _ _ hcv]
            exact he
      · cases he

theorem exec_le {T : FuncId → Option IFun} {n m : Nat} (hnm : n ≤ m) : LeE (exec T n) (exec T m) := by
  induction hnm with
  | refl => exact fun _ _ _ _ _ he => he
  | step _ ih => exact fun rd c a h r he => exec_succ T _ rd c a h r (ih rd c a h r he)

theorem callV_le {T : FuncId → Option IFun} {n m : Nat} (hnm : n ≤ m) : LeC (callV T (exec T n)) (callV T (exec T m)) := callV_mono (exec_le hnm)

section
variable (T : FuncId → Option IFun)

def WE (rd : Option Nat) (c : IC) (a : AAct) (h : Heap) (Q : Ex → AAct → Heap → Prop) : Prop := ∃ n e a' h', exec T n rd c a h = some (e, a', h') ∧ Q e a' h'
def WO (ops : List IOper) (a : Nat → Value) (h : Heap) (Q : (Nat → Value) → Heap → Prop) : Prop := ∃ n a' h', evOps (callV T (exec T n)) ops a h = some (a', h') ∧ Q a' h'
def WT (ops : List IOper) (a : Nat → Value) (h : Heap) (Q : (Nat → Value) → Heap → List TE → Prop) : Prop := ∃ n a' h' tr, evTr (callV T (exec T n)) ops a h = some (a', h', tr) ∧ Q a' h' tr
def WC (f : Value) (args : List Value) (h : Heap) (Q : Value → Heap → Prop) : Prop := ∃ n v h', callV T (exec T n) f args h = some (v, h') ∧ Q v h'

/-- What comes behind. -/
def KS (rd : Option Nat) (y : IC) (Q : Ex → AAct → Heap → Prop) : Ex → AAct → Heap → Prop
  | .normal, a, h => WE T rd y a h Q
  | e, a, h => Q e a h
def KB (id : Nat) (Q : Ex → AAct → Heap → Prop) : Ex → AAct → Heap → Prop
  | .exit i, a, h => if i = id then Q .normal a h else Q (.exit i) a h
  | e, a, h => Q e a h
def KR (marks : List Nat) (Q : Ex → AAct → Heap → Prop) (a : Nat → Value) (h : Heap) : Prop := Q .normal ⟨a, marks⟩ h
def KT (marks : List Nat) (chk : List (Nat × Nat)) (Q : Ex → AAct → Heap → Prop) (a : Nat → Value) (h : Heap) (tr : List TE) : Prop := chkAll tr chk ∧ Q .normal ⟨a, marks⟩ h
/-- A branch. -/
def WI (rd : Option Nat) (v : Value) (x y : IC) (a : AAct) (h : Heap) (Q : Ex → AAct → Heap → Prop) : Prop :=
  match v with
  | .bool b => if b then WE T rd x a h Q else WE T rd y a h Q
  | _ => False
/-- An operation that may be guarded, and what comes behind it. -/
def WG (g : Option Bool) (d : Option Nat) (op : IOp) (r : List IOper) (a : Nat → Value) (h : Heap) (Q : (Nat → Value) → Heap → Prop) : Prop :=
  match g with
  | some true => ∃ n v h', evOp (callV T (exec T n)) a h op = some (v, h') ∧ WO T r (putO a d v) h' Q
  | some false => WO T r (putO a d undefV) h Q
  | none => False
def WN (o : Option (Value × Heap)) (d : Option Nat) (r : List IOper) (a : Nat → Value) (Q : (Nat → Value) → Heap → Prop) : Prop :=
  match o with
  | some (v, h') => WO T r (putO a d v) h' Q
  | none => False
def KO (d : Option Nat) (r : List IOper) (a : Nat → Value) (Q : (Nat → Value) → Heap → Prop) (v : Value) (h : Heap) : Prop := WO T r (putO a d v) h Q
def KF (res : List IRes) (Q : Value → Heap → Prop) (e : Ex) (a : AAct) (h : Heap) : Prop :=
  (∀ id, e ≠ .exit id) ∧ ∃ h' vs, killAll h a.marks = some h' ∧ resAll a.get h' res = some vs ∧ Q (resV vs) h'

-- with traces
def VG (g : Option Bool) (d : Option Nat) (op : IOp) (r : List IOper) (a : Nat → Value) (h : Heap) (Q : (Nat → Value) → Heap → List TE → Prop) : Prop :=
  match g with
  | some true => ∃ n v h', evOp (callV T (exec T n)) a h op = some (v, h') ∧ WT T r (putO a d v) h' (fun a' h'' tr => Q a' h'' (⟨true, h, h', loadAddr a op⟩ :: tr))
  | some false => WT T r (putO a d undefV) h (fun a' h'' tr => Q a' h'' (⟨false, h, h, none⟩ :: tr))
  | none => False
/-- The rows of a trace so far (the last one first), and what they must meet. -/
def KD (tr0 : List TE) (Q : (Nat → Value) → Heap → List TE → Prop) (a : Nat → Value) (h : Heap) (tr : List TE) : Prop := Q a h (tr0.reverse ++ tr)
def VN (o : Option (Value × Heap)) (h : Heap) (at_ : Option (Nat × Nat × Nat)) (d : Option Nat) (r : List IOper) (a : Nat → Value) (tr0 : List TE) (Q : (Nat → Value) → Heap → List TE → Prop) : Prop :=
  match o with
  | some (v, h') => WT T r (putO a d v) h' (KD (⟨true, h, h', at_⟩ :: tr0) Q)
  | none => False
def VO (h : Heap) (d : Option Nat) (r : List IOper) (a : Nat → Value) (tr0 : List TE) (Q : (Nat → Value) → Heap → List TE → Prop) (v : Value) (h' : Heap) : Prop := WT T r (putO a d v) h' (KD (⟨true, h, h', none⟩ :: tr0) Q)
def VF (g : Option Bool) (d : Option Nat) (op : IOp) (r : List IOper) (a : Nat → Value) (h : Heap) (tr0 : List TE) (Q : (Nat → Value) → Heap → List TE → Prop) : Prop :=
  VG T g d op r a h (KD tr0 Q)
end

/-- No call. -/
def noCall : CallT := fun _ _ _ => none
def isCall : IOp → Bool
  | .call _ _ => true
  | _ => false
abbrev ev0 (a : Nat → Value) (h : Heap) (op : IOp) : Option (Value × Heap) := evOp noCall a h op

variable {T : FuncId → Option IFun}

theorem ev0_any {c : CallT} {a : Nat → Value} {h : Heap} {op : IOp} (hc : isCall op = false) : evOp c a h op = ev0 a h op := by
  cases op <;> first | rfl | cases hc

theorem WE.mono {rd : Option Nat} {c : IC} {a : AAct} {h : Heap} {Q Q' : Ex → AAct → Heap → Prop} (hq : ∀ e a h, Q e a h → Q' e a h) : WE T rd c a h Q → WE T rd c a h Q' := fun ⟨n, e, a', h', h1, h2⟩ => ⟨n, e, a', h', h1, hq _ _ _ h2⟩
theorem WO.mono {ops : List IOper} {a : Nat → Value} {h : Heap} {Q Q' : (Nat → Value) → Heap → Prop} (hq : ∀ a h, Q a h → Q' a h) : WO T ops a h Q → WO T ops a h Q' := fun ⟨n, a', h', h1, h2⟩ => ⟨n, a', h', h1, hq _ _ h2⟩
theorem WC.mono {f : Value} {args : List Value} {h : Heap} {Q Q' : Value → Heap → Prop} (hq : ∀ v h, Q v h → Q' v h) : WC T f args h Q → WC T f args h Q' := fun ⟨n, v, h', h1, h2⟩ => ⟨n, v, h', h1, hq _ _ h2⟩

theorem WE_skip {rd : Option Nat} {a : AAct} {h : Heap} {Q : Ex → AAct → Heap → Prop} : WE T rd .skip a h Q = Q .normal a h := by
  apply propext; constructor
  · rintro ⟨n, e, a', h', h1, h2⟩
    cases n with
    | zero => simp [exec] at h1
    | succ n => simp only [exec, Option.some.injEq, Prod.mk.injEq] at h1; obtain ⟨rfl, rfl, rfl⟩ := h1; exact h2
  · intro q; exact ⟨1, _, _, _, by simp only [exec], q⟩
theorem WE_exit {rd : Option Nat} {id : Nat} {a : AAct} {h : Heap} {Q : Ex → AAct → Heap → Prop} : WE T rd (.exit id) a h Q = Q (.exit id) a h := by
  apply propext; constructor
  · rintro ⟨n, e, a', h', h1, h2⟩
    cases n with
    | zero => simp [exec] at h1
    | succ n => simp only [exec, Option.some.injEq, Prod.mk.injEq] at h1; obtain ⟨rfl, rfl, rfl⟩ := h1; exact h2
  · intro q; exact ⟨1, _, _, _, by simp only [exec], q⟩
theorem WE_ret {rd : Option Nat} {a : AAct} {h : Heap} {Q : Ex → AAct → Heap → Prop} : WE T rd .ret a h Q = Q .ret a h := by
  apply propext; constructor
  · rintro ⟨n, e, a', h', h1, h2⟩
    cases n with
    | zero => simp [exec] at h1
    | succ n => simp only [exec, Option.some.injEq, Prod.mk.injEq] at h1; obtain ⟨rfl, rfl, rfl⟩ := h1; exact h2
  · intro q; exact ⟨1, _, _, _, by simp only [exec], q⟩
theorem WE_region {rd : Option Nat} {ops : List IOper} {a : AAct} {h : Heap} {Q : Ex → AAct → Heap → Prop} : WE T rd (.region ops) a h Q = WO T ops a.get h (KR a.marks Q) := by
  apply propext; constructor
  · rintro ⟨n, e, a', h', h1, h2⟩
    cases n with
    | zero => simp [exec] at h1
    | succ n =>
      simp only [exec] at h1
      split at h1
      · rename_i hx
        simp only [Option.some.injEq, Prod.mk.injEq] at h1; obtain ⟨rfl, rfl, rfl⟩ := h1
        exact ⟨n, _, _, hx, h2⟩
      · cases h1
  · rintro ⟨n, a', h', h1, h2⟩
    exact ⟨n + 1, _, _, _, by simp only [exec, h1], h2⟩
theorem WE_draw {rd : Option Nat} {ops : List IOper} {chk : List (Nat × Nat)} {a : AAct} {h : Heap} {Q : Ex → AAct → Heap → Prop} : WE T rd (.draw ops chk) a h Q = WT T ops a.get h (KD [] (KT a.marks chk Q)) := by
  apply propext; constructor
  · rintro ⟨n, e, a', h', h1, h2⟩
    cases n with
    | zero => simp [exec] at h1
    | succ n =>
      simp only [exec] at h1
      split at h1
      · rename_i hx
        split at h1
        · rename_i hck
          simp only [Option.some.injEq, Prod.mk.injEq] at h1; obtain ⟨rfl, rfl, rfl⟩ := h1
          exact ⟨n, _, _, _, hx, hck, h2⟩
        · cases h1
      · cases h1
  · rintro ⟨n, a', h', tr, h1, hck, h2⟩
    refine ⟨n + 1, _, _, _, ?_, h2⟩
    simp only [exec, h1]
    exact if_pos hck
theorem WE_seq {rd : Option Nat} {x y : IC} {a : AAct} {h : Heap} {Q : Ex → AAct → Heap → Prop} : WE T rd (.seq x y) a h Q = WE T rd x a h (KS T rd y Q) := by
  apply propext; constructor
  · rintro ⟨n, e, a', h', h1, h2⟩
    cases n with
    | zero => simp [exec] at h1
    | succ n =>
      rw [exec] at h1
      cases hx : exec T n rd x a h with
      | none => rw [hx] at h1; cases h1
      | some q =>
        obtain ⟨e1, a1, h1'⟩ := q
        rw [hx] at h1
        refine ⟨n, e1, a1, h1', hx, ?_⟩
        cases e1 with
        | normal => exact ⟨n, _, _, _, h1, h2⟩
        | exit id => cases h1; exact h2
        | ret => cases h1; exact h2
  · rintro ⟨n, e, a', h', h1, h2⟩
    cases e with
    | normal =>
      obtain ⟨m, e2, a2, h2', h3, h4⟩ := h2
      refine ⟨max n m + 1, e2, a2, h2', ?_, h4⟩
      rw [exec, exec_le (Nat.le_max_left n m) _ _ _ _ _ h1]
      exact exec_le (Nat.le_max_right n m) _ _ _ _ _ h3
    | exit id => exact ⟨n + 1, _, _, _, by rw [exec, h1], h2⟩
    | ret => exact ⟨n + 1, _, _, _, by rw [exec, h1], h2⟩
theorem WE_block {rd : Option Nat} {id : Nat} {x : IC} {a : AAct} {h : Heap} {Q : Ex → AAct → Heap → Prop} : WE T rd (.block id x) a h Q = WE T rd x a h (KB id Q) := by
  apply propext; constructor
  · rintro ⟨n, e, a', h', h1, h2⟩
    cases n with
    | zero => simp [exec] at h1
    | succ n =>
      rw [exec] at h1
      cases hx : exec T n rd x a h with
      | none => rw [hx] at h1; cases h1
      | some q =>
        obtain ⟨e1, a1, h1'⟩ := q
        rw [hx] at h1
        refine ⟨n, e1, a1, h1', hx, ?_⟩
        cases e1 with
        | normal => cases h1; exact h2
        | ret => cases h1; exact h2
        | exit i =>
          simp only at h1
          show if i = id then _ else _
          split at h1 <;> rename_i hi
          · cases h1; rw [if_pos hi]; exact h2
          · cases h1; rw [if_neg hi]; exact h2
  · rintro ⟨n, e, a', h', h1, h2⟩
    cases e with
    | normal => exact ⟨n + 1, _, _, _, by rw [exec, h1], h2⟩
    | ret => exact ⟨n + 1, _, _, _, by rw [exec, h1], h2⟩
    | exit i =>
      change if i = id then _ else _ at h2
      by_cases hi : i = id
      · rw [if_pos hi] at h2; exact ⟨n + 1, _, _, _, by rw [exec, h1]; exact if_pos hi, h2⟩
      · rw [if_neg hi] at h2; exact ⟨n + 1, _, _, _, by rw [exec, h1]; exact if_neg hi, h2⟩
theorem WE_cond {rd : Option Nat} {c : Operand} {x y : IC} {a : AAct} {h : Heap} {Q : Ex → AAct → Heap → Prop} : WE T rd (.cond c x y) a h Q = WI T rd (opd a.get c) x y a h Q := by
  apply propext
  unfold WI
  constructor
  · rintro ⟨n, e, a', h', h1, h2⟩
    cases n with
    | zero => simp [exec] at h1
    | succ n =>
      rw [exec] at h1
      split at h1
      · rename_i hb; rw [hb]; exact ⟨n, _, _, _, h1, h2⟩
      · rename_i hb; rw [hb]; exact ⟨n, _, _, _, h1, h2⟩
      · cases h1
  · intro hw
    split at hw
    · rename_i b hb
      cases b with
      | true => obtain ⟨n, e, a', h', h1, h2⟩ := hw; exact ⟨n + 1, e, a', h', by rw [exec, hb]; exact h1, h2⟩
      | false => obtain ⟨n, e, a', h', h1, h2⟩ := hw; exact ⟨n + 1, e, a', h', by rw [exec, hb]; exact h1, h2⟩
    · exact hw.elim

theorem WI_true {rd : Option Nat} {x y : IC} {a : AAct} {h : Heap} {Q : Ex → AAct → Heap → Prop} : WI T rd (.bool true) x y a h Q = WE T rd x a h Q := rfl
theorem WI_false {rd : Option Nat} {x y : IC} {a : AAct} {h : Heap} {Q : Ex → AAct → Heap → Prop} : WI T rd (.bool false) x y a h Q = WE T rd y a h Q := rfl
theorem WI_dec {rd : Option Nat} {p : Prop} [Decidable p] {x y : IC} {a : AAct} {h : Heap} {Q : Ex → AAct → Heap → Prop} (h1 : p → WE T rd x a h Q) (h2 : ¬ p → WE T rd y a h Q) : WI T rd (.bool (decide p)) x y a h Q := by
  by_cases hp : p
  · simp only [hp, decide_true]; exact h1 hp
  · simp only [hp, decide_false]; exact h2 hp
theorem WI_bool {rd : Option Nat} {b : Bool} {x y : IC} {a : AAct} {h : Heap} {Q : Ex → AAct → Heap → Prop} (h1 : b = true → WE T rd x a h Q) (h2 : b = false → WE T rd y a h Q) : WI T rd (.bool b) x y a h Q := by
  cases b
  · exact h2 rfl
  · exact h1 rfl
theorem KS_normal {rd : Option Nat} {y : IC} {a : AAct} {h : Heap} {Q : Ex → AAct → Heap → Prop} : KS T rd y Q .normal a h = WE T rd y a h Q := rfl
theorem KS_exit {rd : Option Nat} {y : IC} {id : Nat} {a : AAct} {h : Heap} {Q : Ex → AAct → Heap → Prop} : KS T rd y Q (.exit id) a h = Q (.exit id) a h := rfl
theorem KS_ret {rd : Option Nat} {y : IC} {a : AAct} {h : Heap} {Q : Ex → AAct → Heap → Prop} : KS T rd y Q .ret a h = Q .ret a h := rfl
theorem KB_normal {id : Nat} {a : AAct} {h : Heap} {Q : Ex → AAct → Heap → Prop} : KB id Q .normal a h = Q .normal a h := rfl
theorem KB_ret {id : Nat} {a : AAct} {h : Heap} {Q : Ex → AAct → Heap → Prop} : KB id Q .ret a h = Q .ret a h := rfl
theorem KB_exit {id i : Nat} {a : AAct} {h : Heap} {Q : Ex → AAct → Heap → Prop} : KB id Q (.exit i) a h = if i = id then Q .normal a h else Q (.exit i) a h := rfl
theorem KR_is {marks : List Nat} {Q : Ex → AAct → Heap → Prop} {a : Nat → Value} {h : Heap} : KR marks Q a h = Q .normal ⟨a, marks⟩ h := rfl
theorem KO_is {d : Option Nat} {r : List IOper} {a : Nat → Value} {Q : (Nat → Value) → Heap → Prop} {v : Value} {h : Heap} : KO T d r a Q v h = WO T r (putO a d v) h Q := rfl
theorem VO_is {h : Heap} {d : Option Nat} {r : List IOper} {a : Nat → Value} {tr0 : List TE} {Q : (Nat → Value) → Heap → List TE → Prop} {v : Value} {h' : Heap} : VO T h d r a tr0 Q v h' = WT T r (putO a d v) h' (KD (⟨true, h, h', none⟩ :: tr0) Q) := rfl
theorem KT_is {marks : List Nat} {chk : List (Nat × Nat)} {Q : Ex → AAct → Heap → Prop} {a : Nat → Value} {h : Heap} {tr : List TE} : KT marks chk Q a h tr = (chkAll tr chk ∧ Q .normal ⟨a, marks⟩ h) := rfl

theorem WO_nil {a : Nat → Value} {h : Heap} {Q : (Nat → Value) → Heap → Prop} : WO T [] a h Q = Q a h := by
  apply propext; constructor
  · rintro ⟨n, a', h', h1, h2⟩; cases h1; exact h2
  · intro q; exact ⟨0, _, _, rfl, q⟩
theorem WO_cons {d : Option Nat} {op : IOp} {g : Option (Nat × Bool)} {r : List IOper} {a : Nat → Value} {h : Heap} {Q : (Nat → Value) → Heap → Prop} : WO T (⟨d, op, g⟩ :: r) a h Q = WG T (wants a g) d op r a h Q := by
  apply propext
  unfold WG
  constructor
  · rintro ⟨n, a', h', h1, h2⟩
    unfold evOps at h1
    split at h1
    · rename_i hw
      simp only at hw; rw [hw]
      split at h1
      · rename_i v h'' hv
        exact ⟨n, v, h'', hv, n, a', h', h1, h2⟩
      · cases h1
    · rename_i hw
      simp only at hw; rw [hw]
      exact ⟨n, a', h', h1, h2⟩
    · cases h1
  · intro hw
    split at hw
    · rename_i hg
      obtain ⟨n, v, h', h1, m, a', h'', h2, h3⟩ := hw
      refine ⟨max n m, a', h'', ?_, h3⟩
      unfold evOps
      simp only [hg]
      rw [evOp_mono (callV_le (Nat.le_max_left n m)) h1]
      exact evOps_mono (callV_le (Nat.le_max_right n m)) _ _ _ _ h2
    · rename_i hg
      obtain ⟨n, a', h', h1, h2⟩ := hw
      refine ⟨n, a', h', ?_, h2⟩
      unfold evOps
      simp only [hg]
      exact h1
    · exact hw.elim
theorem WG_none {d : Option Nat} {op : IOp} {r : List IOper} {a : Nat → Value} {h : Heap} {Q : (Nat → Value) → Heap → Prop} : WG T (some false) d op r a h Q = WO T r (putO a d undefV) h Q := rfl
theorem WG_some {d : Option Nat} {op : IOp} {r : List IOper} {a : Nat → Value} {h : Heap} {Q : (Nat → Value) → Heap → Prop} (hc : isCall op = false) : WG T (some true) d op r a h Q = WN T (ev0 a h op) d r a Q := by
  apply propext
  unfold WG WN
  constructor
  · rintro ⟨n, v, h', h1, h2⟩
    rw [ev0_any hc] at h1
    simp only [h1]
    exact h2
  · intro hw
    simp only
    split at hw
    · rename_i v h' hv
      exact ⟨0, v, h', by rw [ev0_any hc]; exact hv, hw⟩
    · exact hw.elim
theorem WG_call {d : Option Nat} {f : Operand} {args : List Operand} {r : List IOper} {a : Nat → Value} {h : Heap} {Q : (Nat → Value) → Heap → Prop} : WG T (some true) d (.call f args) r a h Q = WC T (opd a f) (args.map (opd a)) h (KO T d r a Q) := rfl
theorem WN_some {d : Option Nat} {v : Value} {h' : Heap} {r : List IOper} {a : Nat → Value} {Q : (Nat → Value) → Heap → Prop} : WN T (some (v, h')) d r a Q = WO T r (putO a d v) h' Q := rfl

theorem WT_nil {a : Nat → Value} {h : Heap} {tr0 : List TE} {Q : (Nat → Value) → Heap → List TE → Prop} : WT T [] a h (KD tr0 Q) = Q a h tr0.reverse := by
  apply propext; constructor
  · rintro ⟨n, a', h', tr, h1, h2⟩; cases h1; unfold KD at h2; simpa using h2
  · intro q; exact ⟨0, _, _, _, rfl, by unfold KD; simpa using q⟩
theorem WT_cons {d : Option Nat} {op : IOp} {g : Option (Nat × Bool)} {r : List IOper} {a : Nat → Value} {h : Heap} {tr0 : List TE} {Q : (Nat → Value) → Heap → List TE → Prop} : WT T (⟨d, op, g⟩ :: r) a h (KD tr0 Q) = VF T (wants a g) d op r a h tr0 Q := by
  apply propext
  unfold VF VG
  constructor
  · rintro ⟨n, a', h', tr, h1, h2⟩
    unfold evTr at h1
    split at h1
    · rename_i hw
      simp only at hw; rw [hw]
      split at h1
      · rename_i v h'' hv
        split at h1
        · rename_i ht
          cases h1
          exact ⟨n, v, h'', hv, n, _, _, _, ht, h2⟩
        · cases h1
      · cases h1
    · rename_i hw
      simp only at hw; rw [hw]
      split at h1
      · rename_i ht
        cases h1
        exact ⟨n, _, _, _, ht, h2⟩
      · cases h1
    · cases h1
  · intro hw
    split at hw
    · rename_i hg
      obtain ⟨n, v, h', h1, m, a', h'', tr, h2, h3⟩ := hw
      refine ⟨max n m, a', h'', _, ?_, h3⟩
      unfold evTr
      simp only [hg]
      rw [evOp_mono (callV_le (Nat.le_max_left n m)) h1]
      simp only
      rw [evTr_mono (callV_le (Nat.le_max_right n m)) _ _ _ _ h2]
    · rename_i hg
      obtain ⟨n, a', h', tr, h1, h2⟩ := hw
      refine ⟨n, a', h', _, ?_, h2⟩
      unfold evTr
      simp only [hg]
      rw [h1]
    · exact hw.elim

theorem KD_cons {e : TE} {tr0 : List TE} {Q : (Nat → Value) → Heap → List TE → Prop} : (fun a' h'' tr => KD tr0 Q a' h'' (e :: tr)) = KD (e :: tr0) Q := by
  funext a h tr; unfold KD; simp

theorem VF_none {d : Option Nat} {op : IOp} {r : List IOper} {a : Nat → Value} {h : Heap} {tr0 : List TE} {Q : (Nat → Value) → Heap → List TE → Prop} : VF T (some false) d op r a h tr0 Q = WT T r (putO a d undefV) h (KD (⟨false, h, h, none⟩ :: tr0) Q) := by
  unfold VF VG; simp only [KD_cons]
theorem VF_some {d : Option Nat} {op : IOp} {r : List IOper} {a : Nat → Value} {h : Heap} {tr0 : List TE} {Q : (Nat → Value) → Heap → List TE → Prop} (hc : isCall op = false) : VF T (some true) d op r a h tr0 Q = VN T (ev0 a h op) h (loadAddr a op) d r a tr0 Q := by
  apply propext
  unfold VF VG VN
  simp only [KD_cons]
  constructor
  · rintro ⟨n, v, h', h1, h2⟩
    rw [ev0_any hc] at h1
    simp only [h1]
    exact h2
  · intro hw
    split at hw
    · rename_i v h' hv
      exact ⟨0, v, h', by rw [ev0_any hc]; exact hv, hw⟩
    · exact hw.elim
theorem VF_call {d : Option Nat} {f : Operand} {args : List Operand} {r : List IOper} {a : Nat → Value} {h : Heap} {tr0 : List TE} {Q : (Nat → Value) → Heap → List TE → Prop} : VF T (some true) d (.call f args) r a h tr0 Q = WC T (opd a f) (args.map (opd a)) h (VO T h d r a tr0 Q) := by
  unfold VF VG
  simp only [KD_cons]
  rfl
theorem VN_some {d : Option Nat} {v : Value} {h h' : Heap} {at_ : Option (Nat × Nat × Nat)} {r : List IOper} {a : Nat → Value} {tr0 : List TE} {Q : (Nat → Value) → Heap → List TE → Prop} : VN T (some (v, h')) h at_ d r a tr0 Q = WT T r (putO a d v) h' (KD (⟨true, h, h', at_⟩ :: tr0) Q) := rfl

/-- A loop, by what holds at its head, and a number that falls. -/
theorem WE_loop {rd : Option Nat} {x : IC} {Q : Ex → AAct → Heap → Prop} (I : Nat → AAct → Heap → Prop) (step : ∀ m a h, I m a h → WE T rd x a h (fun e a' h' => match e with | .normal => ∃ m', m' < m ∧ I m' a' h' | e => Q e a' h')) {m : Nat} {a : AAct} {h : Heap} (h0 : I m a h) : WE T rd (.loop x) a h Q := by
  induction m using Nat.strongRecOn generalizing a h with
  | _ m ih =>
    obtain ⟨n, e, a', h', h1, h2⟩ := step m a h h0
    cases e with
    | normal =>
      obtain ⟨m', hm, hI⟩ := h2
      obtain ⟨k, e2, a2, h2', h3, h4⟩ := ih m' hm hI
      refine ⟨max n k + 1, e2, a2, h2', ?_, h4⟩
      rw [exec, exec_le (Nat.le_max_left n k) _ _ _ _ _ h1]
      exact exec_le (Nat.le_max_right n k) _ _ _ _ _ h3
    | exit id => exact ⟨n + 1, _, _, _, by rw [exec, h1], h2⟩
    | ret => exact ⟨n + 1, _, _, _, by rw [exec, h1], h2⟩

/-- A call of a function of the table. -/
theorem WC_fun {fid : FuncId} {first captured : Array Value} {fn : IFun} {args : List Value} {h : Heap} {Q : Value → Heap → Prop} (hT : T fid = some fn) (hlen : (first.toList ++ args ++ captured.toList).length ≤ fn.n)
    (hb : WE T none fn.body ⟨initA (first.toList ++ args ++ captured.toList), []⟩ h (KF fn.res Q)) : WC T (.func (.func fid) first captured) args h Q := by
  obtain ⟨n, e, a, h', h1, h2, h'', vs, h3, h4, h5⟩ := hb
  refine ⟨n, resV vs, h'', ?_, h5⟩
  unfold callV
  simp only [hT]
  rw [if_pos hlen, h1]
  cases e with
  | exit id => exact (h2 id rfl).elim
  | normal => simp only [h3, h4]
  | ret => simp only [h3, h4]

/-- A loop over a function, of no loop's round. -/
theorem WE_range {f : Operand} {ps : List Nat} {asg body : IC} {a : AAct} {h : Heap} {Q : Ex → AAct → Heap → Prop} {gf : FuncId} {u v : Array Value} (hf : opd a.get f = .func (.func gf) u v)
    (hc : WC T (.func (.func gf) u v) [.func (.yield (h.n + 1)) #[] #[]] ((h.push .defer).push (.loop ⟨.ready, none, a.get, ps, asg, body, h.n⟩)) fun _ h2 => ∃ r, h2.get (h.n + 1) = .loop r ∧ r.state ≠ .busy ∧ Q (r.pending.getD .normal) ⟨a.get, h.n :: a.marks⟩ (h2.set (h.n + 1) (.loop { r with state := .exhausted }))) :
    WE T none (.rangeF f ps asg body) a h Q := by
  obtain ⟨n, vv, h2, h1, r, h3, h4, h5⟩ := hc
  refine ⟨n + 1, _, _, _, ?_, h5⟩
  simp only [exec, hf]
  simp only [Heap.push] at h1 ⊢
  rw [h1]
  simp only [h3]
  rw [if_neg h4]
  rfl

/-- A loop over a function, within a loop's round. -/
theorem WE_range_in {l0 : Nat} {f : Operand} {ps : List Nat} {asg body : IC} {a : AAct} {h : Heap} {Q : Ex → AAct → Heap → Prop} {gf : FuncId} {u v : Array Value} {r0 : LoopRec} (hf : opd a.get f = .func (.func gf) u v) (hr : h.get l0 = .loop r0)
    (hc : WC T (.func (.func gf) u v) [.func (.yield h.n) #[] #[]] (h.push (.loop ⟨.ready, none, a.get, ps, asg, body, r0.deferB⟩)) fun _ h2 => ∃ r, h2.get h.n = .loop r ∧ r.state ≠ .busy ∧ Q (r.pending.getD .normal) ⟨a.get, a.marks⟩ (h2.set h.n (.loop { r with state := .exhausted }))) :
    WE T (some l0) (.rangeF f ps asg body) a h Q := by
  obtain ⟨n, vv, h2, h1, r, h3, h4, h5⟩ := hc
  refine ⟨n + 1, _, _, _, ?_, h5⟩
  simp only [exec, hf, hr]
  rw [h1]
  simp only [h3]
  rw [if_neg h4]
  rfl

/-- A round of a loop over a function. -/
theorem WC_round {l : Nat} {args : List Value} {h : Heap} {Q : Value → Heap → Prop} {r : LoopRec} {a0 : Nat → Value} (hg : h.get l = .loop r) (hs : setParams r.tmps r.params args = some a0)
    (ha : WE T (some l) r.asg ⟨a0, []⟩ h fun e a1 h1 => e = .normal ∧ ∃ r1, h1.get l = .loop r1 ∧ r1.state = .ready ∧
      WE T (some l) r.body a1 (h1.set l (.loop { r1 with state := .busy })) fun e _ h2 => ∃ r2, h2.get l = .loop r2 ∧ Q (.bool e.jump.isNone) (h2.set l (.loop { r2 with state := if e.jump.isNone then .ready else .done, pending := e.jump }))) :
    WC T (.func (.yield l) #[] #[]) args h Q := by
  obtain ⟨n, e, a1, h1, h2, rfl, r1, h3, h4, m, e2, a2, h2', h5, r2, h6, h7⟩ := ha
  refine ⟨max n m, _, _, ?_, h7⟩
  unfold callV
  simp only [hg, hs]
  rw [exec_le (Nat.le_max_left n m) _ _ _ _ _ h2]
  simp only [h3, h4]
  rw [exec_le (Nat.le_max_right n m) _ _ _ _ _ h5]
  simp only [h6]

/-- A 64-bit word. -/
def ub (x : BitVec 64) : Value := .int .u64 (x.toNat : Int)

end Go.Am
