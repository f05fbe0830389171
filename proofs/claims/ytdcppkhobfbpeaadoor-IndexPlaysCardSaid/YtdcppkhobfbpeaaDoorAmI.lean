/-
  A region whose order is open, on the abstract machine: whatever order is drawn.
-/
import Derived.Test.YtdcppkhobfbpeaaDoorAmH
import Derived.OrdersIn
set_option linter.unusedVariables false
set_option linter.unusedSimpArgs false
namespace Go.Am
open Go Go.RowKit

theorem rev_ind {α : Type} {p : List α → Prop} (h0 : p []) (h1 : ∀ l a, p l → p (l ++ [a])) (l : List α) : p l := by
  rw [← List.reverse_reverse l]
  generalize l.reverse = r
  induction r with
  | nil => exact h0
  | cons a r ih => rw [List.reverse_cons]; exact h1 _ _ ih

/-! ### Ancestors -/
def ancStep (acc : List (List Nat)) (o : Oper) : List Nat := o.after.toList.foldl (fun s e => if Region.binds .any e then (e.on :: acc.getD e.on []) ++ s else s) []

theorem anc_snoc (l : List Oper) (o : Oper) : anc (l ++ [o]) = anc l ++ [ancStep (anc l) o] := by
  simp [anc, ancStep, List.foldl_append]

theorem anc_length (l : List Oper) : (anc l).length = l.length := by
  induction l using rev_ind with
  | h0 => rfl
  | h1 l o ih => rw [anc_snoc]; simp [ih]

theorem mem_ancStep {acc : List (List Nat)} {o : Oper} {i : Nat} (hi : i ∈ ancStep acc o) : ∃ e ∈ o.after.toList, Region.binds .any e = true ∧ (i = e.on ∨ i ∈ acc.getD e.on []) := by
  unfold ancStep at hi
  have key : ∀ (l : List Edge) (s : List Nat), i ∈ l.foldl (fun s e => if Region.binds .any e then (e.on :: acc.getD e.on []) ++ s else s) s → i ∈ s ∨ ∃ e ∈ l, Region.binds .any e = true ∧ (i = e.on ∨ i ∈ acc.getD e.on []) := by
    intro l
    induction l with
    | nil => intro s h; exact .inl h
    | cons e l ih =>
      intro s h
      rcases ih _ h with h1 | ⟨e', he', h2⟩
      · dsimp only at h1
        split at h1
        · rename_i hb
          rcases List.mem_append.1 h1 with h3 | h3
          · exact .inr ⟨e, by simp, hb, by simpa using h3⟩
          · exact .inl h3
        · exact .inl h1
      · exact .inr ⟨e', by simp [he'], h2⟩
  rcases key _ _ hi with h | h
  · cases h
  · exact h

theorem anc_spec : ∀ (l : List Oper) (j i : Nat), i ∈ (anc l).getD j [] → ∃ o, l[j]? = some o ∧ ∃ e ∈ o.after.toList, Region.binds .any e = true ∧ (i = e.on ∨ (e.on < j ∧ i ∈ (anc l).getD e.on [])) := by
  intro l
  induction l using rev_ind with
  | h0 => intro j i hi; simp [anc] at hi
  | h1 l o ih =>
    intro j i hi
    rw [anc_snoc] at hi ⊢
    have hl := anc_length l
    by_cases hj : j < l.length
    · have e1 : (anc l ++ [ancStep (anc l) o]).getD j [] = (anc l).getD j [] := by
        simp only [List.getD, List.getElem?_append_left (show j < (anc l).length by omega)]
      rw [e1] at hi
      obtain ⟨o', ho', e, he, hb, h1⟩ := ih j i hi
      refine ⟨o', by rw [List.getElem?_append_left hj]; exact ho', e, he, hb, ?_⟩
      rcases h1 with h1 | ⟨h1, h2⟩
      · exact .inl h1
      · refine .inr ⟨h1, ?_⟩
        simp only [List.getD, List.getElem?_append_left (show e.on < (anc l).length by omega)]
        exact h2
    · by_cases hj2 : j = l.length
      · subst hj2
        have e1 : (anc l ++ [ancStep (anc l) o]).getD l.length [] = ancStep (anc l) o := by
          simp [List.getD, List.getElem?_append_right, hl]
        rw [e1] at hi
        obtain ⟨e, he, hb, h1⟩ := mem_ancStep hi
        refine ⟨o, by simp, e, he, hb, ?_⟩
        rcases h1 with h1 | h1
        · exact .inl h1
        · have hlt : e.on < (anc l).length := by
            rcases Nat.lt_or_ge e.on (anc l).length with h | h
            · exact h
            · simp [List.getD, List.getElem?_eq_none h] at h1
          refine .inr ⟨by omega, ?_⟩
          simp only [List.getD, List.getElem?_append_left hlt]
          exact h1
      · exfalso
        simp [List.getD, List.getElem?_eq_none (show (anc l ++ [ancStep (anc l) o]).length ≤ j by simp [hl]; omega)] at hi

/-- Sets of operations that hold whatever theirs come behind. -/
def Closed (ops : Array Oper) (S : Nat → Prop) : Prop := ∀ j o, S j → ops[j]? = some o → ∀ e ∈ o.after.toList, Region.binds .any e = true → S e.on

theorem closed_anc {ops : Array Oper} {S : Nat → Prop} (hS : Closed ops S) : ∀ (j i : Nat), (∀ o, ops[j]? = some o → ∀ e ∈ o.after.toList, Region.binds .any e = true → S e.on) → i ∈ (anc ops.toList).getD j [] → S i := by
  intro j
  induction j using Nat.strongRecOn with
  | _ j ih =>
    intro i hj hi
    obtain ⟨o, ho, e, he, hb, h1⟩ := anc_spec _ _ _ hi
    have ho' : ops[j]? = some o := by simpa using ho
    have hse := hj o ho' e he hb
    rcases h1 with rfl | ⟨hlt, h2⟩
    · exact hse
    · exact ih e.on hlt i (fun o2 ho2 => hS e.on o2 hse ho2) h2

/-! ### Pairs -/
theorem pairsFrom_spec {ac : List (List Nat)} {ops : List IOper} {i : Nat} : ∀ {js : List Nat} {l : List (Nat × Nat)}, pairsFrom ac ops i js = some l → ∀ j ∈ js, ∃ m, pairOk ac ops i j = some m ∧ ∀ p ∈ m, p ∈ l
  | [], l, _, j, hj => by cases hj
  | j0 :: js, l, hp, j, hj => by
    simp only [pairsFrom] at hp
    split at hp
    · rename_i m hm
      split at hp
      · rename_i m' hm'
        cases hp
        rcases List.mem_cons.1 hj with rfl | hj
        · exact ⟨m, hm, fun p hp => List.mem_append_left _ hp⟩
        · obtain ⟨m2, h1, h2⟩ := pairsFrom_spec hm' j hj
          exact ⟨m2, h1, fun p hp => List.mem_append_right _ (h2 p hp)⟩
      · cases hp
    · cases hp

theorem pairsAll_spec {ac : List (List Nat)} {ops : List IOper} {n : Nat} : ∀ {is : List Nat} {l : List (Nat × Nat)}, pairsAll ac ops n is = some l → ∀ i ∈ is, ∀ j, j < n → i < j → ∃ m, pairOk ac ops i j = some m ∧ ∀ p ∈ m, p ∈ l
  | [], l, _, i, hi => by cases hi
  | i0 :: is, l, hp, i, hi => by
    intro j hj hij
    simp only [pairsAll] at hp
    split at hp
    · rename_i m hm
      split at hp
      · rename_i m' hm'
        cases hp
        rcases List.mem_cons.1 hi with rfl | hi
        · obtain ⟨m2, h1, h2⟩ := pairsFrom_spec hm j (by simp [hj, hij])
          exact ⟨m2, h1, fun p hp => List.mem_append_left _ (h2 p hp)⟩
        · obtain ⟨m2, h1, h2⟩ := pairsAll_spec hm' i hi j hj hij
          exact ⟨m2, h1, fun p hp => List.mem_append_right _ (h2 p hp)⟩
      · cases hp
    · cases hp

/-! ### What an operation looks at -/
theorem opd_congr {a b : Nat → Value} {x : Operand} (hx : ∀ t ∈ operTmps x, a t = b t) : opd a x = opd b x := by
  cases x <;> first | rfl | exact hx _ (by simp [operTmps])

theorem opds_congr {a b : Nat → Value} : ∀ {l : List Operand}, (∀ t ∈ l.flatMap operTmps, a t = b t) → l.map (opd a) = l.map (opd b)
  | [], _ => rfl
  | x :: l, hx => by
    simp only [List.map_cons]
    rw [opd_congr fun t ht => hx t (by simp [ht]), opds_congr fun t ht => hx t (by
      simp only [List.flatMap_cons, List.mem_append]; exact .inr ht)]

theorem parts_congr {a b : Nat → Value} : ∀ {l : List (Nat × Nat × Operand)}, (∀ t ∈ l.flatMap (fun p => operTmps p.2.2), a t = b t) → partsV a l = partsV b l
  | [], _ => rfl
  | x :: l, hx => by
    simp only [partsV, List.map_cons]
    rw [opd_congr fun t ht => hx t (by simp [ht])]
    have := parts_congr (l := l) (a := a) (b := b) fun t ht => hx t (by simp only [List.flatMap_cons, List.mem_append]; exact .inr ht)
    simp only [partsV] at this
    rw [this]

theorem bound_congr {a b : Nat → Value} {y d : Nat} {x : Option Operand} (hx : ∀ t ∈ optTmps x, a t = b t) : boundOf a y d x = boundOf b y d x := by
  cases x with
  | none => rfl
  | some x => simp only [boundOf]; rw [opd_congr hx]

theorem evOp_congr {call : CallT} {a b : Nat → Value} {h : Heap} {io : IOp} (hx : ∀ t ∈ iopTmps io, a t = b t) : evOp call a h io = evOp call b h io := by
  cases io <;> simp only [evOp, iopTmps, List.mem_append] at hx ⊢
  case mov x => rw [opd_congr hx]
  case pick c x y => rw [opd_congr fun t ht => hx t (.inl (.inl ht)), opd_congr fun t ht => hx t (.inl (.inr ht)), opd_congr (x := y) fun t ht => hx t (.inr ht)]
  case box e x => rw [opd_congr hx]
  case build z ps => rw [parts_congr hx]
  case bslice e z l ps => rw [parts_congr hx]
  case load1 x => rw [opd_congr hx]
  case loadN n x => rw [opd_congr hx]
  case store n x v => rw [opd_congr fun t ht => hx t (.inl ht), opd_congr (x := v) fun t ht => hx t (.inr ht)]
  case nilck x => rw [opd_congr hx]
  case bin op x y => rw [opd_congr fun t ht => hx t (.inl ht), opd_congr (x := y) fun t ht => hx t (.inr ht)]
  case beq n x y => rw [opd_congr fun t ht => hx t (.inl ht), opd_congr (x := y) fun t ht => hx t (.inr ht)]
  case neq n x y => rw [opd_congr fun t ht => hx t (.inl ht), opd_congr (x := y) fun t ht => hx t (.inr ht)]
  case sneq n x y => rw [opd_congr fun t ht => hx t (.inl ht), opd_congr (x := y) fun t ht => hx t (.inr ht)]
  case seq n l x y => rw [opd_congr fun t ht => hx t (.inl ht), opd_congr (x := y) fun t ht => hx t (.inr ht)]
  case un op x => rw [opd_congr hx]
  case conv k x => rw [opd_congr hx]
  case fld1 n x => rw [opd_congr hx]
  case fldN n m x => rw [opd_congr hx]
  case faddr n x => rw [opd_congr hx]
  case iaddr n x y => rw [opd_congr fun t ht => hx t (.inl ht), opd_congr (x := y) fun t ht => hx t (.inr ht)]
  case iaddrA n m x y => rw [opd_congr fun t ht => hx t (.inl ht), opd_congr (x := y) fun t ht => hx t (.inr ht)]
  case idx1 n m x y => rw [opd_congr fun t ht => hx t (.inl ht), opd_congr (x := y) fun t ht => hx t (.inr ht)]
  case slice e n x lo hi mx =>
    rw [opd_congr fun t ht => hx t (.inl (.inl (.inl ht)))]
    have h1 : ∀ y d, boundOf a y d lo = boundOf b y d lo := fun y d => bound_congr fun t ht => hx t (.inl (.inl (.inr ht)))
    have h2 : ∀ y d, boundOf a y d hi = boundOf b y d hi := fun y d => bound_congr fun t ht => hx t (.inl (.inr ht))
    have h3 : ∀ y d, boundOf a y d mx = boundOf b y d mx := fun y d => bound_congr fun t ht => hx t (.inr ht)
    simp only [h1, h2, h3]
  case len x => rw [opd_congr hx]
  case mkfn f u v => rw [opds_congr fun t ht => hx t (.inl ht), opds_congr (l := v) fun t ht => hx t (.inr ht)]
  case ext x i => rw [opd_congr hx]
  case minmax m x y => rw [opd_congr fun t ht => hx t (.inl ht), opd_congr (x := y) fun t ht => hx t (.inr ht)]
  case app e n m x y => rw [opd_congr fun t ht => hx t (.inl ht), opd_congr (x := y) fun t ht => hx t (.inr ht)]
  case call f args => rw [opd_congr fun t ht => hx t (.inl ht), opds_congr fun t ht => hx t (.inr ht)]

theorem loadAddr_congr {a b : Nat → Value} {io : IOp} (hx : ∀ t ∈ iopTmps io, a t = b t) : loadAddr a io = loadAddr b io := by
  cases io <;> simp only [loadAddr, iopTmps] at hx ⊢ <;> rw [opd_congr hx]

/-- Pure operations, whatever the heap. -/
theorem evOp_pure {call : CallT} {a : Nat → Value} {h k h' : Heap} {io : IOp} {v : Value} (hp : isPureI io = true) (he : evOp call a h io = some (v, h')) : h' = h ∧ evOp call a k io = some (v, k) := by
  cases io <;> simp only [isPureI] at hp <;> first | (cases hp; done) | skip
  all_goals
    simp only [evOp] at he ⊢
    repeat' split at he
    all_goals first | (cases he; done) | (simp only [Option.some.injEq, Prod.mk.injEq] at he; obtain ⟨rfl, rfl⟩ := he; exact ⟨rfl, by simp_all <;> omega⟩)

/-- Loads, wherever the heap reads the same there. -/
theorem evOp_load {call : CallT} {a : Nat → Value} {h h' : Heap} {io : IOp} {v : Value} (hp : isLoadI io = true) (he : evOp call a h io = some (v, h')) :
    h' = h ∧ ∃ b o n, loadAddr a io = some (b, o, n) ∧ ∀ k : Heap, k.load b o n = h.load b o n → evOp call a k io = some (v, k) := by
  cases io <;> simp only [isLoadI] at hp <;> first | (cases hp; done) | skip
  case load1 x =>
    simp only [evOp, loadAddr] at he ⊢
    split at he
    · rename_i b o hx
      split at he
      · rename_i u hu
        simp only [Option.some.injEq, Prod.mk.injEq] at he
        obtain ⟨rfl, rfl⟩ := he
        exact ⟨rfl, b, o, 1, rfl, fun k hk => by rw [hk, hu]⟩
      · cases he
    · cases he
  case loadN n x =>
    simp only [evOp, loadAddr] at he ⊢
    split at he
    · rename_i b o hx
      split at he
      · rename_i u hu
        simp only [Option.some.injEq, Prod.mk.injEq] at he
        obtain ⟨rfl, rfl⟩ := he
        exact ⟨rfl, b, o, n, rfl, fun k hk => by rw [hk, hu]⟩
      · cases he
    · cases he

/-! ### The run in the order of the text -/
theorem tr_spec {call : CallT} : ∀ (il : List IOper) (a a' : Nat → Value) (h h' : Heap) (tr : List TE), evTr call il a h = some (a', h', tr) →
    ∃ (A : Nat → Nat → Value) (H : Nat → Heap), A 0 = a ∧ H 0 = h ∧ A il.length = a' ∧ H il.length = h' ∧
      ∀ i io, il[i]? = some io → ∃ b, wants (A i) io.guard = some b ∧
        (b = true → ∃ v, evOp call (A i) (H i) io.op = some (v, H (i + 1)) ∧ A (i + 1) = putO (A i) io.dst v ∧ tr[i]? = some ⟨true, H i, H (i + 1), loadAddr (A i) io.op⟩) ∧
        (b = false → H (i + 1) = H i ∧ A (i + 1) = putO (A i) io.dst undefV ∧ tr[i]? = some ⟨false, H i, H i, none⟩)
  | [], a, a', h, h', tr, he => by
    simp only [evTr, Option.some.injEq, Prod.mk.injEq] at he
    obtain ⟨rfl, rfl, rfl⟩ := he
    exact ⟨fun _ => a, fun _ => h, rfl, rfl, rfl, rfl, fun i io hi => by simp at hi⟩
  | o :: l, a, a', h, h', tr, he => by
    simp only [evTr] at he
    split at he
    · rename_i hw
      split at he
      · rename_i v h1 hv
        split at he
        · rename_i a2 h2 tr2 h3
          simp only [Option.some.injEq, Prod.mk.injEq] at he
          obtain ⟨rfl, rfl, rfl⟩ := he
          obtain ⟨A, H, e1, e2, e3, e4, e5⟩ := tr_spec l _ _ _ _ _ h3
          refine ⟨fun i => match i with | 0 => a | i + 1 => A i, fun i => match i with | 0 => h | i + 1 => H i, rfl, rfl, e3, e4, fun i io hi => ?_⟩
          cases i with
          | zero =>
            simp only [List.getElem?_cons_zero, Option.some.injEq] at hi
            subst hi
            refine ⟨true, hw, fun _ => ⟨v, ?_, ?_, ?_⟩, (fun h => by cases h)⟩
            · show evOp call a h _ = some (v, H 0); rw [e2]; exact hv
            · exact e1
            · show some (TE.mk true h h1 (loadAddr a _)) = some (TE.mk true h (H 0) (loadAddr a _)); rw [e2]
          | succ i => exact e5 i io (by simpa using hi)
        · cases he
      · cases he
    · rename_i hw
      split at he
      · rename_i a2 h2 tr2 h3
        simp only [Option.some.injEq, Prod.mk.injEq] at he
        obtain ⟨rfl, rfl, rfl⟩ := he
        obtain ⟨A, H, e1, e2, e3, e4, e5⟩ := tr_spec l _ _ _ _ _ h3
        refine ⟨fun i => match i with | 0 => a | i + 1 => A i, fun i => match i with | 0 => h | i + 1 => H i, rfl, rfl, e3, e4, fun i io hi => ?_⟩
        cases i with
        | zero =>
          simp only [List.getElem?_cons_zero, Option.some.injEq] at hi
          subst hi
          exact ⟨false, hw, (fun h => by cases h), fun _ => ⟨e2, e1, rfl⟩⟩
        | succ i => exact e5 i io (by simpa using hi)
      · cases he
    · cases he

theorem compOpers_get {P : Program} {N : Nat} {ops : Array Oper} : ∀ {l : List Oper} {il : List IOper}, compOpers P N ops l = some il → il.length = l.length ∧ ∀ (i : Nat) (o : Oper), l[i]? = some o → ∃ io : IOper, il[i]? = some io ∧ compOper P N ops o = some io
  | [], il, hc => by simp only [compOpers, Option.some.injEq] at hc; subst hc; simp
  | o :: l, il, hc => by
    simp only [compOpers] at hc
    split at hc
    · rename_i io hio
      split at hc
      · rename_i il' hil
        cases hc
        obtain ⟨h1, h2⟩ := compOpers_get hil
        refine ⟨by simp [h1], fun i o' hi => ?_⟩
        cases i with
        | zero => simp at hi; subst hi; exact ⟨io, by simp, hio⟩
        | succ i => simpa using h2 i o' (by simpa using hi)
      · cases hc
    · cases hc

theorem chkAll_mem {tr : List TE} : ∀ {l : List (Nat × Nat)}, chkAll tr l → ∀ p ∈ l, chkOne tr p
  | [], _, p, hp => by cases hp
  | q :: l, h, p, hp => by
    rcases List.mem_cons.1 hp with rfl | hp
    · exact h.1
    · exact chkAll_mem h.2 p hp

def isEff (o : IOper) : Bool := !isPureI o.op && !isLoadI o.op

section
variable {P : Program} {base : Nat} {w0 : World}

/-- A value stays as it is while nothing is put there. -/
theorem A_same {A : Nat → Nat → Value} {il : List IOper} (hA : ∀ i io, il[i]? = some io → ∃ v, A (i + 1) = putO (A i) io.dst v) (t : Nat) : ∀ (d m : Nat), m + d ≤ il.length → (∀ i io, m ≤ i → i < m + d → il[i]? = some io → io.dst ≠ some t) → A (m + d) t = A m t
  | 0, m, _, _ => rfl
  | d + 1, m, hl, hn => by
    have hi : il[m + d]? = some il[m + d] := List.getElem?_eq_getElem (by omega)
    obtain ⟨v, hv⟩ := hA (m + d) _ hi
    have h1 := hn (m + d) _ (by omega) (by omega) hi
    rw [show m + (d + 1) = m + d + 1 by omega, hv]
    have : putO (A (m + d)) (il[m + d]).dst v t = A (m + d) t := by
      cases hd : (il[m + d]).dst with
      | none => rfl
      | some u => simp only [putO, put]; rw [if_neg]; rintro rfl; exact h1 hd
    rw [this]
    exact A_same hA t d m (by omega) fun i io h2 h3 h4 => hn i io h2 (by omega) h4

theorem H_same {H : Nat → Heap} {il : List IOper} (hH : ∀ i io, il[i]? = some io → isEff io = false → H (i + 1) = H i) : ∀ (d m : Nat), m + d ≤ il.length → (∀ i io, m ≤ i → i < m + d → il[i]? = some io → isEff io = false) → H (m + d) = H m
  | 0, m, _, _ => rfl
  | d + 1, m, hl, hn => by
    have hi : il[m + d]? = some il[m + d] := List.getElem?_eq_getElem (by omega)
    rw [show m + (d + 1) = m + d + 1 by omega, hH (m + d) _ hi (hn _ _ (by omega) (by omega) hi)]
    exact H_same hH d m (by omega) fun i io h2 h3 h4 => hn i io h2 (by omega) h4

theorem load_same {H : Nat → Heap} {il : List IOper} {b o n : Nat} : ∀ (d m : Nat), m + d ≤ il.length → (∀ i io, m ≤ i → i < m + d → il[i]? = some io → (H (i + 1)).load b o n = (H i).load b o n) → (H (m + d)).load b o n = (H m).load b o n
  | 0, m, _, _ => rfl
  | d + 1, m, hl, hn => by
    have hi : il[m + d]? = some il[m + d] := List.getElem?_eq_getElem (by omega)
    rw [show m + (d + 1) = m + d + 1 by omega, hn (m + d) _ (by omega) (by omega) hi]
    exact load_same d m (by omega) fun i io h2 h3 h4 => hn i io h2 (by omega) h4

theorem listed_set {listed : Array Bool} {n i j : Nat} (hn : listed.size = n) (hi : i < n) : (listed.setIfInBounds i true).getD j false = (if j = i then true else listed.getD j false) := by
  simp only [Array.getD_eq_getD_getElem?]
  by_cases h : j = i
  · subst h; simp [hn, hi]
  · rw [Array.getElem?_setIfInBounds_ne (by omega), if_neg h]

/-- **A REGION WHOSE ORDER IS OPEN.** -/
theorem draw_sound {call : CallT} (hcall : CallOK P base w0 call) {N : Nat} {ops : Array Oper} {r : Option Nat} {Q : Exit → Act → World → Prop} {il : List IOper} {chk : List (Nat × Nat)} {φ : Map} {h h' : Heap} {w : World} {a a' : Nat → Value} {ac : Act} {tr : List TE}
    (hc : compOpers P N ops ops.toList = some il) (hed : edgesOk ops = true) (hp : pairsAll (anc ops.toList) il ops.size (List.range ops.size) = some chk) (he : evTr call il a h = some (a', h', tr)) (hchk : chkAll tr chk)
    (hs : Sim P base w0 φ h w) (hf : FR φ N a ac.tmps)
    (hQ : ∀ φ' w' ac', Sim P base w0 φ' h' w' → Step φ h w φ' h' w' → FR φ' N a' ac'.tmps → ac'.defers = ac.defers → Q .normal ac' w') :
    wpAnyIn (fen r) 0 P .any ops Q ops.size (Array.replicate ops.size false) ac w := by
  obtain ⟨hlen, hget⟩ := compOpers_get hc
  simp only [Array.length_toList] at hlen
  obtain ⟨A, H, hA0, hH0, hAn, hHn, hst⟩ := tr_spec il a a' h h' tr he
  have hAput : ∀ i io, il[i]? = some io → ∃ v, A (i + 1) = putO (A i) io.dst v := fun i io hi => by
    obtain ⟨b, _, h1, h2⟩ := hst i io hi
    cases b with
    | true => obtain ⟨v, _, e, _⟩ := h1 rfl; exact ⟨v, e⟩
    | false => exact ⟨_, (h2 rfl).2.1⟩
  have hHeff : ∀ i io, il[i]? = some io → isEff io = false → H (i + 1) = H i := fun i io hi hef => by
    obtain ⟨b, _, h1, h2⟩ := hst i io hi
    cases b with
    | false => exact (h2 rfl).1
    | true =>
      obtain ⟨v, e, _, _⟩ := h1 rfl
      simp only [isEff, Bool.and_eq_false_iff, Bool.not_eq_false'] at hef
      rcases hef with h3 | h3
      · exact (evOp_pure (k := H i) h3 e).1
      · exact (evOp_load h3 e).1
  have hpair : ∀ i j, i < j → j < ops.size → ∃ m, pairOk (anc ops.toList) il i j = some m ∧ ∀ p ∈ m, p ∈ chk := fun i j hij hj => pairsAll_spec hp i (by simp; omega) j hj hij
  have hilget : ∀ i, i < ops.size → ∃ io, il[i]? = some io := fun i hi => ⟨il[i]'(by omega), List.getElem?_eq_getElem (by omega)⟩
  -- what a pair that isn't ordered is
  have hfree : ∀ i j ia jb, i < j → j < ops.size → il[i]? = some ia → il[j]? = some jb → i ∉ (anc ops.toList).getD j [] →
      (∀ d, ia.dst = some d → d ∉ reads jb ∧ jb.dst ≠ some d) ∧ (∀ d, jb.dst = some d → d ∉ reads ia) ∧ (isEff ia = true → isEff jb = true → False) ∧
      (isEff ia = true → isLoadI jb.op = true → (i, j) ∈ chk) ∧ (isLoadI ia.op = true → isEff jb = true → (j, i) ∈ chk) := by
    intro i j ia jb hij hj hi hjb hna
    obtain ⟨m, hm, hsub⟩ := hpair i j hij hj
    simp only [pairOk, hi, hjb] at hm
    rw [if_neg (by simpa using hna)] at hm
    split at hm
    · cases hm
    · rename_i hcl
      simp only [Bool.not_eq_true] at hcl
      obtain ⟨c1, c2⟩ := clash_spec hcl
      refine ⟨c1, c2, fun e1 e2 => ?_, fun e1 e2 => ?_, fun e1 e2 => ?_⟩
      all_goals
        simp only [isEff, Bool.and_eq_true, Bool.not_eq_true'] at e1 e2
      · rw [e1.1, e2.1, e1.2, e2.2] at hm
        simp at hm
      · have hjp : isPureI jb.op = false := by cases hq : jb.op <;> rw [hq] at e2 <;> first | rfl | (cases e2; done)
        rw [e1.1, hjp, e1.2, e2] at hm
        simp at hm
        exact hsub _ (by rw [← hm]; simp)
      · have hip : isPureI ia.op = false := by cases hq : ia.op <;> rw [hq] at e1 <;> first | rfl | (cases e1; done)
        rw [hip, e2.1, e1, e2.2] at hm
        simp at hm
        exact hsub _ (by rw [← hm]; simp)
  -- what the check says
  have hchk2 : ∀ i j io jo b o n, il[i]? = some io → il[j]? = some jo → (i, j) ∈ chk → loadAddr (A j) jo.op = some (b, o, n) → wants (A j) jo.guard = some true → (H (i + 1)).load b o n = (H i).load b o n := by
    intro i j io jo b o n hi hj hmem hla hwj
    have h1 := chkAll_mem hchk _ hmem
    obtain ⟨bi, _, p1, p2⟩ := hst i io hi
    obtain ⟨bj, hbj, q1, q2⟩ := hst j jo hj
    rw [hwj] at hbj; cases hbj
    obtain ⟨v, _, _, trj⟩ := q1 rfl
    cases bi with
    | true =>
      obtain ⟨u, _, _, tri⟩ := p1 rfl
      simp only [chkOne, tri, trj, hla] at h1
      exact h1.symm
    | false => rw [(p2 rfl).1]
  have hedge : ∀ j o, ops[j]? = some o → ∀ e ∈ o.after, Region.binds .any e = true → e.on < j := by
    intro j o ho e he2 hb
    unfold edgesOk at hed
    rw [List.all_eq_true] at hed
    have := hed (o, j) (by
      rw [Array.toList_zipIdx]
      exact List.mem_zipIdx_iff_getElem?.2 (by simpa using ho))
    simp only at this
    rw [List.all_eq_true] at this
    have := this e (by simpa using he2)
    simpa [hb] using this
  -- when all has been done
  have fin : ∀ (listed : Array Bool) (ac1 : Act) (w1 : World) (m : Nat → Nat) (s : Nat) (φ1 : Map), listed.size = ops.size → (∀ i, i < ops.size → listed.getD i false = true) → (∀ t, m t ≤ il.length) → s ≤ il.length →
      (∀ t i io, il[i]? = some io → io.dst = some t → (listed.getD i false = true ↔ i < m t)) →
      (∀ i io, il[i]? = some io → isEff io = true → (listed.getD i false = true ↔ i < s)) →
      Sim P base w0 φ1 (H s) w1 → Step φ h w φ1 (H s) w1 → FR φ1 N (fun t => A (m t) t) ac1.tmps → ac1.defers = ac.defers → Q .normal ac1 w1 := by
    intro listed ac1 w1 m s φ1 hsz hall hm hsl hmw hsw hs1 hst1 hf1 hd1
    have hHs : H s = h' := by
      have := H_same hHeff (il.length - s) s (by omega) (fun i ii h1 h2 h3 => by
        cases hq : isEff ii with
        | false => rfl
        | true =>
          have := (hsw i ii h3 hq).1 (hall i (by have := (List.getElem?_eq_some_iff.1 h3).1; omega))
          omega)
      rw [show s + (il.length - s) = il.length by omega, hHn] at this
      exact this.symm
    have hAs : (fun t => A (m t) t) = a' := by
      funext t
      have := A_same hAput t (il.length - m t) (m t) (by have := hm t; omega) (fun i ii h1 h2 h3 h4 => by
        have := (hmw t i ii h3 h4).1 (hall i (by have := (List.getElem?_eq_some_iff.1 h3).1; omega))
        omega)
      rw [show m t + (il.length - m t) = il.length by have := hm t; omega, hAn] at this
      exact this.symm
    rw [hHs] at hs1 hst1
    rw [hAs] at hf1
    exact hQ φ1 w1 ac1 hs1 hst1 hf1 hd1
  -- the run, whatever has been done
  have main : ∀ (fuel : Nat) (listed : Array Bool) (ac1 : Act) (w1 : World) (U : List Nat) (m : Nat → Nat) (s : Nat) (φ1 : Map), listed.size = ops.size → U.length ≤ fuel → (∀ i, i < ops.size → listed.getD i false = false → i ∈ U) →
      Closed ops (fun i => listed.getD i false = true) → (∀ t, m t ≤ il.length) → s ≤ il.length →
      (∀ t i io, il[i]? = some io → io.dst = some t → (listed.getD i false = true ↔ i < m t)) →
      (∀ i io, il[i]? = some io → isEff io = true → (listed.getD i false = true ↔ i < s)) →
      Sim P base w0 φ1 (H s) w1 → Step φ h w φ1 (H s) w1 → FR φ1 N (fun t => A (m t) t) ac1.tmps → ac1.defers = ac.defers →
      wpAnyIn (fen r) 0 P .any ops Q fuel listed ac1 w1 := by
    intro fuel
    induction fuel with
    | zero =>
      intro listed ac1 w1 U m s φ1 hsz hU hcov hcl hm hsl hmw hsw hs1 hst1 hf1 hd1
      have hall : ∀ i, i < ops.size → listed.getD i false = true := fun i hi => by
        cases hq : listed.getD i false with
        | true => rfl
        | false =>
          have := List.length_pos_of_mem (hcov i hi hq)
          omega
      refine ⟨?_, fin listed ac1 w1 m s φ1 hsz hall hm hsl hmw hsw hs1 hst1 hf1 hd1⟩
      cases hr : Region.ready .any ops listed with
      | nil => rfl
      | cons x xs =>
        exfalso
        have hx : x ∈ Region.ready .any ops listed := by rw [hr]; simp
        obtain ⟨h0, o, ho, _⟩ := mem_ready.1 hx
        have hlt : x < ops.size := (Array.getElem?_eq_some_iff.1 ho).1
        have h1 := hall x hlt
        simp only [Array.getD_eq_getD_getElem?] at h0 h1
        rw [Array.getElem?_eq_getElem (by omega)] at h0 h1
        simp at h0 h1
        rw [h0] at h1; cases h1
    | succ fuel ih =>
      intro listed ac1 w1 U m s φ1 hsz hU hcov hcl hm hsl hmw hsw hs1 hst1 hf1 hd1
      refine ⟨fun hnil => fin listed ac1 w1 m s φ1 hsz (fun i hi => ?_) hm hsl hmw hsw hs1 hst1 hf1 hd1, fun j hj => ?_⟩
      · -- none is ready: all are done
        revert hi
        induction i using Nat.strongRecOn with
        | _ i ihi =>
          intro hi
          cases hq : listed.getD i false with
          | true => rfl
          | false =>
            exfalso
            have : i ∈ Region.ready .any ops listed := by
              refine mem_ready.2 ⟨?_, ops[i], by simp [hi], fun e he2 hb => ?_⟩
              · simp only [Array.getD_eq_getD_getElem?] at hq ⊢
                rw [Array.getElem?_eq_getElem (by omega)] at hq ⊢
                simpa using hq
              · have hlt := hedge i ops[i] (by simp [hi]) e he2 hb
                exact ihi e.on hlt (by omega)
            rw [hnil] at this
            cases this
      · -- one that is ready
        obtain ⟨hj0, o, ho, hready⟩ := mem_ready.1 hj
        have hjlt : j < ops.size := (Array.getElem?_eq_some_iff.1 ho).1
        have hjun : listed.getD j false = false := by
          simp only [Array.getD_eq_getD_getElem?] at hj0 ⊢
          rw [Array.getElem?_eq_getElem (by omega)] at hj0 ⊢
          simpa using hj0
        obtain ⟨io, hio, hco⟩ := hget j o (by simpa using ho)
        obtain ⟨c1, c2, c3, c4⟩ := compOper_some hco
        have hancj : ∀ i, i ∈ (anc ops.toList).getD j [] → listed.getD i false = true := fun i hi =>
          closed_anc hcl j i (fun o2 ho2 e he2 hb => by rw [ho] at ho2; cases ho2; exact hready e (by simpa using he2) hb) hi
        have hancS : ∀ i k, listed.getD i false = true → k ∈ (anc ops.toList).getD i [] → listed.getD k false = true := fun i k hi hk =>
          closed_anc hcl i k (fun o2 ho2 e he2 hb => hcl i o2 hi ho2 e he2 hb) hk
        -- what it reads is what the text has there
        have hread : ∀ t ∈ reads io, A (m t) t = A j t := by
          intro t ht
          rcases Nat.lt_or_ge (m t) j with hlt | hge
          · have := A_same hAput t (j - m t) (m t) (by omega) (fun i ii h1 h2 h3 h4 => by
              have hni : ¬ (listed.getD i false = true) := fun hS => by have := (hmw t i ii h3 h4).1 hS; omega
              by_cases han : i ∈ (anc ops.toList).getD j []
              · exact hni (hancj i han)
              · exact ((hfree i j ii io (by omega) hjlt h3 hio han).1 t h4).1 ht)
            rw [show m t + (j - m t) = j by omega] at this
            exact this.symm
          · have := A_same hAput t (m t - j) j (by have := hm t; omega) (fun i ii h1 h2 h3 h4 => by
              have hS := (hmw t i ii h3 h4).2 (by omega)
              have hij : i ≠ j := by rintro rfl; rw [hjun] at hS; cases hS
              have hilt : i < ops.size := by have := (List.getElem?_eq_some_iff.1 h3).1; omega
              by_cases han : j ∈ (anc ops.toList).getD i []
              · have := hancS i j hS han; rw [hjun] at this; cases this
              · exact (hfree j i io ii (by omega) hilt hio h3 han).2.1 t h4 ht)
            rw [show j + (m t - j) = m t by omega] at this
            exact this
        -- the heap that it comes to
        have hheapE : isEff io = true → s ≤ j ∧ H s = H j := fun hef => by
          have hsj : s ≤ j := by
            rcases Nat.lt_or_ge j s with hlt | hge
            · have := (hsw j io hio hef).2 hlt; rw [hjun] at this; cases this
            · exact hge
          refine ⟨hsj, ?_⟩
          have := H_same hHeff (j - s) s (by omega) (fun i ii h1 h2 h3 => by
            cases hq : isEff ii with
            | false => rfl
            | true =>
              exfalso
              have hni : ¬ (listed.getD i false = true) := fun hS => by have := (hsw i ii h3 hq).1 hS; omega
              by_cases han : i ∈ (anc ops.toList).getD j []
              · exact hni (hancj i han)
              · exact (hfree i j ii io (by omega) hjlt h3 hio han).2.2.1 hq hef)
          rw [show s + (j - s) = j by omega] at this
          exact this.symm
        have hheapL : ∀ b o2 n, isLoadI io.op = true → loadAddr (A j) io.op = some (b, o2, n) → wants (A j) io.guard = some true → (H s).load b o2 n = (H j).load b o2 n := by
          intro b o2 n hld hla hwj
          rcases Nat.lt_or_ge s j with hlt | hge
          · have := load_same (H := H) (b := b) (o := o2) (n := n) (il := il) (j - s) s (by omega) (fun i ii h1 h2 h3 => by
              cases hq : isEff ii with
              | false => rw [hHeff i ii h3 hq]
              | true =>
                have hni : ¬ (listed.getD i false = true) := fun hS => by have := (hsw i ii h3 hq).1 hS; omega
                by_cases han : i ∈ (anc ops.toList).getD j []
                · exact absurd (hancj i han) hni
                · exact hchk2 i j ii io b o2 n h3 hio ((hfree i j ii io (by omega) hjlt h3 hio han).2.2.2.1 hq hld) hla hwj)
            rw [show s + (j - s) = j by omega] at this
            exact this.symm
          · have := load_same (H := H) (b := b) (o := o2) (n := n) (il := il) (s - j) j (by omega) (fun i ii h1 h2 h3 => by
              cases hq : isEff ii with
              | false => rw [hHeff i ii h3 hq]
              | true =>
                have hS := (hsw i ii h3 hq).2 (by omega)
                have hij : i ≠ j := by rintro rfl; rw [hjun] at hS; cases hS
                have hilt : i < ops.size := by have := (List.getElem?_eq_some_iff.1 h3).1; omega
                by_cases han : j ∈ (anc ops.toList).getD i []
                · have := hancS i j hS han; rw [hjun] at this; cases this
                · exact hchk2 i j ii io b o2 n h3 hio ((hfree j i io ii (by omega) hilt hio h3 han).2.2.2.2 hld hq) hla hwj)
            rw [show j + (s - j) = s by omega] at this
            exact this
        -- what is known behind it
        have next : ∀ (φ' : Map) (v v' : Value) (w' : World) (k : Heap), VR φ' v v' → Sim P base w0 φ' k w' → Step φ1 (H s) w1 φ' k w' → A (j + 1) = putO (A j) io.dst v → k = (if isEff io then H (j + 1) else H s) →
            wpAnyIn (fen r) 0 P .any ops Q fuel (listed.setIfInBounds j true) (ac1.put o.dst v') w' := by
          intro φ' v v' w' k g1 g2 g3 g4 g5
          have hL : ∀ i, (listed.setIfInBounds j true).getD i false = (if i = j then true else listed.getD i false) := fun i => listed_set hsz hjlt
          have hcov' : ∀ i, i < ops.size → (listed.setIfInBounds j true).getD i false = false → i ∈ U.erase j := fun i hi hq => by
            rw [hL] at hq
            split at hq
            · cases hq
            · rename_i hne
              exact (List.mem_erase_of_ne hne).2 (hcov i hi hq)
          have hUl : (U.erase j).length ≤ fuel := by
            rw [List.length_erase_of_mem (hcov j hjlt hjun)]; omega
          have hf' := put_rel (hf1.mono (hs1.sub g3)) c4 g1
          rw [g5] at g2 g3
          refine ih _ _ w' (U.erase j) (fun t => if io.dst = some t then j + 1 else m t) (if isEff io then j + 1 else s) φ' (by simpa using hsz) hUl hcov' ?_ ?_ ?_ ?_ ?_ ?_ ?_ ?_ ?_
          · -- closed
            intro i o2 hi ho2 e he2 hb
            simp only [hL] at hi ⊢
            split
            · rfl
            · by_cases hij : i = j
              · subst hij
                rw [ho] at ho2; cases ho2
                exact hready e (by simpa using he2) hb
              · rw [if_neg hij] at hi
                exact hcl i o2 hi ho2 e he2 hb
          · intro t; show (if io.dst = some t then j + 1 else m t) ≤ il.length
            split
            · omega
            · exact hm t
          · split
            · omega
            · exact hsl
          · intro t i ii hii hdt
            show _ ↔ i < (if io.dst = some t then j + 1 else m t)
            rw [hL]
            have hilt : i < ops.size := by have := (List.getElem?_eq_some_iff.1 hii).1; omega
            by_cases hij : i = j
            · subst hij
              rw [hio] at hii; cases hii
              rw [if_pos rfl, if_pos hdt]
              simp
            · rw [if_neg hij]
              by_cases hdj : io.dst = some t
              · rw [if_pos hdj]
                constructor
                · intro hS
                  rcases Nat.lt_or_ge i j with hlt | hge
                  · omega
                  · exfalso
                    by_cases han : j ∈ (anc ops.toList).getD i []
                    · have := hancS i j hS han; rw [hjun] at this; cases this
                    · exact ((hfree j i io ii (by omega) hilt hio hii han).1 t hdj).2 hdt
                · intro hlt
                  by_cases han : i ∈ (anc ops.toList).getD j []
                  · exact hancj i han
                  · exact absurd hdj ((hfree i j ii io (by omega) hjlt hii hio han).1 t hdt).2
              · rw [if_neg hdj]
                exact hmw t i ii hii hdt
          · intro i ii hii hef
            rw [hL]
            have hilt : i < ops.size := by have := (List.getElem?_eq_some_iff.1 hii).1; omega
            by_cases hij : i = j
            · subst hij
              rw [hio] at hii; cases hii
              rw [if_pos rfl, if_pos hef]
              simp
            · rw [if_neg hij]
              by_cases hej : isEff io = true
              · rw [if_pos hej]
                constructor
                · intro hS
                  rcases Nat.lt_or_ge i j with hlt | hge
                  · omega
                  · exfalso
                    by_cases han : j ∈ (anc ops.toList).getD i []
                    · have := hancS i j hS han; rw [hjun] at this; cases this
                    · exact (hfree j i io ii (by omega) hilt hio hii han).2.2.1 hej hef
                · intro hlt
                  by_cases han : i ∈ (anc ops.toList).getD j []
                  · exact hancj i han
                  · exact absurd hej (fun h => (hfree i j ii io (by omega) hjlt hii hio han).2.2.1 hef h)
              · rw [if_neg hej]
                exact hsw i ii hii hef
          · cases hq : isEff io with
            | true => rw [hq] at g2; simpa using g2
            | false => rw [hq] at g2; simpa using g2
          · have := Step.trans hs hs1 hst1 g3
            cases hq : isEff io with
            | true => rw [hq] at this; simpa using this
            | false => rw [hq] at this; simpa using this
          · have hfun : (fun t => A (if io.dst = some t then j + 1 else m t) t) = putO (fun t => A (m t) t) o.dst v := by
              funext t
              rw [← c3]
              by_cases hdj : io.dst = some t
              · rw [if_pos hdj, g4, hdj]
                simp [putO, put]
              · rw [if_neg hdj]
                cases hd : io.dst with
                | none => rfl
                | some u =>
                  simp only [putO, put]
                  rw [if_neg]
                  rintro rfl; exact hdj hd
            rw [hfun]
            exact hf'
          · rw [put_defers]; exact hd1
        -- the operation
        obtain ⟨b, hb, hbt, hbf⟩ := hst j io hio
        have hwX : wants (fun t => A (m t) t) io.guard = some b := by
          rw [← hb]
          cases hg : io.guard with
          | none => rfl
          | some p =>
            obtain ⟨t, want⟩ := p
            have := hread t (by simp [reads, hg])
            simp only [wants, this]
        unfold wpOpIn
        simp only [ho]
        rw [wants_rel hf1 c2 hwX]
        have hX : ∀ h2, evOp call (fun t => A (m t) t) h2 io.op = evOp call (A j) h2 io.op := fun h2 => evOp_congr fun t ht => hread t (by simp [reads, ht])
        cases b with
        | true =>
          obtain ⟨v, he1, he2, _⟩ := hbt rfl
          simp only [if_true]
          have hev : evOp call (fun t => A (m t) t) (H s) io.op = some (v, if isEff io then H (j + 1) else H s) := by
            rw [hX]
            by_cases hef : isEff io = true
            · rw [if_pos hef, (hheapE hef).2]; exact he1
            · rw [if_neg hef]
              simp only [isEff, Bool.not_eq_true, Bool.and_eq_false_iff, Bool.not_eq_false'] at hef
              rcases hef with hpu | hld
              · exact (evOp_pure (k := H s) hpu he1).2
              · obtain ⟨_, b2, o2, n2, hla, hk⟩ := evOp_load hld he1
                exact hk (H s) (hheapL b2 o2 n2 hld hla hb)
          refine op_step hcall hs1 hf1 c1 hev _ _ fun φ' v' w' g1 g2 g3 => ?_
          exact next φ' v v' w' _ g1 g2 g3 he2 rfl
        | false =>
          obtain ⟨he1, he2, _⟩ := hbf rfl
          simp only [Bool.false_eq_true, if_false]
          refine ⟨fun _ _ => trivial, ?_⟩
          refine next φ1 undefV undef w1 (H s) (.tuple _ _ .nil) hs1 (Step.refl hs1) he2 ?_
          by_cases hef : isEff io = true
          · rw [if_pos hef, (hheapE hef).2, he1]
          · rw [if_neg hef]
  refine main ops.size _ ac w (List.range ops.size) (fun _ => 0) 0 φ (by simp) (by simp) (fun i hi _ => by simpa using hi) (fun j o hj => ?_) (fun _ => Nat.zero_le _) (Nat.zero_le _) (fun t i io hi _ => ?_) (fun i io hi _ => ?_) (by rw [hH0]; exact hs) (by rw [hH0]; exact Step.refl hs) (by rw [hA0]; exact hf) rfl
  · exfalso; simp [Array.getElem?_replicate] at hj
    split at hj <;> simp at hj
  · constructor
    · intro hj; exfalso; simp [Array.getElem?_replicate] at hj; split at hj <;> simp at hj
    · intro hj; omega
  · constructor
    · intro hj; exfalso; simp [Array.getElem?_replicate] at hj; split at hj <;> simp at hj
    · intro hj; omega

end
end Go.Am
