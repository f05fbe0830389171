/-
  From a run of the abstract machine to a statement: the arguments that are read, what is left.
-/
import Derived.Test.YtdcppkhobfbpeaaDoorAmN
import Derived.WalkKit
import Derived.ProofKit
import Derived.OpenShut
import Derived.CallsIn
import Derived.Deep.Slices
import Derived.Deep.DeepHandedRow
import Derived.Lib.LaidTab
set_option linter.unusedVariables false
set_option linter.unusedSimpArgs false
namespace Go.Am
open Go Go.RowKit Go.ChangeShapes Go.WideShapes

section
variable {P : Program} {T : FuncId → Option IFun}

/-- What the abstract machine answers, the call answers. -/
theorem calls_of_wc (hT : TabOK P T) {fid : FuncId} {aargs : List Value} {args : Array Value} {φ : Map} {h : Heap} {w : World} {Q : Value → Heap → Prop} (hs : Sim P w.heap.size w φ h w) (ha : VRs φ aargs args.toList)
    (hw : WC T (.func (.func fid) #[] #[]) aargs h Q) :
    Calls P fid args w fun e w' => ∃ v v' φ' h', e = .returned v' ∧ Q v h' ∧ VR φ' v v' ∧ Below w.heap.size w w' := by
  obtain ⟨n, v, h', h1, h2⟩ := hw
  rcases callOK_of_code hT (codeOK hT n n (Nat.le_refl n)) (.func (.func fid) #[] #[]) (.func (.func fid) #[] #[]) aargs args.toList h h' v φ w hs (.func fid #[] #[] #[] #[] .nil .nil) ha h1 with ⟨f', u, c, e1, _, hc⟩ | ⟨l, _, _, _, _, e1, _⟩
  · injection e1 with e1 e2 e3
    injection e1 with e1
    subst e1 e2 e3
    have hc' := callsIn_wide.1 hc
    rw [show (#[] ++ args.toList.toArray ++ #[] : Array Value) = args by simp] at hc'
    refine hc'.mono fun e w' ⟨φ', v', he, hv, hs', _⟩ => ⟨v, v', φ', h', he, h2, hv, hs'.below⟩
  · injection e1 with e1 e2 e3
    cases e1

/-- A block that is read alone. -/
theorem Sim.ro {base : Nat} {w0 : World} {φ : Map} {h : Heap} {w : World} (hs : Sim P base w0 φ h w) {b off : Nat} (hb : b < base) (c : List Value) (e : TypeId)
    (hc : ∀ (j : Nat) (v : Value), c[j]? = some v → w.cell? ⟨b, off + j, none⟩ = some v ∧ VR1 φ v v) :
    Sim P base w0 (φ.add h.n ⟨b, off, true, 0, 0⟩) (h.push (.cells c e true)) w := by
  have hfresh : φ h.n = none := by
    cases e : φ h.n with
    | none => rfl
    | some m' => have := hs.dom _ _ e; omega
  have hsub : ∀ b' m', φ b' = some m' → (φ.add h.n ⟨b, off, true, 0, 0⟩) b' = some m' := fun b' m' e => by
    unfold Map.add; rw [if_neg]; exact e
    rintro rfl; rw [hfresh] at e; cases e
  have hcase : ∀ b' m', (φ.add h.n ⟨b, off, true, 0, 0⟩) b' = some m' → (b' = h.n ∧ m' = ⟨b, off, true, 0, 0⟩) ∨ (b' ≠ h.n ∧ φ b' = some m') := fun b' m' e => by
    unfold Map.add at e
    by_cases hbn : b' = h.n
    · rw [if_pos hbn] at e; exact .inl ⟨hbn, by cases e; rfl⟩
    · rw [if_neg hbn] at e; exact .inr ⟨hbn, e⟩
  refine ⟨fun b' m' e => ?_, fun b' m' e => ?_, fun b' m' e hr => ?_, fun b' m' e hr => ?_, fun b1 b2 m1 m2 h1 h2 h3 h4 h5 h6 h7 => ?_, hs.below, hs.base_le, fun g hg => ?_⟩
  · rw [Heap.n_push]
    rcases hcase b' m' e with ⟨rfl, _⟩ | ⟨_, e'⟩
    · omega
    · have := hs.dom b' m' e'; omega
  · rw [Heap.get_push]
    rcases hcase b' m' e with ⟨rfl, rfl⟩ | ⟨hne, e'⟩
    · rw [if_pos rfl]
      exact ⟨rfl, fun j v hv => ⟨v, (hc j v hv).1, (hc j v hv).2.mono hsub⟩⟩
    · rw [if_neg hne]
      exact (hs.rel b' m' e').mono hsub
  · rcases hcase b' m' e with ⟨rfl, rfl⟩ | ⟨_, e'⟩
    · exact hb
    · exact hs.low b' m' e' hr
  · rcases hcase b' m' e with ⟨rfl, rfl⟩ | ⟨_, e'⟩
    · cases hr
    · exact hs.high b' m' e' hr
  · rcases hcase b1 m1 h1 with ⟨rfl, rfl⟩ | ⟨n1, e1⟩
    · cases h3
    · rcases hcase b2 m2 h2 with ⟨rfl, rfl⟩ | ⟨n2, e2⟩
      · cases h4
      · rw [Heap.get_push, if_neg n1] at h5
        rw [Heap.get_push, if_neg n2] at h6
        exact hs.inj b1 b2 m1 m2 e1 e2 h3 h4 h5 h6 h7
  · obtain ⟨m', e, r⟩ := hs.glob g hg
    exact ⟨m', hsub _ _ e, r⟩

/-- The heap of the variables alone, and a spare block. -/
def heap0 (G : Nat) (c : Nat → List Value) : Heap := ⟨G + 1, fun i => if i < G then .cells (c i) 0 true else .dead⟩
def map0 (G : Nat) : Map := fun i => if i < G then some ⟨i, 0, true, 0, 0⟩ else none
theorem sim0 {w : World} {c : Nat → List Value} (hG : P.globals.size ≤ w.heap.size) (hc : ∀ g, g < P.globals.size → ∀ (j : Nat) (v : Value), (c g)[j]? = some v → w.cell? ⟨g, j, none⟩ = some v ∧ constV v = true) :
    Sim P w.heap.size w (map0 P.globals.size) (heap0 P.globals.size c) w := by
  have hm : ∀ b m, map0 P.globals.size b = some m → b < P.globals.size ∧ m = ⟨b, 0, true, 0, 0⟩ := fun b m e => by
    unfold map0 at e
    split at e
    · rename_i h; exact ⟨h, by cases e; rfl⟩
    · cases e
  refine ⟨fun b m e => ?_, fun b m e => ?_, fun b m e hr => ?_, fun b m e hr => ?_, fun b1 b2 m1 m2 h1 h2 h3 _ _ _ _ => ?_, Below.refl _ _, Nat.le_refl _, fun g hg => ?_⟩
  · have := (hm b m e).1
    show b < P.globals.size + 1
    omega
  · obtain ⟨h1, rfl⟩ := hm b m e
    show OR P _ w _ (if b < P.globals.size then _ else _)
    rw [if_pos h1]
    refine ⟨rfl, fun j v hv => ?_⟩
    obtain ⟨h2, h3⟩ := hc b h1 j v hv
    refine ⟨v, by simpa using h2, constV_rel h3, ?_⟩
    cases v <;> first | rfl | cases h3
  · obtain ⟨h1, rfl⟩ := hm b m e
    show b < _
    omega
  · obtain ⟨h1, rfl⟩ := hm b m e
    cases hr
  · obtain ⟨_, rfl⟩ := hm b1 m1 h1
    cases h3
  · exact ⟨⟨g, 0, true, 0, 0⟩, by unfold map0; rw [if_pos hg], rfl, rfl⟩

/-- A slice that came in: what it holds. -/
structure Arg (W : World) (s : Nat) (v : Value) (l : List (List Value)) : Prop where
  all : ∀ x ∈ l, x.length = s
  plain : ∀ v ∈ l.flatten, constV v = true
  is : (v = .slice none 0 0 ∧ l = []) ∨ ∃ b off c, v = .slice (some ⟨b, off, none⟩) l.length c ∧ l.length ≤ c ∧ b < W.heap.size ∧ ∀ (j : Nat) (u : Value), l.flatten[j]? = some u → W.cell? ⟨b, off + j, none⟩ = some u

theorem constV_one {v : Value} (h : constV v = true) : v.oneCell' = true := by cases v <;> first | rfl | cases h

/-- .. laid into the abstract heap. -/
theorem Arg.lay {W : World} {s : Nat} {v : Value} {l : List (List Value)} (ha : Arg W s v l) {φ : Map} {h : Heap} (hs : Sim P W.heap.size W φ h W) :
    ∃ (av : Value) (φ' : Map) (h' : Heap), Sim P W.heap.size W φ' h' W ∧ (∀ b m, φ b = some m → φ' b = some m) ∧ VR φ' av v ∧ Ext h h' ∧ RS h' s av l ∧ (vb av = 0 ∨ h.n ≤ vb av) := by
  rcases ha.is with ⟨rfl, rfl⟩ | ⟨b, off, c, rfl, hc, hb, hcell⟩
  · exact ⟨_, φ, h, hs, fun _ _ e => e, .snil, Ext.refl h, RS.nil, .inl rfl⟩
  · have hfresh : φ h.n = none := by
      cases e : φ h.n with
      | none => rfl
      | some m' => have := hs.dom _ _ e; omega
    refine ⟨.slice (some ⟨h.n, 0, none⟩) l.length l.length, _, _, hs.ro hb l.flatten 0 (off := off) fun j u hu => ⟨hcell j u hu, constV_rel (ha.plain u (List.mem_of_getElem? hu)), constV_one (ha.plain u (List.mem_of_getElem? hu))⟩, ?_, ?_, Ext.push (Ext.refl h), ?_, .inr (Nat.le_refl _)⟩
    · intro b' m' e
      unfold Map.add; rw [if_neg]; exact e
      rintro rfl; rw [hfresh] at e; cases e
    · exact .slice h.n 0 off l.length l.length c ⟨b, off, true, 0, 0⟩ (by unfold Map.add; rw [if_pos rfl]) (Nat.le_refl _) hc (fun _ => rfl) (fun h => by cases h)
    · exact ⟨ha.all, .inr ⟨h.n, _, 0, true, rfl, get_push_eq rfl, by simp [push_n]⟩⟩

variable {H : Type} {enc : TypeId × Value → H}

/-- A slice of whole numbers that comes in. -/
theorem arg_ints {W : World} {base : Nat} {t e : TypeId} {k : IntKind} {v : Value} {d : DataW H} {ps : List MemPlace} (ht : P.underlying t = some (.slice e)) (he : P.underlying e = some (.int k)) (hc : P.cellsOf e = 1)
    (hval : Value.okWide P W .any base t v) (hd : DataW.Trod enc P W 0 (fun _ => true) true t v d ps) : ∃ zs : List Int, Arg W 1 v (zs.map fun z => [.int k z]) ∧ ∀ z ∈ zs, (Lit.int k z).wf = true := by
  obtain ⟨fuel, hf⟩ := hd
  cases v with
  | slice q len cap =>
    rcases open_ints ht he hc hf with ⟨h1, _⟩ | ⟨a, len', cap', zs, h1, _, hl, _, hm, _, hx, hwf⟩
    · have : q = none ∧ len = 0 ∧ cap = 0 := by simpa [Value.cells] using h1
      obtain ⟨rfl, rfl, rfl⟩ := this
      exact ⟨[], ⟨by simp, by simp, .inl ⟨rfl, rfl⟩⟩, by simp⟩
    · have : q = some a ∧ len = len' ∧ cap = cap' := by simpa [Value.cells] using h1
      obtain ⟨rfl, rfl, rfl⟩ := this
      have hcell : Cell.ok P W .any base t (.slice (some a) len cap) := by
        simpa only [Value.okWide, Cell.okWide, ht] using hval
      simp only [Cell.ok, ht] at hcell
      obtain ⟨_, _, _, hspot, row, cells, hsh, _⟩ := hcell
      have hb : a.block < W.heap.size := by
        unfold World.shape? at hsh
        cases hh : W.heap[a.block]? with
        | none => rw [hh] at hsh; cases hsh
        | some o => exact (Array.getElem?_eq_some_iff.1 hh).1
      obtain ⟨b, off, sp⟩ := a
      simp only at hspot hb
      subst hspot
      simp only [if_true] at hm
      have hflat : ((zs.take len).map fun z => [Value.int k z]).flatten = (zs.take len).map fun z => Value.int k z := by
        rw [← List.flatMap_def]
        induction zs.take len with
        | nil => rfl
        | cons z zs ih => simp [ih]
      have hlen : ((zs.take len).map fun z => [Value.int k z]).length = len := by simp; omega
      refine ⟨zs.take len, ⟨?_, ?_, .inr ⟨b, off, cap, by rw [hlen], by rw [hlen]; exact hl, hb, ?_⟩⟩, fun z hz => hwf z (List.mem_of_mem_take hz)⟩
      · intro x hx
        obtain ⟨z, _, rfl⟩ := List.mem_map.1 hx
        rfl
      · intro u hu
        rw [hflat] at hu
        obtain ⟨z, _, rfl⟩ := List.mem_map.1 hu
        rfl
      · intro j u hu
        rw [hflat] at hu
        have hj : j < len := by
          have := (List.getElem?_eq_some_iff.1 hu).1
          simp at this; omega
        have := hx j (by omega)
        rw [show ((⟨b, off, none⟩ : Addr).add j) = ⟨b, off + j, none⟩ from add_lit b off j] at this
        rw [this]
        rw [List.getElem?_map, List.getElem?_take_of_lt hj] at hu
        rw [← hu, List.getD_eq_getElem?_getD]
        cases hz : zs[j]? with
        | none => rw [hz] at hu; cases hu
        | some z => rfl
  | _ => simp [Value.okWide, Cell.okWide, Cell.ok, ht] at hval

/-- A call that answers true and leaves what it was given as it was. -/
theorem law_of_calls {F : Func} {s : ChangeSpec} {fid : FuncId} {args : Array Value} {W : World} {ds gs : List (DataW H)} {before : List MemPlace} {tb : TypeId}
    (hlo : laidOutB P = true) (hpar : F.params.toList.all (fun t => P.readableRec t && decide (t < P.types.size)) = true) (hres : F.resultTypes = #[tb]) (htb : P.underlying tb = some .bool) (hvars : s.vars = [])
    (hs : s.fn H ds = { results := [.lit (.bool true)], args := ds })
    (hW : DataW.Whole enc P F.params.toList s.vars false W args.toList ds gs before)
    (hc : Calls P fid args W fun e w' => e = .returned (.bool true) ∧ Below W.heap.size W w') :
    Calls P fid args W fun e W' => ∃ v, e = .returned v ∧ s.post enc P F false true false false W args v W' := by
  refine hc.mono fun e W' ⟨he, hb⟩ => ⟨_, he, ?_⟩
  have hW' := hW
  obtain ⟨p, q, hA, hV, hbf, hfz, hnd⟩ := hW'
  rw [hvars] at hV
  cases gs with
  | cons g gs => exact hV.elim
  | nil =>
    obtain rfl : q = [] := hV
    have hlt : ∀ x ∈ before, x.block < W.heap.size := fun x hx => by simpa using hW.lt x hx
    rw [List.append_nil] at hbf
    subst hbf
    refine ⟨ds, [], before, [], before, [], hW, ?_, ?_, ?_, ?_, fun h => by cases h⟩
    · rw [List.append_nil, hs, hres]
      exact trodAll_cons_mk (shut_bool htb _) trodAll_mk0
    · rw [List.append_nil, hs]
      have stay : ∀ (ts : List TypeId) (vs : List Value) (es : List (DataW H)) (p : List MemPlace), ts.all (fun t => P.readableRec t && decide (t < P.types.size)) = true → DataW.TrodAll enc P W 0 (fun _ => true) true ts vs es p → (∀ x ∈ p, x.block < W.heap.size) →
          DataW.TrodAll enc P W' 0 (fun b => decide (b < W.heap.size)) true ts vs es p := by
        intro ts
        induction ts with
        | nil =>
          intro vs es p _ h _
          cases vs <;> cases es <;> first | exact h | exact h.elim
        | cons t ts ih =>
          intro vs es p ht h hp
          obtain ⟨v, vs', d, ds', p0, q0, rfl, rfl, rfl, h1, h2⟩ := trodAll_cons h
          rw [List.all_cons, Bool.and_eq_true, Bool.and_eq_true] at ht
          exact trodAll_cons_mk (Below.trod hlo ht.1.1 (of_decide_eq_true ht.1.2) h1 hb (fun x hx => hp x (by simp [hx]))) (ih vs' ds' q0 ht.2 h2 (fun x hx => hp x (by simp [hx])))
      exact stay _ _ _ _ hpar hA hlt
    · rw [hvars, List.append_nil, hs]
      rfl
    · refine ⟨hb.os, hb.output, fun i hi => ?_⟩
      rw [hb.block i hi]
      cases W.heap[i]? with
      | none => rfl
      | some o => cases o <;> first | rfl | exact ⟨rfl, rfl, rfl, fun _ _ => rfl⟩ | exact .inr ⟨rfl, rfl⟩

theorem law_of_wc (hT : TabOK P T) {F : Func} {s : ChangeSpec} {fid : FuncId} {aargs : List Value} {args : Array Value} {W : World} {ds gs : List (DataW H)} {before : List MemPlace} {tb : TypeId} {φ : Map} {h : Heap}
    (hlo : laidOutB P = true) (hpar : F.params.toList.all (fun t => P.readableRec t && decide (t < P.types.size)) = true) (hres : F.resultTypes = #[tb]) (htb : P.underlying tb = some .bool) (hvars : s.vars = [])
    (hs : s.fn H ds = { results := [.lit (.bool true)], args := ds })
    (hW : DataW.Whole enc P F.params.toList s.vars false W args.toList ds gs before)
    (hsim : Sim P W.heap.size W φ h W) (ha : VRs φ aargs args.toList) (hw : WC T (.func (.func fid) #[] #[]) aargs h fun v _ => v = .bool true) :
    Calls P fid args W fun e W' => ∃ v, e = .returned v ∧ s.post enc P F false true false false W args v W' := by
  refine law_of_calls hlo hpar hres htb hvars hs hW ((calls_of_wc hT hsim ha hw).mono fun e w' ⟨v, v', φ', h', he, hq, hv, hb⟩ => ⟨?_, hb⟩)
  subst hq
  cases hv
  exact he
end
end Go.Am
