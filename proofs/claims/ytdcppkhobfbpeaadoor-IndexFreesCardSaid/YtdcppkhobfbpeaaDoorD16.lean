/-
  The statement IndexFrees: what is freed may be had again, for every table made by numbers and every size.
-/
import Derived.Test.YtdcppkhobfbpeaaDoorD15
import Derived.Test.YtdcppkhobfbpeaaDoorAmO
import Derived.Test.YtdcppkhobfbpeaaDoorCards
import Derived.Test.YtdcppkhobfbpeaaDoorTie
set_option linter.unusedVariables false
namespace Go.Proofs.YtdcppkhobfbpeaaDoor
open Go.ChangeShapes Go.WideShapes Go.ChangeAt Go.RowKit Go.Am Go.Am.YtdcppkhobfbpeaaDoor

theorem own : ownKnob Tryd.prog.godebug = none := by kernel_rfl
theorem laidOut : laidOutB Tryd.prog = true := by kernel_rfl
theorem gTab : Tryd.prog.globalNamed "lockfast/class.blocks" = some 0 := by kernel_rfl
theorem gTabType : (Tryd.prog.globals[0]?).map (·.type) = some 99 := by kernel_rfl
theorem cells99 : Tryd.prog.cellsOf 99 = 3 := by kernel_rfl
theorem cells3 : Tryd.prog.cellsOf 3 = 1 := by kernel_rfl
theorem cells23 : Tryd.prog.cellsOf 23 = 1 := by kernel_rfl
theorem globals1 : Tryd.prog.globals.size = 1 := by kernel_rfl

/-- What the rows' list gives: the classes' blocks. -/
theorem table {W : World} (h : laidMetH Tryd.prog [("lockfast/class.blocks", Rows.laid_lockfast_class_blocks)] W) : Lib.TabIs Tryd.prog W "lockfast/class.blocks" .i64 [4, 8, 16] :=
  Lib.tabIs_of_head (rest := []) gTab gTabType Tryd.underlying99 Tryd.underlying3 cells3 cells99 h

def vars0 : Nat → List Value := fun _ => [.int .i64 4, .int .i64 8, .int .i64 16]
/-- The world of a call, laid into the abstract heap. -/
theorem start {W : World} (h : laidMetH Tryd.prog [("lockfast/class.blocks", Rows.laid_lockfast_class_blocks)] W) :
    Sim Tryd.prog W.heap.size W (map0 1) (heap0 1 vars0) W ∧ blocks (heap0 1 vars0) ∧ (heap0 1 vars0).n = 2 := by
  have ht := table h
  have c0 := ht.cell gTab 0 (by decide)
  have c1 := ht.cell gTab 1 (by decide)
  have c2 := ht.cell gTab 2 (by decide)
  have hW : 1 ≤ W.heap.size := by
    unfold World.cell? at c0
    cases hh : W.heap[0]? with
    | none => simp only [hh] at c0; cases c0
    | some o => have := (Array.getElem?_eq_some_iff.1 hh).1; omega
  have hs := sim0 (P := Tryd.prog) (w := W) (c := vars0) (by rw [globals1]; exact hW) (fun g hg j v hv => by
    rw [globals1] at hg
    obtain rfl : g = 0 := by omega
    match j, hv with
    | 0, hv => cases hv; exact ⟨c0, rfl⟩
    | 1, hv => cases hv; exact ⟨c1, rfl⟩
    | 2, hv => cases hv; exact ⟨c2, rfl⟩
    | n + 3, hv => simp [vars0] at hv)
  rw [globals1] at hs
  exact ⟨hs, ⟨by decide, 0, rfl⟩, rfl⟩

theorem nats_of {zs : List Int} (h : ∀ z ∈ zs, (Lit.int .u16 z).wf = true) : ∃ ns : List Nat, (zs.map fun z => [Value.int .u16 z]) = ns.map u16C ∧ ns.length = zs.length ∧ ∀ n ∈ ns, n < 65536 := by
  refine ⟨zs.map Int.toNat, ?_, by simp, ?_⟩
  · rw [List.map_map]
    refine List.map_congr_left fun z hz => ?_
    have := bounds_u16 (h z hz)
    show [Value.int .u16 z] = [Value.int .u16 ((z.toNat : Nat) : Int)]
    rw [Int.toNat_of_nonneg this.1]
  · intro n hn
    obtain ⟨z, hz, rfl⟩ := List.mem_map.1 hn
    have := bounds_u16 (h z hz)
    omega

/-- A world for the witness: the settled one, the table (block 0) holding what its initialiser lays. -/
noncomputable def laidWorld (os : Os) (args : Array Value) : World :=
  { World.holding Tryd.prog os ⟨#[], args, []⟩ with heap := (World.holding Tryd.prog os ⟨#[], args, []⟩).heap.modify 0 fun
      | .cells _ t frozen => .cells #[.int .i64 4, .int .i64 8, .int .i64 16] t frozen
      | o => o }

namespace indexFrees
set_option maxRecDepth 100000 in
theorem contract (H : Type) (enc : TypeId × Value → H) (W : World) (base : Nat) (args : Array Value) (ds gs : List (DataW H)) (before : List MemPlace)
    (hval : ∀ (j : Nat) t v, Tryd.f3.params[j]? = some t → args[j]? = some v → Value.okWide Tryd.prog W .any base t v)
    (hW : DataW.Whole enc Tryd.prog Tryd.f3.params.toList Rows.indexFreesSpec.vars false W args.toList ds gs before) (hL : laidMetH Tryd.prog Rows.indexFreesRow.laid W) :
    Calls Tryd.prog 3 args W fun e W' => ∃ v, e = .returned v ∧ Rows.indexFreesSpec.post enc Tryd.prog Tryd.f3 false true false false W args v W' := by
  have hW' := hW
  obtain ⟨p, q, hA0, hV, rfl, hfz, hnd⟩ := hW
  have hA : DataW.TrodAll enc Tryd.prog W 0 (fun _ => true) true Tryd.f3.params.toList args.toList ds p := hA0
  rw [Tryd.params3] at hA hval
  obtain ⟨v0, vs0, d0, ds0, p0, q0, hargs, rfl, rfl, h0, r0⟩ := trodAll_cons hA
  obtain ⟨v1, vs1, d1, ds1, p1, q1, rfl, rfl, rfl, h1, r1⟩ := trodAll_cons r0
  obtain ⟨rfl, rfl, rfl⟩ := trodAll_nil r1
  obtain rfl : args = #[v0, v1] := by cases args; simp_all
  have hv0 : Value.okWide Tryd.prog W .any base 22 v0 := hval 0 22 v0 (by simp) (by simp)
  have hv1 : Value.okWide Tryd.prog W .any base 23 v1 := hval 1 23 v1 (by simp) (by simp)
  obtain ⟨zs, ha, hz⟩ := arg_ints Tryd.underlying22 Tryd.underlying23 cells23 hv0 h0
  obtain ⟨n1, rfl, rfl, rfl, w1⟩ := open_int Tryd.underlying23 hv1 h1
  obtain ⟨ns, hns, hlen, h16⟩ := nats_of hz
  rw [hns] at ha
  obtain ⟨hs, hb, hn2⟩ := start (W := W) hL
  obtain ⟨av, φ', h', hs', hsub, hv, hx, hr, hlow⟩ := ha.lay hs
  have b1 := bounds_u16 w1
  obtain ⟨s, rfl⟩ : ∃ s : Nat, n1 = s := ⟨n1.toNat, by omega⟩
  refine law_of_wc (aargs := [av, .int .u16 s]) tab laidOut (by kernel_rfl) (tb := 4) (by kernel_rfl) Tryd.underlying4 rfl rfl hW' hs' (.cons _ _ _ _ hv (.cons _ _ _ _ (.int _ _) .nil)) ?_
  exact f3_spec (hb.ext hx) hr h16 (by omega) fun _ _ => rfl

theorem laid_met (os : Os) : laidMet Tryd.prog Rows.indexFreesRow.laid ((laidWorld os #[.slice none 0 0, .int .u16 0]).forCall (fun _ _ => 0) ⟨#[], #[.slice none 0 0, .int .u16 0], []⟩).memory :=
  laidMet_of_run' 8 (by kernel_rfl) (by kernel_rfl)
theorem reads (os : Os) {H : Type} (enc : TypeId × Value → H) : ∃ places, DataW.whole enc Tryd.prog ((laidWorld os #[.slice none 0 0, .int .u16 0]).forCall (fun _ _ => 0) ⟨#[], #[.slice none 0 0, .int .u16 0], []⟩).memory Tryd.f3.params.toList Rows.indexFreesSpec.vars false #[Value.slice none 0 0, .int .u16 0].toList 8 = some ([.nil, .lit (.int .u16 0)], [], places) :=
  ⟨[], by kernel_rfl⟩

set_option maxRecDepth 100000 in
theorem lifted (os : Os) (started : os.Started) (H : Type) (enc : TypeId × Value → H) (F : Stop.Interp) :
    ReturnsInHanded {} Tryd.checked os 3 .any ((OpenSpec.ofChange Rows.indexFreesSpec).preRow enc Tryd.prog Tryd.f3 Rows.indexFreesRow.domain false Rows.indexFreesRow.laid) (((OpenSpec.ofChange Rows.indexFreesSpec).at F).post enc Tryd.prog Tryd.f3 false true false false) := by
  obtain ⟨places, hx⟩ := reads os enc
  refine returnsInHanded_of_row (C := Tryd.checked) (s := OpenSpec.ofChange Rows.indexFreesSpec) own started (by kernel_rfl) Tryd.func3
    (witness_row_at (enc := enc) (C := Tryd.checked) false (laidWorld os #[.slice none 0 0, .int .u16 0]) #[.slice none 0 0, .int .u16 0] rfl (by kernel_rfl) (by kernel_rfl) (by kernel_rfl)
      (OpenSpec.preRow_of_cond 8 hx (by kernel_rfl) (fun k hk => by cases hk) (by kernel_rfl) (laid_met os))) ?_
  intro W base args ds gs before hval hW _ _ _ hL _ _
  exact contract H enc W base args ds gs before hval hW hL

theorem said : Rows.IndexFreesSaid :=
  OpenClaim.holds_of_cond 3 Tryd.f3 rfl rfl rfl rfl rfl rfl rfl ⟨rfl, rfl, rfl, rfl, rfl⟩ rfl rfl rfl rfl rfl (by kernel_rfl) Tryd.func3 (by kernel_rfl)
    (of_decide_eq_true (by kernel_rfl)) (by unfold Func.isWrapper; first | (rw [if_pos (by decide +kernel)]; kernel_rfl) | (rw [if_neg (by decide +kernel)]; exact ⟨rfl, rfl⟩))
    (fun os started H enc _ F => by rw [OpenClaim.pre_eq_preRow]; exact lifted os started H enc F)

/-- No parameter wants a stand-in; the program's own looks are off. -/
theorem plain (f : FuncId) (fn : Func) (hf : Tryd.pinned.checked.prog.funcNamed "lockfast/lockfastlaw17.IndexFrees" = some f) (hfn : Tryd.pinned.checked.prog.funcs[f]? = some fn) :
    false = Tryd.pinned.checked.prog.looks [] ∧ ∀ (j : Nat) t, fn.params[j]? = some t → Tryd.pinned.checked.prog.wantsStandIn t = false := by
  obtain rfl : f = 3 := Option.some.inj ((show Tryd.prog.funcNamed "lockfast/lockfastlaw17.IndexFrees" = some 3 by kernel_rfl).symm.trans hf) |>.symm
  obtain rfl : fn = Tryd.f3 := (Option.some.inj (Tryd.func3.symm.trans hfn)).symm
  refine ⟨by kernel_rfl, fun j t ht => ?_⟩
  have hall : Tryd.f3.params.toList.all (fun t => !Tryd.prog.wantsStandIn t) = true := by kernel_rfl
  have := List.all_eq_true.1 hall t (Array.mem_toList_iff.2 (Array.mem_of_getElem? ht))
  exact (by simpa using this : Tryd.prog.wantsStandIn t = false)

theorem card : Rows.IndexFreesCardSaid :=
  Claim7.holds_tied_plain_at .later [] _ _ _ _ said (fun _ h => by cases h) (by kernel_rfl) (fun _ h => by cases h) indexFrees_row_tie rfl ⟨rfl, rfl⟩ (by kernel_rfl) rfl plain (by kernel_rfl)
end indexFrees

#print axioms indexFrees.card
end Go.Proofs.YtdcppkhobfbpeaaDoor
