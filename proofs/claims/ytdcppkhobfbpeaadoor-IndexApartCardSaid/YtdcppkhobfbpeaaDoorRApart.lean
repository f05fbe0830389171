/-
  The statement IndexApart: nothing is taken twice, for every table made by numbers and all sizes.
-/
import Derived.Test.YtdcppkhobfbpeaaDoorR0
import Derived.Test.YtdcppkhobfbpeaaDoorD30
import Derived.Test.YtdcppkhobfbpeaaDoorCards
import Derived.Test.YtdcppkhobfbpeaaDoorTie
set_option linter.unusedVariables false
namespace Go.Proofs.YtdcppkhobfbpeaaDoor.indexApart
open Go.ChangeShapes Go.WideShapes Go.ChangeAt Go.RowKit Go.Am Go.Am.YtdcppkhobfbpeaaDoor

set_option maxRecDepth 100000 in
theorem contract (H : Type) (enc : TypeId × Value → H) (W : World) (base : Nat) (args : Array Value) (ds gs : List (DataW H)) (before : List MemPlace)
    (hval : ∀ (j : Nat) t v, Tryd.f7.params[j]? = some t → args[j]? = some v → Value.okWide Tryd.prog W .any base t v)
    (hW : DataW.Whole enc Tryd.prog Tryd.f7.params.toList Rows.indexApartSpec.vars false W args.toList ds gs before) (hL : laidMetH Tryd.prog Rows.indexApartRow.laid W) :
    Calls Tryd.prog 7 args W fun e W' => ∃ v, e = .returned v ∧ Rows.indexApartSpec.post enc Tryd.prog Tryd.f7 false true false false W args v W' := by
  have hW' := hW
  obtain ⟨p, q, hA0, hV, rfl, hfz, hnd⟩ := hW
  have hA : DataW.TrodAll enc Tryd.prog W 0 (fun _ => true) true Tryd.f7.params.toList args.toList ds p := hA0
  rw [Tryd.params7] at hA hval
  obtain ⟨v0, vs0, d0, ds0, p0, q0, hargs, rfl, rfl, h0, r0⟩ := trodAll_cons hA
  obtain ⟨v1, vs1, d1, ds1, p1, q1, rfl, rfl, rfl, h1, r1⟩ := trodAll_cons r0
  obtain ⟨rfl, rfl, rfl⟩ := trodAll_nil r1
  obtain rfl : args = #[v0, v1] := by cases args; simp_all
  obtain ⟨hs, hb, hn2⟩ := start (W := W) hL
  have hv0 : Value.okWide Tryd.prog W .any base 22 v0 := hval 0 22 v0 (by simp) (by simp)
  have hv1 : Value.okWide Tryd.prog W .any base 22 v1 := hval 1 22 v1 (by simp) (by simp)
  obtain ⟨zs0, ha0, hz0⟩ := arg_ints Tryd.underlying22 Tryd.underlying23 cells23 hv0 h0
  obtain ⟨ns0, hns0, hlen0, h16_0⟩ := nats_of hz0
  rw [hns0] at ha0
  obtain ⟨av0, φ0, k0, hs0, hsub0, hr0, hx0, rs0, vb0⟩ := ha0.lay hs
  obtain ⟨zs1, ha1, hz1⟩ := arg_ints Tryd.underlying22 Tryd.underlying23 cells23 hv1 h1
  obtain ⟨ns1, hns1, hlen1, h16_1⟩ := nats_of hz1
  rw [hns1] at ha1
  obtain ⟨av1, φ1, k1, hs1, hsub1, hr1, hx1, rs1, vb1⟩ := ha1.lay hs0
  refine law_of_wc (aargs := [av0, av1]) tab laidOut (by kernel_rfl) (tb := 4) (by kernel_rfl) Tryd.underlying4 rfl rfl hW' hs1 (.cons _ _ _ _ (hr0.mono hsub1) (.cons _ _ _ _ hr1 .nil)) ?_
  exact f7_spec ((hb.ext hx0).ext hx1) (rs0.mono hx1) h16_0 rs1 h16_1 (by have := hx0.1; omega) fun _ => rfl

theorem laid_met (os : Os) : laidMet Tryd.prog Rows.indexApartRow.laid ((laidWorld os #[.slice none 0 0, .slice none 0 0]).forCall (fun _ _ => 0) ⟨#[], #[.slice none 0 0, .slice none 0 0], []⟩).memory :=
  laidMet_of_run' 8 (by kernel_rfl) (by kernel_rfl)
theorem reads (os : Os) {H : Type} (enc : TypeId × Value → H) : ∃ places, DataW.whole enc Tryd.prog ((laidWorld os #[.slice none 0 0, .slice none 0 0]).forCall (fun _ _ => 0) ⟨#[], #[.slice none 0 0, .slice none 0 0], []⟩).memory Tryd.f7.params.toList Rows.indexApartSpec.vars false (#[.slice none 0 0, .slice none 0 0] : Array Value).toList 8 = some ([.nil, .nil], [], places) :=
  ⟨[], by kernel_rfl⟩

set_option maxRecDepth 100000 in
theorem lifted (os : Os) (started : os.Started) (H : Type) (enc : TypeId × Value → H) (F : Stop.Interp) :
    ReturnsInHanded {} Tryd.checked os 7 .any ((OpenSpec.ofChange Rows.indexApartSpec).preRow enc Tryd.prog Tryd.f7 Rows.indexApartRow.domain false Rows.indexApartRow.laid) (((OpenSpec.ofChange Rows.indexApartSpec).at F).post enc Tryd.prog Tryd.f7 false true false false) := by
  obtain ⟨places, hx⟩ := reads os enc
  refine returnsInHanded_of_row (C := Tryd.checked) (s := OpenSpec.ofChange Rows.indexApartSpec) own started (by kernel_rfl) Tryd.func7
    (witness_row_at (enc := enc) (C := Tryd.checked) false (laidWorld os #[.slice none 0 0, .slice none 0 0]) #[.slice none 0 0, .slice none 0 0] rfl (by kernel_rfl) (by kernel_rfl) (by kernel_rfl)
      (OpenSpec.preRow_of_cond 8 hx (by kernel_rfl) (fun k hk => by cases hk) (by kernel_rfl) (laid_met os))) ?_
  intro W base args ds gs before hval hW _ _ _ hL _ _
  exact contract H enc W base args ds gs before hval hW hL

theorem said : Rows.IndexApartSaid :=
  OpenClaim.holds_of_cond 7 Tryd.f7 rfl rfl rfl rfl rfl rfl rfl ⟨rfl, rfl, rfl, rfl, rfl⟩ rfl rfl rfl rfl rfl (by kernel_rfl) Tryd.func7 (by kernel_rfl)
    (of_decide_eq_true (by kernel_rfl)) (by unfold Func.isWrapper; first | (rw [if_pos (by decide +kernel)]; kernel_rfl) | (rw [if_neg (by decide +kernel)]; exact ⟨rfl, rfl⟩))
    (fun os started H enc _ F => by rw [OpenClaim.pre_eq_preRow]; exact lifted os started H enc F)

/-- No parameter wants a stand-in; the program's own looks are off. -/
theorem plain (f : FuncId) (fn : Func) (hf : Tryd.pinned.checked.prog.funcNamed Rows.indexApartRow.func = some f) (hfn : Tryd.pinned.checked.prog.funcs[f]? = some fn) :
    false = Tryd.pinned.checked.prog.looks [] ∧ ∀ (j : Nat) t, fn.params[j]? = some t → Tryd.pinned.checked.prog.wantsStandIn t = false := by
  obtain rfl : f = 7 := Option.some.inj ((show Tryd.prog.funcNamed Rows.indexApartRow.func = some 7 by kernel_rfl).symm.trans hf) |>.symm
  obtain rfl : fn = Tryd.f7 := (Option.some.inj (Tryd.func7.symm.trans hfn)).symm
  refine ⟨by kernel_rfl, fun j t ht => ?_⟩
  have hall : Tryd.f7.params.toList.all (fun t => !Tryd.prog.wantsStandIn t) = true := by kernel_rfl
  have := List.all_eq_true.1 hall t (Array.mem_toList_iff.2 (Array.mem_of_getElem? ht))
  exact (by simpa using this : Tryd.prog.wantsStandIn t = false)

theorem card : Rows.IndexApartCardSaid :=
  Claim7.holds_tied_plain_at .later [] _ _ _ _ said (fun _ h => by cases h) (by kernel_rfl) (fun _ h => by cases h) indexApart_row_tie rfl ⟨rfl, rfl⟩ (by kernel_rfl) rfl plain (by kernel_rfl)

#print axioms card
end Go.Proofs.YtdcppkhobfbpeaaDoor.indexApart
