/-
  What the six statements' rows share: the classes' blocks at the start, the abstract heap of a call.
-/
import Derived.Test.YtdcppkhobfbpeaaDoorD5
import Derived.Test.YtdcppkhobfbpeaaDoorD12
import Derived.Test.YtdcppkhobfbpeaaDoorAmO
import Derived.Test.YtdcppkhobfbpeaaDoorCards
import Derived.Test.YtdcppkhobfbpeaaDoorTie
set_option linter.unusedVariables false
namespace Go.Proofs.YtdcppkhobfbpeaaDoor
open Go.ChangeShapes Go.WideShapes Go.ChangeAt Go.RowKit Go.Am Go.Am.YtdcppkhobfbpeaaDoor

theorem own : ownKnob Tryd.prog.godebug = none := by kernel_rfl
theorem laidOut : laidOutB Tryd.prog = true := by kernel_rfl
theorem gTab : Tryd.prog.globalNamed "lockfast/class.blocks" = some 0 := by kernel_rfl
theorem gTabType : (Tryd.prog.globals[0]?).map (·.type) = some 99 := by kernel_rfl
theorem cells99 : Tryd.prog.cellsOf 99 = 3 := by kernel_rfl
theorem cells3 : Tryd.prog.cellsOf 3 = 1 := by kernel_rfl
theorem cells23 : Tryd.prog.cellsOf 23 = 1 := by kernel_rfl
theorem globals1 : Tryd.prog.globals.size = 1 := by kernel_rfl

/-- What the rows' list gives: the classes' blocks. -/
theorem table {W : World} (h : laidMetH Tryd.prog [("lockfast/class.blocks", Rows.laid_lockfast_class_blocks)] W) : Lib.TabIs Tryd.prog W "lockfast/class.blocks" .i64 [4, 8, 16] :=
  Lib.tabIs_of_head (rest := []) gTab gTabType Tryd.underlying99 Tryd.underlying3 cells3 cells99 h

def vars0 : Nat → List Value := fun _ => [.int .i64 4, .int .i64 8, .int .i64 16]
/-- The world of a call, laid into the abstract heap. -/
theorem start {W : World} (h : laidMetH Tryd.prog [("lockfast/class.blocks", Rows.laid_lockfast_class_blocks)] W) :
    Sim Tryd.prog W.heap.size W (map0 1) (heap0 1 vars0) W ∧ blocks (heap0 1 vars0) ∧ (heap0 1 vars0).n = 2 := by
  have ht := table h
  have c0 := ht.cell gTab 0 (by decide)
  have c1 := ht.cell gTab 1 (by decide)
  have c2 := ht.cell gTab 2 (by decide)
  have hW : 1 ≤ W.heap.size := by
    unfold World.cell? at c0
    cases hh : W.heap[0]? with
    | none => simp only [hh] at c0; cases c0
    | some o => have := (Array.getElem?_eq_some_iff.1 hh).1; omega
  have hs := sim0 (P := Tryd.prog) (w := W) (c := vars0) (by rw [globals1]; exact hW) (fun g hg j v hv => by
    rw [globals1] at hg
    obtain rfl : g = 0 := by omega
    match j, hv with
    | 0, hv => cases hv; exact ⟨c0, rfl⟩
    | 1, hv => cases hv; exact ⟨c1, rfl⟩
    | 2, hv => cases hv; exact ⟨c2, rfl⟩
    | n + 3, hv => simp [vars0] at hv)
  rw [globals1] at hs
  exact ⟨hs, ⟨by decide, 0, rfl⟩, rfl⟩

theorem nats_of {zs : List Int} (h : ∀ z ∈ zs, (Lit.int .u16 z).wf = true) : ∃ ns : List Nat, (zs.map fun z => [Value.int .u16 z]) = ns.map u16C ∧ ns.length = zs.length ∧ ∀ n ∈ ns, n < 65536 := by
  refine ⟨zs.map Int.toNat, ?_, by simp, ?_⟩
  · rw [List.map_map]
    refine List.map_congr_left fun z hz => ?_
    have := bounds_u16 (h z hz)
    show [Value.int .u16 z] = [Value.int .u16 ((z.toNat : Nat) : Int)]
    rw [Int.toNat_of_nonneg this.1]
  · intro n hn
    obtain ⟨z, hz, rfl⟩ := List.mem_map.1 hn
    have := bounds_u16 (h z hz)
    omega

/-- A world for the witness: the settled one, the table (block 0) holding what its initialiser lays. -/
noncomputable def laidWorld (os : Os) (args : Array Value) : World :=
  { World.holding Tryd.prog os ⟨#[], args, []⟩ with heap := (World.holding Tryd.prog os ⟨#[], args, []⟩).heap.modify 0 fun
      | .cells _ t frozen => .cells #[.int .i64 4, .int .i64 8, .int .i64 16] t frozen
      | o => o }

end Go.Proofs.YtdcppkhobfbpeaaDoor
