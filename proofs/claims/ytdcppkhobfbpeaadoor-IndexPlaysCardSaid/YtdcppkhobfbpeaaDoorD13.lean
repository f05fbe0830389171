/-
  The chapter's example.
-/
import Derived.Test.YtdcppkhobfbpeaaDoorD12
set_option linter.unusedVariables false
set_option linter.unusedSimpArgs false
namespace Go.Am.YtdcppkhobfbpeaaDoor
open Go Go.Am Go.Proofs

def s0 : List One := [⟨.free, 0#64⟩, ⟨.free, 0#64⟩]
def s1 : List One := [⟨.run 0 0#64, 1#64⟩, ⟨.free, 0#64⟩]
def s2 : List One := [⟨.run 0 0#64, 3#64⟩, ⟨.free, 0#64⟩]
def s3 : List One := [⟨.run 0 0#64, 3#64⟩, ⟨.huge 1, 1#64⟩]
def s4 : List One := [⟨.run 0 2#64, 1#64⟩, ⟨.huge 1, 1#64⟩]
def s5 : List One := [⟨.run 0 2#64, 0#64⟩, ⟨.huge 1, 1#64⟩]
theorem a1 : takeM s0 2 = (⟨0, 0, 0, 0, true⟩, 0, s1) := by rfl
theorem a2 : takeM s1 2 = (⟨0, 1, 0, 0, false⟩, 0, s2) := by rfl
theorem a3 : takeM s2 15 = (⟨1, 0, -1, 1, false⟩, 0, s3) := by rfl
theorem a4 : takeM s3 15 = (⟨0, 0, 0, 0, false⟩, 2, s3) := by rfl
theorem a5 : okM s3 (keepM s3 ⟨0, 1, 0, 0, false⟩) = (true, s4) := by rfl
theorem a6 : (tableM s4).map Ck.enc = [33554433#64, 0#64] := by rfl
theorem a7 : okM s4 (dropM s4 ⟨0, 0, 0, 0, true⟩) = (true, s5) := by rfl
theorem a8 : rowsOf (frees s5) = [] := by rfl

set_option maxHeartbeats 1000000 in
theorem f9_spec {h : Heap} {Q : Value → Heap → Prop} (hb : blocks h) (q : ∀ h', Ext h h' → Q (.bool true) h') : WC T (.func (.func 9) #[] #[]) [] h Q := by
  refine WC_fn T9 rfl ?_
  simp (disch := first | assumption | omega | (simp only [push_n, set_n]; done) | (simp only [push_n, set_n]; omega) | fail) only [go_sem, ↓reduceIte, Nat.reduceEqDiff, Nat.reduceAdd, Nat.reduceMul, Int.reduceToNat, Int.reduceAdd, Int.reduceTDiv, Nat.reduceLeDiff, ir9]
  refine f10_spec (cs := [.free, .free]) (hb.ext (by repeat (first | assumption | exact Ext.refl _ | refine Ext.push ?_ | refine Ext.set ?_ (by omega) | refine Ext.trans ?_ (by assumption)))) ⟨by simp [Ck.word], .inr ⟨h.n, 2, 45, false, rfl, get_push_eq rfl, by (first | omega | (simp only [push_n, set_n]; done) | (simp only [push_n, set_n]; omega))⟩⟩ (by simp [Ck.ok]) (by decide) ?_
  intro xb lb h1 x1 hxb hlb i1
  have n_x1 := Ext.n_le x1; try simp only [push_n, set_n] at n_x1
  have hlb2 := hlb.resolve_left (by simp)
  simp only [push_n] at hxb hlb2
  change IX h1 xb lb s0 at i1
  have b1 : blocks h1 := (hb.ext (by repeat (first | assumption | exact Ext.refl _ | refine Ext.push ?_ | refine Ext.set ?_ (by omega) | refine Ext.trans ?_ (by assumption)))).ext x1
  have e01 : Ext h h1 := Ext.trans (by repeat (first | assumption | exact Ext.refl _ | refine Ext.push ?_ | refine Ext.set ?_ (by omega) | refine Ext.trans ?_ (by assumption))) x1
  simp (disch := first | assumption | omega | (simp only [push_n, set_n]; done) | (simp only [push_n, set_n]; omega) | fail) only [go_sem, ↓reduceIte, Nat.reduceEqDiff, Nat.reduceAdd, Nat.reduceMul, Int.reduceToNat, Int.reduceAdd, Int.reduceTDiv, Nat.reduceLeDiff]
  refine f12_spec (n := 2) (l := s0) (xb := xb) (lb := lb) b1 i1 (by decide) (by decide) ?_
  rw [a1]
  intro h2 u2 i2
  have n2 := u2.1
  change IX h2 xb lb s1 at i2
  have b2 : blocks h2 := b1.upd u2 (by omega)
  have ln2 := i2.ln
  have xn2 := i2.xn
  simp (disch := first | assumption | omega | (simp only [push_n, set_n]; done) | (simp only [push_n, set_n]; omega) | fail) only [go_sem, ↓reduceIte, Nat.reduceEqDiff, Nat.reduceAdd, Nat.reduceMul, Int.reduceToNat, Int.reduceAdd, Int.reduceTDiv, Nat.reduceLeDiff, Pl.cells]
  refine f12_spec (n := 2) (l := s1) (xb := xb) (lb := lb) (b2.ext (by repeat (first | assumption | exact Ext.refl _ | refine Ext.push ?_ | refine Ext.set ?_ (by omega) | refine Ext.trans ?_ (by assumption)))) (i2.ext (by repeat (first | assumption | exact Ext.refl _ | refine Ext.push ?_ | refine Ext.set ?_ (by omega) | refine Ext.trans ?_ (by assumption)))) (by decide) (by decide) ?_
  rw [a2]
  intro h3 u3 i3
  have n3 := u3.1
  simp only [push_n] at n3
  change IX h3 xb lb s2 at i3
  have b3 : blocks h3 := (b2.ext (h' := h2.push _) (by repeat (first | assumption | exact Ext.refl _ | refine Ext.push ?_ | refine Ext.set ?_ (by omega) | refine Ext.trans ?_ (by assumption)))).upd u3 (by omega)
  simp (disch := first | assumption | omega | (simp only [push_n, set_n]; done) | (simp only [push_n, set_n]; omega) | fail) only [go_sem, ↓reduceIte, Nat.reduceEqDiff, Nat.reduceAdd, Nat.reduceMul, Int.reduceToNat, Int.reduceAdd, Int.reduceTDiv, Nat.reduceLeDiff, Pl.cells]
  refine f12_spec (n := 15) (l := s2) (xb := xb) (lb := lb) (b3.ext (by repeat (first | assumption | exact Ext.refl _ | refine Ext.push ?_ | refine Ext.set ?_ (by omega) | refine Ext.trans ?_ (by assumption)))) (i3.ext (by repeat (first | assumption | exact Ext.refl _ | refine Ext.push ?_ | refine Ext.set ?_ (by omega) | refine Ext.trans ?_ (by assumption)))) (by decide) (by decide) ?_
  rw [a3]
  intro h4 u4 i4
  have n4 := u4.1
  simp only [push_n] at n4
  change IX h4 xb lb s3 at i4
  have b4 : blocks h4 := (b3.ext (h' := h3.push _) (by repeat (first | assumption | exact Ext.refl _ | refine Ext.push ?_ | refine Ext.set ?_ (by omega) | refine Ext.trans ?_ (by assumption)))).upd u4 (by omega)
  simp (disch := first | assumption | omega | (simp only [push_n, set_n]; done) | (simp only [push_n, set_n]; omega) | fail) only [go_sem, ↓reduceIte, Nat.reduceEqDiff, Nat.reduceAdd, Nat.reduceMul, Int.reduceToNat, Int.reduceAdd, Int.reduceTDiv, Nat.reduceLeDiff, Pl.cells]
  refine f12_spec (n := 15) (l := s3) (xb := xb) (lb := lb) (b4.ext (by repeat (first | assumption | exact Ext.refl _ | refine Ext.push ?_ | refine Ext.set ?_ (by omega) | refine Ext.trans ?_ (by assumption)))) (i4.ext (by repeat (first | assumption | exact Ext.refl _ | refine Ext.push ?_ | refine Ext.set ?_ (by omega) | refine Ext.trans ?_ (by assumption)))) (by decide) (by decide) ?_
  rw [a4]
  intro h5 u5 i5
  have n5 := u5.1
  simp only [push_n] at n5
  change IX h5 xb lb s3 at i5
  have b5 : blocks h5 := (b4.ext (h' := h4.push _) (by repeat (first | assumption | exact Ext.refl _ | refine Ext.push ?_ | refine Ext.set ?_ (by omega) | refine Ext.trans ?_ (by assumption)))).upd u5 (by omega)
  simp (disch := first | assumption | omega | (simp only [push_n, set_n]; done) | (simp only [push_n, set_n]; omega) | fail) only [go_sem, ↓reduceIte, Nat.reduceEqDiff, Nat.reduceAdd, Nat.reduceMul, Int.reduceToNat, Int.reduceAdd, Int.reduceTDiv, Nat.reduceLeDiff, Pl.cells, u3.2, u4.2, u5.2]
  refine f13_spec (p := ⟨0, 1, 0, 0, false⟩) (l := s3) (xb := xb) (lb := lb) (b5.ext (by repeat (first | assumption | exact Ext.refl _ | refine Ext.push ?_ | refine Ext.set ?_ (by omega) | refine Ext.trans ?_ (by assumption)))) (i5.ext (by repeat (first | assumption | exact Ext.refl _ | refine Ext.push ?_ | refine Ext.set ?_ (by omega) | refine Ext.trans ?_ (by assumption)))) (by decide) ?_
  rw [a5]
  intro h6 u6 i6
  have n6 := u6.1
  simp only [push_n] at n6
  change IX h6 xb lb s4 at i6
  have b6 : blocks h6 := (b5.ext (h' := h5.push _) (by repeat (first | assumption | exact Ext.refl _ | refine Ext.push ?_ | refine Ext.set ?_ (by omega) | refine Ext.trans ?_ (by assumption)))).upd u6 (by omega)
  simp (disch := first | assumption | omega | (simp only [push_n, set_n]; done) | (simp only [push_n, set_n]; omega) | fail) only [go_sem, ↓reduceIte, Nat.reduceEqDiff, Nat.reduceAdd, Nat.reduceMul, Int.reduceToNat, Int.reduceAdd, Int.reduceTDiv, Nat.reduceLeDiff, Pl.cells, u3.2, u4.2, u5.2, u6.2]
  refine f16_spec (l := s4) (xb := xb) (lb := lb) b6 i6 (by decide) (by simp [s4, Ck.ok, manyOf]) ?_
  intro v h7 x7 o7
  have n_x7 := Ext.n_le x7; try simp only [push_n, set_n] at n_x7
  have q1 : seqEq #[Value.int .i64 0, .int .i64 1, .int .i64 0, .int .i64 0, .bool false] #[Value.int .i64 0, .int .i64 1, .int .i64 0, .int .i64 0, .bool false] [(0, true), (1, true), (2, true), (3, true), (4, false)] = some true := by rfl
  have q2 : seqEq #[Value.int .i64 1, .int .i64 0, .int .i64 (-1), .int .i64 1, .bool false] #[Value.int .i64 1, .int .i64 0, .int .i64 (-1), .int .i64 1, .bool false] [(0, true), (1, true), (2, true), (3, true), (4, false)] = some true := by rfl
  simp (disch := first | assumption | omega | (simp only [push_n, set_n]; done) | (simp only [push_n, set_n]; omega) | fail) only [go_sem, ↓reduceIte, Nat.reduceEqDiff, Nat.reduceAdd, Nat.reduceMul, Int.reduceToNat, Int.reduceAdd, Int.reduceTDiv, Nat.reduceLeDiff, Pl.cells, u3.2, u4.2, u5.2, u6.2, x7.2, q1, q2]
  refine f32_spec (xs := [33554433#64, 0#64]) (ys := [33554433#64, 0#64]) (o7.rs.mono (h' := h7.push _) (by repeat (first | assumption | exact Ext.refl _ | refine Ext.push ?_ | refine Ext.set ?_ (by omega) | refine Ext.trans ?_ (by assumption)))) ⟨by simp, .inr ⟨h7.n, 2, 45, false, rfl, get_push_eq rfl, by (first | omega | (simp only [push_n, set_n]; done) | (simp only [push_n, set_n]; omega))⟩⟩ (by decide) ?_
  simp (disch := first | assumption | omega | (simp only [push_n, set_n]; done) | (simp only [push_n, set_n]; omega) | fail) only [go_sem, ↓reduceIte, Nat.reduceEqDiff, Nat.reduceAdd, Nat.reduceMul, Int.reduceToNat, Int.reduceAdd, Int.reduceTDiv, Nat.reduceLeDiff, Pl.cells, u3.2, u4.2, u5.2, u6.2, x7.2]
  have fits : Fits s4 := by
    intro i o ho hk
    match i, ho with
    | 0, ho => simp [s4] at ho; subst ho; simp [Ck.kind] at hk
    | 1, ho => simp [s4] at ho; subst ho; decide
    | n + 2, ho => simp [s4] at ho
  refine f24_spec (p := ⟨0, 0, 0, 0, true⟩) (l := s4) (xb := xb) (lb := lb) ((b6.ext x7).ext (by repeat (first | assumption | exact Ext.refl _ | refine Ext.push ?_ | refine Ext.set ?_ (by omega) | refine Ext.trans ?_ (by assumption)))) ((i6.ext x7).ext (by repeat (first | assumption | exact Ext.refl _ | refine Ext.push ?_ | refine Ext.set ?_ (by omega) | refine Ext.trans ?_ (by assumption)))) (by decide) fits ?_
  rw [a7]
  intro h8 u8 i8
  have n8 := u8.1
  simp only [push_n] at n8
  change IX h8 xb lb s5 at i8
  simp (disch := first | assumption | omega | (simp only [push_n, set_n]; done) | (simp only [push_n, set_n]; omega) | fail) only [go_sem, ↓reduceIte, Nat.reduceEqDiff, Nat.reduceAdd, Nat.reduceMul, Int.reduceToNat, Int.reduceAdd, Int.reduceTDiv, Nat.reduceLeDiff, Pl.cells]
  refine f35_spec (l := s5) (xb := xb) (lb := lb) i8 (by decide) ?_
  rw [a8]
  intro w h9 x9 o9
  have lw := o9.rs.len (h' := h9)
  simp only [List.map_nil, List.length_nil] at lw
  have n9 := x9.1
  simp (disch := first | assumption | omega | (simp only [push_n, set_n]; done) | (simp only [push_n, set_n]; omega) | fail) only [go_sem, ↓reduceIte, Nat.reduceEqDiff, Nat.reduceAdd, Nat.reduceMul, Int.reduceToNat, Int.reduceAdd, Int.reduceTDiv, Nat.reduceLeDiff, lw]
  refine q _ ⟨by omega, fun i hi => ?_⟩
  simp (disch := first | assumption | omega | (simp only [push_n, set_n]; done) | (simp only [push_n, set_n]; omega) | fail) only [go_sem, ↓reduceIte, Nat.reduceEqDiff, Nat.reduceAdd, Nat.reduceMul, Int.reduceToNat, Int.reduceAdd, Int.reduceTDiv, Nat.reduceLeDiff, x9.2, u8.2, x7.2, u6.2, u5.2, u4.2, u3.2, u2.2, x1.2]
end Go.Am.YtdcppkhobfbpeaaDoor
