/-
  The statement IndexPlays: whatever is taken, dropped, kept and freed, is as the document says.
-/
import Derived.Test.YtdcppkhobfbpeaaDoorR0
import Derived.Test.YtdcppkhobfbpeaaDoorD42
import Derived.Test.YtdcppkhobfbpeaaDoorCards
import Derived.Test.YtdcppkhobfbpeaaDoorTie
set_option linter.unusedVariables false
set_option linter.unusedSimpArgs false
namespace Go.Proofs.YtdcppkhobfbpeaaDoor.indexPlays
open Go.ChangeShapes Go.WideShapes Go.ChangeAt Go.RowKit Go.Am Go.Am.YtdcppkhobfbpeaaDoor

theorem cells4 : Tryd.prog.cellsOf 4 = 1 := by kernel_rfl
theorem cells5 : Tryd.prog.cellsOf 5 = 1 := by kernel_rfl
theorem cells30 : Tryd.prog.cellsOf 30 = 5 := by kernel_rfl
theorem cells54 : Tryd.prog.cellsOf 54 = 10 := by kernel_rfl
theorem list10 {α : Type} {cs : List α} (h : cs.length = 10) : ∃ a b c d e f g i j k, cs = [a, b, c, d, e, f, g, i, j, k] := by
  match cs, h with
  | [a, b, c, d, e, f, g, i, j, k], _ => exact ⟨a, b, c, d, e, f, g, i, j, k, rfl⟩
theorem some_of {α : Type} {l : List α} {n : Nat} (i : Nat) (h : l.length = n) (hi : i < n) : ∃ y, l[i]? = some y := ⟨l[i], List.getElem?_eq_getElem (by omega)⟩
theorem flat_get {α : Type} {s : Nat} : ∀ (l : List (List α)), (∀ x ∈ l, x.length = s) → ∀ (i r : Nat), r < s → l.flatten[i * s + r]? = (l[i]?).bind fun x => x[r]?
  | [], _, i, r, _ => by simp
  | x :: l, h, 0, r, hr => by
    have hx := h x (by simp)
    rw [List.flatten_cons, Nat.zero_mul, Nat.zero_add, List.getElem?_append_left (by omega)]; rfl
  | x :: l, h, i + 1, r, hr => by
    have hx := h x (by simp)
    have e : (i + 1) * s + r = x.length + (i * s + r) := by rw [Nat.add_mul]; omega
    rw [List.flatten_cons, e, List.getElem?_append_right (by omega), Nat.add_sub_cancel_left, flat_get l (fun y hy => h y (by simp [hy])) i r hr]; rfl

section
variable {H : Type} {enc : TypeId × Value → H}
theorem one_eq {a b : Value} (h : [a] = [b]) : a = b := by cases h; rfl
theorem ops_eq {n0 n1 n2 n3 m0 m1 m2 m3 : Int} {n4 m4 : Bool} {a b : Nat} (ha : (a : Int) = n0) (hb : (b : Int) = n3) :
    [Value.int .u8 n0, .int .i64 n1, .int .i64 n2, .int .u8 n3, .bool n4, .int .i64 m0, .int .i64 m1, .int .i64 m2, .int .i64 m3, .bool m4] = Go.Am.YtdcppkhobfbpeaaDoor.Op.cells ⟨a, n1, n2, b, n4, ⟨m0, m1, m2, m3, m4⟩⟩ := by
  subst ha hb; rfl
/-- An operation's cells. -/
theorem op_cells {W : World} {base fuel : Nat} {spare : Nat → Bool} {held : Bool} {cs : List Value} {x : DataW H × List MemPlace} (h : DataW.trod enc Tryd.prog W base spare held fuel 54 cs = some x) : ∃ o : Go.Am.YtdcppkhobfbpeaaDoor.Op, cs = o.cells ∧ o.which < 256 := by
  obtain ⟨xs, n, rfl, hx, hlen, hxl, hf⟩ := DataW.trod_struct Tryd.underlying54 h
  rw [cells54] at hlen
  obtain ⟨v0, v1, v2, v3, v4, v5, v6, v7, v8, v9, rfl⟩ := list10 hlen
  have hxl' : xs.length = 6 := hxl
  obtain ⟨y0, e0⟩ := some_of 0 hxl' (by decide)
  have g0 : DataW.trod enc Tryd.prog W base spare held n 5 (([v0, v1, v2, v3, v4, v5, v6, v7, v8, v9].drop 0).take (Tryd.prog.cellsOf 5)) = some y0 := (hf 0 _ rfl).trans e0
  simp only [cells5, List.drop_zero, List.drop_succ_cons, List.take_succ_cons, List.take_zero] at g0
  obtain ⟨y1, e1⟩ := some_of 1 hxl' (by decide)
  have g1 : DataW.trod enc Tryd.prog W base spare held n 3 (([v0, v1, v2, v3, v4, v5, v6, v7, v8, v9].drop 1).take (Tryd.prog.cellsOf 3)) = some y1 := (hf 1 _ rfl).trans e1
  simp only [cells3, List.drop_zero, List.drop_succ_cons, List.take_succ_cons, List.take_zero] at g1
  obtain ⟨y2, e2⟩ := some_of 2 hxl' (by decide)
  have g2 : DataW.trod enc Tryd.prog W base spare held n 3 (([v0, v1, v2, v3, v4, v5, v6, v7, v8, v9].drop 2).take (Tryd.prog.cellsOf 3)) = some y2 := (hf 2 _ rfl).trans e2
  simp only [cells3, List.drop_zero, List.drop_succ_cons, List.take_succ_cons, List.take_zero] at g2
  obtain ⟨y3, e3⟩ := some_of 3 hxl' (by decide)
  have g3 : DataW.trod enc Tryd.prog W base spare held n 5 (([v0, v1, v2, v3, v4, v5, v6, v7, v8, v9].drop 3).take (Tryd.prog.cellsOf 5)) = some y3 := (hf 3 _ rfl).trans e3
  simp only [cells5, List.drop_zero, List.drop_succ_cons, List.take_succ_cons, List.take_zero] at g3
  obtain ⟨y4, e4⟩ := some_of 4 hxl' (by decide)
  have g4 : DataW.trod enc Tryd.prog W base spare held n 4 (([v0, v1, v2, v3, v4, v5, v6, v7, v8, v9].drop 4).take (Tryd.prog.cellsOf 4)) = some y4 := (hf 4 _ rfl).trans e4
  simp only [cells4, List.drop_zero, List.drop_succ_cons, List.take_succ_cons, List.take_zero] at g4
  obtain ⟨y5, e5⟩ := some_of 5 hxl' (by decide)
  have g5 : DataW.trod enc Tryd.prog W base spare held n 30 (([v0, v1, v2, v3, v4, v5, v6, v7, v8, v9].drop 5).take (Tryd.prog.cellsOf 30)) = some y5 := (hf 5 _ rfl).trans e5
  simp only [cells30, List.drop_zero, List.drop_succ_cons, List.take_succ_cons, List.take_zero] at g5
  obtain ⟨n0, k0, _, w0⟩ := DataW.trod_int Tryd.underlying5 g0
  obtain ⟨n1, k1, _, _⟩ := DataW.trod_int Tryd.underlying3 g1
  obtain ⟨n2, k2, _, _⟩ := DataW.trod_int Tryd.underlying3 g2
  obtain ⟨n3, k3, _, w3⟩ := DataW.trod_int Tryd.underlying5 g3
  obtain ⟨n4, k4, _⟩ := DataW.trod_bool Tryd.underlying4 g4
  obtain ⟨zs, m, rfl, hz, hlen2, hzl, hf2⟩ := DataW.trod_struct Tryd.underlying30 g5
  have hzl' : zs.length = 5 := hzl
  obtain ⟨z0, d0⟩ := some_of 0 hzl' (by decide)
  have b0 : DataW.trod enc Tryd.prog W base spare held m 3 (([v5, v6, v7, v8, v9].drop 0).take (Tryd.prog.cellsOf 3)) = some z0 := (hf2 0 _ rfl).trans d0
  simp only [cells3, List.drop_zero, List.drop_succ_cons, List.take_succ_cons, List.take_zero] at b0
  obtain ⟨z1, d1⟩ := some_of 1 hzl' (by decide)
  have b1 : DataW.trod enc Tryd.prog W base spare held m 3 (([v5, v6, v7, v8, v9].drop 1).take (Tryd.prog.cellsOf 3)) = some z1 := (hf2 1 _ rfl).trans d1
  simp only [cells3, List.drop_zero, List.drop_succ_cons, List.take_succ_cons, List.take_zero] at b1
  obtain ⟨z2, d2⟩ := some_of 2 hzl' (by decide)
  have b2 : DataW.trod enc Tryd.prog W base spare held m 3 (([v5, v6, v7, v8, v9].drop 2).take (Tryd.prog.cellsOf 3)) = some z2 := (hf2 2 _ rfl).trans d2
  simp only [cells3, List.drop_zero, List.drop_succ_cons, List.take_succ_cons, List.take_zero] at b2
  obtain ⟨z3, d3⟩ := some_of 3 hzl' (by decide)
  have b3 : DataW.trod enc Tryd.prog W base spare held m 3 (([v5, v6, v7, v8, v9].drop 3).take (Tryd.prog.cellsOf 3)) = some z3 := (hf2 3 _ rfl).trans d3
  simp only [cells3, List.drop_zero, List.drop_succ_cons, List.take_succ_cons, List.take_zero] at b3
  obtain ⟨z4, d4⟩ := some_of 4 hzl' (by decide)
  have b4 : DataW.trod enc Tryd.prog W base spare held m 4 (([v5, v6, v7, v8, v9].drop 4).take (Tryd.prog.cellsOf 4)) = some z4 := (hf2 4 _ rfl).trans d4
  simp only [cells4, List.drop_zero, List.drop_succ_cons, List.take_succ_cons, List.take_zero] at b4
  obtain ⟨m0, j0, _, _⟩ := DataW.trod_int Tryd.underlying3 b0
  obtain ⟨m1, j1, _, _⟩ := DataW.trod_int Tryd.underlying3 b1
  obtain ⟨m2, j2, _, _⟩ := DataW.trod_int Tryd.underlying3 b2
  obtain ⟨m3, j3, _, _⟩ := DataW.trod_int Tryd.underlying3 b3
  obtain ⟨m4, j4, _⟩ := DataW.trod_bool Tryd.underlying4 b4
  have u0 := bounds_u8 w0
  have u3 := bounds_u8 w3
  refine ⟨⟨n0.toNat, n1, n2, n3.toNat, n4, ⟨m0, m1, m2, m3, m4⟩⟩, ?_, by show n3.toNat < 256; omega⟩
  obtain rfl := one_eq k0
  obtain rfl := one_eq k1
  obtain rfl := one_eq k2
  obtain rfl := one_eq k3
  obtain rfl := one_eq k4
  obtain rfl := one_eq j0
  obtain rfl := one_eq j1
  obtain rfl := one_eq j2
  obtain rfl := one_eq j3
  obtain rfl := one_eq j4
  have z0 : ((n0.toNat : Nat) : Int) = n0 := Int.toNat_of_nonneg u0.1
  have z3 : ((n3.toNat : Nat) : Int) = n3 := Int.toNat_of_nonneg u3.1
  exact ops_eq z0 z3
theorem op_plain {o : Go.Am.YtdcppkhobfbpeaaDoor.Op} : ∀ v ∈ o.cells, constV v = true := by
  intro v hv
  unfold Go.Am.YtdcppkhobfbpeaaDoor.Op.cells at hv
  simp only [List.mem_cons, List.not_mem_nil, or_false] at hv
  rcases hv with rfl | rfl | rfl | rfl | rfl | rfl | rfl | rfl | rfl | rfl <;> rfl

instance : Inhabited Go.Am.YtdcppkhobfbpeaaDoor.Op := ⟨⟨0, 0, 0, 0, false, ⟨0, 0, 0, 0, false⟩⟩⟩
/-- A slice of operations that comes in. -/
theorem arg_of {P : Program} {W : World} {base : Nat} {t e : TypeId} {v : Value} {d : DataW H} {ps : List MemPlace} (ht : P.underlying t = some (.slice e)) (hc : P.cellsOf e = 10)
    (hop : ∀ (n : Nat) (cs : List Value) (x : DataW H × List MemPlace), DataW.trod enc P W 0 (fun _ => true) true n e cs = some x → ∃ o : Go.Am.YtdcppkhobfbpeaaDoor.Op, cs = o.cells ∧ o.which < 256)
    (hval : Value.okWide P W .any base t v) (hd : DataW.Trod enc P W 0 (fun _ => true) true t v d ps) : ∃ ops : List Go.Am.YtdcppkhobfbpeaaDoor.Op, Arg W 10 v (ops.map Go.Am.YtdcppkhobfbpeaaDoor.Op.cells) ∧ ∀ o ∈ ops, o.which < 256 := by
  obtain ⟨fuel, hf⟩ := hd
  cases v with
  | slice q len cap =>
    rcases Go.Deep.open_slice ht hf with ⟨h1, _⟩ | ⟨a, len', cap', m, n, D, Pl, h1, _, hl, _, hm, _, hx⟩
    · have : q = none ∧ len = 0 ∧ cap = 0 := by simpa [Value.cells] using h1
      obtain ⟨rfl, rfl, rfl⟩ := this
      exact ⟨[], ⟨by simp, by simp, .inl ⟨rfl, rfl⟩⟩, by simp⟩
    · have : q = some a ∧ len = len' ∧ cap = cap' := by simpa [Value.cells] using h1
      obtain ⟨rfl, rfl, rfl⟩ := this
      have hcell : Cell.ok P W .any base t (.slice (some a) len cap) := by
        simpa only [Value.okWide, Cell.okWide, ht] using hval
      simp only [Cell.ok, ht] at hcell
      obtain ⟨_, _, _, hspot, row, cells, hsh, _⟩ := hcell
      have hb : a.block < W.heap.size := by
        unfold World.shape? at hsh
        cases hh : W.heap[a.block]? with
        | none => rw [hh] at hsh; cases hsh
        | some o => exact (Array.getElem?_eq_some_iff.1 hh).1
      obtain ⟨b, off, sp⟩ := a
      simp only at hspot hb
      subst hspot
      simp only [if_true] at hm
      have each : ∀ i, i < len → ∃ o : Go.Am.YtdcppkhobfbpeaaDoor.Op, o.which < 256 ∧ ∀ r, r < 10 → W.cell? ⟨b, off + (i * 10 + r), none⟩ = o.cells[r]? := fun i hi => by
        obtain ⟨cs', h2, h3⟩ := hx i (by omega)
        rw [hc] at h2
        obtain ⟨_, _, h4⟩ := World.cells?_some h2
        obtain ⟨o, rfl, hw⟩ := hop _ _ _ h3
        refine ⟨o, hw, fun r hr => ?_⟩
        have := h4 r hr
        rw [add_lit, add_lit, Nat.add_assoc] at this
        exact this
      obtain ⟨f, hfo⟩ := Go.Deep.choose_lt each
      have hlen : (((List.range len).map f).map Go.Am.YtdcppkhobfbpeaaDoor.Op.cells).length = len := by simp
      have hall : ∀ x ∈ ((List.range len).map f).map Go.Am.YtdcppkhobfbpeaaDoor.Op.cells, x.length = 10 := fun x hx => by
        obtain ⟨o, _, rfl⟩ := List.mem_map.1 hx
        rfl
      refine ⟨(List.range len).map f, ⟨hall, ?_, .inr ⟨b, off, cap, by rw [hlen], by rw [hlen]; exact hl, hb, ?_⟩⟩, fun o ho => ?_⟩
      · intro u hu
        obtain ⟨x, hx, hu⟩ := List.mem_flatten.1 hu
        obtain ⟨o, _, rfl⟩ := List.mem_map.1 hx
        exact op_plain u hu
      · intro j u hu
        have hj : j = j / 10 * 10 + j % 10 := by omega
        have hr : j % 10 < 10 := Nat.mod_lt _ (by decide)
        rw [hj, flat_get _ hall _ _ hr] at hu
        have hi : j / 10 < len := by
          rcases Nat.lt_or_ge (j / 10) len with h | h
          · exact h
          · rw [List.getElem?_eq_none (by rw [hlen]; exact h)] at hu; cases hu
        rw [List.getElem?_map, List.getElem?_map, List.getElem?_range hi] at hu
        rw [hj, (hfo _ hi).2 _ hr]
        exact hu
      · obtain ⟨i, hi, rfl⟩ := List.mem_map.1 ho
        exact (hfo i (List.mem_range.1 hi)).1
  | _ => simp [Value.okWide, Cell.okWide, Cell.ok, ht] at hval
end

set_option maxRecDepth 100000 in
theorem contract (H : Type) (enc : TypeId × Value → H) (W : World) (base : Nat) (args : Array Value) (ds gs : List (DataW H)) (before : List MemPlace)
    (hval : ∀ (j : Nat) t v, Tryd.f5.params[j]? = some t → args[j]? = some v → Value.okWide Tryd.prog W .any base t v)
    (hW : DataW.Whole enc Tryd.prog Tryd.f5.params.toList Rows.indexPlaysSpec.vars false W args.toList ds gs before) (hL : laidMetH Tryd.prog Rows.indexPlaysRow.laid W) :
    Calls Tryd.prog 5 args W fun e W' => ∃ v, e = .returned v ∧ Rows.indexPlaysSpec.post enc Tryd.prog Tryd.f5 false true false false W args v W' := by
  have hW' := hW
  obtain ⟨p, q, hA0, hV, rfl, hfz, hnd⟩ := hW
  have hA : DataW.TrodAll enc Tryd.prog W 0 (fun _ => true) true Tryd.f5.params.toList args.toList ds p := hA0
  rw [Tryd.params5] at hA hval
  obtain ⟨v0, vs0, d0, ds0, p0, q0, hargs, rfl, rfl, h0, r0⟩ := trodAll_cons hA
  obtain ⟨v1, vs1, d1, ds1, p1, q1, rfl, rfl, rfl, h1, r1⟩ := trodAll_cons r0
  obtain ⟨rfl, rfl, rfl⟩ := trodAll_nil r1
  obtain rfl : args = #[v0, v1] := by cases args; simp_all
  obtain ⟨hs, hb, hn2⟩ := start (W := W) hL
  have hv0 : Value.okWide Tryd.prog W .any base 22 v0 := hval 0 22 v0 (by simp) (by simp)
  have hv1 : Value.okWide Tryd.prog W .any base 49 v1 := hval 1 49 v1 (by simp) (by simp)
  obtain ⟨zs0, ha0, hz0⟩ := arg_ints Tryd.underlying22 Tryd.underlying23 cells23 hv0 h0
  obtain ⟨ns0, hns0, hlen0, h16_0⟩ := nats_of hz0
  rw [hns0] at ha0
  obtain ⟨av0, φ0, k0, hs0, hsub0, hr0, hx0, rs0, vb0⟩ := ha0.lay hs
  obtain ⟨ops, ha1, how⟩ := arg_of Tryd.underlying49 cells54 (fun _ _ _ => op_cells) hv1 h1
  obtain ⟨av1, φ1, k1, hs1, hsub1, hr1, hx1, rs1, vb1⟩ := ha1.lay hs0
  refine law_of_wc (aargs := [av0, av1]) tab laidOut (by kernel_rfl) (tb := 4) (by kernel_rfl) Tryd.underlying4 rfl rfl hW' hs1 (.cons _ _ _ _ (hr0.mono hsub1) (.cons _ _ _ _ hr1 .nil)) ?_
  exact f5_spec ((hb.ext hx0).ext hx1) (rs0.mono hx1) h16_0 rs1 how (by have := hx0.1; omega) fun _ => rfl
theorem laid_met (os : Os) : laidMet Tryd.prog Rows.indexPlaysRow.laid ((laidWorld os #[.slice none 0 0, .slice none 0 0]).forCall (fun _ _ => 0) ⟨#[], #[.slice none 0 0, .slice none 0 0], []⟩).memory :=
  laidMet_of_run' 8 (by kernel_rfl) (by kernel_rfl)
theorem reads (os : Os) {H : Type} (enc : TypeId × Value → H) : ∃ places, DataW.whole enc Tryd.prog ((laidWorld os #[.slice none 0 0, .slice none 0 0]).forCall (fun _ _ => 0) ⟨#[], #[.slice none 0 0, .slice none 0 0], []⟩).memory Tryd.f5.params.toList Rows.indexPlaysSpec.vars false (#[.slice none 0 0, .slice none 0 0] : Array Value).toList 8 = some ([.nil, .nil], [], places) :=
  ⟨[], by kernel_rfl⟩

set_option maxRecDepth 100000 in
theorem lifted (os : Os) (started : os.Started) (H : Type) (enc : TypeId × Value → H) (F : Stop.Interp) :
    ReturnsInHanded {} Tryd.checked os 5 .any ((OpenSpec.ofChange Rows.indexPlaysSpec).preRow enc Tryd.prog Tryd.f5 Rows.indexPlaysRow.domain false Rows.indexPlaysRow.laid) (((OpenSpec.ofChange Rows.indexPlaysSpec).at F).post enc Tryd.prog Tryd.f5 false true false false) := by
  obtain ⟨places, hx⟩ := reads os enc
  refine returnsInHanded_of_row (C := Tryd.checked) (s := OpenSpec.ofChange Rows.indexPlaysSpec) own started (by kernel_rfl) Tryd.func5
    (witness_row_at (enc := enc) (C := Tryd.checked) false (laidWorld os #[.slice none 0 0, .slice none 0 0]) #[.slice none 0 0, .slice none 0 0] rfl (by kernel_rfl) (by kernel_rfl) (by kernel_rfl)
      (OpenSpec.preRow_of_cond 8 hx (by kernel_rfl) (fun k hk => by cases hk) (by kernel_rfl) (laid_met os))) ?_
  intro W base args ds gs before hval hW _ _ _ hL _ _
  exact contract H enc W base args ds gs before hval hW hL

theorem said : Rows.IndexPlaysSaid :=
  OpenClaim.holds_of_cond 5 Tryd.f5 rfl rfl rfl rfl rfl rfl rfl ⟨rfl, rfl, rfl, rfl, rfl⟩ rfl rfl rfl rfl rfl (by kernel_rfl) Tryd.func5 (by kernel_rfl)
    (of_decide_eq_true (by kernel_rfl)) (by unfold Func.isWrapper; first | (rw [if_pos (by decide +kernel)]; kernel_rfl) | (rw [if_neg (by decide +kernel)]; exact ⟨rfl, rfl⟩))
    (fun os started H enc _ F => by rw [OpenClaim.pre_eq_preRow]; exact lifted os started H enc F)

/-- No parameter wants a stand-in; the program's own looks are off. -/
theorem plain (f : FuncId) (fn : Func) (hf : Tryd.pinned.checked.prog.funcNamed Rows.indexPlaysRow.func = some f) (hfn : Tryd.pinned.checked.prog.funcs[f]? = some fn) :
    false = Tryd.pinned.checked.prog.looks [] ∧ ∀ (j : Nat) t, fn.params[j]? = some t → Tryd.pinned.checked.prog.wantsStandIn t = false := by
  obtain rfl : f = 5 := Option.some.inj ((show Tryd.prog.funcNamed Rows.indexPlaysRow.func = some 5 by kernel_rfl).symm.trans hf) |>.symm
  obtain rfl : fn = Tryd.f5 := (Option.some.inj (Tryd.func5.symm.trans hfn)).symm
  refine ⟨by kernel_rfl, fun j t ht => ?_⟩
  have hall : Tryd.f5.params.toList.all (fun t => !Tryd.prog.wantsStandIn t) = true := by kernel_rfl
  have := List.all_eq_true.1 hall t (Array.mem_toList_iff.2 (Array.mem_of_getElem? ht))
  exact (by simpa using this : Tryd.prog.wantsStandIn t = false)

theorem card : Rows.IndexPlaysCardSaid :=
  Claim7.holds_tied_plain_at .later [] _ _ _ _ said (fun _ h => by cases h) (by kernel_rfl) (fun _ h => by cases h) indexPlays_row_tie rfl ⟨rfl, rfl⟩ (by kernel_rfl) rfl plain (by kernel_rfl)

#print axioms card
end Go.Proofs.YtdcppkhobfbpeaaDoor.indexPlays
