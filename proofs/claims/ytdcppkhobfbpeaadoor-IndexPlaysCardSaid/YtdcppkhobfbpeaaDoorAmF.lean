/-
  Each operation of the abstract machine is the model's: structs built and compared, slices cut, appends.
-/
import Derived.Test.YtdcppkhobfbpeaaDoorAmE
set_option linter.unusedVariables false
set_option linter.unusedSimpArgs false
namespace Go.Am
open Go Go.RowKit

section
variable {P : Program} {base : Nat} {w0 : World} {φ : Map} {h : Heap} {w : World} {N : Nat} {a : Nat → Value} {ac : Act} {call : CallT} {v : Value} {h' : Heap} {o : Oper}

theorem VRs.set {xs ys : List Value} (hx : VRs φ xs ys) {x y : Value} (hr : VR φ x y) (i : Nat) : VRs φ (xs.set i x) (ys.set i y) := by
  have hl := hx.length
  refine VRs.of (by simp [hl]) fun j z hz => ?_
  rw [List.getElem?_set] at hz ⊢
  by_cases hij : i = j
  · rw [if_pos hij] at hz ⊢
    split at hz
    · cases hz; rw [if_pos (by omega)]; exact ⟨y, rfl, hr⟩
    · cases hz
  · rw [if_neg hij] at hz ⊢
    exact hx.get j z hz

theorem VRs.setAt {vs vs' : List Value} (hv : VRs φ vs vs') : ∀ {xs ys : List Value} (o : Nat), VRs φ xs ys → VRs φ (Am.setAt xs o vs) (Am.setAt ys o vs') := by
  induction vs generalizing vs' with
  | nil => cases hv; intro xs ys o hx; exact hx
  | cons v vs ih => cases hv with | cons _ v' _ vs' h1 h2 => intro xs ys o hx; exact ih h2 (o + 1) (hx.set h1 o)

theorem oneCell_setAt : ∀ (vs c : List Value) (o : Nat), (∀ v ∈ vs, v.oneCell' = true) → (∀ v ∈ c, v.oneCell' = true) → ∀ v ∈ setAt c o vs, v.oneCell' = true
  | [], c, o, _, hc => hc
  | x :: r, c, o, hv, hc => oneCell_setAt r (c.set o x) (o + 1) (fun v hm => hv v (by simp [hm])) (fun v hm => by
      rcases List.mem_or_eq_of_mem_set hm with h | h
      · exact hc v h
      · subst h; exact hv _ (by simp))

theorem foldl_setAt : ∀ (vs : List Value) (k off : Nat) (cs : Array Value), ((vs.zipIdx k).foldl (fun cs (c, j) => cs.setIfInBounds (off + j) c) cs).toList = setAt cs.toList (off + k) vs
  | [], k, off, cs => by simp [setAt]
  | v :: r, k, off, cs => by
    simp only [List.zipIdx_cons, List.foldl_cons, setAt]
    rw [foldl_setAt r (k + 1) off]
    simp [Nat.add_assoc]

/-- Parts put into cells. -/
theorem fill_rel (pl : Nat → Option (Nat × Nat)) : ∀ (ps : List (Nat × Operand)) (l : List (Nat × Nat × Operand)) (z cs : List Value) (z' : Array Value), Sim P base w0 φ h w → FR φ N a ac.tmps →
    partsOf P N pl ps = some l → VRs φ z z'.toList → (∀ v ∈ z'.toList, v.oneCell' = true) → fillL z (partsV a l) = some cs →
    ∃ cs' : Array Value, Instr.fill pl z' (ps.map fun p => (p.1, ac.eval p.2)) = some cs' ∧ VRs φ cs cs'.toList ∧ ∀ v ∈ cs'.toList, v.oneCell' = true
  | [], l, z, cs, z', hs, hf, hp, hz, h1, hfl => by
    simp only [partsOf, Option.some.injEq] at hp; subst hp
    simp only [partsV, List.map_nil, fillL, Option.some.injEq] at hfl; subst hfl
    exact ⟨z', rfl, hz, h1⟩
  | (i, x) :: r, l, z, cs, z', hs, hf, hp, hz, h1, hfl => by
    simp only [partsOf] at hp
    split at hp
    · rename_i off n hpl
      split at hp
      · rename_i hx
        split at hp
        · rename_i l' hl'
          cases hp
          simp only [partsV, List.map_cons, fillL] at hfl
          split at hfl
          · rename_i vs hvs
            split at hfl
            · rename_i hcond
              obtain ⟨r1, r2⟩ := vcells_rel (opd_rel hs hf hx) hvs
              have hlen := r1.length
              have hzl := hz.length
              simp at hlen hzl
              have hcells : (((ac.eval x).cells.zipIdx.foldl (fun cs (c, j) => cs.setIfInBounds (off + j) c) z').toList) = setAt z'.toList off (ac.eval x).cells.toList := by
                have := foldl_setAt (ac.eval x).cells.toList 0 off z'
                rw [← Array.foldl_toList]
                simpa using this
              obtain ⟨cs', e1, e2, e3⟩ := fill_rel pl r l' (setAt z off vs) cs ((ac.eval x).cells.zipIdx.foldl (fun cs (c, j) => cs.setIfInBounds (off + j) c) z') hs hf hl'
                (by rw [hcells]; exact VRs.setAt r1 off hz) (by rw [hcells]; exact oneCell_setAt _ _ _ r2 h1) hfl
              refine ⟨cs', ?_, e2, e3⟩
              simp only [List.map_cons, Instr.fill, hpl]
              rw [if_neg]
              · exact e1
              · simp only [Bool.or_eq_true, decide_eq_true_eq, not_or, ne_eq]
                exact ⟨by omega, by omega⟩
            · cases hfl
          · cases hfl
        · cases hp
      · cases hp
    · cases hp

theorem length_fillL : ∀ (ps : List (Nat × Nat × Value)) (z cs : List Value), fillL z ps = some cs → cs.length = z.length
  | [], z, cs, hc => by simp only [fillL, Option.some.injEq] at hc; rw [hc]
  | (off, n, x) :: r, z, cs, hc => by
    simp only [fillL] at hc
    split at hc
    · split at hc
      · rw [length_fillL r _ _ hc, length_setAt]
      · cases hc
    · cases hc

theorem mapM_places (w : World) : ∀ (fs : List Field), fs.all (fun f => (P.info? f.type).isSome) = true →
    (fs.mapM fun f => do pure (f.offset, ← sizeOf f.type) : Sem (List (Nat × Nat))).run P w = .ok (fs.map fun f => (f.offset, P.cellsOf f.type)) w
  | [], _ => by simp
  | f :: fs, hall => by
    simp only [List.all_cons, Bool.and_eq_true] at hall
    have ih := mapM_places w fs hall.2
    obtain ⟨i, hi⟩ := Option.isSome_iff_exists.1 hall.1
    have h0 : (sizeOf f.type).run P w = .ok (P.cellsOf f.type) w := by simp [sizeOf, typeInfo, hi, Program.cellsOf]
    simp only [List.mapM_cons, Sem.run_bind, h0, Result.andThen_ok, Sem.run_pure, ih, List.map_cons]

theorem e_build (hs : Sim P base w0 φ h w) (hf : FR φ N a ac.tmps) {t : TypeId} {z : List Value} {ps : Array (Nat × Operand)} {l : List (Nat × Nat × Operand)} (hb : buildOk P t = true) (hz : zeros? P t = some z) (hp : partsOf P N (placeOf P t) ps.toList = some l)
    (ho : o.op = .build t ps) (he : evOp call a h (.build z l) = some (v, h')) : Res P base w0 φ h w v h' ((execOp ac.eval o).run P w) := by
  simp only [evOp] at he
  split at he
  · rename_i cs hcs
    simp only [Option.some.injEq, Prod.mk.injEq] at he
    obtain ⟨rfl, rfl⟩ := he
    obtain ⟨zv, rfl, hc, hrun⟩ := zero_run hz
    have hzr : VRs φ zv.cells.toList zv.cells.toList := VRs.consts hc
    have hz1 : ∀ u ∈ zv.cells.toList, u.oneCell' = true := fun u hu => constOk_one (List.all_eq_true.1 hc u hu)
    have hmap : (ps.map fun (i, x) => (i, ac.eval x)).toList = ps.toList.map fun p => (p.1, ac.eval p.2) := by simp
    obtain ⟨cs', e1, e2, e3⟩ := fill_rel (placeOf P t) ps.toList l zv.cells.toList cs zv.cells hs hf hp hzr hz1 hcs
    rw [← hmap] at e1
    refine Res.pure hs (.agg _ cs' (by simpa using e2) e3) ?_
    unfold buildOk at hb
    unfold execOp; rw [ho]
    split at hb
    · rename_i fs hu
      have hm : (fs.mapM fun f => do pure (f.offset, ← sizeOf f.type) : Sem (Array (Nat × Nat))).run P w = .ok (fs.map fun f => (f.offset, P.cellsOf f.type)) w := by
        rw [Array.mapM_eq_mapM_toList]
        simp only [Sem.run_map, mapM_places w fs.toList hb, Result.andThen_ok]
        congr 1
        apply Array.ext'
        simp
      have hpl : placeOf P t = fun i => (fs.map fun f => (f.offset, P.cellsOf f.type))[i]? := by funext i; simp [placeOf, hu]
      rw [hpl] at e1
      simp only [Instr.build, Sem.run_bind, hrun, Result.andThen_ok, run_underlying hu, hm, e1, Sem.run_pure]
    · rename_i n e hu
      obtain ⟨i, hi⟩ := Option.isSome_iff_exists.1 hb
      have h0 : (sizeOf e).run P w = .ok (P.cellsOf e) w := by simp [sizeOf, typeInfo, hi, Program.cellsOf]
      have hpl : placeOf P t = fun i => some (i * P.cellsOf e, P.cellsOf e) := by funext i; simp [placeOf, hu]
      rw [hpl] at e1
      simp only [Instr.build, Sem.run_bind, hrun, Result.andThen_ok, run_underlying hu, h0, e1, Sem.run_pure]
    · cases hb
  · cases he

theorem e_bslice (hs : Sim P base w0 φ h w) (hf : FR φ N a ac.tmps) {t e : TypeId} {len : Nat} {i : TypeInfo} {z : List Value} {ps : Array (Nat × Operand)} {l : List (Nat × Nat × Operand)} (ht : tk P t = .slice e) (hi : P.info? e = some i)
    (hz : (if len * i.size = 0 then some [] else zeros? P e) = some z) (hlen : len * i.size ≤ 16777216) (hp : partsOf P N (fun k => some (k * i.size, i.size)) ps.toList = some l) (ho : o.op = .buildSlice t len ps)
    (he : evOp call a h (.bslice e ((List.range (len * i.size)).map fun k => z.getD (k % z.length) undefV) len l) = some (v, h')) (hzl : len * i.size ≠ 0 → z ≠ []) :
    Res P base w0 φ h w v h' ((execOp ac.eval o).run P w) := by
  simp only [evOp] at he
  split at he
  · rename_i cs hcs
    simp only [Option.some.injEq, Prod.mk.injEq] at he
    obtain ⟨rfl, rfl⟩ := he
    have hsize : (sizeOf e).run P w = .ok i.size w := by simp [sizeOf, typeInfo, hi]
    have hzero : ∃ zv : Array Value, zv.toList = z ∧ z.all constOk = true ∧ ((len * i.size = 0 ∧ zv = #[]) ∨ (len * i.size ≠ 0 ∧ ∃ zval : Value, zval.cells = zv ∧ ∀ w, (zeroValue e).run P w = .ok zval w)) := by
      by_cases h0 : len * i.size = 0
      · rw [if_pos h0] at hz; cases hz
        exact ⟨#[], rfl, rfl, .inl ⟨h0, rfl⟩⟩
      · rw [if_neg h0] at hz
        obtain ⟨zv, e1, e2, e3⟩ := zero_run hz
        exact ⟨zv.cells, e1, e2, .inr ⟨h0, zv, rfl, e3⟩⟩
    obtain ⟨zv, rfl, hzc, hzrun⟩ := hzero
    have hz2 : ((Array.range (len * i.size)).map (zv[· % zv.size]!)).toList = (List.range (len * i.size)).map fun k => zv.toList.getD (k % zv.toList.length) undefV := by
      simp only [Array.toList_map, Array.toList_range]
      apply List.map_congr_left
      intro k hk
      have hpos : 0 < zv.size := by
        have : len * i.size ≠ 0 := by simp at hk; omega
        have := hzl this
        rcases Nat.eq_zero_or_pos zv.size with h0 | h0
        · exact absurd (by simpa using h0) this
        · exact h0
      have hlt : k % zv.size < zv.size := Nat.mod_lt _ hpos
      simp [getElem!_pos, hlt, List.getD]
    have hzr : ∀ u ∈ ((List.range (len * i.size)).map fun k => zv.toList.getD (k % zv.toList.length) undefV), constOk u = true := by
      intro u hu
      simp only [List.mem_map, List.mem_range] at hu
      obtain ⟨k, hk, rfl⟩ := hu
      have hpos : 0 < zv.toList.length := by
        have : len * i.size ≠ 0 := by omega
        exact List.length_pos_iff.2 (hzl this)
      have hlt := Nat.mod_lt k hpos
      simp only [List.getD, List.getElem?_eq_getElem hlt, Option.getD_some]
      exact List.all_eq_true.1 hzc _ (List.getElem_mem hlt)
    obtain ⟨cs', e1, e2, e3⟩ := fill_rel (fun k => some (k * i.size, i.size)) ps.toList l _ cs ((Array.range (len * i.size)).map (zv[· % zv.size]!)) hs hf hp (by rw [hz2]; exact VRs.consts (List.all_eq_true.2 hzr)) (by rw [hz2]; exact fun u hu => constOk_one (hzr u hu)) hcs
    obtain ⟨φ', f1, s1, s2⟩ := Res.box hs e2 e3 e
    have hmap : (ps.map fun (i, x) => (i, ac.eval x)).toList = ps.toList.map fun p => (p.1, ac.eval p.2) := by simp
    rw [← hmap] at e1
    have hcl : cs'.toList.length = len * i.size := by
      rw [← e2.length, length_fillL _ _ _ hcs]; simp
    have hce : P.cellsOf e = i.size := by simp [Program.cellsOf, hi]
    refine ⟨φ', _, .slice (some ⟨w.heap.size, 0, none⟩) len len, ?_, s1, s2, .inl ?_⟩
    · have := VR.slice (φ := φ') h.n 0 0 len len len _ f1 (Nat.le_refl _) (Nat.le_refl _) (by simp) (by intro _; show 0 + 0 + len * P.cellsOf e ≤ cs'.toList.length; rw [hcl, hce]; omega)
      exact this
    · unfold execOp; rw [ho]
      have h24 : ¬ (len * i.size > 2 ^ 24) := by omega
      rcases hzrun with ⟨h0, rfl⟩ | ⟨h0, zval, rfl, hzv⟩
      · simp only [Instr.buildSlice, Sem.run_bind, run_underlying (tk_slice ht), Result.andThen_ok, hsize, Sem.run_ite, if_neg h24, if_pos h0, Sem.run_pure, e1, newRow, run_newObj]
        rfl
      · simp only [Instr.buildSlice, Sem.run_bind, run_underlying (tk_slice ht), Result.andThen_ok, hsize, Sem.run_ite, if_neg h24, if_neg h0, hzv, Sem.run_pure, e1, newRow, run_newObj]
        rfl
  · cases he

theorem flat_run (d : Nat) (xs ys xs' ys' : Array Value) (hx : VRs φ xs.toList xs'.toList) (hy : VRs φ ys.toList ys'.toList) (w : World) : ∀ (fs : List Field) (l : List (Nat × Bool)) (r : Bool), flatFields P fs = some l → seqEq xs ys l = some r →
    (Op.eqFields (d + 1) xs' ys' fs).run P w = .ok r w
  | [], l, r, hfl, hr => by
    simp only [flatFields, Option.some.injEq] at hfl; subst hfl
    simp only [seqEq, Option.some.injEq] at hr; subst hr
    rfl
  | f :: fs, l, r, hfl, hr => by
    simp only [flatFields] at hfl
    split at hfl
    · cases hfl
    · rename_i l0 hl0
      have ih := flat_run d xs ys xs' ys' hx hy w fs l0
      have step : ∀ (k : Bool), (∀ x y b, plainEq k x y = some b → ∀ x' y', VR φ x x' → VR φ y y' → (Op.equalIn (d + 1) f.type x' y').run P w = .ok b w) → tk P f.type ≠ .agg → tk P f.type ≠ .other →
          l = (if f.name ≠ "_" then (f.offset, k) :: l0 else l0) → (Op.eqFields (d + 1) xs' ys' (f :: fs)).run P w = .ok r w := by
        intro k hk h1 h2 hl
        subst hl
        by_cases hn : f.name ≠ "_"
        · rw [if_pos hn] at hr
          simp only [seqEq] at hr
          split at hr
          · rename_i x y hxo hyo
            split at hr
            · rename_i hp
              obtain ⟨x', g1, g2⟩ := hx.get f.offset x (by simpa using hxo)
              obtain ⟨y', g3, g4⟩ := hy.get f.offset y (by simpa using hyo)
              have g1' : xs'[f.offset]? = some x' := by simpa using g1
              have g3' : ys'[f.offset]? = some y' := by simpa using g3
              have hq := hk x y true hp x' y' g2 g4
              simp only [Op.eqFields, if_pos hn, Sem.run_bind, part, tk_one h1 h2, Result.andThen_ok, g1', g3', Sem.run_pure, hq, Bool.not_true, Bool.false_eq_true, if_false]
              exact ih r hl0 hr
            · rename_i hp
              cases hr
              obtain ⟨x', g1, g2⟩ := hx.get f.offset x (by simpa using hxo)
              obtain ⟨y', g3, g4⟩ := hy.get f.offset y (by simpa using hyo)
              have g1' : xs'[f.offset]? = some x' := by simpa using g1
              have g3' : ys'[f.offset]? = some y' := by simpa using g3
              have hq := hk x y false hp x' y' g2 g4
              simp only [Op.eqFields, if_pos hn, Sem.run_bind, part, tk_one h1 h2, Result.andThen_ok, g1', g3', Sem.run_pure, hq, Bool.not_false, if_true, Bool.false_eq_true, if_false]
            · cases hr
          · cases hr
        · rw [if_neg hn] at hr
          simp only [Op.eqFields, if_neg hn]
          exact ih r hl0 hr
      split at hfl
      · rename_i k ht
        cases hfl
        refine step true (fun x y b hp x' y' hxx hyy => ?_) (by rw [ht]; intro e; cases e) (by rw [ht]; intro e; cases e) rfl
        unfold plainEq at hp
        split at hp
        · split at hp
          · rename_i hkk
            subst hkk
            cases hp
            cases hxx; cases hyy
            exact run_equalIn_int w d f.type _ k _ _ (tk_int ht)
          · cases hp
        · exact absurd ‹(true : Bool) = false› (by decide)
        · cases hp
      · rename_i ht
        cases hfl
        refine step false (fun x y b hp x' y' hxx hyy => ?_) (by rw [ht]; intro e; cases e) (by rw [ht]; intro e; cases e) rfl
        unfold plainEq at hp
        split at hp
        · exact absurd ‹(false : Bool) = true› (by decide)
        · cases hp
          cases hxx; cases hyy
          exact run_equalIn_bool' w d f.type _ _ (tk_bool ht)
        · cases hp
      · cases hfl

theorem arr_run (d n : Nat) {t e : TypeId} {k : IntKind} (hu : P.underlying t = some (.array n e)) (ht : tk P e = .int k) (hz : sizeOf? P e = some 1) (xs ys xs' ys' : Array Value) (hx : VRs φ xs.toList xs'.toList) (hy : VRs φ ys.toList ys'.toList) (w : World) (r : Bool)
    (hr : seqEq xs ys ((List.range n).map fun i => (i, true)) = some r) : (Op.equalIn (d + 1 + 1) t (.agg xs') (.agg ys')).run P w = .ok r w := by
  have h1 : tk P e ≠ .agg := by rw [ht]; intro e; cases e
  have h2 : tk P e ≠ .other := by rw [ht]; intro e; cases e
  rw [Op.equalIn]
  simp only [Sem.run_bind, run_underlying hu, Result.andThen_ok, size_run hz]
  simp only [Std.Legacy.Range.forIn_eq_forIn_range', Std.Legacy.Range.size, Nat.sub_zero, Nat.add_sub_cancel, Nat.div_one]
  have key : ∀ (l : List Nat), seqEq xs ys (l.map fun i => (i, true)) = some r →
      Sem.run P (forIn (m := Sem) l ((none, ()) : Option Bool × Unit) fun i _ => do
          let x ← part e xs' (i * 1)
          let y ← part e ys' (i * 1)
          let b ← Op.equalIn (d + 1) e x y
          if (!b) = true then pure (ForInStep.done (some false, ())) else pure (ForInStep.yield (none, ()))) w = .ok (if r then (none, ()) else (some false, ())) w := by
    intro l
    induction l with
    | nil =>
      intro hl
      simp only [List.map_nil, seqEq, Option.some.injEq] at hl
      subst hl
      simp
    | cons i l ih =>
      intro hl
      simp only [List.map_cons, seqEq] at hl
      have step : ∀ x y b, xs[i]? = some x → ys[i]? = some y → plainEq true x y = some b →
          ∃ x' y', xs'[i]? = some x' ∧ ys'[i]? = some y' ∧ (Op.equalIn (d + 1) e x' y').run P w = .ok b w := by
        intro x y b hxo hyo hp
        obtain ⟨x', g1, g2⟩ := hx.get i x (by simpa using hxo)
        obtain ⟨y', g3, g4⟩ := hy.get i y (by simpa using hyo)
        refine ⟨x', y', by simpa using g1, by simpa using g3, ?_⟩
        unfold plainEq at hp
        split at hp
        · split at hp
          · rename_i hkk
            subst hkk
            cases hp
            cases g2; cases g4
            exact run_equalIn_int w d e _ k _ _ (tk_int ht)
          · cases hp
        · exact absurd ‹(true : Bool) = false› (by decide)
        · cases hp
      split at hl
      · rename_i x y hxo hyo
        split at hl
        · rename_i hp
          obtain ⟨x', y', g1, g2, g3⟩ := step x y true hxo hyo hp
          rw [List.forIn_cons]
          simp only [Sem.run_bind, part, tk_one h1 h2, Result.andThen_ok, Nat.mul_one, g1, g2, Sem.run_pure, g3, Bool.not_true, Bool.false_eq_true, if_false]
          simpa [part] using ih hl
        · rename_i hp
          cases hl
          obtain ⟨x', y', g1, g2, g3⟩ := step x y false hxo hyo hp
          rw [List.forIn_cons]
          simp [Sem.run_bind, part, tk_one h1 h2, g1, g2, g3]
        · cases hl
      · cases hl
  have hk := key (List.range' 0 n) (by rw [← List.range_eq_range']; exact hr)
  rw [hk]
  cases r <;> rfl

theorem e_seq (hs : Sim P base w0 φ h w) (hf : FR φ N a ac.tmps) {op : BinOp} {neg : Bool} {t ty : TypeId} {l : List (Nat × Bool)} {x y : Operand} (hx : opOk P N x = true) (hy : opOk P N y = true) (ht : flatOffs P t = some l)
    (hop : (op = .eql ∧ neg = false) ∨ (op = .neq ∧ neg = true)) (ho : o.op = .binOp op t x y ty)
    (he : evOp call a h (.seq neg l x y) = some (v, h')) : Res P base w0 φ h w v h' ((execOp ac.eval o).run P w) := by
  have rx := opd_rel hs hf hx
  have ry := opd_rel hs hf hy
  simp only [evOp] at he
  split at he
  · rename_i xs ys h1 h2
    split at he
    · rename_i r hr
      simp only [Option.some.injEq, Prod.mk.injEq] at he
      obtain ⟨rfl, rfl⟩ := he
      rw [h1] at rx
      rw [h2] at ry
      generalize hcx : ac.eval x = cx at rx
      generalize hcy : ac.eval y = cy at ry
      cases rx with
      | agg _ xs' hxr _ =>
        cases ry with
        | agg _ ys' hyr _ =>
          have hq : P.eqGuardType P.depth t = false ∧ (Op.equalIn 10000 t (.agg xs') (.agg ys')).run P w = .ok r w := by
            unfold flatOffs at ht
            split at ht
            · rename_i fs hu
              split at ht
              · cases ht
              · rename_i hc
                simp only [Bool.or_eq_true, not_or, Bool.not_eq_true] at hc
                refine ⟨hc.2, ?_⟩
                have hfo : P.fieldsOf t = fs := by simp [Program.fieldsOf, hu]
                have := run_equalIn_struct (P := P) w (9998 + 1) t xs' ys' (by rw [hfo]; exact hu) hc.1
                rw [hfo] at this
                exact this.trans (flat_run 9998 xs ys xs' ys' hxr hyr w fs.toList l r ht hr)
            · rename_i n e hu
              split at ht
              · cases ht
              · rename_i hc
                simp only [Bool.not_eq_true] at hc
                refine ⟨hc, ?_⟩
                split at ht
                · rename_i k hk hz
                  cases ht
                  exact arr_run 9998 n hu hk hz xs ys xs' ys' hxr hyr w r hr
                · cases ht
            · cases ht
          have hg := run_eqGuard_agg (P := P) w op t x y xs' ys' hq.1
          refine Res.pure hs (.bool _) ?_
          unfold execOp; rw [ho]
          rcases hop with ⟨rfl, rfl⟩ | ⟨rfl, rfl⟩
          · have := run_eql_struct (P := P) w t xs' ys'
            rw [hq.2] at this
            simp [hcx, hcy, hg, this]
          · have := run_neq_struct (P := P) w t xs' ys'
            rw [hq.2] at this
            simp [hcx, hcy, hg, this]
    · cases he
  · cases he

theorem bound_rel (hs : Sim P base w0 φ h w) (hf : FR φ N a ac.tmps) {x : Operand} (hx : opOk P N x = true) {y y' d r : Nat} (hyy : y ≤ y') (hb : boundOf a y d (some x) = some r) (code : BoundsCode) :
    (Instr.sliceBound (ac.eval x) y' code).run P w = .ok r w ∧ r ≤ y := by
  have rx := opd_rel hs hf hx
  simp only [boundOf] at hb
  split at hb
  · rename_i k i hi
    split at hb
    · rename_i hc
      cases hb
      rw [hi] at rx
      generalize hcx : ac.eval x = cx at rx
      cases rx
      refine ⟨?_, by omega⟩
      have hc2 : 0 ≤ i ∧ i ≤ (y' : Int) := ⟨hc.1, by omega⟩
      simp [Instr.sliceBound, asIntOf, hc2]
    · cases hb
  · cases hb

theorem e_slice (hs : Sim P base w0 φ h w) (hf : FR φ N a ac.tmps) {t e : TypeId} {n : Nat} {x : Operand} {lo hi mx : Option Operand} (hx : opOk P N x = true) (hlo : optOk P N lo = true) (hhi : optOk P N hi = true) (hmx : optOk P N mx = true) (hm : (hi.isSome || mx.isNone) = true)
    (ht : tk P t = .slice e) (hz : sizeOf? P e = some n) (ho : o.op = .slice t x lo hi mx) (he : evOp call a h (.slice e n x lo hi mx) = some (v, h')) : Res P base w0 φ h w v h' ((execOp ac.eval o).run P w) := by
  have rx := opd_rel hs hf hx
  have hcn : P.cellsOf e = n := by unfold sizeOf? at hz; simp [Program.cellsOf, hz]
  simp only [evOp] at he
  split at he
  · rename_i A len cap h1
    split at he
    · cases he
    · rename_i m hmb
      split at he
      · cases he
      · rename_i r hrb
        split at he
        · cases he
        · rename_i l hlb
          rw [h1] at rx
          generalize hcx : ac.eval x = cx at rx
          -- the bounds, over a capacity of memory's own
          have bounds : ∀ cap', cap ≤ cap' → len ≤ cap → ∃ m', (Instr.sliceBounds true len cap' (lo.map ac.eval) (hi.map ac.eval) (mx.map ac.eval)).run P w = .ok (l, r, m') w ∧ m ≤ m' ∧ m' ≤ cap' ∧ l ≤ r ∧ m ≤ cap := by
            intro cap' hcap hlc
            have hlo' : (lo = none ∧ l = 0) ∨ ∃ x2, lo = some x2 ∧ (∀ code, (Instr.sliceBound (ac.eval x2) r code).run P w = .ok l w) ∧ l ≤ r := by
              cases lo with
              | none => simp only [boundOf, Option.some.injEq] at hlb; subst hlb; exact .inl ⟨rfl, rfl⟩
              | some x2 =>
                have hb := fun code => bound_rel hs hf (by simpa [optOk] using hlo) (Nat.le_refl r) hlb code
                exact .inr ⟨x2, rfl, fun code => (hb code).1, (hb .sliceB).2⟩
            cases mx with
            | none =>
              simp only [boundOf, Option.some.injEq] at hmb; subst hmb
              cases hi with
              | none =>
                simp only [boundOf, Option.some.injEq] at hrb; subst hrb
                rcases hlo' with ⟨rfl, rfl⟩ | ⟨x2, rfl, q1, q2⟩
                · exact ⟨cap', by simp [Instr.sliceBounds], hcap, Nat.le_refl _, Nat.zero_le _, Nat.le_refl _⟩
                · exact ⟨cap', by simp [Instr.sliceBounds, q1], hcap, Nat.le_refl _, q2, Nat.le_refl _⟩
              | some x3 =>
                have hb := fun code => bound_rel hs hf (by simpa [optOk] using hhi) hcap (by simpa using hrb) code
                have hb1 := fun code => (hb code).1
                rcases hlo' with ⟨rfl, rfl⟩ | ⟨x2, rfl, q1, q2⟩
                · exact ⟨cap', by simp [Instr.sliceBounds, hb1], hcap, Nat.le_refl _, Nat.zero_le _, Nat.le_refl _⟩
                · exact ⟨cap', by simp [Instr.sliceBounds, hb1, q1], hcap, Nat.le_refl _, q2, Nat.le_refl _⟩
            | some x4 =>
              have hc := fun code => bound_rel hs hf (by simpa [optOk] using hmx) hcap hmb code
              have hc1 := fun code => (hc code).1
              have hmc := (hc .sliceB).2
              cases hi with
              | none => simp at hm
              | some x3 =>
                have hb := fun code => bound_rel hs hf (by simpa [optOk] using hhi) (Nat.le_refl m) (by simpa using hrb) code
                have hb1 := fun code => (hb code).1
                rcases hlo' with ⟨rfl, rfl⟩ | ⟨x2, rfl, q1, q2⟩
                · exact ⟨m, by simp [Instr.sliceBounds, hb1, hc1], Nat.le_refl _, by omega, Nat.zero_le _, hmc⟩
                · exact ⟨m, by simp [Instr.sliceBounds, hb1, hc1, q1], Nat.le_refl _, by omega, q2, hmc⟩
          have exec : ∀ (q : Option Addr) (cap' m' : Nat), cx = .slice q len cap' → (Instr.sliceBounds true len cap' (lo.map ac.eval) (hi.map ac.eval) (mx.map ac.eval)).run P w = .ok (l, r, m') w →
              (execOp ac.eval o).run P w = .ok (.value (.slice (if m' = l then q else q.map (·.add (l * n))) (r - l) (m' - l))) w := by
            intro q cap' m' hq hb
            unfold execOp; rw [ho]
            subst hq
            simp [hcx, Instr.sliceAt, run_underlying (tk_slice ht), Instr.slice, hb, size_run hz]
          split at he
          · rename_i b off
            split at he
            · rename_i c e' ro hg
              split at he
              · rename_i hcond
                simp only [Option.some.injEq, Prod.mk.injEq] at he
                obtain ⟨rfl, rfl⟩ := he
                cases rx with
                | slice _ _ o' _ _ cap' mm hmm g1 g2 g3 g4 =>
                  obtain ⟨m', hb, k1, k2, k3, k4⟩ := bounds cap' g2 g1
                  have hex := exec _ cap' m' rfl hb
                  have hpos : m' - l ≠ 0 → cap' ≠ 0 := by omega
                  have hroom : mm.ro = false → mm.off + (off + l * n) + (m' - l) * mm.esz ≤ mm.room := by
                    intro hro
                    have h4 := g4 hro
                    have hrel := hs.rel b mm hmm
                    rw [hg] at hrel
                    have hesz : mm.esz = n := by
                      rcases hcond.2 with hr | hr
                      · subst hr; have := hrel.1; rw [hro] at this; cases this
                      · subst hr
                        cases ro with
                        | true => have := hrel.1; rw [hro] at this; cases this
                        | false => rw [← hrel.2.2.1, hcn]
                    rw [hesz] at h4 ⊢
                    have : l * n + (m' - l) * n = m' * n := by rw [← Nat.add_mul]; congr 1; omega
                    have h5 : m' * n ≤ cap' * n := Nat.mul_le_mul_right _ k2
                    omega
                  by_cases hml : m' = l
                  · rw [if_pos hml] at hex
                    refine Res.pure hs ?_ hex
                    exact .slice b _ o' _ _ _ mm hmm (by omega) (by omega) (by omega) hroom
                  · rw [if_neg hml] at hex
                    simp only [Option.map_some, add_lit] at hex
                    refine Res.pure hs ?_ hex
                    exact .slice b _ _ _ _ _ mm hmm (by omega) (by omega) (by intro h0; have := g3 (hpos h0); omega) hroom
              · cases he
            · cases he
          · split at he
            · rename_i hcond
              simp only [Option.some.injEq, Prod.mk.injEq] at he
              obtain ⟨rfl, rfl⟩ := he
              cases rx with
              | snil =>
                obtain ⟨m', hb, k1, k2, k3, k4⟩ := bounds 0 (Nat.le_refl _) (Nat.le_refl _)
                have hex := exec _ 0 m' rfl hb
                have hm0 : m' = 0 := by omega
                have hrm : r = 0 := by
                  cases hi with
                  | none => simp only [boundOf, Option.some.injEq] at hrb; omega
                  | some x3 =>
                    have := (bound_rel hs hf (y' := if mx.isSome then m else 0) (by simpa [optOk] using hhi) (Nat.le_refl _) hrb .sliceB).2
                    split at this <;> omega
                subst hm0 hrm
                obtain rfl : l = 0 := by omega
                simp at hex
                exact Res.pure hs .snil hex
            · cases he
          · cases he
  · cases he

end
end Go.Am
