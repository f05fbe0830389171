/-
  Each operation of the abstract machine is the model's: operations without calls.
-/
import Derived.Test.YtdcppkhobfbpeaaDoorAmC
set_option linter.unusedVariables false
set_option linter.unusedSimpArgs false
namespace Go.Am
open Go Go.RowKit

theorem constOk_one {v : Value} (h : constOk v = true) : v.oneCell' = true := by
  unfold constOk at h; split at h <;> first | rfl | cases h

theorem constOk_rel {φ : Map} {v : Value} (h : constOk v = true) : VR φ v v := by
  unfold constOk at h
  split at h
  · exact .bool _
  · exact .int _ _
  · exact .str _
  · exact .pnil
  · exact .nilFunc
  · exact .snil
  · cases h

theorem VRs.consts {φ : Map} : ∀ {l : List Value}, l.all constOk = true → VRs φ l l
  | [], _ => .nil
  | v :: l, h => by
    simp only [List.all_cons, Bool.and_eq_true] at h
    exact .cons _ _ _ _ (constOk_rel h.1) (VRs.consts h.2)

section
variable {P : Program} {base : Nat} {w0 : World} {φ : Map} {h : Heap} {w : World} {N : Nat} {a : Nat → Value} {ac : Act}

theorem opd_rel (hs : Sim P base w0 φ h w) (hf : FR φ N a ac.tmps) {x : Operand} (hx : opOk P N x = true) : VR φ (opd a x) (ac.eval x) := by
  cases x with
  | tmp t => exact hf.2 t
  | const v => exact constOk_rel hx
  | global g =>
    obtain ⟨m, e, rfl, h0⟩ := hs.glob g (by simpa [opOk] using hx)
    have := VR.ptr (φ := φ) _ 0 m e
    rw [h0] at this
    exact this
  | func f => exact .func f _ _ _ _ .nil .nil

theorem opds_rel (hs : Sim P base w0 φ h w) (hf : FR φ N a ac.tmps) : ∀ {l : List Operand}, l.all (opOk P N) = true → VRs φ (l.map (opd a)) (l.map ac.eval)
  | [], _ => .nil
  | x :: l, hx => by
    simp only [List.all_cons, Bool.and_eq_true] at hx
    exact .cons _ _ _ _ (opd_rel hs hf hx.1) (opds_rel hs hf hx.2)

/-- What an operation comes to. -/
def Res (P : Program) (base : Nat) (w0 : World) (φ : Map) (h : Heap) (w : World) (v : Value) (h' : Heap) (r : Result Next) : Prop :=
  ∃ φ' w' v', VR φ' v v' ∧ Sim P base w0 φ' h' w' ∧ Step φ h w φ' h' w' ∧ (r = .ok (.value v') w' ∨ (r = .ok .skip w' ∧ v' = undef))

theorem Res.pure (hs : Sim P base w0 φ h w) {v v' : Value} (hv : VR φ v v') {r : Result Next} (hr : r = .ok (.value v') w) : Res P base w0 φ h w v h r :=
  ⟨φ, w, v', hv, hs, Step.refl hs, .inl hr⟩

/-- A new block of cells. -/
theorem Res.box (hs : Sim P base w0 φ h w) {cs cs' : List Value} (hc : VRs φ cs cs') (h1 : ∀ v ∈ cs', v.oneCell' = true) (e : TypeId) :
    ∃ φ', φ' h.n = some ⟨w.heap.size, 0, false, cs'.length, P.cellsOf e⟩ ∧ Sim P base w0 φ' (h.push (.cells cs e false)) (w.alloc (.cells cs'.toArray e)) ∧ Step φ h w φ' (h.push (.cells cs e false)) (w.alloc (.cells cs'.toArray e)) := by
  have hnew : (w.alloc (.cells cs'.toArray e)).heap[w.heap.size]? = some (.cells cs'.toArray e (0, 0)) := World.alloc_heap_new w _
  have hsub : ∀ b m', φ b = some m' → (φ.add h.n ⟨w.heap.size, 0, false, cs'.length, P.cellsOf e⟩) b = some m' := fun b m' e' => by
    have := hs.dom b m' e'
    unfold Map.add; rw [if_neg (by omega)]; exact e'
  refine ⟨φ.add h.n ⟨w.heap.size, 0, false, cs'.length, P.cellsOf e⟩, by simp [Map.add], hs.add _ _ rfl hs.base_le (by simp) (by simp) (fun j hj _ => Below.heap_alloc w _ j hj) (fun b m' e1 e2 _ => ?_) rfl rfl rfl ?_, hs.add_step _ _ rfl (by simp) (fun j hj _ => Below.heap_alloc w _ j hj) rfl⟩
  · have := (hs.high b m' e1 e2).2
    intro e3; simp at e3; omega
  · refine ⟨rfl, rfl, rfl, cs'.toArray, hnew, by simp, by simp [hc.length], fun j v hv => ?_⟩
    obtain ⟨v', e1, e2⟩ := hc.get j v hv
    exact ⟨v', by simpa using e1, e2.mono hsub, h1 v' (List.mem_of_getElem? e1)⟩

theorem vcells_rel {v v' : Value} (hv : VR φ v v') {cs : List Value} (hc : vcells v = some cs) : VRs φ cs v'.cells.toList ∧ ∀ u ∈ v'.cells.toList, u.oneCell' = true := by
  cases hv <;> simp only [vcells] at hc <;> first
    | (cases hc; done)
    | (cases hc; exact ⟨‹_›, ‹_›⟩)
    | (cases hc; refine ⟨.cons _ _ _ _ ?_ .nil, fun u hu => ?_⟩
       · first | exact .bool _ | exact .int _ _ | exact .str _ | exact .pnil | exact .ptr _ _ _ ‹_› | exact .snil | exact .slice _ _ _ _ _ _ _ ‹_› ‹_› ‹_› ‹_› ‹_› | exact .nilFunc | exact .func _ _ _ _ _ ‹_› ‹_› | exact .yield _ _ ‹_›
       · simp [Value.cells] at hu; subst hu; rfl)

theorem get_setAt : ∀ (vs c : List Value) (o j : Nat), o + vs.length ≤ c.length → (setAt c o vs)[j]? = if o ≤ j ∧ j < o + vs.length then vs[j - o]? else c[j]?
  | [], c, o, j, _ => by simp only [setAt, List.length_nil, Nat.add_zero]; rw [if_neg (by omega)]
  | v :: r, c, o, j, hl => by
    simp only [List.length_cons] at hl
    have ih := get_setAt r (c.set o v) (o + 1) j (by simp; omega)
    simp only [setAt]
    rw [ih]
    by_cases h1 : o + 1 ≤ j ∧ j < o + 1 + r.length
    · rw [if_pos h1, if_pos (by simp; omega)]
      have : j - o = (j - (o + 1)) + 1 := by omega
      rw [this]; simp
    · rw [if_neg h1]
      by_cases h2 : j = o
      · subst h2
        rw [if_pos (by simp), List.getElem?_set_self (by omega)]
        simp
      · rw [if_neg (by simp; omega), List.getElem?_set_ne (by omega)]

theorem length_setAt : ∀ (vs c : List Value) (o : Nat), (setAt c o vs).length = c.length
  | [], c, o => rfl
  | v :: r, c, o => by simp only [setAt]; rw [length_setAt]; simp

theorem get_splice (c vs : List Value) (o j : Nat) (hl : o + vs.length ≤ c.length) : (c.take o ++ vs ++ c.drop (o + vs.length))[j]? = if o ≤ j ∧ j < o + vs.length then vs[j - o]? else c[j]? := by
  have hto : (c.take o).length = o := by simp; omega
  by_cases h1 : j < o
  · rw [List.append_assoc, List.getElem?_append_left (by omega), if_neg (by omega)]
    rw [List.getElem?_take, if_pos h1]
  · rw [List.append_assoc, List.getElem?_append_right (by omega), hto]
    by_cases h2 : j < o + vs.length
    · rw [List.getElem?_append_left (by omega), if_pos (by omega)]
    · rw [List.getElem?_append_right (by omega), List.getElem?_drop, if_neg (by omega)]
      congr 1; omega

theorem getAt_spec : ∀ (n : Nat) (c : List Value) (o : Nat) (r : List Value), getAt c o n = some r → r.length = n ∧ ∀ j v, r[j]? = some v → c[o + j]? = some v
  | 0, c, o, r, hr => by simp only [getAt, Option.some.injEq] at hr; subst hr; simp
  | n + 1, c, o, r, hr => by
    simp only [getAt] at hr
    split at hr
    · rename_i v hv
      split at hr
      · rename_i l hl
        cases hr
        obtain ⟨h1, h2⟩ := getAt_spec n c (o + 1) l hl
        refine ⟨by simp [h1], fun j u hu => ?_⟩
        cases j with
        | zero => simp at hu; subst hu; simpa using hv
        | succ j => simp at hu; have := h2 j u hu; rwa [show o + 1 + j = o + (j + 1) by omega] at this
      · cases hr
    · cases hr

/-- What is read of a block. -/
theorem load_rel (hs : Sim P base w0 φ h w) {b o n : Nat} {m : Img} (hb : φ b = some m) {vs : List Value} (hl : h.load b o n = some vs) :
    ∃ vs' : List Value, VRs φ vs vs' ∧ (∀ v ∈ vs', v.oneCell' = true) ∧ vs'.length = n ∧ ∀ j u, vs'[j]? = some u → w.cell? ⟨m.blk, m.off + o + j, none⟩ = some u := by
  unfold Heap.load at hl
  split at hl
  · rename_i c e ro hg
    obtain ⟨hlen, hget⟩ := getAt_spec _ _ _ _ hl
    have hr := hs.rel b m hb
    rw [hg] at hr
    have hcell : ∀ j v, c[j]? = some v → ∃ v' : Value, w.cell? ⟨m.blk, m.off + j, none⟩ = some v' ∧ VR1 φ v v' := by
      cases ro with
      | true => exact hr.2
      | false =>
        obtain ⟨_, h2, _, cur, h4, _, _, h7⟩ := hr
        intro j v hv
        obtain ⟨v', e1, e2⟩ := h7 j v hv
        refine ⟨v', ?_, e2⟩
        rw [h2, Nat.zero_add]
        simp only [World.cell?, h4]
        simpa using e1
    have hall : ∀ j, j < n → ∃ v v' : Value, vs[j]? = some v ∧ w.cell? ⟨m.blk, m.off + o + j, none⟩ = some v' ∧ VR1 φ v v' := by
      intro j hj
      have hv : vs[j]? = some vs[j] := List.getElem?_eq_getElem (by omega)
      obtain ⟨v', e1, e2⟩ := hcell (o + j) _ (hget j _ hv)
      exact ⟨vs[j], v', hv, by rw [Nat.add_assoc]; exact e1, e2⟩
    refine ⟨(List.range n).map fun j => (w.cell? ⟨m.blk, m.off + o + j, none⟩).getD undef, VRs.of (by simp [hlen]) fun j v hv => ?_, fun v hv => ?_, by simp, fun j u hu => ?_⟩
    · have hj : j < n := by have := (List.getElem?_eq_some_iff.1 hv).1; omega
      obtain ⟨v1, v', e1, e2, e3⟩ := hall j hj
      rw [hv] at e1; cases e1
      exact ⟨v', by simp [hj, e2], e3.1⟩
    · simp only [List.mem_map, List.mem_range] at hv
      obtain ⟨j, hj, rfl⟩ := hv
      obtain ⟨v1, v', e1, e2, e3⟩ := hall j hj
      rw [e2]; exact e3.2
    · have hj : j < n := by have := (List.getElem?_eq_some_iff.1 hu).1; simpa using this
      obtain ⟨v1, v', e1, e2, e3⟩ := hall j hj
      simp [hj, e2] at hu
      rw [← hu]; exact e2
  · cases hl

/-- A store. -/
theorem store_rel (hs : Sim P base w0 φ h w) {b o : Nat} {m : Img} (hb : φ b = some m) {vs vs' : List Value} (hv : VRs φ vs vs') (h1 : ∀ v ∈ vs', v.oneCell' = true) {h' : Heap} (hst : h.store b o vs = some h') :
    ∃ w', Sim P base w0 φ h' w' ∧ Step φ h w φ h' w' ∧ (storeCells ⟨m.blk, m.off + o, none⟩ vs').run P w = .ok () w' ∧
      (∃ cur e, w.heap[m.blk]? = some (.cells cur e (0, 0)) ∧ m.off + o + vs'.length ≤ cur.size ∧ w' = w.setRow m.blk (cur.toList.take (m.off + o) ++ vs' ++ cur.toList.drop (m.off + o + vs'.length)).toArray) := by
  unfold Heap.store at hst
  split at hst
  · rename_i c e hg
    split at hst
    · rename_i hfit
      cases hst
      have hr := hs.rel b m hb
      rw [hg] at hr
      obtain ⟨hro, h2, h3, cur, h4, h5, h6, h7⟩ := hr
      have hlen := hv.length
      have hfit' : o + vs'.length ≤ cur.size := by omega
      have hrun := run_storeCells_at P m.blk o e vs' 0 cur w h4 (by omega) h1
      simp only [Nat.add_zero] at hrun
      have hrow := setRow_heap w m.blk cur (cur.toList.take o ++ vs' ++ cur.toList.drop (o + vs'.length)).toArray e (0, 0) h4
      obtain ⟨s1, s2⟩ := hs.write hb hro (by rw [hg]; intro e; cases e) (.cells (setAt c o vs) e false) (w' := w.setRow m.blk (cur.toList.take o ++ vs' ++ cur.toList.drop (o + vs'.length)).toArray)
        (fun j hj => setRow_other w _ _ _ hj) (by simp) rfl rfl rfl (by
          refine ⟨hro, h2, h3, _, hrow, ?_, ?_, fun j v hj => ?_⟩
          · simp; omega
          · rw [length_setAt]; simp; omega
          · rw [get_setAt _ _ _ _ (by omega)] at hj
            rw [List.getElem?_toArray, get_splice _ _ _ _ (by simpa using hfit')]
            split at hj
            · rename_i hc
              rw [if_pos (by omega)]
              obtain ⟨v', e1, e2⟩ := hv.get _ _ hj
              exact ⟨v', e1, e2, h1 v' (List.mem_of_getElem? e1)⟩
            · rename_i hc
              rw [if_neg (by omega)]
              obtain ⟨v', e1, e2⟩ := h7 j v hj
              exact ⟨v', by simpa using e1, e2⟩)
      rw [h2, Nat.zero_add]
      exact ⟨_, s1, s2, hrun, cur, e, h4, hfit', rfl⟩
    · cases hst
  · cases hst

theorem size_run {t : TypeId} {n : Nat} (hz : sizeOf? P t = some n) (w : World) : (sizeOf t).run P w = .ok n w := by
  unfold sizeOf? at hz
  cases hi : P.info? t with
  | none => rw [hi] at hz; cases hz
  | some i => rw [hi] at hz; cases hz; simp [sizeOf, typeInfo, hi]

theorem zero_run {t : TypeId} {z : List Value} (hz : zeros? P t = some z) : ∃ v : Value, v.cells.toList = z ∧ z.all constOk = true ∧ ∀ w, (zeroValue t).run P w = .ok v w := by
  unfold zeros? at hz
  split at hz
  · rename_i i hi
    split at hz
    · rename_i v hv
      split at hz
      · rename_i hc
        cases hz
        exact ⟨v, rfl, hc, fun w => by simp [zeroValue, typeInfo, hi, hv]⟩
      · cases hz
    · cases hz
  · cases hz

theorem tk_agg {t : TypeId} (hz : tk P t = .agg) : ∀ w, (isAgg t).run P w = .ok true w := by
  intro w
  unfold tk at hz
  split at hz <;> first | (cases hz; done) | (rename_i hu; simp [isAgg, run_underlying hu]; done)

theorem tk_one {t : TypeId} (hz : tk P t ≠ .agg) (ho : tk P t ≠ .other) : ∀ w, (isAgg t).run P w = .ok false w := by
  intro w
  unfold tk at hz ho
  split at hz <;> first | exact absurd rfl hz | (rename_i hu; simp [isAgg, run_underlying hu]; done) | (exfalso; apply ho; split <;> simp_all)

theorem tk_int {t : TypeId} {k : IntKind} (hz : tk P t = .int k) : P.underlying t = some (.int k) := by
  unfold tk at hz
  split at hz <;> first | (cases hz; done) | (cases hz; assumption)
theorem tk_bool {t : TypeId} (hz : tk P t = .bool) : P.underlying t = some .bool := by
  unfold tk at hz
  split at hz <;> first | (cases hz; done) | assumption
theorem tk_slice {t e : TypeId} (hz : tk P t = .slice e) : P.underlying t = some (.slice e) := by
  unfold tk at hz
  split at hz <;> first | (cases hz; done) | (cases hz; assumption)
theorem tk_ptr {t : TypeId} (hz : tk P t = .ptr) : ∃ e, P.underlying t = some (.pointer e) := by
  unfold tk at hz
  split at hz <;> first | (cases hz; done) | exact ⟨_, ‹_›⟩

theorem add_lit (b o n : Nat) : (⟨b, o, none⟩ : Addr).add n = ⟨b, o + n, none⟩ := by unfold Addr.add; split <;> simp_all

theorem calm_run {s : Sem Value} {v : Value} (hc : calmV s = some v) (w : World) : s.run P w = .ok v w := by
  unfold calmV at hc
  split at hc
  · cases hc; rfl
  · cases hc

end
end Go.Am
