/-
  The abstract machine's code is the model's code: code, calls, ranges over functions.
-/
import Derived.Test.YtdcppkhobfbpeaaDoorAmI
set_option linter.unusedVariables false
set_option linter.unusedSimpArgs false
namespace Go.Am
open Go Go.RowKit

theorem wpIn_scope {F : Fence} {n : Nat} {P : Program} {Q : Exit → Act → World → Prop} {a : Act} {w : World} {c : Code} (h : c.wpIn F n P (fun e a w => (∀ l, e ≠ .goto l) ∧ Q e a w) a w) : (Code.scope c).wpIn F n P Q a w := by
  intro b k cs hro hb hr
  have s0 : step P (lone (b.atR a (.code (.scope c) :: k)) cs w) = .next (lone (b.atR a (.code c :: .inScope c :: k)) cs w) := step_lone_go (by simp [stepG, stepG.exec, Frame.atR])
  have s1 : ∀ a w, step P (lone (b.atR a (.inScope c :: k)) cs w) = .next (lone (b.atR a k) cs w) := fun a w => step_lone_go (by simp [stepG, stepG.exec, Frame.atR])
  have h0 : (lone (b.atR a (.code (.scope c) :: k)) cs w).fenced P F := fenced_calm hb hr rfl
  obtain ⟨e, a₁, w₁, ⟨hng, hq⟩, harr⟩ := h b (.inScope c :: k) cs hro hb hr
  cases e with
  | normal => exact ⟨.normal, a₁, w₁, hq, .head h0 s0 (StepsIn.trans harr (.one (fenced_calm hb hr rfl) (s1 a₁ w₁)))⟩
  | exit id =>
    have hx : exitTo id (.inScope c :: k) = exitTo id k := by simp [exitTo]
    exact ⟨.exit id, a₁, w₁, hq, fun k' hk => .head h0 s0 (harr.1 k' (by rw [hx]; exact hk)),
      fun hr' hk => let ⟨k₁, h1, h2⟩ := harr.2 hr' (by rw [hx]; exact hk); ⟨k₁, h1, .head h0 s0 h2⟩⟩
  | goto l => exact absurd rfl (hng l)
  | ret => exact ⟨_, a₁, w₁, hq, .of_steps (.one h0 s0) harr⟩
  | panic ch => exact ⟨_, a₁, w₁, hq, .of_steps (.one h0 s0) harr⟩
  | outgrown => exact ⟨_, a₁, w₁, hq, .of_steps (.one h0 s0) harr⟩

theorem least {p : Nat → Prop} (h : ∃ n, p n) : ∃ n, p n ∧ ∀ m, m < n → ¬ p m := by
  obtain ⟨n, hn⟩ := h
  induction n using Nat.strongRecOn with
  | _ n ih =>
    by_cases hm : ∃ m, m < n ∧ p m
    · obtain ⟨m, hlt, hp⟩ := hm; exact ih m hlt hp
    · exact ⟨n, hn, fun m hlt hp => hm ⟨m, hlt, hp⟩⟩

/-- A loop whose rounds are counted down by a number that the state bears. -/
theorem wpIn_loop_count {F : Fence} {n : Nat} {P : Program} {Q : Exit → Act → World → Prop} {c : Code} (J : Nat → Act → World → Prop)
    (round : ∀ k a w, J k a w → c.wpIn F n P (Exit.then (fun a' w' => ∃ j, j < k ∧ J j a' w') Q) a w) {k : Nat} {a : Act} {w : World} (h0 : J k a w) : (Code.loop c).wpIn F n P Q a w := by
  classical
  let μ : Act → World → Nat := fun a w => if h : ∃ k, J k a w then Classical.choose (least h) else 0
  have hμ : ∀ a w, (∃ k, J k a w) → J (μ a w) a w ∧ ∀ m, m < μ a w → ¬ J m a w := by
    intro a w h
    show J (if h : ∃ k, J k a w then Classical.choose (least h) else 0) a w ∧ _
    simp only [μ, dif_pos h]
    exact Classical.choose_spec (least h)
  refine wpIn_loop (fun a w => ∃ k, J k a w) μ ⟨k, h0⟩ fun a w hI => ?_
  obtain ⟨h1, h2⟩ := hμ a w hI
  refine wpIn_mono (round _ a w h1) fun e a' w' hq => ?_
  cases e with
  | normal =>
    obtain ⟨j, hj, hJ⟩ := hq
    refine ⟨⟨j, hJ⟩, ?_⟩
    have h3 := hμ a' w' ⟨j, hJ⟩
    rcases Nat.lt_or_ge (μ a' w') (μ a w) with hlt | hge
    · exact hlt
    · exact absurd hJ (h3.2 j (by omega))
  | exit id => exact hq
  | goto l => exact hq
  | ret => exact hq
  | panic ch => exact hq
  | outgrown => exact hq

section
variable {P : Program} {base : Nat} {w0 : World}

def CodeOK (P : Program) (base : Nat) (w0 : World) (ex : ExecT) : Prop :=
  ∀ (N : Nat) (c : Code) (ic : IC) (rd r : Option Nat) (φ : Map) (h h' : Heap) (w : World) (a a' : AAct) (ac : Act) (e : Ex) (Q : Exit → Act → World → Prop), comp P N c = some ic → ex rd ic a h = some (e, a', h') →
    Sim P base w0 φ h w → AR φ N a ac → RR φ rd r →
    (∀ φ' w' ac', Sim P base w0 φ' h' w' → Step φ h w φ' h' w' → AR φ' N a' ac' → Q (exE e) ac' w') → c.wpIn (fen r) 0 P Q ac w

/-- The functions of the abstract machine are the program's. -/
def TabOK (P : Program) (T : FuncId → Option IFun) : Prop :=
  ∀ f fn, T f = some fn → ∃ F : Func, P.funcs[f]? = some F ∧ compFun P F = some fn ∧ (F.name == "runtime.NumGoroutine") = false

theorem putObj_facts (w : World) (r : Nat) (o : Obj) : (w.putObj r o).os = w.os ∧ (w.putObj r o).tape = w.tape ∧ (w.putObj r o).output = w.output := ⟨rfl, rfl, rfl⟩

/-- The record of a loop is written. -/
theorem Sim.loopSet {φ : Map} {h : Heap} {w : World} (hs : Sim P base w0 φ h w) {l : Nat} {m : Img} {r : LoopRec} (hm : φ l = some m) (hg : h.get l = .loop r) :
    ∃ L : Loop, w.heap[m.blk]? = some (.loop L) ∧ L.state = r.state ∧ L.pending = r.pending.map exCode ∧ FR φ L.tmps.size r.tmps L.tmps ∧ L.params.toList = r.params ∧ (∀ p ∈ r.params, p < L.tmps.size) ∧ comp P L.tmps.size L.assign = some r.asg ∧ comp P L.tmps.size L.body = some r.body ∧
      (∃ db, φ r.deferB = some db ∧ L.defers = db.blk) ∧
      ∀ (st : LoopState) (pd : Option Ex), Sim P base w0 φ (h.set l (.loop { r with state := st, pending := pd })) (w.putObj m.blk (.loop { L with state := st, pending := pd.map exCode })) ∧
        Step φ h w φ (h.set l (.loop { r with state := st, pending := pd })) (w.putObj m.blk (.loop { L with state := st, pending := pd.map exCode })) := by
  have hrel := hs.rel l m hm
  rw [hg] at hrel
  obtain ⟨hro, L, db, h1, h2, h3, h4, h5, h6, h7, h8, h9, h10⟩ := hrel
  refine ⟨L, h1, h4, h5, h6, h7, h8, h9, h10, ⟨db, h2, h3⟩, fun st pd => ?_⟩
  have hlt : m.blk < w.heap.size := (Array.getElem?_eq_some_iff.1 h1).1
  exact hs.write hm hro (by rw [hg]; intro e; cases e) _ (fun j hj => World.putObj_heap_other hj) (by simp) rfl rfl rfl
    ⟨hro, { L with state := st, pending := pd.map exCode }, db, World.putObj_heap_same hlt, h2, h3, rfl, rfl, h6, h7, h8, h9, h10⟩

theorem setParams_rel {φ : Map} {N : Nat} : ∀ (ps : List Nat) (vs vs' : List Value) (a a0 : Nat → Value) (tmps : Array Value), setParams a ps vs = some a0 → VRs φ vs vs' → FR φ N a tmps → (∀ p ∈ ps, p < N) →
    ps.length = vs'.length ∧ FR φ N a0 ((ps.zip vs').foldl (fun t p => t.setIfInBounds p.1 p.2) tmps)
  | [], [], vs', a, a0, tmps, h, hv, hf, _ => by
    simp only [setParams, Option.some.injEq] at h; subst h
    cases hv
    exact ⟨rfl, hf⟩
  | [], v :: vs, vs', a, a0, tmps, h, hv, hf, _ => by simp [setParams] at h
  | p :: ps, [], vs', a, a0, tmps, h, hv, hf, _ => by simp [setParams] at h
  | p :: ps, v :: vs, vs', a, a0, tmps, h, hv, hf, hp => by
    simp only [setParams] at h
    cases hv with
    | cons _ v' _ vs' h1 h2 =>
      have hf' : FR φ N (put a p v) (tmps.setIfInBounds p v') := by
        have := put_rel (ac := { tmps := tmps, defers := [] }) (dst := some p) hf (by simp [dstOk]; exact hp p (by simp)) h1
        exact this
      obtain ⟨h3, h4⟩ := setParams_rel ps vs vs' _ a0 _ h h2 hf' (fun q hq => hp q (by simp [hq]))
      exact ⟨by simp [h3], h4⟩

def resSem (tmps : Array Value) : ResultVar → Sem Value
  | .tmp t => pure (tmps.getD t undef)
  | .cell x t => do loadVar t (← asAddr (tmps.getD x undef))

theorem results_eq (fn : Func) (tmps : Array Value) : results fn tmps = (do let vs ← fn.results.mapM (resSem tmps); pure (if h : vs.size = 1 then vs[0] else .tuple vs)) := by
  unfold results
  have : (fun r => match r with | ResultVar.tmp t => pure (tmps.getD t undef) | ResultVar.cell a t => do loadVar t (← asAddr (tmps.getD a undef)) : ResultVar → Sem Value) = resSem tmps := by
    funext r; cases r <;> rfl
  rw [← this]
  rfl

theorem resOne_rel {φ : Map} {h : Heap} {w : World} (hs : Sim P base w0 φ h w) {N : Nat} {a : Nat → Value} {tmps : Array Value} (hf : FR φ N a tmps) {r : ResultVar} {ir : IRes} (hc : compRes P r = some ir) {v : Value} (hr : resOne a h ir = some v) :
    ∃ v', VR φ v v' ∧ (resSem tmps r).run P w = .ok v' w := by
  cases r with
  | tmp t =>
    simp only [compRes, Option.some.injEq] at hc; subst hc
    simp only [resOne, Option.some.injEq] at hr; subst hr
    exact ⟨_, hf.2 t, rfl⟩
  | cell x t =>
    simp only [compRes] at hc
    have hx := hf.2 x
    split at hc
    · rename_i htk
      split at hc
      · rename_i n hn
        cases hc
        simp only [resOne] at hr
        split at hr
        · rename_i b o hb
          split at hr
          · rename_i vs hvs
            cases hr
            rw [hb] at hx
            generalize hq : tmps.getD x undef = q at hx
            cases hx with
            | ptr _ _ m hm =>
              obtain ⟨vs', r1, r2, r3, r4⟩ := load_rel hs hm hvs
              have hrun := run_loadCells_list (P := P) w ⟨m.blk, m.off + o, none⟩ vs' (fun j u hu => by rw [add_lit]; exact r4 j u hu)
              rw [r3] at hrun
              exact ⟨.agg vs'.toArray, .agg _ _ (by simpa using r1) (by simpa using r2), by simp [resSem, hq, asAddr, loadVar, tk_agg htk, size_run hn, hrun]⟩
          · cases hr
        · cases hr
      · cases hc
    · cases hc
    · rename_i h1 h2
      cases hc
      simp only [resOne] at hr
      split at hr
      · rename_i b o hb
        split at hr
        · rename_i u hu
          cases hr
          rw [hb] at hx
          generalize hq : tmps.getD x undef = q at hx
          cases hx with
          | ptr _ _ m hm =>
            obtain ⟨vs', r1, r2, r3, r4⟩ := load_rel hs hm hu
            cases r1 with
            | cons _ y _ ys ry rys =>
              have hc := r4 0 y (by simp)
              simp only [Nat.add_zero] at hc
              exact ⟨y, ry, by simp [resSem, hq, asAddr, loadVar, tk_one h1 h2, hc]⟩
        · cases hr
      · cases hr

theorem resAll_rel {φ : Map} {h : Heap} {w : World} (hs : Sim P base w0 φ h w) {N : Nat} {a : Nat → Value} {tmps : Array Value} (hf : FR φ N a tmps) : ∀ {rs : List ResultVar} {irs : List IRes}, compResL P rs = some irs → ∀ {vs : List Value}, resAll a h irs = some vs →
    ∃ vs' : List Value, VRs φ vs vs' ∧ (rs.mapM (resSem tmps)).run P w = .ok vs' w
  | [], irs, hc, vs, hr => by
    simp only [compResL, Option.some.injEq] at hc; subst hc
    simp only [resAll, Option.some.injEq] at hr; subst hr
    exact ⟨[], .nil, by simp⟩
  | r :: rs, irs, hc, vs, hr => by
    simp only [compResL] at hc
    split at hc
    · rename_i ir irs' h1 h2
      cases hc
      simp only [resAll] at hr
      split at hr
      · rename_i v hv
        split at hr
        · rename_i vs1 hvs1
          cases hr
          obtain ⟨v', e1, e2⟩ := resOne_rel hs hf h1 hv
          obtain ⟨vs', e3, e4⟩ := resAll_rel hs hf h2 hvs1
          refine ⟨v' :: vs', .cons _ _ _ _ e1 e3, ?_⟩
          simp only [List.mapM_cons, Sem.run_bind, e2, e4, Result.andThen_ok, Sem.run_pure]
        · cases hr
      · cases hr
    · cases hc

theorem results_rel {φ : Map} {h : Heap} {w : World} (hs : Sim P base w0 φ h w) {N : Nat} {a : Nat → Value} {tmps : Array Value} (hf : FR φ N a tmps) {fn : Func} {irs : List IRes} (hc : compResL P fn.results.toList = some irs) {vs : List Value} (hr : resAll a h irs = some vs) :
    ∃ v', VR φ (resV vs) v' ∧ (results fn tmps).run P w = .ok v' w := by
  obtain ⟨vs', e1, e2⟩ := resAll_rel hs hf hc hr
  have hm : (fn.results.mapM (resSem tmps)).run P w = .ok vs'.toArray w := by
    rw [Array.mapM_eq_mapM_toList]
    simp only [Sem.run_map, e2, Result.andThen_ok]
  have hl := e1.length
  refine ⟨if h : vs'.toArray.size = 1 then vs'.toArray[0] else .tuple vs'.toArray, ?_, ?_⟩
  · cases e1 with
    | nil => exact .tuple _ _ .nil
    | cons x y xs ys h1 h2 =>
      cases h2 with
      | nil => simpa [resV] using h1
      | cons x2 y2 xs2 ys2 h3 h4 =>
        simp only [resV]
        rw [dif_neg (by simp)]
        exact .tuple _ _ (.cons _ _ _ _ h1 (.cons _ _ _ _ h3 h4))
  · rw [results_eq]
    simp only [Sem.run_bind, hm, Result.andThen_ok, Sem.run_pure]

/-- The marks are taken off. -/
theorem marks_rel {R : Ending → World → Prop} {fn : Func} {tmps : Array Value} : ∀ (ks : List Nat) (ds : List Deferred) (φ : Map) (h h' : Heap) (w : World), Sim P base w0 φ h w → MR φ ks ds → killAll h ks = some h' →
    (∀ w', Sim P base w0 φ h' w' → Step φ h w φ h' w' → LeavesIn Fence.wide 0 P fn tmps R [] .returning w') → LeavesInM Fence.wide 0 P fn tmps R ds .returning w
  | [], ds, φ, h, h', w, hs, hm, hk, hR => by
    cases hm
    simp only [killAll, Option.some.injEq] at hk; subst hk
    exact hR w hs (Step.refl hs)
  | k :: ks, ds, φ, h, h', w, hs, hm, hk, hR => by
    cases hm with
    | cons _ m _ ds hm0 hms =>
      simp only [killAll] at hk
      split at hk
      · rename_i hg
        have hrel := hs.rel k m hm0
        rw [hg] at hrel
        have hlt : m.blk < w.heap.size := (Array.getElem?_eq_some_iff.1 hrel.2).1
        obtain ⟨s1, s2⟩ := hs.write hm0 hrel.1 (by rw [hg]; intro e; cases e) .dead (w' := w.putObj m.blk (.deferred none)) (fun j hj => World.putObj_heap_other hj) (by simp) rfl rfl rfl trivial
        refine ⟨by simp, .inl ⟨m.blk, _, rfl, run_takeDeferred hrel.2, ?_⟩⟩
        exact marks_rel ks ds φ _ h' _ s1 hms hk fun w' q1 q2 => hR w' q1 (Step.trans hs s1 s2 q2)
      · cases hk

theorem init_rel {φ : Map} {N : Nat} {vs vs' : List Value} (hv : VRs φ vs vs') (hN : vs.length ≤ N) : FR φ N (initA vs) (vs'.toArray ++ Array.replicate (N - vs'.toArray.size) undef) := by
  have hl := hv.length
  refine ⟨by simp; omega, fun t => ?_⟩
  simp only [initA, Array.getD_eq_getD_getElem?, List.getD]
  cases hq : vs[t]? with
  | some v =>
    obtain ⟨v', e1, e2⟩ := hv.get t v hq
    have hlt := (List.getElem?_eq_some_iff.1 e1).1
    rw [Array.getElem?_append_left (by simpa using hlt)]
    simp only [List.getElem?_toArray, e1, Option.getD_some]
    exact e2
  | none =>
    have hge : vs.length ≤ t := List.getElem?_eq_none_iff.1 hq
    rw [Array.getElem?_append_right (by simp; omega)]
    have : ((Array.replicate (N - vs'.toArray.size) undef)[t - vs'.toArray.size]?).getD undef = undef := by
      rw [Array.getElem?_replicate]; split <;> rfl
    rw [this]
    exact .tuple _ _ .nil

end
end Go.Am
