/-
  The abstract machine is the model: whatever it answers, the model's call answers.
-/
import Derived.Test.YtdcppkhobfbpeaaDoorAmJ
set_option linter.unusedVariables false
set_option linter.unusedSimpArgs false
namespace Go.Am
open Go Go.RowKit

section
variable {P : Program} {base : Nat} {w0 : World}

theorem callFunc_run {fid : FuncId} {F : Func} {c : Code} (hF : P.funcs[fid]? = some F) (hb : F.body = some c) (hn : (F.name == "runtime.NumGoroutine") = false) (as : Array Value) (w : World) : (callFunc fid as).run P w = .ok (.enter fid as) w := by
  unfold callFunc
  simp only [Sem.run_bind, run_program, Result.andThen_ok, hF, hn, Bool.false_eq_true, if_false, hb, Option.isNone_some]
  rfl

theorem compFun_some {F : Func} {fn : IFun} (hc : compFun P F = some fn) : ∃ c, F.body = some c ∧ comp P F.ntmps c = some fn.body ∧ compResL P F.results.toList = some fn.res ∧ fn.n = F.ntmps := by
  unfold compFun at hc
  split at hc
  · rename_i c hb
    split at hc
    · rename_i b r h1 h2
      cases hc
      exact ⟨c, hb, h1, h2, rfl⟩
    · cases hc
  · cases hc

theorem callOK_of_code {T : FuncId → Option IFun} (hT : TabOK P T) {ex : ExecT} (hex : CodeOK P base w0 ex) : CallOK P base w0 (callV T ex) := by
  intro f f' args args' h h' v φ w hs hf ha he
  unfold callV at he
  split at he
  · -- a function
    rename_i fid first captured
    left
    split at he
    · rename_i fn hfn
      split at he
      · rename_i hlen
        cases hf with
        | func _ _ _ u' v' hu hv =>
          obtain ⟨F, hF, hcf, hname⟩ := hT fid fn hfn
          obtain ⟨c, hb, hcomp, hres, hn⟩ := compFun_some hcf
          refine ⟨fid, u', v', rfl, fun as w => callFunc_run hF hb hname as w, ?_⟩
          have hargs : VRs φ (first.toList ++ args ++ captured.toList) (u'.toList ++ args' ++ v'.toList) := (hu.append ha).append hv
          have harr : u' ++ args'.toArray ++ v' = (u'.toList ++ args' ++ v'.toList).toArray := by apply Array.ext'; simp
          rw [harr]
          refine callsIn_of_wp_marks hF hb trivial ?_
          have hinit := init_rel (N := F.ntmps) hargs (by rw [← hn]; exact hlen)
          split at he
          · cases he
          · rename_i e a h1 hne hexr
            refine hex F.ntmps c fn.body none none φ h h1 w _ a _ e _ hcomp hexr hs ⟨hinit, .nil⟩ trivial fun φ' w' ac' q1 q2 q3 => ?_
            have fin : LeavesInM Fence.wide 0 P F ac'.tmps (Post P base w0 φ h w v h') ac'.defers .returning w' := by
              split at he
              · rename_i h2 hk
                split at he
                · rename_i vs hvs
                  simp only [Option.some.injEq, Prod.mk.injEq] at he
                  obtain ⟨rfl, rfl⟩ := he
                  refine marks_rel a.marks ac'.defers φ' h1 h2 w' q1 q3.2 hk fun w2 q4 q5 => ?_
                  obtain ⟨v', e1, e2⟩ := results_rel q4 q3.1 hres hvs
                  exact ⟨v', e2, φ', v', rfl, e1, q4, Step.trans hs q1 q2 q5⟩
                · cases he
              · cases he
            cases e with
            | normal => exact fin
            | ret => exact fin
            | exit id => exact (hne id rfl).elim
          · cases he
      · cases he
    · cases he
  · -- a round of a loop
    rename_i l
    right
    split at he
    · rename_i rc hg
      split at he
      · rename_i a0 hset
        cases hf with
        | yield _ m hm =>
          obtain ⟨L, h1, h2, h3, h4, h5, h6, h7, h8, h9, _⟩ := hs.loopSet hm hg
          obtain ⟨hl, hfr⟩ := setParams_rel rc.params args args' rc.tmps a0 L.tmps hset ha h4 h6
          have hpl : L.params = rc.params.toArray := by apply Array.ext'; simpa using h5
          have hy := run_yield (P := P) (args := args'.toArray) h1 (by rw [hpl]; simp [hl])
          have hfold : ((L.params.zip args'.toArray).foldl (fun tmps (t, a) => tmps.setIfInBounds t a) L.tmps) = (rc.params.zip args').foldl (fun t p => t.setIfInBounds p.1 p.2) L.tmps := by
            rw [hpl, ← Array.foldl_toList]
            simp
          rw [hfold] at hy
          refine ⟨m.blk, _, _, _, _, rfl, hy, ?_⟩
          split at he
          · rename_i a1 h11 hexa
            refine roundIn_of_wpIn trivial ?_
            refine hex L.tmps.size L.assign rc.asg (some l) (some m.blk) φ h h11 w _ a1 _ .normal _ h7 hexa hs ⟨hfr, .nil⟩ ⟨m, hm, rfl⟩ fun φ1 w1 ac1 q1 q2 q3 => ?_
            have hm1 := hs.sub q2 l m hm
            split at he
            · rename_i r1 hg1
              split at he
              · rename_i hready
                split at he
                · rename_i e a2 h2' hexb
                  split at he
                  · rename_i r2 hg2
                    simp only [Option.some.injEq, Prod.mk.injEq] at he
                    obtain ⟨rfl, rfl⟩ := he
                    obtain ⟨L1, k1, k2, k3, k4, k5, k6, k7, k8, k9, k10⟩ := q1.loopSet hm1 hg1
                    obtain ⟨s1, s2⟩ := k10 .busy r1.pending
                    have hb1 := run_beginRound (P := P) k1 (by rw [k2, hready])
                    have hpd : ({ L1 with state := .busy, pending := r1.pending.map exCode } : Loop) = { L1 with state := .busy } := by rw [← k3]
                    rw [hpd] at s1 s2
                    refine ⟨_, hb1, ?_⟩
                    refine hex L.tmps.size L.body rc.body (some l) (some m.blk) φ1 _ h2' _ a1 a2 ac1 e _ h8 hexb s1 q3 ⟨m, hm1, rfl⟩ fun φ2 w2 ac2 p1 p2 p3 => ?_
                    have hm2 := s1.sub p2 l m hm1
                    obtain ⟨L2, j1, j2, j3, j4, j5, j6, j7, j8, j9, j10⟩ := p1.loopSet hm2 hg2
                    have fin : ∀ (jump : Option Code), jump = e.jump.map exCode → ∃ v w', (Instr.endRound m.blk jump).run P w2 = .ok v w' ∧ Post P base w0 φ h w (.bool e.jump.isNone) (h2'.set l (.loop { r2 with state := if e.jump.isNone then .ready else .done, pending := e.jump })) (.returned v) w' := by
                      intro jump hj
                      subst hj
                      obtain ⟨s3, s4⟩ := j10 (if e.jump.isNone then .ready else .done) e.jump
                      have hnn : (e.jump.map exCode).isNone = e.jump.isNone := by cases e.jump <;> rfl
                      have hend := run_endRound (P := P) (e.jump.map exCode) j1
                      rw [hnn] at hend
                      refine ⟨_, _, hend, φ2, _, rfl, .bool _, s3, ?_⟩
                      exact Step.trans hs q1 q2 (Step.trans q1 s1 s2 (Step.trans s1 p1 p2 s4))
                    cases e with
                    | normal => exact fin none rfl
                    | ret => exact fin (some .ret) rfl
                    | exit id => exact fin (some (.exit id)) rfl
                  · cases he
                · cases he
              · cases he
            · cases he
          · cases he
      · cases he
    · cases he
  · cases he

theorem AR.put {φ : Map} {N : Nat} {a : AAct} {ac ac' : Act} {g : Nat → Value} (h : AR φ N a ac) (hf : FR φ N g ac'.tmps) (hd : ac'.defers = ac.defers) : AR φ N ⟨g, a.marks⟩ ac' := ⟨hf, by rw [hd]; exact h.2⟩

theorem codeOK {T : FuncId → Option IFun} (hT : TabOK P T) : ∀ (n k : Nat), k ≤ n → CodeOK P base w0 (exec T k) := by
  intro n
  induction n with
  | zero =>
    intro k hk N c ic rd r φ h h' w a a' ac e Q hc he
    obtain rfl : k = 0 := by omega
    simp [exec] at he
  | succ n ihn =>
    intro k hk
    rcases Nat.lt_or_ge k (n + 1) with hlt | hge
    · exact ihn k (by omega)
    obtain rfl : k = n + 1 := by omega
    have ih : CodeOK P base w0 (exec T n) := ihn n (Nat.le_refl _)
    have hcall : CallOK P base w0 (callV T (exec T n)) := callOK_of_code hT ih
    intro N c ic rd r φ h h' w a a' ac e Q hc he hs ha hr hQ
    cases c <;> simp only [comp] at hc
    case skip =>
      cases hc
      simp only [exec, Option.some.injEq, Prod.mk.injEq] at he
      obtain ⟨rfl, rfl, rfl⟩ := he
      exact wpIn_skip (hQ φ w ac hs (Step.refl hs) ha)
    case label l =>
      cases hc
      simp only [exec, Option.some.injEq, Prod.mk.injEq] at he
      obtain ⟨rfl, rfl, rfl⟩ := he
      exact wpIn_label (hQ φ w ac hs (Step.refl hs) ha)
    case exit id =>
      cases hc
      simp only [exec, Option.some.injEq, Prod.mk.injEq] at he
      obtain ⟨rfl, rfl, rfl⟩ := he
      exact wpIn_exit (hQ φ w ac hs (Step.refl hs) ha)
    case ret =>
      cases hc
      simp only [exec, Option.some.injEq, Prod.mk.injEq] at he
      obtain ⟨rfl, rfl, rfl⟩ := he
      exact wpIn_ret (hQ φ w ac hs (Step.refl hs) ha)
    case region id ops d =>
      split at hc
      · cases hc
      · rename_i l hl
        split at hc
        · rename_i hd
          subst hd
          split at hc
          · rename_i hem
            rw [Bool.and_eq_true] at hem
            split at hc
            · rename_i chk hp
              cases hc
              simp only [exec] at he
              split at he
              · rename_i a1 h1 tr htr
                split at he
                · rename_i hck
                  simp only [Option.some.injEq, Prod.mk.injEq] at he
                  obtain ⟨rfl, rfl, rfl⟩ := he
                  obtain ⟨d1, d2⟩ := hs.draw (w' := { w with drawn := w.drawn + 1 }) rfl rfl rfl rfl
                  refine wpIn_region_any hem.2 ?_
                  refine draw_sound hcall hl hem.1 hp htr hck d1 ha.1 fun φ' w' ac' q1 q2 q3 q4 => ?_
                  exact hQ φ' w' ac' q1 (Step.trans hs d1 d2 q2) (AR.put (ha.mono (d1.sub q2)) q3 q4)
                · cases he
              · cases he
            · cases hc
          · cases hc
        · rename_i hd
          cases hc
          obtain rfl : d = false := by simpa using hd
          simp only [exec] at he
          split at he
          · rename_i a1 h1 hev
            simp only [Option.some.injEq, Prod.mk.injEq] at he
            obtain ⟨rfl, rfl, rfl⟩ := he
            refine wpIn_region ?_
            have := ops_sound hcall (r := r) (Q := Q) ops.toList l 0 φ h h1 w a.get a1 ac hl (fun j => by simp) hev hs ha.1 fun φ' w' ac' q1 q2 q3 q4 => hQ φ' w' ac' q1 q2 (AR.put (ha.mono (hs.sub q2)) q3 q4)
            rw [List.range_eq_range']
            simpa using this
          · cases he
    case seq x y =>
      split at hc
      · rename_i ix iy hx hy
        cases hc
        simp only [exec] at he
        refine wpIn_seq ?_
        split at he
        · rename_i a1 h1 he1
          refine ih N x ix rd r φ h h1 w a a1 ac .normal _ hx he1 hs ha hr fun φ' w' ac' q1 q2 q3 => ?_
          exact ih N y iy rd r φ' h1 h' w' a1 a' ac' e Q hy he q1 q3 (hr.mono (hs.sub q2)) fun φ2 w2 ac2 p1 p2 p3 => hQ φ2 w2 ac2 p1 (Step.trans hs q1 q2 p2) p3
        · rename_i hne
          refine ih N x ix rd r φ h h' w a a' ac e _ hx he hs ha hr fun φ' w' ac' q1 q2 q3 => ?_
          cases e with
          | normal => exact (hne a' h' he).elim
          | exit id => exact hQ φ' w' ac' q1 q2 q3
          | ret => exact hQ φ' w' ac' q1 q2 q3
      · cases hc
    case cond cc x y =>
      split at hc
      · rename_i hok
        split at hc
        · rename_i ix iy hx hy
          cases hc
          have rc := opd_rel hs ha.1 hok
          simp only [exec] at he
          split at he
          · rename_i hb
            rw [hb] at rc
            generalize hq : ac.eval cc = q at rc
            cases rc
            exact wpIn_cond_true hq (ih N x ix rd r φ h h' w a a' ac e Q hx he hs ha hr hQ)
          · rename_i hb
            rw [hb] at rc
            generalize hq : ac.eval cc = q at rc
            cases rc
            exact wpIn_cond_false hq (ih N y iy rd r φ h h' w a a' ac e Q hy he hs ha hr hQ)
          · cases he
        · cases hc
      · cases hc
    case block id x =>
      split at hc
      · rename_i ix hx
        cases hc
        simp only [exec] at he
        refine wpIn_block ?_
        split at he
        · rename_i id' a1 h1 he1
          refine ih N x ix rd r φ h h1 w a a1 ac (.exit id') _ hx he1 hs ha hr fun φ' w' ac' q1 q2 q3 => ?_
          simp only [exE, Exit.inBlock]
          split at he
          · rename_i hid
            simp only [Option.some.injEq, Prod.mk.injEq] at he
            obtain ⟨rfl, rfl, rfl⟩ := he
            rw [if_pos hid]
            exact hQ φ' w' ac' q1 q2 q3
          · rename_i hid
            simp only [Option.some.injEq, Prod.mk.injEq] at he
            obtain ⟨rfl, rfl, rfl⟩ := he
            rw [if_neg hid]
            exact hQ φ' w' ac' q1 q2 q3
        · rename_i hne
          refine ih N x ix rd r φ h h' w a a' ac e _ hx he hs ha hr fun φ' w' ac' q1 q2 q3 => ?_
          cases e with
          | normal => exact hQ φ' w' ac' q1 q2 q3
          | exit id' => exact (hne id' a' h' he).elim
          | ret => exact hQ φ' w' ac' q1 q2 q3
      · cases hc
    case loop x =>
      split at hc
      · rename_i ix hx
        cases hc
        refine wpIn_loop_count (fun j ac1 w1 => j ≤ n + 1 ∧ ∃ φ1 h1 a1, exec T j rd (.loop ix) a1 h1 = some (e, a', h') ∧ Sim P base w0 φ1 h1 w1 ∧ Step φ h w φ1 h1 w1 ∧ AR φ1 N a1 ac1) ?_ (k := n + 1) ⟨Nat.le_refl _, φ, h, a, he, hs, Step.refl hs, ha⟩
        rintro j ac1 w1 ⟨hj, φ1, h1, a1, he1, hs1, hst1, ha1⟩
        cases j with
        | zero => simp [exec] at he1
        | succ j =>
          have ihj := ihn j (by omega)
          simp only [exec] at he1
          split at he1
          · rename_i a2 h2 he2
            refine ihj N x ix rd r φ1 h1 h2 w1 a1 a2 ac1 .normal _ hx he2 hs1 ha1 (hr.mono (hs.sub hst1)) fun φ' w' ac' q1 q2 q3 => ?_
            exact ⟨j, by omega, by omega, φ', h2, a2, he1, q1, Step.trans hs hs1 hst1 q2, q3⟩
          · rename_i hne
            refine ihj N x ix rd r φ1 h1 h' w1 a1 a' ac1 e _ hx he1 hs1 ha1 (hr.mono (hs.sub hst1)) fun φ' w' ac' q1 q2 q3 => ?_
            have := hQ φ' w' ac' q1 (Step.trans hs hs1 hst1 q2) q3
            cases e with
            | normal => exact (hne a' h' he1).elim
            | exit id => exact this
            | ret => exact this
      · cases hc
    case scope x =>
      split at hc
      · rename_i ix hx
        cases hc
        simp only [exec] at he
        refine wpIn_scope ?_
        split at he
        · rename_i a1 h1 he1
          refine ih N x ix rd r φ h h1 w a a1 ac .normal _ hx he1 hs ha hr fun φ' w' ac' q1 q2 q3 => ?_
          have hk : exec T n rd .skip a1 h1 = some (.normal, a1, h1) := by
            cases n with
            | zero => simp [exec] at he
            | succ n => rfl
          rw [hk] at he
          simp only [Option.some.injEq, Prod.mk.injEq] at he
          obtain ⟨rfl, rfl, rfl⟩ := he
          exact ⟨fun l => by simp [exE], hQ φ' w' ac' q1 q2 q3⟩
        · rename_i hne
          refine ih N x ix rd r φ h h' w a a' ac e _ hx he hs ha hr fun φ' w' ac' q1 q2 q3 => ?_
          exact ⟨fun l => by cases e <;> simp [exE], hQ φ' w' ac' q1 q2 q3⟩
      · cases hc
    case rangeFunc f ps x y =>
      split at hc
      · rename_i hok
        rw [Bool.and_eq_true] at hok
        split at hc
        · rename_i ix iy hx hy
          cases hc
          simp only [exec] at he
          have rf := opd_rel hs ha.1 hok.1
          split at he
          · rename_i gf u v hgf
            rw [hgf] at rf
            have key : ∀ (h1 : Heap) (db : Nat) (mk : List Nat) (φ1 : Map) (w1 : World) (dbm : Img) (mark : List Deferred), Sim P base w0 φ1 h1 w1 → Step φ h w φ1 h1 w1 → φ1 db = some dbm → MR φ1 mk mark →
                (∀ fn, (Instr.enterLoop fn ac.tmps ps x y r).run P w = .ok (w1.heap.size, mark) (w1.alloc (.loop { state := .ready, pending := none, fn, tmps := ac.tmps, params := ps, assign := x, body := y, defers := dbm.blk }))) →
                (match callV T (exec T n) (.func (.func gf) u v) [.func (.yield h1.n) #[] #[]] (h1.push (.loop ⟨.ready, none, a.get, ps.toList, ix, iy, db⟩)) with
                  | none => none
                  | some (_, h2) => match h2.get h1.n with
                    | .loop r => if r.state = .busy then none else
                      some (r.pending.getD .normal, (⟨a.get, mk ++ a.marks⟩ : AAct), h2.set h1.n (.loop { r with state := .exhausted }))
                    | _ => none) = some (e, a', h') → (Code.rangeFunc f ps x y).wpIn (fen r) 0 P Q ac w := by
              intro h1 db mk φ1 w1 dbm mark hs1 hst1 hdb hmk hent he
              split at he
              · cases he
              · rename_i vres h2 hcv
                split at he
                · rename_i r' hg2
                  split at he
                  · cases he
                  · rename_i hnb
                    simp only [Option.some.injEq, Prod.mk.injEq] at he
                    obtain ⟨rfl, rfl, rfl⟩ := he
                    refine wpIn_rangeFunc fun fn _ => ?_
                    -- the record
                    let L : Loop := { state := .ready, pending := none, fn, tmps := ac.tmps, params := ps, assign := x, body := y, defers := dbm.blk }
                    have hsub1 : ∀ b m', φ1 b = some m' → (φ1.add h1.n ⟨w1.heap.size, 0, false, 0, 0⟩) b = some m' := fun b m' e' => by
                      have := hs1.dom b m' e'
                      unfold Map.add; rw [if_neg (by omega)]; exact e'
                    have hnew : (w1.alloc (.loop L)).heap[w1.heap.size]? = some (.loop L) := World.alloc_heap_new w1 _
                    have hsz := ha.1.1
                    have hps : ∀ p ∈ ps.toList, p < ac.tmps.size := fun p hp => by
                      have := List.all_eq_true.1 hok.2 p hp
                      rw [hsz]; exact of_decide_eq_true this
                    have s1 : Sim P base w0 (φ1.add h1.n ⟨w1.heap.size, 0, false, 0, 0⟩) (h1.push (.loop ⟨.ready, none, a.get, ps.toList, ix, iy, db⟩)) (w1.alloc (.loop L)) := by
                      refine hs1.add _ _ rfl hs1.base_le (by simp) (by simp) (fun j hj _ => Below.heap_alloc w1 _ j hj) (fun b m' e1 e2 _ e3 => ?_) rfl rfl rfl ?_
                      · have := (hs1.high b m' e1 e2).2
                        simp at e3; omega
                      · refine ⟨rfl, L, dbm, hnew, hsub1 _ _ hdb, rfl, rfl, rfl, ?_, rfl, hps, ?_, ?_⟩
                        · refine ⟨rfl, fun t => ?_⟩
                          exact ((ha.1.2 t).mono (hs.sub hst1)).mono hsub1
                        · show comp P ac.tmps.size x = some ix; rw [hsz]; exact hx
                        · show comp P ac.tmps.size y = some iy; rw [hsz]; exact hy
                    have st1 : Step φ1 h1 w1 (φ1.add h1.n ⟨w1.heap.size, 0, false, 0, 0⟩) (h1.push (.loop ⟨.ready, none, a.get, ps.toList, ix, iy, db⟩)) (w1.alloc (.loop L)) :=
                      hs1.add_step _ _ rfl (by simp) (fun j hj _ => Below.heap_alloc w1 _ j hj) rfl
                    have hl : (φ1.add h1.n ⟨w1.heap.size, 0, false, 0, 0⟩) h1.n = some ⟨w1.heap.size, 0, false, 0, 0⟩ := by simp [Map.add]
                    generalize hq : ac.eval f = q at rf
                    cases rf with
                    | func _ _ _ u' v' hu hv =>
                      have hff := VR.func (φ := φ1.add h1.n ⟨w1.heap.size, 0, false, 0, 0⟩) gf u v u' v' ((hu.mono (hs.sub hst1)).mono hsub1) ((hv.mono (hs.sub hst1)).mono hsub1)
                      rcases hcall _ _ _ [.func (.yield w1.heap.size) #[] #[]] _ _ _ _ _ s1 hff (.cons _ _ _ _ (.yield h1.n _ hl) .nil) hcv with ⟨fid, first, captured, e1, e2, e3⟩ | ⟨l, fn2, tmps, asg, body, e1, e2, e3⟩
                      · injection e1 with e1a e1b e1c
                        injection e1a with e1a
                        subst e1a e1b e1c
                        refine ⟨w1.heap.size, mark, w1.alloc (.loop L), { target := .fn (.func gf) v', args := u' ++ #[.func (.yield w1.heap.size) #[] #[]] }, w1.alloc (.loop L), gf, u' ++ #[.func (.yield w1.heap.size) #[] #[]] ++ v', w1.alloc (.loop L), hent fn, ?_, fun _ _ => trivial, ?_, (fun h => by cases h), ?_⟩
                        · have hmap : (#[Operand.const (.func (.yield w1.heap.size) #[] #[])] : Array Operand).map ac.eval = #[.func (.yield w1.heap.size) #[] #[]] := by simp [Act.eval]
                          simp only [resolve, rangeCall, hq, Deferred.ofValue, hmap]
                          rfl
                        · simp only [invoke]
                          exact e2 _ _
                        · refine CallsIn.mono (callsIn_fen (r := r) e3) ?_
                          rintro ee w3 ⟨φ3, v3, rfl, g1, g2, g3⟩
                          have hl3 := s1.sub g3 _ _ hl
                          obtain ⟨L3, j1, j2, j3, j4, j5, j6, j7, j8, j9, j10⟩ := g2.loopSet hl3 hg2
                          have hend := run_endLoop (P := P) j1 (by rw [j2]; exact hnb)
                          obtain ⟨s4, st4⟩ := j10 .exhausted r'.pending
                          have hLe : ({ L3 with state := .exhausted, pending := r'.pending.map exCode } : Loop) = { L3 with state := .exhausted } := by rw [← j3]
                          rw [hLe] at s4 st4
                          have hstA : Step φ h w φ3 (h2.set h1.n (.loop { r' with state := .exhausted })) (w3.putObj w1.heap.size (.loop { L3 with state := .exhausted })) :=
                            Step.trans hs hs1 hst1 (Step.trans hs1 s1 st1 (Step.trans s1 g2 g3 st4))
                          have harA : AR φ3 N ⟨a.get, mk ++ a.marks⟩ { ac with defers := mark ++ ac.defers } := by
                            refine ⟨ha.1.mono (hs.sub hstA), ?_⟩
                            have h1 := (hmk.mono hsub1).mono (s1.sub g3)
                            have h2 := ha.2.mono (hs.sub hstA)
                            exact MR.append h1 h2
                          have hfin := hQ φ3 _ _ s4 hstA harA
                          refine ⟨_, _, hend, ?_⟩
                          cases hp : r'.pending with
                          | none =>
                            have j3' : L3.pending = none := by rw [j3, hp]; rfl
                            rw [hp] at hfin; rw [j3'] at hfin ⊢; exact hfin
                          | some e =>
                            have j3' : L3.pending = some (exCode e) := by rw [j3, hp]; rfl
                            rw [hp] at hfin; rw [j3'] at hfin ⊢; exact wp_exCode hfin
                      · cases e1
                · cases he
            cases hrd : rd with
            | none =>
              rw [hrd] at he hr
              obtain rfl : r = none := by cases r with | none => rfl | some _ => exact hr.elim
              simp only at he
              have hnew : (w.alloc (.deferred (some []))).heap[w.heap.size]? = some (.deferred (some [])) := World.alloc_heap_new w _
              have hs1 : Sim P base w0 (φ.add h.n ⟨w.heap.size, 0, false, 0, 0⟩) (h.push .defer) (w.alloc (.deferred (some []))) := by
                refine hs.add _ _ rfl hs.base_le (by simp) (by simp) (fun j hj _ => Below.heap_alloc w _ j hj) (fun b m' e1 e2 _ e3 => ?_) rfl rfl rfl ⟨rfl, hnew⟩
                have := (hs.high b m' e1 e2).2
                simp at e3; omega
              have hst1 : Step φ h w (φ.add h.n ⟨w.heap.size, 0, false, 0, 0⟩) (h.push .defer) (w.alloc (.deferred (some []))) := hs.add_step _ _ rfl (by simp) (fun j hj _ => Below.heap_alloc w _ j hj) rfl
              have hl0 : (φ.add h.n ⟨w.heap.size, 0, false, 0, 0⟩) h.n = some ⟨w.heap.size, 0, false, 0, 0⟩ := by simp [Map.add]
              refine key (h.push .defer) h.n [h.n] _ _ ⟨w.heap.size, 0, false, 0, 0⟩ [{ target := .collected w.heap.size, args := #[] }] hs1 hst1 hl0 (.cons _ _ _ _ hl0 .nil) (fun fn => ?_) he
              have hsz0 : (w.alloc (.deferred (some []))).heap.size = w.heap.size + 1 := by simp
              rw [run_enterLoop_outer, hsz0]
            | some l0 =>
              rw [hrd] at he hr
              cases r with
              | none => exact hr.elim
              | some l1 =>
                obtain ⟨m0, hm0, rfl⟩ := hr
                simp only at he
                split at he
                · cases he
                · rename_i h1 db mk heq
                  split at heq
                  · rename_i r0 hg0
                    simp only [Option.some.injEq, Prod.mk.injEq] at heq
                    obtain ⟨rfl, rfl, rfl⟩ := heq
                    obtain ⟨L0, j1, j2, j3, j4, j5, j6, j7, j8, ⟨db, hdb, hdef⟩, j10⟩ := hs.loopSet hm0 hg0
                    refine key h r0.deferB [] φ w db [] hs (Step.refl hs) hdb .nil (fun fn => ?_) he
                    unfold Instr.enterLoop
                    simp only [Sem.run_bind, run_getLoop j1, Result.andThen, Sem.run_pure, run_newObj_alloc, hdef]
                  · cases heq
          · cases he
        · cases hc
      · cases hc
    all_goals cases hc

end
end Go.Am
