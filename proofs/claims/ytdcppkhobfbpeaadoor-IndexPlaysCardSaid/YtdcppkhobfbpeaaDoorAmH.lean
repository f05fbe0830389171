/-
  The abstract machine's code is the model's code: regions, code, calls, ranges over functions.
-/
import Derived.Test.YtdcppkhobfbpeaaDoorAmG
set_option linter.unusedVariables false
set_option linter.unusedSimpArgs false
namespace Go.Am
open Go Go.RowKit

/-- The wide fence, in a round or outside. -/
def fen (r : Option Nat) : Fence := { Fence.wide with round := r }

theorem callsIn_fen {r : Option Nat} {P : Program} {f : FuncId} {args : Array Value} {w : World} {R : Ending → World → Prop} (h : CallsIn Fence.wide 0 P f args w R) : CallsIn (fen r) 0 P f args w R := h

def exE : Ex → Exit
  | .normal => .normal
  | .exit id => .exit id
  | .ret => .ret

theorem wp_exCode {r : Option Nat} {P : Program} {e : Ex} {Q : Exit → Act → World → Prop} {a : Act} {w : World} (h : Q (exE e) a w) : (exCode e).wpIn (fen r) 0 P Q a w := by
  cases e with
  | normal => exact wpIn_skip h
  | exit id => exact wpIn_exit h
  | ret => exact wpIn_ret h

/-- Marks. -/
inductive MR (φ : Map) : List Nat → List Deferred → Prop
  | nil : MR φ [] []
  | cons (k : Nat) (m : Img) (ks : List Nat) (ds : List Deferred) (h : φ k = some m) (hs : MR φ ks ds) : MR φ (k :: ks) ({ target := .collected m.blk, args := #[] } :: ds)

theorem MR.mono {φ φ' : Map} (hm : ∀ b m, φ b = some m → φ' b = some m) {ks : List Nat} {ds : List Deferred} (h : MR φ ks ds) : MR φ' ks ds := by
  induction h with
  | nil => exact .nil
  | cons k m ks ds h _ ih => exact .cons k m ks ds (hm _ _ h) ih

theorem MR.append {φ : Map} {ks ks' : List Nat} {ds ds' : List Deferred} (h : MR φ ks ds) (h' : MR φ ks' ds') : MR φ (ks ++ ks') (ds ++ ds') := by
  induction h with
  | nil => exact h'
  | cons k m ks ds hk _ ih => exact .cons k m _ _ hk ih

def AR (φ : Map) (N : Nat) (a : AAct) (ac : Act) : Prop := FR φ N a.get ac.tmps ∧ MR φ a.marks ac.defers

theorem AR.mono {φ φ' : Map} (hm : ∀ b m, φ b = some m → φ' b = some m) {N : Nat} {a : AAct} {ac : Act} (h : AR φ N a ac) : AR φ' N a ac := ⟨h.1.mono hm, h.2.mono hm⟩

def RR (φ : Map) : Option Nat → Option Nat → Prop
  | none, none => True
  | some l, some l' => ∃ m, φ l = some m ∧ m.blk = l'
  | _, _ => False

theorem RR.mono {φ φ' : Map} (hm : ∀ b m, φ b = some m → φ' b = some m) {rd r : Option Nat} (h : RR φ rd r) : RR φ' rd r := by
  cases rd <;> cases r <;> first | exact h | (obtain ⟨m, h1, h2⟩ := h; exact ⟨m, hm _ _ h1, h2⟩)

section
variable {P : Program} {base : Nat} {w0 : World}

/-- What a call comes to. -/
def Post (P : Program) (base : Nat) (w0 : World) (φ : Map) (h : Heap) (w : World) (v : Value) (h' : Heap) (e : Ending) (w' : World) : Prop :=
  ∃ φ' v', e = .returned v' ∧ VR φ' v v' ∧ Sim P base w0 φ' h' w' ∧ Step φ h w φ' h' w'

def CallOK (P : Program) (base : Nat) (w0 : World) (call : CallT) : Prop :=
  ∀ (f f' : Value) (args args' : List Value) (h h' : Heap) (v : Value) (φ : Map) (w : World), Sim P base w0 φ h w → VR φ f f' → VRs φ args args' → call f args h = some (v, h') →
    (∃ fid first captured, f' = .func (.func fid) first captured ∧ (∀ as w, (callFunc fid as).run P w = .ok (.enter fid as) w) ∧ CallsIn Fence.wide 0 P fid (first ++ args'.toArray ++ captured) w (Post P base w0 φ h w v h')) ∨
    (∃ l fn tmps asg body, f' = .func (.yield l) #[] #[] ∧ (Instr.yield l args'.toArray).run P w = .ok (.round l fn tmps asg body) w ∧ RoundIn Fence.wide 0 P l fn tmps asg body w (Post P base w0 φ h w v h'))

theorem wants_rel {φ : Map} {N : Nat} {ops : Array Oper} {a : Nat → Value} {ac : Act} (hf : FR φ N a ac.tmps) {o : Oper} {g : Option (Nat × Bool)} (hg : compGuard N ops o.guard = some g) {b : Bool} (hw : wants a g = some b) : Region.wanted o (yielded ops ac.tmps) = b := by
  unfold compGuard at hg
  split at hg
  · rename_i hn
    cases hg
    simp only [wants, Option.some.injEq] at hw
    subst hw
    simp [Region.wanted, hn]
  · rename_i j want hn
    split at hg
    · rename_i oj hoj
      split at hg
      · rename_i t ht
        split at hg
        · rename_i hlt
          cases hg
          simp only [wants] at hw
          split at hw
          · rename_i b0 hb0
            cases hw
            have hr := hf.2 t
            rw [hb0] at hr
            have hlt2 : t < ac.tmps.size := by rw [hf.1]; exact hlt
            have hgt : ac.tmps[t]? = some (.bool b0) := by
              generalize hq : ac.tmps.getD t undef = q at hr
              cases hr
              rw [Array.getElem?_eq_getElem hlt2]
              simp [Array.getD, hlt2] at hq
              rw [hq]
            simp [Region.wanted, hn, yielded, hoj, ht, hgt]
          · rename_i vs0 hb0
            cases hw
            have hr := hf.2 t
            rw [hb0] at hr
            have hlt2 : t < ac.tmps.size := by rw [hf.1]; exact hlt
            generalize hq : ac.tmps.getD t undef = q at hr
            cases hr with
            | tuple _ us _ =>
              have hgt : ac.tmps[t]? = some (.tuple us) := by
                rw [Array.getElem?_eq_getElem hlt2]
                simp [Array.getD, hlt2] at hq
                rw [hq]
              simp [Region.wanted, hn, yielded, hoj, ht, hgt]
          · cases hw
        · cases hg
      · cases hg
    · cases hg

theorem put_rel {φ : Map} {N : Nat} {a : Nat → Value} {ac : Act} (hf : FR φ N a ac.tmps) {dst : Option Nat} (hd : dstOk N dst = true) {v v' : Value} (hv : VR φ v v') : FR φ N (putO a dst v) (ac.put dst v').tmps := by
  cases dst with
  | none => exact hf
  | some d =>
    have hlt : d < N := of_decide_eq_true hd
    refine ⟨by simp [Act.put, hf.1], fun t => ?_⟩
    simp only [Act.put, putO, put]
    have hs := hf.1
    by_cases htd : t = d
    · subst htd
      rw [if_pos rfl]
      simp [Array.getD, hs, hlt]
      exact hv
    · rw [if_neg htd]
      have := hf.2 t
      simp only [Array.getD_eq_getD_getElem?] at this ⊢
      rw [Array.getElem?_setIfInBounds_ne (by omega)]
      exact this

theorem put_defers (ac : Act) (dst : Option Nat) (v : Value) : (ac.put dst v).defers = ac.defers := by cases dst <;> rfl

theorem comp_nodefer {N : Nat} {o : Oper} {io : IOp} (hc : compOp P N o.op = some io) : ∀ c, o.op ≠ .defer c := by
  intro c e
  rw [e] at hc
  cases hc

theorem compBuiltin_nocall {N : Nat} {b : Builtin} {args : List Operand} {tys : List TypeId} {io : IOp} (hc : compBuiltin P N b args tys = some io) : isCallI io = false := by
  unfold compBuiltin at hc
  split at hc
  · cases hc
  · split at hc
    · split at hc
      · cases hc; rfl
      · cases hc
    · cases hc; rfl
    · cases hc; rfl
    · split at hc
      · split at hc
        · split at hc
          · split at hc
            · cases hc; rfl
            · cases hc
          · cases hc
        · cases hc
      · cases hc
    · cases hc

theorem compBin_nocall {N : Nat} {op : BinOp} {t : TypeId} {x y : Operand} {io : IOp} (hc : compBin P N op t x y = some io) : isCallI io = false := by
  unfold compBin at hc
  split at hc
  · cases hc
  · split at hc
    · cases hc; rfl
    · split at hc <;> first | (cases hc; done) | (cases hc; rfl)
    · split at hc
      · cases hc
      · split at hc <;> first | (cases hc; done) | (cases hc; rfl)
    · split at hc
      · split at hc <;> first | (cases hc; done) | (cases hc; rfl)
      · cases hc
    · split at hc
      · split at hc <;> first | (cases hc; done) | (cases hc; rfl)
      · cases hc
    · cases hc

theorem compOp_call {N : Nat} {op : Op} {io : IOp} (hc : compOp P N op = some io) (hcl : isCallI io = true) :
    ∃ f args tys, op = .call ⟨.value f, args, tys⟩ ∧ io = .call f args.toList ∧ opOk P N f = true ∧ args.toList.all (opOk P N) = true := by
  cases op <;> simp only [compOp] at hc
  case call c =>
    obtain ⟨callee, args, tys⟩ := c
    cases callee with
    | value f =>
      simp only at hc
      split at hc
      · rename_i hok
        simp only [Bool.and_eq_true] at hok
        cases hc
        exact ⟨f, args, tys, rfl, rfl, hok.1, hok.2⟩
      · cases hc
    | invoke => cases hc
    | builtin b => rw [compBuiltin_nocall hc] at hcl; cases hcl
  case binOp => rw [compBin_nocall hc] at hcl; cases hcl
  case makeFunc fn u2 v2 =>
    cases fn <;> simp only at hc <;> first | (cases hc; done) | skip
    split at hc <;> first | (cases hc; done) | (cases hc; cases hcl)
  all_goals
    exfalso
    first
    | (cases hc; done)
    | (split at hc <;> first | (cases hc; done) | (cases hc; cases hcl; done) | (split at hc <;> first | (cases hc; done) | (cases hc; cases hcl; done) | (split at hc <;> first | (cases hc; done) | (cases hc; cases hcl; done) | (split at hc <;> first | (cases hc; done) | (cases hc; cases hcl; done) | (split at hc <;> first | (cases hc; done) | (cases hc; cases hcl; done))))))

/-- One operation, a call or not. -/
theorem op_step {call : CallT} (hcall : CallOK P base w0 call) {φ : Map} {h h' : Heap} {w : World} {N : Nat} {a : Nat → Value} {ac : Act} {v : Value} {o : Oper} {io : IOp} {r : Option Nat} (hs : Sim P base w0 φ h w) (hf : FR φ N a ac.tmps) (hc : compOp P N o.op = some io)
    (he : evOp call a h io = some (v, h')) (next : Act → World → Prop) (Q : Exit → Act → World → Prop)
    (hn : ∀ φ' v' w', VR φ' v v' → Sim P base w0 φ' h' w' → Step φ h w φ' h' w' → next (ac.put o.dst v') w') : o.wpIn (fen r) 0 P ac w next Q := by
  refine ⟨fun _ _ => trivial, ?_⟩
  rw [Oper.semAt_eq _ _ _ (comp_nodefer hc)]
  by_cases hcl : isCallI io = true
  · -- a call
    obtain ⟨f, args, tys, hop, rfl, hok1, hok2⟩ := compOp_call hc hcl
    simp only [evOp] at he
    have rf := opd_rel hs hf hok1
    have ra := opds_rel hs hf hok2
    have hargs : (args.toList.map ac.eval).toArray = args.map ac.eval := by apply Array.ext'; simp
    rcases hcall _ _ _ _ h h' v φ w hs rf ra he with ⟨fid, first, captured, e1, e2, e3⟩ | ⟨l, fn, tmps, asg, body, e1, e2, e3⟩
    · have hex : (execOp ac.eval o).run P w = .ok (.enter fid (first ++ args.map ac.eval ++ captured)) w := by
        unfold execOp; rw [hop]
        simp only [resolve, Sem.run_bind, e1, Deferred.ofValue, Sem.run_pure, Result.andThen_ok, invoke]
        exact e2 _ w
      rw [hex]
      refine ⟨(fun h => by cases h), ?_⟩
      rw [hargs] at e3
      refine CallsIn.mono (callsIn_fen (r := r) e3) ?_
      rintro e w' ⟨φ', v', rfl, g1, g2, g3⟩
      exact hn φ' v' w' g1 g2 g3
    · have hex : (execOp ac.eval o).run P w = .ok (.round l fn tmps asg body) w := by
        unfold execOp; rw [hop]
        simp only [resolve, Sem.run_bind, e1, Deferred.ofValue, Sem.run_pure, Result.andThen_ok, invoke]
        rw [hargs] at e2
        simpa using e2
      rw [hex]
      refine ⟨(fun h => by cases h), ?_⟩
      refine RoundIn.mono (F := fen r) e3 ?_
      rintro e w' ⟨φ', v', rfl, g1, g2, g3⟩
      exact hn φ' v' w' g1 g2 g3
  · obtain ⟨φ', w', v', g1, g2, g3, g4⟩ := evOp_sound (call := call) hs hf hc (by simpa using hcl) he
    rcases g4 with g4 | ⟨g4, rfl⟩
    · rw [g4]; exact hn φ' v' w' g1 g2 g3
    · rw [g4]; exact hn φ' undef w' g1 g2 g3

theorem compOper_some {N : Nat} {ops : Array Oper} {o : Oper} {io : IOper} (hc : compOper P N ops o = some io) :
    compOp P N o.op = some io.op ∧ compGuard N ops o.guard = some io.guard ∧ io.dst = o.dst ∧ dstOk N o.dst = true := by
  unfold compOper at hc
  by_cases hd : dstOk N o.dst = true
  · rw [if_pos hd] at hc
    split at hc
    · rename_i op g h1 h2
      cases hc
      exact ⟨h1, h2, rfl, hd⟩
    · cases hc
  · rw [if_neg hd] at hc; cases hc

/-- A region in the order of its text. -/
theorem ops_sound {call : CallT} (hcall : CallOK P base w0 call) {N : Nat} {ops : Array Oper} {r : Option Nat} {Q : Exit → Act → World → Prop} : ∀ (l : List Oper) (il : List IOper) (k : Nat) (φ : Map) (h h' : Heap) (w : World) (a a' : Nat → Value) (ac : Act),
    compOpers P N ops l = some il → (∀ j, l[j]? = ops[k + j]?) → evOps call il a h = some (a', h') → Sim P base w0 φ h w → FR φ N a ac.tmps →
    (∀ φ' w' ac', Sim P base w0 φ' h' w' → Step φ h w φ' h' w' → FR φ' N a' ac'.tmps → ac'.defers = ac.defers → Q .normal ac' w') → wpOpsIn (fen r) 0 P ops Q (List.range' k l.length) ac w
  | [], il, k, φ, h, h', w, a, a', ac, hc, hl, he, hs, hf, hQ => by
    simp only [compOpers, Option.some.injEq] at hc; subst hc
    simp only [evOps, Option.some.injEq, Prod.mk.injEq] at he
    obtain ⟨rfl, rfl⟩ := he
    simp only [List.length_nil, List.range'_zero, wpOpsIn]
    exact hQ φ w ac hs (Step.refl hs) hf rfl
  | o :: l, il, k, φ, h, h', w, a, a', ac, hc, hl, he, hs, hf, hQ => by
    simp only [compOpers] at hc
    split at hc
    · rename_i io hio
      split at hc
      · rename_i il' hil
        cases hc
        obtain ⟨c1, c2, c3, c4⟩ := compOper_some hio
        have h0 : ops[k]? = some o := by simpa using (hl 0).symm
        have hl' : ∀ j, l[j]? = ops[k + 1 + j]? := fun j => by have := hl (j + 1); simpa [Nat.add_assoc, Nat.add_comm 1 j] using this
        simp only [List.length_cons, List.range'_succ, wpOpsIn, h0]
        simp only [evOps] at he
        split at he
        · rename_i hw
          rw [wants_rel hf c2 hw]
          simp only [if_true]
          split at he
          · rename_i v h1 hv
            refine op_step hcall hs hf c1 hv _ _ fun φ' v' w' g1 g2 g3 => ?_
            have hf' := put_rel (hf.mono (hs.sub g3)) c4 g1
            rw [c3] at he
            refine ops_sound hcall l il' (k + 1) φ' h1 h' w' _ a' (ac.put o.dst v') hil hl' he g2 hf' fun φ2 w2 ac2 q1 q2 q3 q4 => ?_
            exact hQ φ2 w2 ac2 q1 (Step.trans hs g2 g3 q2) q3 (q4.trans (put_defers _ _ _))
          · cases he
        · rename_i hw
          rw [wants_rel hf c2 hw]
          simp only [Bool.false_eq_true, if_false]
          refine ⟨fun _ _ => trivial, ?_⟩
          rw [c3] at he
          have hf' := put_rel hf c4 (VR.tuple (φ := φ) #[] #[] .nil)
          refine ops_sound hcall l il' (k + 1) φ h h' w _ a' (ac.put o.dst undef) hil hl' he hs hf' fun φ2 w2 ac2 q1 q2 q3 q4 => ?_
          exact hQ φ2 w2 ac2 q1 q2 q3 (q4.trans (put_defers _ _ _))
        · cases he
      · cases hc
    · cases hc

end
end Go.Am
