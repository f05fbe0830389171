/-
  Each operation of the abstract machine is the model's: the operations one by one.
-/
import Derived.Test.YtdcppkhobfbpeaaDoorAmD
set_option linter.unusedVariables false
set_option linter.unusedSimpArgs false
namespace Go.Am
open Go Go.RowKit

section
variable {P : Program} {base : Nat} {w0 : World} {φ : Map} {h : Heap} {w : World} {N : Nat} {a : Nat → Value} {ac : Act} {call : CallT} {v : Value} {h' : Heap} {o : Oper}

theorem e_mov (hs : Sim P base w0 φ h w) (hf : FR φ N a ac.tmps) {x : Operand} (hx : opOk P N x = true) (ho : o.op = .move x ∨ o.op = .assign x) (he : evOp call a h (.mov x) = some (v, h')) :
    Res P base w0 φ h w v h' ((execOp ac.eval o).run P w) := by
  simp only [evOp, Option.some.injEq, Prod.mk.injEq] at he
  obtain ⟨rfl, rfl⟩ := he
  refine Res.pure hs (opd_rel hs hf hx) ?_
  unfold execOp
  rcases ho with ho | ho <;> rw [ho] <;> rfl

theorem e_pick (hs : Sim P base w0 φ h w) (hf : FR φ N a ac.tmps) {c x y : Operand} (hc : opOk P N c = true) (hx : opOk P N x = true) (hy : opOk P N y = true) (ho : o.op = .pick c x y)
    (he : evOp call a h (.pick c x y) = some (v, h')) : Res P base w0 φ h w v h' ((execOp ac.eval o).run P w) := by
  have rc := opd_rel hs hf hc
  simp only [evOp] at he
  split at he
  · rename_i b hb
    simp only [Option.some.injEq, Prod.mk.injEq] at he
    obtain ⟨rfl, rfl⟩ := he
    rw [hb] at rc
    generalize hcc : ac.eval c = cc at rc
    cases rc
    refine Res.pure hs (v' := if b then ac.eval x else ac.eval y) ?_ ?_
    · cases b
      · exact opd_rel hs hf hy
      · exact opd_rel hs hf hx
    · unfold execOp; rw [ho]; simp [hcc, asBool]
  · cases he

theorem e_alloc (hs : Sim P base w0 φ h w) {e : TypeId} {z : List Value} (hz : zeros? P e = some z) (ho : o.op = .alloc e) (he : evOp call a h (.alloc e z) = some (v, h')) :
    Res P base w0 φ h w v h' ((execOp ac.eval o).run P w) := by
  simp only [evOp, Option.some.injEq, Prod.mk.injEq] at he
  obtain ⟨rfl, rfl⟩ := he
  obtain ⟨zv, rfl, hc, hrun⟩ := zero_run hz
  obtain ⟨φ', e1, s1, s2⟩ := Res.box hs (VRs.consts (φ := φ) hc) (fun u hu => constOk_one (List.all_eq_true.1 hc u hu)) e
  refine ⟨φ', _, _, VR.ptr h.n 0 _ e1, s1, s2, .inl ?_⟩
  unfold execOp; rw [ho]
  simp [Instr.alloc, hrun, newVar, newRow]

theorem e_box (hs : Sim P base w0 φ h w) (hf : FR φ N a ac.tmps) {e : TypeId} {x : Operand} (hx : opOk P N x = true) (ho : o.op = .box e x) (he : evOp call a h (.box e x) = some (v, h')) :
    Res P base w0 φ h w v h' ((execOp ac.eval o).run P w) := by
  have rx := opd_rel hs hf hx
  simp only [evOp] at he
  split at he
  · rename_i cs hcs
    simp only [Option.some.injEq, Prod.mk.injEq] at he
    obtain ⟨rfl, rfl⟩ := he
    obtain ⟨r1, r2⟩ := vcells_rel rx hcs
    obtain ⟨φ', e1, s1, s2⟩ := Res.box hs r1 r2 e
    refine ⟨φ', _, _, VR.ptr h.n 0 _ e1, s1, s2, .inl ?_⟩
    unfold execOp; rw [ho]
    simp [Instr.box, newVar, newRow]
  · cases he

theorem e_load1 (hs : Sim P base w0 φ h w) (hf : FR φ N a ac.tmps) {t : TypeId} {x : Operand} (hx : opOk P N x = true) (h1 : tk P t ≠ .agg) (h2 : tk P t ≠ .other) (ho : o.op = .load t x)
    (he : evOp call a h (.load1 x) = some (v, h')) : Res P base w0 φ h w v h' ((execOp ac.eval o).run P w) := by
  have rx := opd_rel hs hf hx
  simp only [evOp] at he
  split at he
  · rename_i b off hb
    split at he
    · rename_i u hu
      simp only [Option.some.injEq, Prod.mk.injEq] at he
      obtain ⟨rfl, rfl⟩ := he
      rw [hb] at rx
      generalize hcc : ac.eval x = cc at rx
      cases rx with
      | ptr _ _ m hm =>
        obtain ⟨vs', r1, r2, r3, r4⟩ := load_rel hs hm hu
        cases r1 with
        | cons _ y _ ys ry rys =>
          have hc := r4 0 y (by simp)
          simp only [Nat.add_zero] at hc
          refine Res.pure hs ry ?_
          unfold execOp; rw [ho]
          simp [Instr.loadAt, Instr.sureAddr, hcc, loadVar, tk_one h1 h2, hc]
    · cases he
  · cases he

theorem e_loadN (hs : Sim P base w0 φ h w) (hf : FR φ N a ac.tmps) {t : TypeId} {n : Nat} {x : Operand} (hx : opOk P N x = true) (h1 : tk P t = .agg) (h2 : sizeOf? P t = some n) (ho : o.op = .load t x)
    (he : evOp call a h (.loadN n x) = some (v, h')) : Res P base w0 φ h w v h' ((execOp ac.eval o).run P w) := by
  have rx := opd_rel hs hf hx
  simp only [evOp] at he
  split at he
  · rename_i b off hb
    split at he
    · rename_i u hu
      simp only [Option.some.injEq, Prod.mk.injEq] at he
      obtain ⟨rfl, rfl⟩ := he
      rw [hb] at rx
      generalize hcc : ac.eval x = cc at rx
      cases rx with
      | ptr _ _ m hm =>
        obtain ⟨vs', r1, r2, r3, r4⟩ := load_rel hs hm hu
        have hrun := run_loadCells_list (P := P) w ⟨m.blk, m.off + off, none⟩ vs' (fun j u hu => by rw [add_lit]; exact r4 j u hu)
        rw [r3] at hrun
        refine Res.pure hs (VR.agg _ vs'.toArray (by simpa using r1) (by simpa using r2)) ?_
        unfold execOp; rw [ho]
        simp [Instr.loadAt, Instr.sureAddr, hcc, loadVar, tk_agg h1, size_run h2, hrun]
    · cases he
  · cases he

theorem e_store (hs : Sim P base w0 φ h w) (hf : FR φ N a ac.tmps) {t : TypeId} {n : Nat} {x y : Operand} (hx : opOk P N x = true) (hy : opOk P N y = true) (h2 : sizeOf? P t = some n) (ho : o.op = .store t x y)
    (he : evOp call a h (.store n x y) = some (v, h')) : Res P base w0 φ h w v h' ((execOp ac.eval o).run P w) := by
  have rx := opd_rel hs hf hx
  have ry := opd_rel hs hf hy
  simp only [evOp] at he
  split at he
  · rename_i b off hb
    split at he
    · rename_i vs hvs
      split at he
      · rename_i hn
        split at he
        · rename_i g hg
          simp only [Option.some.injEq, Prod.mk.injEq] at he
          obtain ⟨rfl, rfl⟩ := he
          rw [hb] at rx
          generalize hcc : ac.eval x = cc at rx
          obtain ⟨r1, r2⟩ := vcells_rel ry hvs
          cases rx with
          | ptr _ _ m hm =>
            obtain ⟨w', s1, s2, hrun, _⟩ := store_rel hs hm r1 r2 hg
            refine ⟨φ, w', undef, .tuple _ _ .nil, s1, s2, .inr ⟨?_, rfl⟩⟩
            have hl : (ac.eval y).cells.size = n := by rw [← hn, r1.length]; simp
            unfold execOp; rw [ho]
            simp [Instr.storeAt, Instr.sureAddr, hcc, storeVar, size_run h2, hl, hrun]
        · cases he
      · cases he
    · cases he
  · cases he

theorem e_nilck (hs : Sim P base w0 φ h w) (hf : FR φ N a ac.tmps) {x : Operand} (hx : opOk P N x = true) (ho : o.op = .nilCheck x)
    (he : evOp call a h (.nilck x) = some (v, h')) : Res P base w0 φ h w v h' ((execOp ac.eval o).run P w) := by
  have rx := opd_rel hs hf hx
  simp only [evOp] at he
  split at he
  · rename_i p hb
    simp only [Option.some.injEq, Prod.mk.injEq] at he
    obtain ⟨rfl, rfl⟩ := he
    rw [hb] at rx
    generalize hcc : ac.eval x = cc at rx
    cases rx with
    | ptr _ _ m hm =>
      refine Res.pure hs (.ptr _ _ m hm) ?_
      unfold execOp; rw [ho]; simp only [hcc]; rfl
  · rename_i f u u2 hb
    simp only [Option.some.injEq, Prod.mk.injEq] at he
    obtain ⟨rfl, rfl⟩ := he
    rw [hb] at rx
    generalize hcc : ac.eval x = cc at rx
    cases rx with
    | func _ _ _ u' v' hu hv =>
      refine Res.pure hs (.func _ _ _ u' v' hu hv) ?_
      unfold execOp; rw [ho]; simp only [hcc]; rfl
  · rename_i f u u2 hb
    simp only [Option.some.injEq, Prod.mk.injEq] at he
    obtain ⟨rfl, rfl⟩ := he
    rw [hb] at rx
    generalize hcc : ac.eval x = cc at rx
    cases rx with
    | yield _ m hm =>
      refine Res.pure hs (.yield _ m hm) ?_
      unfold execOp; rw [ho]; simp only [hcc]; rfl
  · cases he

theorem constV_rel {v : Value} (hv : constV v = true) : VR φ v v := by
  unfold constV at hv
  split at hv
  · exact .bool _
  · exact .int _ _
  · cases hv

theorem e_bin (hs : Sim P base w0 φ h w) (hf : FR φ N a ac.tmps) {op : BinOp} {t ty : TypeId} {x y : Operand} (hx : opOk P N x = true) (hy : opOk P N y = true) (ho : o.op = .binOp op t x y ty)
    (he : evOp call a h (.bin op x y) = some (v, h')) : Res P base w0 φ h w v h' ((execOp ac.eval o).run P w) := by
  have rx := opd_rel hs hf hx
  have ry := opd_rel hs hf hy
  simp only [evOp] at he
  split at he
  · rename_i k m k' m' h1 h2
    split at he
    · rename_i u hu
      split at he
      · rename_i hcv
        simp only [Option.some.injEq, Prod.mk.injEq] at he
        obtain ⟨rfl, rfl⟩ := he
        rw [h1] at rx
        rw [h2] at ry
        generalize hcx : ac.eval x = cx at rx
        generalize hcy : ac.eval y = cy at ry
        cases rx
        cases ry
        have hb : ∀ t, Go.binOp op t (.int k m) (.int k' m') = Go.binOp op 0 (.int k m) (.int k' m') := by intro t; cases op <;> rfl
        have hg : (eqGuard op t x y (.int k m) (.int k' m')).run P w = .ok () w := by unfold eqGuard; split <;> rfl
        refine Res.pure hs (constV_rel hcv) ?_
        unfold execOp; rw [ho]
        simp [hcx, hcy, hg, hb t, calm_run hu]
      · cases he
    · cases he
  · cases he

theorem e_un (hs : Sim P base w0 φ h w) (hf : FR φ N a ac.tmps) {op : UnOp} {t : TypeId} {x : Operand} (hx : opOk P N x = true) (ho : o.op = .unOp op t x)
    (he : evOp call a h (.un op x) = some (v, h')) : Res P base w0 φ h w v h' ((execOp ac.eval o).run P w) := by
  have rx := opd_rel hs hf hx
  simp only [evOp] at he
  split at he
  all_goals first | (cases he; done) | skip
  all_goals
    rename_i h1
    split at he
    · rename_i u hu
      split at he
      · rename_i hcv
        simp only [Option.some.injEq, Prod.mk.injEq] at he
        obtain ⟨rfl, rfl⟩ := he
        rw [h1] at rx
        generalize hcx : ac.eval x = cx at rx
        cases rx
        refine Res.pure hs (constV_rel hcv) ?_
        unfold execOp; rw [ho]
        simp [hcx, calm_run hu]
      · cases he
    · cases he

theorem e_beq (hs : Sim P base w0 φ h w) (hf : FR φ N a ac.tmps) {op : BinOp} {neg : Bool} {t ty : TypeId} {x y : Operand} (hx : opOk P N x = true) (hy : opOk P N y = true) (ht : tk P t = .bool)
    (hop : (op = .eql ∧ neg = false) ∨ (op = .neq ∧ neg = true)) (ho : o.op = .binOp op t x y ty)
    (he : evOp call a h (.beq neg x y) = some (v, h')) : Res P base w0 φ h w v h' ((execOp ac.eval o).run P w) := by
  have rx := opd_rel hs hf hx
  have ry := opd_rel hs hf hy
  simp only [evOp] at he
  split at he
  · rename_i m m' h1 h2
    simp only [Option.some.injEq, Prod.mk.injEq] at he
    obtain ⟨rfl, rfl⟩ := he
    rw [h1] at rx
    rw [h2] at ry
    generalize hcx : ac.eval x = cx at rx
    generalize hcy : ac.eval y = cy at ry
    cases rx
    cases ry
    have hq : (Op.equal t (.bool m) (.bool m')).run P w = .ok (m == m') w := by
      show (Op.equalIn 10000 t (.bool m) (.bool m')).run P w = _
      exact run_equalIn_bool' w _ t m m' (tk_bool ht)
    refine Res.pure hs (.bool _) ?_
    unfold execOp; rw [ho]
    rcases hop with ⟨rfl, rfl⟩ | ⟨rfl, rfl⟩ <;> simp [hcx, hcy, eqGuard, binOp, hq]
  · cases he

theorem binOp_eql_pp (t : TypeId) (q : Option Addr) : Go.binOp .eql t (.pointer q) (.pointer none) = (do let r ← Op.equal t (.pointer q) (.pointer none); pure (.bool r)) := by cases q <;> rfl
theorem binOp_neq_pp (t : TypeId) (q : Option Addr) : Go.binOp .neq t (.pointer q) (.pointer none) = (do let r ← Op.equal t (.pointer q) (.pointer none); pure (.bool (!r))) := by cases q <;> rfl
theorem binOp_eql_ss (t : TypeId) (q q' : Option Addr) (n c n' c' : Nat) : Go.binOp .eql t (.slice q n c) (.slice q' n' c') = (do let r ← Op.equal t (.slice q n c) (.slice q' n' c'); pure (.bool r)) := rfl
theorem binOp_neq_ss (t : TypeId) (q q' : Option Addr) (n c n' c' : Nat) : Go.binOp .neq t (.slice q n c) (.slice q' n' c') = (do let r ← Op.equal t (.slice q n c) (.slice q' n' c'); pure (.bool (!r))) := rfl

theorem equalIn_pp (d : Nat) {t : TypeId} (ht : tk P t = .ptr) (q : Option Addr) (w : World) : (Op.equalIn (d + 1) t (.pointer q) (.pointer none)).run P w = .ok q.isNone w := by
  obtain ⟨e, hu⟩ := tk_ptr ht
  cases q <;> simp only [Op.equalIn, Sem.run_bind, run_underlying hu, Result.andThen_ok] <;> rfl
theorem equal_pp {t : TypeId} (ht : tk P t = .ptr) (q : Option Addr) (w : World) : (Op.equal t (.pointer q) (.pointer none)).run P w = .ok q.isNone w := equalIn_pp 9999 ht q w

theorem equalIn_ss (d : Nat) {t e : TypeId} (ht : tk P t = .slice e) (q : Option Addr) (n c n' c' : Nat) (w : World) : (Op.equalIn (d + 1) t (.slice q n c) (.slice none n' c')).run P w = .ok q.isNone w := by
  have hu := tk_slice ht
  cases q <;> simp only [Op.equalIn, Sem.run_bind, run_underlying hu, Result.andThen_ok] <;> rfl
theorem equal_ss {t e : TypeId} (ht : tk P t = .slice e) (q : Option Addr) (n c n' c' : Nat) (w : World) : (Op.equal t (.slice q n c) (.slice none n' c')).run P w = .ok q.isNone w := equalIn_ss 9999 ht q n c n' c' w

theorem e_neq (hs : Sim P base w0 φ h w) (hf : FR φ N a ac.tmps) {op : BinOp} {neg : Bool} {t ty : TypeId} {x y : Operand} (hx : opOk P N x = true) (hy : opOk P N y = true) (ht : tk P t = .ptr)
    (hop : (op = .eql ∧ neg = false) ∨ (op = .neq ∧ neg = true)) (ho : o.op = .binOp op t x y ty)
    (he : evOp call a h (.neq neg x y) = some (v, h')) : Res P base w0 φ h w v h' ((execOp ac.eval o).run P w) := by
  have rx := opd_rel hs hf hx
  have ry := opd_rel hs hf hy
  simp only [evOp] at he
  split at he
  · rename_i p h1 h2
    simp only [Option.some.injEq, Prod.mk.injEq] at he
    obtain ⟨rfl, rfl⟩ := he
    rw [h1] at rx
    rw [h2] at ry
    generalize hcx : ac.eval x = cx at rx
    generalize hcy : ac.eval y = cy at ry
    cases ry
    have fin : ∀ q : Option Addr, cx = .pointer q → p.isNone = q.isNone → Res P base w0 φ h w (.bool (if neg then !p.isNone else p.isNone)) h ((execOp ac.eval o).run P w) := by
      intro q hq hpq
      have hk := equal_pp ht q w
      have hg : (eqGuard op t x y (.pointer q) (.pointer none)).run P w = .ok () w := by unfold eqGuard; split <;> rfl
      refine Res.pure hs (.bool _) ?_
      unfold execOp; rw [ho, hpq]
      subst hq
      rcases hop with ⟨rfl, rfl⟩ | ⟨rfl, rfl⟩ <;> simp [hcx, hcy, hg, binOp_eql_pp, binOp_neq_pp, hk]
    cases rx with
    | pnil => exact fin none rfl rfl
    | ptr b o m hm => exact fin _ rfl rfl
  · cases he

theorem e_sneq (hs : Sim P base w0 φ h w) (hf : FR φ N a ac.tmps) {op : BinOp} {neg : Bool} {t ty e : TypeId} {x y : Operand} (hx : opOk P N x = true) (hy : opOk P N y = true) (ht : tk P t = .slice e)
    (hop : (op = .eql ∧ neg = false) ∨ (op = .neq ∧ neg = true)) (ho : o.op = .binOp op t x y ty)
    (he : evOp call a h (.sneq neg x y) = some (v, h')) : Res P base w0 φ h w v h' ((execOp ac.eval o).run P w) := by
  have rx := opd_rel hs hf hx
  have ry := opd_rel hs hf hy
  simp only [evOp] at he
  split at he
  · rename_i p n c n' c' h1 h2
    simp only [Option.some.injEq, Prod.mk.injEq] at he
    obtain ⟨rfl, rfl⟩ := he
    rw [h1] at rx
    rw [h2] at ry
    generalize hcx : ac.eval x = cx at rx
    generalize hcy : ac.eval y = cy at ry
    cases ry
    have fin : ∀ (q : Option Addr) (n2 c2 : Nat), cx = .slice q n2 c2 → p.isNone = q.isNone → Res P base w0 φ h w (.bool (if neg then !p.isNone else p.isNone)) h ((execOp ac.eval o).run P w) := by
      intro q n2 c2 hq hpq
      have hk := equal_ss ht q n2 c2 0 0 w
      have hg : (eqGuard op t x y (.slice q n2 c2) (.slice none 0 0)).run P w = .ok () w := by unfold eqGuard; split <;> rfl
      refine Res.pure hs (.bool _) ?_
      unfold execOp; rw [ho, hpq]
      subst hq
      rcases hop with ⟨rfl, rfl⟩ | ⟨rfl, rfl⟩ <;> simp [hcx, hcy, hg, binOp_eql_ss, binOp_neq_ss, hk]
    cases rx with
    | snil => exact fin none _ _ rfl rfl
    | slice b o o' n c c' m hm h1 h2 h3 h4 => exact fin _ _ _ rfl rfl
  · cases he

theorem e_conv (hs : Sim P base w0 φ h w) (hf : FR φ N a ac.tmps) {s d : TypeId} {k k0 : IntKind} {x : Operand} (hx : opOk P N x = true) (h1 : tk P s = .int k0) (h2 : tk P d = .int k) (ho : o.op = .convert s d x)
    (he : evOp call a h (.conv k x) = some (v, h')) : Res P base w0 φ h w v h' ((execOp ac.eval o).run P w) := by
  have rx := opd_rel hs hf hx
  simp only [evOp] at he
  split at he
  · rename_i k1 m hb
    simp only [Option.some.injEq, Prod.mk.injEq] at he
    obtain ⟨rfl, rfl⟩ := he
    rw [hb] at rx
    generalize hcx : ac.eval x = cx at rx
    cases rx
    refine Res.pure hs (.int _ _) ?_
    unfold execOp; rw [ho]
    simp [hcx, convert, run_underlying (tk_int h1), run_underlying (tk_int h2), Conv.intToInt]
  · cases he

theorem e_fld1 (hs : Sim P base w0 φ h w) (hf : FR φ N a ac.tmps) {t : TypeId} {i : Nat} {fs : Array Field} {f : Field} {x : Operand} (hx : opOk P N x = true) (hu : P.underlying t = some (.struct fs)) (hfi : fs[i]? = some f)
    (h1 : tk P f.type ≠ .agg) (h2 : tk P f.type ≠ .other) (ho : o.op = .field t x i) (he : evOp call a h (.fld1 f.offset x) = some (v, h')) : Res P base w0 φ h w v h' ((execOp ac.eval o).run P w) := by
  have rx := opd_rel hs hf hx
  simp only [evOp] at he
  split at he
  · rename_i cs hb
    split at he
    · rename_i u hv
      simp only [Option.some.injEq, Prod.mk.injEq] at he
      obtain ⟨rfl, rfl⟩ := he
      rw [hb] at rx
      generalize hcx : ac.eval x = cx at rx
      cases rx with
      | agg _ ys hr h1' =>
        obtain ⟨y, e1, e2⟩ := hr.get f.offset u (by simpa using hv)
        have e1' : ys[f.offset]? = some y := by simpa using e1
        refine Res.pure hs e2 ?_
        unfold execOp; rw [ho]
        simp [hcx, Instr.field, run_underlying hu, hfi, asAgg, part, tk_one h1 h2, e1']
    · cases he
  · cases he

theorem e_fldN (hs : Sim P base w0 φ h w) (hf : FR φ N a ac.tmps) {t : TypeId} {i n : Nat} {fs : Array Field} {f : Field} {x : Operand} (hx : opOk P N x = true) (hu : P.underlying t = some (.struct fs)) (hfi : fs[i]? = some f)
    (h1 : tk P f.type = .agg) (h2 : sizeOf? P f.type = some n) (ho : o.op = .field t x i) (he : evOp call a h (.fldN n f.offset x) = some (v, h')) : Res P base w0 φ h w v h' ((execOp ac.eval o).run P w) := by
  have rx := opd_rel hs hf hx
  simp only [evOp] at he
  split at he
  · rename_i cs hb
    simp only [Option.some.injEq, Prod.mk.injEq] at he
    obtain ⟨rfl, rfl⟩ := he
    rw [hb] at rx
    generalize hcx : ac.eval x = cx at rx
    cases rx with
    | agg _ ys hr h1' =>
      refine Res.pure hs (.agg _ (ys.extract f.offset (f.offset + n)) (VRs.of ?_ fun j z hz => ?_) fun u hu => ?_) ?_
      · have := hr.length; simp at this; simp [this]
      · simp only [Array.toList_extract, List.extract_eq_take_drop, List.getElem?_take, List.getElem?_drop] at hz ⊢
        split at hz
        · rename_i hj
          obtain ⟨y, e1, e2⟩ := hr.get _ _ hz
          exact ⟨y, by rw [if_pos hj]; exact e1, e2⟩
        · cases hz
      · simp only [Array.toList_extract, List.extract_eq_take_drop] at hu
        exact h1' u (List.mem_of_mem_drop (List.mem_of_mem_take hu))
      · unfold execOp; rw [ho]
        simp [hcx, Instr.field, run_underlying hu, hfi, asAgg, part, tk_agg h1, size_run h2]
  · cases he

theorem e_faddr (hs : Sim P base w0 φ h w) (hf : FR φ N a ac.tmps) {t : TypeId} {i n : Nat} {fs : Array Field} {f : Field} {x : Operand} (hx : opOk P N x = true) (hu : P.underlying t = some (.struct fs)) (hfi : fs[i]? = some f)
    (h2 : sizeOf? P f.type = some n) (hn : n ≠ 0) (ho : o.op = .fieldAddr t x i) (he : evOp call a h (.faddr f.offset x) = some (v, h')) : Res P base w0 φ h w v h' ((execOp ac.eval o).run P w) := by
  have rx := opd_rel hs hf hx
  simp only [evOp] at he
  split at he
  · rename_i b off hb
    simp only [Option.some.injEq, Prod.mk.injEq] at he
    obtain ⟨rfl, rfl⟩ := he
    rw [hb] at rx
    generalize hcx : ac.eval x = cx at rx
    cases rx with
    | ptr _ _ m hm =>
      refine Res.pure hs (.ptr _ _ m hm) ?_
      unfold execOp; rw [ho]
      simp [hcx, Instr.fieldAt, run_underlying hu, hfi, Instr.sureAddr, fieldPlace, size_run h2, hn, add_lit, Nat.add_assoc]
  · cases he

theorem e_iaddr (hs : Sim P base w0 φ h w) (hf : FR φ N a ac.tmps) {t e : TypeId} {n : Nat} {x i : Operand} (hx : opOk P N x = true) (hi : opOk P N i = true) (hu : P.underlying t = some (.slice e))
    (h2 : sizeOf? P e = some n) (ho : o.op = .indexAddr t x i) (he : evOp call a h (.iaddr n x i) = some (v, h')) : Res P base w0 φ h w v h' ((execOp ac.eval o).run P w) := by
  have rx := opd_rel hs hf hx
  have ri := opd_rel hs hf hi
  simp only [evOp] at he
  split at he
  · rename_i b off len c k j h1 h3
    split at he
    · rename_i hr
      simp only [Option.some.injEq, Prod.mk.injEq] at he
      obtain ⟨rfl, rfl⟩ := he
      rw [h1] at rx
      rw [h3] at ri
      generalize hcx : ac.eval x = cx at rx
      generalize hci : ac.eval i = ci at ri
      cases ri
      cases rx with
      | slice _ _ o' _ _ c' m hm g1 g2 g3 g4 =>
        have := g3 (by omega)
        subst this
        refine Res.pure hs (.ptr _ _ m hm) ?_
        unfold execOp; rw [ho]
        simp [hcx, hci, Instr.indexAt, run_underlying hu, asIntOf, hr.1, hr.2, size_run h2, add_lit, Nat.add_assoc]
    · cases he
  · cases he

theorem e_iaddrA (hs : Sim P base w0 φ h w) (hf : FR φ N a ac.tmps) {t e : TypeId} {n len : Nat} {x i : Operand} (hx : opOk P N x = true) (hi : opOk P N i = true) (hu : P.underlying t = some (.array len e))
    (h2 : sizeOf? P e = some n) (ho : o.op = .indexAddr t x i) (he : evOp call a h (.iaddrA len n x i) = some (v, h')) : Res P base w0 φ h w v h' ((execOp ac.eval o).run P w) := by
  have rx := opd_rel hs hf hx
  have ri := opd_rel hs hf hi
  simp only [evOp] at he
  split at he
  · rename_i b off k j h1 h3
    split at he
    · rename_i hr
      simp only [Option.some.injEq, Prod.mk.injEq] at he
      obtain ⟨rfl, rfl⟩ := he
      rw [h1] at rx
      rw [h3] at ri
      generalize hcx : ac.eval x = cx at rx
      generalize hci : ac.eval i = ci at ri
      cases ri
      cases rx with
      | ptr _ _ m hm =>
        refine Res.pure hs (.ptr _ _ m hm) ?_
        unfold execOp; rw [ho]
        simp [hcx, hci, Instr.indexAt, run_underlying hu, asIntOf, hr.1, hr.2, size_run h2, add_lit, Nat.add_assoc, Instr.sureAddr]
    · cases he
  · cases he

theorem e_idx1 (hs : Sim P base w0 φ h w) (hf : FR φ N a ac.tmps) {t e : TypeId} {n len : Nat} {x i : Operand} (hx : opOk P N x = true) (hi : opOk P N i = true) (hu : P.underlying t = some (.array len e))
    (h2 : sizeOf? P e = some n) (h1' : tk P e ≠ .agg) (h2' : tk P e ≠ .other) (ho : o.op = .index t x i) (he : evOp call a h (.idx1 len n x i) = some (v, h')) : Res P base w0 φ h w v h' ((execOp ac.eval o).run P w) := by
  have rx := opd_rel hs hf hx
  have ri := opd_rel hs hf hi
  simp only [evOp] at he
  split at he
  · rename_i cs k j h1 h3
    split at he
    · rename_i hr
      split at he
      · rename_i u hv
        simp only [Option.some.injEq, Prod.mk.injEq] at he
        obtain ⟨rfl, rfl⟩ := he
        rw [h1] at rx
        rw [h3] at ri
        generalize hcx : ac.eval x = cx at rx
        generalize hci : ac.eval i = ci at ri
        cases ri
        cases rx with
        | agg _ ys hrr h1'' =>
          obtain ⟨y, e1, e2⟩ := hrr.get (j.toNat * n) u (by simpa using hv)
          have e1' : ys[j.toNat * n]? = some y := by simpa using e1
          refine Res.pure hs e2 ?_
          unfold execOp; rw [ho]
          simp [hcx, hci, Instr.index, run_underlying hu, asIntOf, hr.1, hr.2, size_run h2, part, tk_one h1' h2', e1']
      · cases he
    · cases he
  · cases he

theorem e_len (hs : Sim P base w0 φ h w) (hf : FR φ N a ac.tmps) {t e : TypeId} {x : Operand} {args : Array Operand} {tys : Array TypeId} (hx : opOk P N x = true) (ht : tk P t = .slice e) (ha : args.toList = [x]) (hy : tys.toList = [t])
    (ho : o.op = .call ⟨.builtin .len, args, tys⟩) (he : evOp call a h (.len x) = some (v, h')) : Res P base w0 φ h w v h' ((execOp ac.eval o).run P w) := by
  have rx := opd_rel hs hf hx
  obtain rfl : args = #[x] := by cases args; simp at ha; subst ha; rfl
  obtain rfl : tys = #[t] := by cases tys; simp at hy; subst hy; rfl
  simp only [evOp] at he
  split at he
  · rename_i p n c h1
    simp only [Option.some.injEq, Prod.mk.injEq] at he
    obtain ⟨rfl, rfl⟩ := he
    rw [h1] at rx
    generalize hcx : ac.eval x = cx at rx
    have fin : ∀ q c2, cx = .slice q n c2 → Res P base w0 φ h w (.int .i64 n) h ((execOp ac.eval o).run P w) := by
      intro q c2 hq
      refine Res.pure hs (.int _ _) ?_
      unfold execOp; rw [ho]
      subst hq
      simp [hcx, resolve, invoke, builtin, Builtin.len_, run_underlying (tk_slice ht), goInt]
    cases rx with
    | snil => exact fin _ _ rfl
    | slice b o o' n c c' m hm h1 h2 h3 h4 => exact fin _ _ rfl
  · cases he

theorem e_minmax (hs : Sim P base w0 φ h w) (hf : FR φ N a ac.tmps) {mx : Bool} {b : Builtin} {x y : Operand} {args : Array Operand} {tys : Array TypeId} (hx : opOk P N x = true) (hy : opOk P N y = true) (hb : (b = .max ∧ mx = true) ∨ (b = .min ∧ mx = false)) (ha : args.toList = [x, y])
    (ho : o.op = .call ⟨.builtin b, args, tys⟩) (he : evOp call a h (.minmax mx x y) = some (v, h')) : Res P base w0 φ h w v h' ((execOp ac.eval o).run P w) := by
  have rx := opd_rel hs hf hx
  have ry := opd_rel hs hf hy
  obtain rfl : args = #[x, y] := by cases args; simp at ha; subst ha; rfl
  simp only [evOp] at he
  split at he
  · rename_i k m k' m' h1 h2
    simp only [Option.some.injEq, Prod.mk.injEq] at he
    obtain ⟨rfl, rfl⟩ := he
    rw [h1] at rx
    rw [h2] at ry
    generalize hcx : ac.eval x = cx at rx
    generalize hcy : ac.eval y = cy at ry
    cases rx
    cases ry
    refine Res.pure hs (.int _ _) ?_
    unfold execOp; rw [ho]
    rcases hb with ⟨rfl, rfl⟩ | ⟨rfl, rfl⟩ <;> simp [hcx, hcy, resolve, invoke, builtin, Builtin.max_, Builtin.min_, Builtin.max2, Builtin.min2]
  · cases he

theorem e_mkfn (hs : Sim P base w0 φ h w) (hf : FR φ N a ac.tmps) {f : FuncId} {u2 v2 : Array Operand} (hx : u2.toList.all (opOk P N) = true) (hy : v2.toList.all (opOk P N) = true)
    (ho : o.op = .makeFunc (.func f) u2 v2) (he : evOp call a h (.mkfn f u2.toList v2.toList) = some (v, h')) : Res P base w0 φ h w v h' ((execOp ac.eval o).run P w) := by
  simp only [evOp, Option.some.injEq, Prod.mk.injEq] at he
  obtain ⟨rfl, rfl⟩ := he
  refine Res.pure hs (.func f _ _ (u2.map ac.eval) (v2.map ac.eval) ?_ ?_) ?_
  · simpa using opds_rel hs hf hx
  · simpa using opds_rel hs hf hy
  · unfold execOp; rw [ho]; simp [Instr.makeFunc]

theorem e_ext (hs : Sim P base w0 φ h w) (hf : FR φ N a ac.tmps) {x : Operand} {i : Nat} (hx : opOk P N x = true) (ho : o.op = .extract x i) (he : evOp call a h (.ext x i) = some (v, h')) : Res P base w0 φ h w v h' ((execOp ac.eval o).run P w) := by
  have rx := opd_rel hs hf hx
  simp only [evOp] at he
  split at he
  · rename_i vs hb
    split at he
    · rename_i u hv
      simp only [Option.some.injEq, Prod.mk.injEq] at he
      obtain ⟨rfl, rfl⟩ := he
      rw [hb] at rx
      generalize hcx : ac.eval x = cx at rx
      cases rx with
      | tuple _ ys hr =>
        obtain ⟨y, e1, e2⟩ := hr.get i u (by simpa using hv)
        have e1' : ys[i]? = some y := by simpa using e1
        refine Res.pure hs e2 ?_
        unfold execOp; rw [ho]
        simp [hcx, Instr.extract, e1']
    · cases he
  · cases he

end
end Go.Am
