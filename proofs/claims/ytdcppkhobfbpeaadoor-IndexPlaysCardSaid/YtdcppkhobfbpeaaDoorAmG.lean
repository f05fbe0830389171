/-
  Each operation of the abstract machine is the model's: append; and all of them together.
-/
import Derived.Test.YtdcppkhobfbpeaaDoorAmF
set_option linter.unusedVariables false
set_option linter.unusedSimpArgs false
namespace Go.Am
open Go Go.RowKit

section
variable {P : Program} {base : Nat} {w0 : World} {φ : Map} {h : Heap} {w : World} {N : Nat} {a : Nat → Value} {ac : Act} {call : CallT} {v : Value} {h' : Heap} {o : Oper}

/-- An append of nothing. -/
theorem run_append_zero (w : World) {t e ty : TypeId} {i : TypeInfo} (ht : P.underlying t = some (.slice e)) (hi : P.info? e = some i) (q r : Option Addr) (n c c2 : Nat) (hn : n ≤ c) :
    (Builtin.append_ #[t, t] ty #[.slice q n c, .slice r 0 c2]).run P w = .ok (.slice q n c) w := by
  have hl : ∀ (x : Addr), (loadCells x 0).run P w = .ok #[] w := fun x => by simpa using run_loadCells_list (P := P) w x [] (by simp)
  cases q <;> cases r <;> simp [Builtin.append_, run_underlying ht, sizeOf, typeInfo, hi, Builtin.lenOf, Builtin.firstCells, hn, hl, storeCells]

/-- A block made of what an append leaves in new memory. -/
theorem add_grown (hs : Sim P base w0 φ h w) {e : TypeId} {i : TypeInfo} {z : Value} (hi : P.info? e = some i) (hz : i.zero = some z) {cs cs' : List Value} {n cap : Nat} (hc : VRs φ cs cs') (h1 : ∀ u ∈ cs', u.oneCell' = true) (hlen : cs'.length = n * i.size) (hn : n ≤ cap)
    (cells : Array Value) (hcl : cells.toList = cs' ++ (Builtin.zeroCells z.cells (cap - n)).toList) (hzs : z.cells.size = i.size) :
    ∃ φ', φ' h.n = some ⟨w.heap.size, 0, false, cap * i.size, i.size⟩ ∧ Sim P base w0 φ' (h.push (.cells cs e false)) (w.drew.alloc (.cells cells e)) ∧ Step φ h w φ' (h.push (.cells cs e false)) (w.drew.alloc (.cells cells e)) := by
  have hcz : P.cellsOf e = i.size := by simp [Program.cellsOf, hi]
  have hnew : (w.drew.alloc (.cells cells e)).heap[w.heap.size]? = some (.cells cells e (0, 0)) := World.alloc_heap_new w.drew _
  have hold : ∀ j, j < w.heap.size → (w.drew.alloc (.cells cells e)).heap[j]? = w.heap[j]? := fun j hj => Below.heap_alloc w.drew _ j hj
  have hsub : ∀ b m', φ b = some m' → (φ.add h.n ⟨w.heap.size, 0, false, cap * i.size, i.size⟩) b = some m' := fun b m' e' => by
    have := hs.dom b m' e'
    unfold Map.add; rw [if_neg (by omega)]; exact e'
  have hsz : cells.size = cap * i.size := by
    have := congrArg List.length hcl
    simp only [Array.length_toList, List.length_append, hlen, size_zeroCells, hzs] at this
    rw [this, ← Nat.add_mul]; congr 1; omega
  refine ⟨φ.add h.n ⟨w.heap.size, 0, false, cap * i.size, i.size⟩, by simp [Map.add], hs.add _ _ rfl hs.base_le (by simp) (by simp) (fun j hj _ => hold j hj) (fun b m' e1 e2 _ => ?_) rfl rfl rfl ?_, hs.add_step _ _ rfl (by simp) (fun j hj _ => hold j hj) rfl⟩
  · have := (hs.high b m' e1 e2).2
    intro e3; simp at e3; omega
  · refine ⟨rfl, rfl, hcz, cells, hnew, hsz, ?_, fun j v hv => ?_⟩
    · rw [hsz, hc.length, hlen]; exact Nat.mul_le_mul_right _ hn
    · obtain ⟨v', e1, e2⟩ := hc.get j v hv
      have hj : j < cs'.length := (List.getElem?_eq_some_iff.1 e1).1
      refine ⟨v', ?_, e2.mono hsub, h1 v' (List.mem_of_getElem? e1)⟩
      rw [← Array.getElem?_toList, hcl, List.getElem?_append_left hj]
      exact e1

theorem e_app (hs : Sim P base w0 φ h w) (hf : FR φ N a ac.tmps) {t e : TypeId} {i : TypeInfo} {x y : Operand} {args : Array Operand} {tys : Array TypeId} (hx : opOk P N x = true) (hy : opOk P N y = true) (ht : tk P t = .slice e) (hi : P.info? e = some i) {z : Value} (hz : i.zero = some z) (hzs : z.cells.size = i.size)
    (hsz : 0 < i.size) (ha : args.toList = [x, y]) (hty : tys.toList = [t, t]) (ho : o.op = .call ⟨.builtin .append, args, tys⟩) (he : evOp call a h (.app e i.size i.bytes x y) = some (v, h')) :
    Res P base w0 φ h w v h' ((execOp ac.eval o).run P w) := by
  have rx := opd_rel hs hf hx
  have ry := opd_rel hs hf hy
  obtain rfl : args = #[x, y] := by cases args; simp at ha; subst ha; rfl
  obtain rfl : tys = #[t, t] := by cases tys; simp at hty; subst hty; rfl
  have hu := tk_slice ht
  have hcz : P.cellsOf e = i.size := by simp [Program.cellsOf, hi]
  have hexec : ∀ (vx vy vr : Value) (w' : World), ac.eval x = vx → ac.eval y = vy → (Builtin.append_ #[t, t] o.type #[vx, vy]).run P w = .ok vr w' → (execOp ac.eval o).run P w = .ok (.value vr) w' := by
    intro vx vy vr w' h1 h2 h3
    subst h1 h2
    unfold execOp; rw [ho]
    simp [resolve, invoke, builtin, h3]
  simp only [evOp, appV] at he
  split at he
  · rename_i A n c B m c2 h1 h2
    rw [h1] at rx
    rw [h2] at ry
    generalize hcx : ac.eval x = cx at rx
    generalize hcy : ac.eval y = cy at ry
    split at he
    · -- nothing is appended
      rename_i hm0
      subst hm0
      simp only [Option.some.injEq, Prod.mk.injEq] at he
      obtain ⟨rfl, rfl⟩ := he
      rw [h1]
      have yform : ∃ r c3, cy = .slice r 0 c3 := by cases ry <;> exact ⟨_, _, rfl⟩
      obtain ⟨r, c3, rfl⟩ := yform
      cases rx with
      | snil => exact Res.pure hs .snil (hexec _ _ _ _ hcx hcy (run_append_zero w hu hi none r 0 0 c3 (Nat.le_refl _)))
      | slice b o1 o' _ _ c' mm g0 g1 g2 g3 g4 =>
        exact Res.pure hs (.slice b o1 o' _ _ c' mm g0 g1 g2 g3 g4) (hexec _ _ _ _ hcx hcy (run_append_zero w hu hi _ r n c' c3 (by omega)))
    · rename_i hm0
      split at he
      · cases he
      · rename_i b off
        split at he
        · cases he
        · rename_i news hnews
          split at he
          · cases he
          · rename_i hlim
            simp only [Classical.not_not] at hlim
            obtain ⟨hbytes, h63⟩ := hlim
            cases ry with
            | slice _ _ oy _ _ cy' my y0 y1 y2 y3 y4 =>
              have hoy := y3 (by omega)
              subst hoy
              obtain ⟨news', n1, n2, n3, n4⟩ := load_rel hs y0 hnews
              have ncell : ∀ j u, news'[j]? = some u → w.cell? ((⟨my.blk, my.off + off, none⟩ : Addr).add j) = some u := fun j u hu => by rw [add_lit]; exact n4 j u hu
              split at he
              · -- onto nil
                split at he
                · rename_i hnc
                  simp only [Option.some.injEq, Prod.mk.injEq] at he
                  obtain ⟨rfl, rfl⟩ := he
                  obtain ⟨rfl, rfl⟩ := hnc
                  simp only [Nat.zero_add] at hbytes h63
                  cases rx with
                  | snil =>
                    have hr := run_append_nil (P := P) w t o.type e i z hu hi hz ⟨my.blk, my.off + off, none⟩ m cy' news' n3 ncell (by omega) (by omega) (by omega)
                    obtain ⟨φ', f1, s1, s2⟩ := add_grown hs hi hz (n := m) (cap := grownCap w m 0 e) n1 n2 n3 (grownCap_ge w m 0 e) (news'.toArray ++ Builtin.zeroCells z.cells (grownCap w m 0 e - m)) (by simp) hzs
                    refine ⟨φ', _, _, ?_, s1, s2, .inl (hexec _ _ _ _ hcx hcy hr)⟩
                    exact .slice h.n 0 0 m m (grownCap w m 0 e) _ f1 (Nat.le_refl _) (grownCap_ge w m 0 e) (by simp) (by simp)
                · cases he
              · rename_i g
                cases rx with
                | slice _ _ ox _ _ c' mx x0 x1 x2 x3 x4 =>
                  split at he
                  · rename_i cells e' hg
                    split at he
                    · rename_i hee
                      subst hee
                      have hrel := hs.rel g mx x0
                      rw [hg] at hrel
                      obtain ⟨hro, hoff, hesz, cur, hcur, hroom, hfit, hpt⟩ := hrel
                      have hlive : h.get g ≠ .dead := by rw [hg]; intro e; cases e
                      have x4' := x4 hro
                      rw [hoff, ← hesz, hcz] at x4'
                      split at he
                      · -- within the capacity
                        rename_i hcap
                        split at he
                        · rename_i g' hg'
                          simp only [Option.some.injEq, Prod.mk.injEq] at he
                          obtain ⟨rfl, rfl⟩ := he
                          obtain ⟨w', s1, s2, hrun, cur2, e2, k1, k2, k3⟩ := store_rel hs x0 n1 n2 hg'
                          rw [hcur] at k1; cases k1
                          have hox := x3 (by omega)
                          rw [hoff] at hox k2 k3
                          simp only [Nat.zero_add] at hox k2 k3
                          subst hox
                          have hr := run_append_room (P := P) w t o.type e' i hu hi mx.blk n c' cur hcur ⟨my.blk, my.off + off, none⟩ m cy' news' n3 ncell n2 (by omega) k2
                          rw [← k3] at hr
                          refine ⟨φ, w', _, ?_, s1, s2, .inl (hexec _ _ _ _ hcx hcy hr)⟩
                          exact .slice g 0 0 _ _ c' mx x0 (by omega) x2 (by intro _; omega) x4
                        · cases he
                      · rename_i hcap
                        split at he
                        · rename_i olds holds
                          simp only [Option.some.injEq, Prod.mk.injEq] at he
                          obtain ⟨rfl, rfl⟩ := he
                          obtain ⟨olds', o1, o2, o3, o4⟩ := load_rel hs x0 holds
                          obtain ⟨sk, tk2⟩ := hs.kill g (by rw [x0]; rfl)
                          by_cases hroom2 : n + m ≤ c'
                          · -- memory has room
                            have hox := x3 (by omega)
                            rw [hoff] at hox
                            simp only [Nat.zero_add] at hox
                            subst hox
                            have hfit2 : n * i.size + news'.length ≤ cur.size := by
                              rw [n3, ← Nat.add_mul]
                              have := Nat.mul_le_mul_right i.size hroom2
                              omega
                            have hr := run_append_room (P := P) w t o.type e' i hu hi mx.blk n c' cur hcur ⟨my.blk, my.off + off, none⟩ m cy' news' n3 ncell n2 hroom2 hfit2
                            have hnm : n * i.size + m * i.size = (n + m) * i.size := (Nat.add_mul _ _ _).symm
                            have hsub : ∀ b m', φ b = some m' → (φ.add h.n ⟨mx.blk, 0, false, mx.room, i.size⟩) b = some m' := fun b m' e' => by
                              have := hs.dom b m' e'
                              unfold Map.add; rw [if_neg (by omega)]; exact e'
                            have hhi := hs.high g mx x0 hro
                            have holdcell : ∀ (j : Nat) (u : Value), olds'[j]? = some u → cur[j]? = some u := by
                              intro j u hu
                              have := o4 j u hu
                              rw [hoff] at this
                              simp only [Nat.zero_add] at this
                              simp only [World.cell?, hcur] at this
                              simpa using this
                            have s1 : Sim P base w0 (φ.add h.n ⟨mx.blk, 0, false, mx.room, i.size⟩) ((h.set g .dead).push (.cells (olds ++ news) e' false)) (w.setRow mx.blk (cur.toList.take (n * i.size) ++ news' ++ cur.toList.drop (n * i.size + news'.length)).toArray) := by
                              refine sk.add _ ⟨mx.blk, 0, false, mx.room, i.size⟩ rfl hhi.1 (by simpa using hhi.2) (by simp) (fun j _ hj => setRow_other w _ _ _ hj) (fun b m' e1 e2 e3 e4 => ?_) rfl rfl rfl ?_
                              · rw [Heap.get_set] at e3
                                split at e3
                                · exact e3 rfl
                                · rename_i hne
                                  exact hne (hs.inj b g m' mx e1 x0 e2 hro e3 hlive e4)
                              · refine ⟨rfl, rfl, hcz, _, setRow_heap w mx.blk cur _ e' (0, 0) hcur, ?_, ?_, fun j v hv => ?_⟩
                                · simp; omega
                                · have h1 := o1.length
                                  have h2 := n1.length
                                  simp; omega
                                · rw [List.getElem?_toArray, get_splice _ _ _ _ (by simpa using hfit2)]
                                  obtain ⟨v', e1, e2⟩ := (o1.append n1).get j v hv
                                  by_cases hj : j < olds'.length
                                  · rw [if_neg (by omega)]
                                    rw [List.getElem?_append_left hj] at e1
                                    exact ⟨v', by simpa using holdcell j v' e1, e2.mono hsub, o2 v' (List.mem_of_getElem? e1)⟩
                                  · rw [List.getElem?_append_right (by omega)] at e1
                                    have hj2 := (List.getElem?_eq_some_iff.1 e1).1
                                    rw [if_pos (by omega), ← o3]
                                    exact ⟨v', e1, e2.mono hsub, n2 v' (List.mem_of_getElem? e1)⟩
                            refine ⟨_, _, _, ?_, s1, ?_, .inl (hexec _ _ _ _ hcx hcy hr)⟩
                            · exact .slice h.n 0 0 _ _ c' ⟨mx.blk, 0, false, mx.room, i.size⟩ (by simp [Map.add]) (Nat.le_refl _) hroom2 (by simp) (by intro _; show 0 + 0 + c' * i.size ≤ mx.room; omega)
                            · refine ⟨by rw [Heap.n_push, Heap.n_set]; omega, fun b hb => by unfold Map.add; rw [if_neg (by omega)], fun b hb hd => ?_, fun b hb hf => ?_, by simp, fun j _ hf => setRow_other w _ _ _ (fun e => hf g mx x0 hro hlive e.symm), fun b m' hb e => ?_⟩
                              · rw [Heap.get_push, if_neg (by rw [Heap.n_set]; omega), Heap.get_set]
                                split
                                · rfl
                                · exact hd
                              · rw [Heap.get_push, if_neg (by rw [Heap.n_set]; omega), Heap.get_set, if_neg]
                                rintro rfl; rw [x0] at hf; cases hf
                              · unfold Map.add at e
                                by_cases hbn : b = h.n
                                · rw [if_pos hbn] at e; cases e; exact ⟨rfl, .inr ⟨g, mx, x0, hro, hlive, rfl⟩⟩
                                · rw [if_neg hbn] at e; have := hs.dom b m' e; omega
                          · have hr := run_append_grow (P := P) w t o.type e' i z hu hi hz ⟨mx.blk, ox, none⟩ n c' olds' o3 (fun j u hu => ?_) ⟨my.blk, my.off + off, none⟩ m cy' news' n3 ncell (by omega) (by omega) (growslice_fits (by omega) hbytes)
                            · have hlen : (olds' ++ news').length = (n + m) * i.size := by rw [List.length_append, o3, n3, Nat.add_mul]
                              obtain ⟨φ', f1, s1, s2⟩ := add_grown sk hi hz (n := n + m) (cap := grownCap w (n + m) c' e') (o1.append n1) (fun u hu => by rcases List.mem_append.1 hu with h | h; exact o2 u h; exact n2 u h) hlen (grownCap_ge w (n + m) c' e')
                                (olds'.toArray ++ news'.toArray ++ Builtin.zeroCells z.cells (grownCap w (n + m) c' e' - (n + m))) (by simp) hzs
                              refine ⟨φ', _, _, ?_, s1, Step.trans hs sk tk2 s2, .inl (hexec _ _ _ _ hcx hcy hr)⟩
                              exact .slice h.n 0 0 _ _ (grownCap w (n + m) c' e') _ f1 (Nat.le_refl _) (grownCap_ge w (n + m) c' e') (by simp) (by simp)
                            · have hj : j < olds'.length := (List.getElem?_eq_some_iff.1 hu).1
                              have hn0 : n ≠ 0 := by intro e; rw [o3, e] at hj; simp at hj
                              have hox := x3 (by omega)
                              rw [add_lit, hox]
                              have := o4 j u hu
                              simpa using this
                        · cases he
                    · cases he
                  · cases he
              · cases he
      · cases he
  · cases he

def isCallI : IOp → Bool
  | .call _ _ => true
  | _ => false

/-- All operations without calls. -/
theorem evOp_sound (hs : Sim P base w0 φ h w) (hf : FR φ N a ac.tmps) {io : IOp} (hc : compOp P N o.op = some io) (hn : isCallI io = false) (he : evOp call a h io = some (v, h')) :
    Res P base w0 φ h w v h' ((execOp ac.eval o).run P w) := by
  cases hop : o.op <;> rw [hop] at hc <;> simp only [compOp] at hc
  case move x => split at hc <;> first | (cases hc; done) | (cases hc; exact e_mov hs hf ‹_› (.inl hop) he)
  case assign x => split at hc <;> first | (cases hc; done) | (cases hc; exact e_mov hs hf ‹_› (.inr hop) he)
  case pick c x y =>
    split at hc
    · rename_i hcc
      simp only [Bool.and_eq_true] at hcc
      cases hc; exact e_pick hs hf hcc.1.1 hcc.1.2 hcc.2 hop he
    · cases hc
  case alloc e =>
    split at hc
    · rename_i z hz; cases hc; exact e_alloc hs hz hop he
    · cases hc
  case box e x => split at hc <;> first | (cases hc; done) | (cases hc; exact e_box hs hf ‹_› hop he)
  case build t ps =>
    split at hc
    · rename_i hb
      split at hc
      · rename_i z hz
        split at hc
        · rename_i l hl
          cases hc; exact e_build hs hf hb hz hl hop he
        · cases hc
      · cases hc
    · cases hc
  case buildSlice t len ps =>
    split at hc
    · rename_i e ht
      split at hc
      · rename_i i hi
        split at hc
        · rename_i z hz
          split at hc
          · rename_i hlen
            split at hc
            · rename_i l hl
              cases hc; exact e_bslice hs hf ht hi hz hlen.1 hl hop he hlen.2
            · cases hc
          · cases hc
        · cases hc
      · cases hc
    · cases hc
  case load t x =>
    split at hc
    · rename_i hx
      split at hc
      · rename_i htk
        split at hc
        · rename_i n hn2; cases hc; exact e_loadN hs hf hx htk hn2 hop he
        · cases hc
      · cases hc
      · rename_i h1 h2
        cases hc; exact e_load1 hs hf hx h1 h2 hop he
    · cases hc
  case store t x y =>
    split at hc
    · rename_i hx
      simp only [Bool.and_eq_true] at hx
      split at hc
      · rename_i n hn2; cases hc; exact e_store hs hf hx.1 hx.2 hn2 hop he
      · cases hc
    · cases hc
  case nilCheck x => split at hc <;> first | (cases hc; done) | (cases hc; exact e_nilck hs hf ‹_› hop he)
  case binOp op t x y ty =>
    unfold compBin at hc
    split at hc
    · cases hc
    · rename_i hxy
      simp only [Bool.not_eq_true', Bool.not_eq_false, Bool.and_eq_true] at hxy
      split at hc
      · cases hc; exact e_bin hs hf hxy.1 hxy.2 hop he
      · rename_i ht
        split at hc
        · cases hc; exact e_beq hs hf hxy.1 hxy.2 ht (.inl ⟨rfl, rfl⟩) hop he
        · cases hc; exact e_beq hs hf hxy.1 hxy.2 ht (.inr ⟨rfl, rfl⟩) hop he
        · cases hc
      · split at hc
        · cases hc
        · rename_i l hl
          split at hc
          · cases hc; exact e_seq hs hf hxy.1 hxy.2 hl (.inl ⟨rfl, rfl⟩) hop he
          · cases hc; exact e_seq hs hf hxy.1 hxy.2 hl (.inr ⟨rfl, rfl⟩) hop he
          · cases hc
      · rename_i ht
        split at hc
        · split at hc
          · cases hc; exact e_neq hs hf hxy.1 hxy.2 ht (.inl ⟨rfl, rfl⟩) hop he
          · cases hc; exact e_neq hs hf hxy.1 hxy.2 ht (.inr ⟨rfl, rfl⟩) hop he
          · cases hc
        · cases hc
      · rename_i e ht
        split at hc
        · split at hc
          · cases hc; exact e_sneq hs hf hxy.1 hxy.2 ht (.inl ⟨rfl, rfl⟩) hop he
          · cases hc; exact e_sneq hs hf hxy.1 hxy.2 ht (.inr ⟨rfl, rfl⟩) hop he
          · cases hc
        · cases hc
      · cases hc
  case unOp op t x => split at hc <;> first | (cases hc; done) | (cases hc; exact e_un hs hf ‹_› hop he)
  case convert s d x =>
    split at hc
    · rename_i hx
      split at hc
      · rename_i k0 k h1 h2; cases hc; exact e_conv hs hf hx h1 h2 hop he
      · cases hc
    · cases hc
  case field t x i =>
    split at hc
    · rename_i hx
      split at hc
      · rename_i fs hu
        split at hc
        · rename_i f hfi
          split at hc
          · rename_i htk
            split at hc
            · rename_i n hn2; cases hc; exact e_fldN hs hf hx hu hfi htk hn2 hop he
            · cases hc
          · cases hc
          · rename_i h1 h2
            cases hc; exact e_fld1 hs hf hx hu hfi h1 h2 hop he
        · cases hc
      · cases hc
    · cases hc
  case fieldAddr t x i =>
    split at hc
    · rename_i hx
      split at hc
      · rename_i fs hu
        split at hc
        · rename_i f hfi
          split at hc
          · cases hc
          · rename_i n hn2 hn3
            cases hc; exact e_faddr hs hf hx hu hfi hn3 (by intro e; subst e; exact hn2 rfl) hop he
          · cases hc
        · cases hc
      · cases hc
    · cases hc
  case indexAddr t x i =>
    split at hc
    · rename_i hx
      simp only [Bool.and_eq_true] at hx
      split at hc
      · rename_i e hu
        split at hc
        · rename_i n hn2; cases hc; exact e_iaddr hs hf hx.1 hx.2 hu hn2 hop he
        · cases hc
      · rename_i len e hu
        split at hc
        · rename_i n hn2; cases hc; exact e_iaddrA hs hf hx.1 hx.2 hu hn2 hop he
        · cases hc
      · cases hc
    · cases hc
  case index t x i =>
    split at hc
    · rename_i hx
      simp only [Bool.and_eq_true] at hx
      split at hc
      · rename_i len e hu
        split at hc
        · rename_i n hn2
          split at hc
          · cases hc
          · cases hc
          · rename_i h1 h2; cases hc; exact e_idx1 hs hf hx.1 hx.2 hu hn2 h1 h2 hop he
        · cases hc
      · cases hc
    · cases hc
  case slice t x lo hi mx =>
    split at hc
    · rename_i hx
      simp only [Bool.and_eq_true] at hx
      split at hc
      · rename_i e ht
        split at hc
        · rename_i n hn2; cases hc; exact e_slice hs hf hx.1.1.1.1 hx.1.1.1.2 hx.1.1.2 hx.1.2 hx.2 ht hn2 hop he
        · cases hc
      · cases hc
    · cases hc
  case makeFunc fn u2 v2 =>
    cases fn <;> simp only at hc <;> first | (cases hc; done) | skip
    split at hc
    · rename_i hx
      simp only [Bool.and_eq_true] at hx
      cases hc; exact e_mkfn hs hf hx.1 hx.2 hop he
    · cases hc
  case extract x i => split at hc <;> first | (cases hc; done) | (cases hc; exact e_ext hs hf ‹_› hop he)
  case call c =>
    obtain ⟨callee, args, tys⟩ := c
    cases callee <;> simp only at hc
    case value f => split at hc <;> first | (cases hc; done) | (cases hc; simp [isCallI] at hn; done)
    case invoke => cases hc
    case builtin b =>
      unfold compBuiltin at hc
      split at hc
      · cases hc
      · rename_i hall
        simp only [Bool.not_eq_true', Bool.not_eq_false] at hall
        split at hc
        · rename_i x t ha hty
          split at hc
          · rename_i e ht
            cases hc
            rw [ha] at hall
            simp only [List.all_cons, List.all_nil, Bool.and_true] at hall
            exact e_len hs hf hall ht ha hty hop he
          · cases hc
        · rename_i x y _ ha
          cases hc
          rw [ha] at hall
          simp only [List.all_cons, List.all_nil, Bool.and_true, Bool.and_eq_true] at hall
          exact e_minmax hs hf hall.1 hall.2 (.inl ⟨rfl, rfl⟩) ha hop he
        · rename_i x y _ ha
          cases hc
          rw [ha] at hall
          simp only [List.all_cons, List.all_nil, Bool.and_true, Bool.and_eq_true] at hall
          exact e_minmax hs hf hall.1 hall.2 (.inr ⟨rfl, rfl⟩) ha hop he
        · rename_i x y t u ha hty
          split at hc
          · rename_i htu
            subst htu
            split at hc
            · rename_i e ht
              split at hc
              · rename_i i hi
                split at hc
                · rename_i hz2
                  rw [Bool.and_eq_true] at hz2
                  obtain ⟨z, hz, hzs⟩ := zeroFits_spec hz2.1
                  cases hc
                  rw [ha] at hall
                  simp only [List.all_cons, List.all_nil, Bool.and_true, Bool.and_eq_true] at hall
                  exact e_app hs hf hall.1 hall.2 ht hi hz hzs (of_decide_eq_true hz2.2) ha hty hop he
                · cases hc
              · cases hc
            · cases hc
          · cases hc
        · cases hc
  all_goals cases hc

end
end Go.Am
