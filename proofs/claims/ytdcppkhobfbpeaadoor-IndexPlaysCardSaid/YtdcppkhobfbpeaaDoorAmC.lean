/-
  The relation between the abstract machine's heap and the model's memory, and its primitive steps.
-/
import Derived.Test.YtdcppkhobfbpeaaDoorAmB
set_option linter.unusedVariables false
namespace Go.Am
open Go Go.RowKit

/-- Where an abstract block lies. -/
structure Img where
  blk : Nat
  off : Nat
  ro : Bool
  room : Nat
  esz : Nat

abbrev Map := Nat → Option Img

mutual
inductive VR (φ : Map) : Value → Value → Prop
  | bool (b : Bool) : VR φ (.bool b) (.bool b)
  | int (k : IntKind) (n : Int) : VR φ (.int k n) (.int k n)
  | str (s : ByteArray) : VR φ (.string s) (.string s)
  | pnil : VR φ (.pointer none) (.pointer none)
  | ptr (b o : Nat) (m : Img) (h : φ b = some m) : VR φ (.pointer (some ⟨b, o, none⟩)) (.pointer (some ⟨m.blk, m.off + o, none⟩))
  | snil : VR φ (.slice none 0 0) (.slice none 0 0)
  | slice (b o o' n c c' : Nat) (m : Img) (h : φ b = some m) (h1 : n ≤ c) (h2 : c ≤ c') (h3 : c' ≠ 0 → o' = m.off + o) (h4 : m.ro = false → m.off + o + c' * m.esz ≤ m.room) :
      VR φ (.slice (some ⟨b, o, none⟩) n c) (.slice (some ⟨m.blk, o', none⟩) n c')
  | nilFunc : VR φ .nilFunc .nilFunc
  | func (f : FuncId) (u v u' v' : Array Value) (hu : VRs φ u.toList u'.toList) (hv : VRs φ v.toList v'.toList) : VR φ (.func (.func f) u v) (.func (.func f) u' v')
  | yield (l : Nat) (m : Img) (h : φ l = some m) : VR φ (.func (.yield l) #[] #[]) (.func (.yield m.blk) #[] #[])
  | agg (xs ys : Array Value) (h : VRs φ xs.toList ys.toList) (h1 : ∀ v ∈ ys.toList, v.oneCell' = true) : VR φ (.agg xs) (.agg ys)
  | tuple (xs ys : Array Value) (h : VRs φ xs.toList ys.toList) : VR φ (.tuple xs) (.tuple ys)
inductive VRs (φ : Map) : List Value → List Value → Prop
  | nil : VRs φ [] []
  | cons (x y : Value) (xs ys : List Value) (h : VR φ x y) (hs : VRs φ xs ys) : VRs φ (x :: xs) (y :: ys)
end

mutual
theorem VR.mono {φ φ' : Map} (hm : ∀ b m, φ b = some m → φ' b = some m) : ∀ {v v' : Value}, VR φ v v' → VR φ' v v'
  | _, _, .bool b => .bool b
  | _, _, .int k n => .int k n
  | _, _, .str s => .str s
  | _, _, .pnil => .pnil
  | _, _, .ptr b o m h => .ptr b o m (hm _ _ h)
  | _, _, .snil => .snil
  | _, _, .slice b o o' n c c' m h h1 h2 h3 h4 => .slice b o o' n c c' m (hm _ _ h) h1 h2 h3 h4
  | _, _, .nilFunc => .nilFunc
  | _, _, .func f u v u' v' hu hv => .func f u v u' v' (VRs.mono hm hu) (VRs.mono hm hv)
  | _, _, .yield l m h => .yield l m (hm _ _ h)
  | _, _, .agg xs ys h h1 => .agg xs ys (VRs.mono hm h) h1
  | _, _, .tuple xs ys h => .tuple xs ys (VRs.mono hm h)
theorem VRs.mono {φ φ' : Map} (hm : ∀ b m, φ b = some m → φ' b = some m) : ∀ {v v' : List Value}, VRs φ v v' → VRs φ' v v'
  | _, _, .nil => .nil
  | _, _, .cons x y xs ys h hs => .cons x y xs ys (VR.mono hm h) (VRs.mono hm hs)
end

theorem VRs.length {φ : Map} {xs ys : List Value} (h : VRs φ xs ys) : xs.length = ys.length := by
  induction xs generalizing ys with
  | nil => cases h; rfl
  | cons x xs ih => cases h with | cons _ y _ ys h hs => simp [ih hs]

theorem VRs.get {φ : Map} {xs ys : List Value} (h : VRs φ xs ys) : ∀ (i : Nat) (x : Value), xs[i]? = some x → ∃ y, ys[i]? = some y ∧ VR φ x y := by
  induction xs generalizing ys with
  | nil => intro i x hx; simp at hx
  | cons x xs ih =>
    cases h with
    | cons _ y _ ys h hs =>
      intro i z hz
      cases i with
      | zero => simp at hz; subst hz; exact ⟨y, by simp, h⟩
      | succ i => simp at hz; obtain ⟨u, hu, hr⟩ := ih hs i z hz; exact ⟨u, by simpa using hu, hr⟩

theorem VRs.of {φ : Map} : ∀ {xs ys : List Value}, xs.length = ys.length → (∀ (i : Nat) (x : Value), xs[i]? = some x → ∃ y, ys[i]? = some y ∧ VR φ x y) → VRs φ xs ys
  | [], [], _, _ => .nil
  | [], _ :: _, hl, _ => by simp at hl
  | _ :: _, [], hl, _ => by simp at hl
  | x :: xs, y :: ys, hl, h => by
    refine .cons x y xs ys ?_ (VRs.of (by simpa using hl) fun i z hz => ?_)
    · obtain ⟨u, hu, hr⟩ := h 0 x (by simp); simp at hu; subst hu; exact hr
    · obtain ⟨u, hu, hr⟩ := h (i + 1) z (by simpa using hz); exact ⟨u, by simpa using hu, hr⟩

theorem VRs.append {φ : Map} {xs ys xs' ys' : List Value} (h : VRs φ xs xs') (k : VRs φ ys ys') : VRs φ (xs ++ ys) (xs' ++ ys') := by
  induction xs generalizing xs' with
  | nil => cases h; simpa using k
  | cons x xs ih => cases h with | cons _ y _ zs h hs => exact .cons _ _ _ _ h (ih hs)

theorem VRs.map {φ : Map} {α : Type} (f g : α → Value) : ∀ (l : List α), (∀ x ∈ l, VR φ (f x) (g x)) → VRs φ (l.map f) (l.map g)
  | [], _ => .nil
  | x :: l, h => .cons _ _ _ _ (h x (by simp)) (VRs.map f g l fun y hy => h y (by simp [hy]))

theorem VR.oneCell {φ : Map} {v v' : Value} (h : VR φ v v') : v.oneCell' = v'.oneCell' := by cases h <;> rfl

/-- Related, and the value of one cell. -/
def VR1 (φ : Map) (v v' : Value) : Prop := VR φ v v' ∧ v'.oneCell' = true

theorem VR1.mono {φ φ' : Map} (hm : ∀ b m, φ b = some m → φ' b = some m) {v v' : Value} (h : VR1 φ v v') : VR1 φ' v v' := ⟨h.1.mono hm, h.2⟩

def exCode : Ex → Code
  | .normal => .skip
  | .exit id => .exit id
  | .ret => .ret

/-- Frames. -/
def FR (φ : Map) (N : Nat) (a : Nat → Value) (tmps : Array Value) : Prop := tmps.size = N ∧ ∀ t, VR φ (a t) (tmps.getD t undef)

theorem FR.mono {φ φ' : Map} (hm : ∀ b m, φ b = some m → φ' b = some m) {N : Nat} {a : Nat → Value} {tmps : Array Value} (h : FR φ N a tmps) : FR φ' N a tmps :=
  ⟨h.1, fun t => (h.2 t).mono hm⟩

/-- Objects. -/
def OR (P : Program) (φ : Map) (w : World) (m : Img) : Blk → Prop
  | .dead => True
  | .cells c e true => m.ro = true ∧ ∀ (j : Nat) (v : Value), c[j]? = some v → ∃ v' : Value, w.cell? ⟨m.blk, m.off + j, none⟩ = some v' ∧ VR1 φ v v'
  | .cells c e false => m.ro = false ∧ m.off = 0 ∧ P.cellsOf e = m.esz ∧ ∃ cur : Array Value, w.heap[m.blk]? = some (.cells cur e (0, 0)) ∧ cur.size = m.room ∧ c.length ≤ cur.size ∧
      ∀ (j : Nat) (v : Value), c[j]? = some v → ∃ v' : Value, cur[j]? = some v' ∧ VR1 φ v v'
  | .loop r => m.ro = false ∧ ∃ (L : Loop) (db : Img), w.heap[m.blk]? = some (.loop L) ∧ φ r.deferB = some db ∧ L.defers = db.blk ∧ L.state = r.state ∧ L.pending = r.pending.map exCode ∧
      FR φ L.tmps.size r.tmps L.tmps ∧ L.params.toList = r.params ∧ (∀ p ∈ r.params, p < L.tmps.size) ∧ comp P L.tmps.size L.assign = some r.asg ∧ comp P L.tmps.size L.body = some r.body
  | .defer => m.ro = false ∧ w.heap[m.blk]? = some (.deferred (some []))
  | .map _ => False

theorem OR.mono {P : Program} {φ φ' : Map} (hm : ∀ b m, φ b = some m → φ' b = some m) {w : World} {m : Img} {k : Blk} (h : OR P φ w m k) : OR P φ' w m k := by
  cases k with
  | dead => trivial
  | cells c e ro =>
    cases ro with
    | true => exact ⟨h.1, fun j v hv => let ⟨v', a, b⟩ := h.2 j v hv; ⟨v', a, b.mono hm⟩⟩
    | false =>
      obtain ⟨h1, h2, h3, cur, h4, h5, h6, h7⟩ := h
      exact ⟨h1, h2, h3, cur, h4, h5, h6, fun j v hv => let ⟨v', a, b⟩ := h7 j v hv; ⟨v', a, b.mono hm⟩⟩
  | loop r =>
    obtain ⟨h1, L, db, h2, h3, h4, h5, h6, h7, h8⟩ := h
    exact ⟨h1, L, db, h2, hm _ _ h3, h4, h5, h6, h7.mono hm, h8⟩
  | defer => exact h
  | map es => exact h

theorem OR.block {P : Program} {φ : Map} {w w' : World} {m : Img} {k : Blk} (h : OR P φ w m k) (he : w'.heap[m.blk]? = w.heap[m.blk]?) : OR P φ w' m k := by
  cases k with
  | dead => trivial
  | cells c e ro =>
    cases ro with
    | true =>
      refine ⟨h.1, fun j v hv => ?_⟩
      obtain ⟨v', a, b⟩ := h.2 j v hv
      exact ⟨v', (World.cell?_of_block (a := ⟨m.blk, m.off + j, none⟩) he).trans a, b⟩
    | false =>
      obtain ⟨h1, h2, h3, cur, h4, h5⟩ := h
      exact ⟨h1, h2, h3, cur, he.trans h4, h5⟩
  | loop r =>
    obtain ⟨h1, L, db, h2, h3⟩ := h
    exact ⟨h1, L, db, he.trans h2, h3⟩
  | defer => exact ⟨h.1, he.trans h.2⟩
  | map es => exact h

/-- Memory. -/
structure Sim (P : Program) (base : Nat) (w0 : World) (φ : Map) (h : Heap) (w : World) : Prop where
  dom : ∀ b m, φ b = some m → b < h.n
  rel : ∀ b m, φ b = some m → OR P φ w m (h.get b)
  low : ∀ b m, φ b = some m → m.ro = true → m.blk < base
  high : ∀ b m, φ b = some m → m.ro = false → base ≤ m.blk ∧ m.blk < w.heap.size
  inj : ∀ b b' m m', φ b = some m → φ b' = some m' → m.ro = false → m'.ro = false → h.get b ≠ .dead → h.get b' ≠ .dead → m.blk = m'.blk → b = b'
  below : Below base w0 w
  base_le : base ≤ w.heap.size
  glob : ∀ g, g < P.globals.size → ∃ m, φ g = some m ∧ m.blk = g ∧ m.off = 0

/-- What a step may change. -/
structure Step (φ : Map) (h : Heap) (w : World) (φ' : Map) (h' : Heap) (w' : World) : Prop where
  n_le : h.n ≤ h'.n
  old : ∀ b, b < h.n → φ' b = φ b
  dead : ∀ b, b < h.n → h.get b = .dead → h'.get b = .dead
  af : ∀ b, b < h.n → φ b = none → h'.get b = h.get b
  wn : w.heap.size ≤ w'.heap.size
  cf : ∀ j, j < w.heap.size → (∀ b m, φ b = some m → m.ro = false → h.get b ≠ .dead → m.blk ≠ j) → w'.heap[j]? = w.heap[j]?
  new : ∀ b m, h.n ≤ b → φ' b = some m → m.ro = false ∧ (w.heap.size ≤ m.blk ∨ ∃ b0 m0, φ b0 = some m0 ∧ m0.ro = false ∧ h.get b0 ≠ .dead ∧ m0.blk = m.blk)

section
variable {P : Program} {base : Nat} {w0 : World}

theorem Sim.sub {φ φ' : Map} {h h' : Heap} {w w' : World} (hs : Sim P base w0 φ h w) (hx : Step φ h w φ' h' w') : ∀ b m, φ b = some m → φ' b = some m :=
  fun b m hb => (hx.old b (hs.dom b m hb)).trans hb

theorem Step.refl {φ : Map} {h : Heap} {w : World} (hs : Sim P base w0 φ h w) : Step φ h w φ h w :=
  ⟨Nat.le_refl _, fun _ _ => rfl, fun _ _ hd => hd, fun _ _ _ => rfl, Nat.le_refl _, fun _ _ _ => rfl, fun b m hb hm => absurd (hs.dom b m hm) (by omega)⟩

theorem Step.trans {φ φ' φ'' : Map} {h h' h'' : Heap} {w w' w'' : World} (hs : Sim P base w0 φ h w) (hs' : Sim P base w0 φ' h' w') (x : Step φ h w φ' h' w') (y : Step φ' h' w' φ'' h'' w'') : Step φ h w φ'' h'' w'' := by
  have hn := x.n_le
  refine ⟨Nat.le_trans x.n_le y.n_le, fun b hb => (y.old b (by omega)).trans (x.old b hb), fun b hb hd => y.dead b (by omega) (x.dead b hb hd), fun b hb hf => ?_, Nat.le_trans x.wn y.wn, fun j hj hf => ?_, fun b m hb hm => ?_⟩
  · rw [y.af b (by omega) ((x.old b hb).trans hf), x.af b hb hf]
  · have hw := x.wn
    rw [y.cf j (by omega) ?_, x.cf j hj hf]
    intro b m hb hro hl
    rcases Nat.lt_or_ge b h.n with hlt | hge
    · exact hf b m ((x.old b hlt).symm.trans hb) hro (fun hd => hl (x.dead b hlt hd))
    · rcases (x.new b m hge hb).2 with h1 | ⟨b0, m0, e0, r0, l0, q0⟩
      · omega
      · rw [← q0]; exact hf b0 m0 e0 r0 l0
  · rcases Nat.lt_or_ge b h'.n with hlt | hge
    · exact x.new b m hb ((y.old b hlt).symm.trans hm)
    · obtain ⟨hro, h1⟩ := y.new b m hge hm
      refine ⟨hro, ?_⟩
      rcases h1 with h1 | ⟨b0, m0, e0, r0, l0, q0⟩
      · have := x.wn; exact .inl (by omega)
      · rcases Nat.lt_or_ge b0 h.n with hlt0 | hge0
        · exact .inr ⟨b0, m0, (x.old b0 hlt0).symm.trans e0, r0, fun hd => l0 (x.dead b0 hlt0 hd), q0⟩
        · rw [← q0]; exact (x.new b0 m0 hge0 e0).2

/-- Nothing but what is not memory. -/
theorem Sim.draw {φ : Map} {h : Heap} {w w' : World} (hs : Sim P base w0 φ h w) (hh : w'.heap = w.heap) (ho : w'.os = w.os) (ht : w'.tape = w.tape) (hp : w'.output = w.output) :
    Sim P base w0 φ h w' ∧ Step φ h w φ h w' := by
  refine ⟨⟨hs.dom, fun b m hb => (hs.rel b m hb).block (by rw [hh]), hs.low, fun b m hb hr => by rw [hh]; exact hs.high b m hb hr, hs.inj, ?_, by rw [hh]; exact hs.base_le, hs.glob⟩, ?_⟩
  · have := hs.below
    exact ⟨ho.trans this.os, ht.trans this.tape, hp.trans this.output, by rw [hh]; exact this.size, fun k hk => by rw [hh]; exact this.block k hk⟩
  · exact ⟨Nat.le_refl _, fun _ _ => rfl, fun _ _ hd => hd, fun _ _ _ => rfl, by rw [hh]; exact Nat.le_refl _, fun _ _ _ => by rw [hh], fun b m hb hm => absurd (hs.dom b m hm) (by omega)⟩

theorem Heap.get_set (h : Heap) (k i : Nat) (b : Blk) : (h.set k b).get i = if i = k then b else h.get i := rfl
theorem Heap.get_push (h : Heap) (i : Nat) (b : Blk) : (h.push b).get i = if i = h.n then b else h.get i := rfl
theorem Heap.n_set (h : Heap) (k : Nat) (b : Blk) : (h.set k b).n = h.n := rfl
theorem Heap.n_push (h : Heap) (b : Blk) : (h.push b).n = h.n + 1 := rfl

/-- A block is let go. -/
theorem Sim.kill {φ : Map} {h : Heap} {w : World} (hs : Sim P base w0 φ h w) (b : Nat) (hb : (φ b).isSome = true) : Sim P base w0 φ (h.set b .dead) w ∧ Step φ h w φ (h.set b .dead) w := by
  refine ⟨⟨hs.dom, fun c m hc => ?_, hs.low, hs.high, fun c c' m m' h1 h2 h3 h4 h5 h6 h7 => ?_, hs.below, hs.base_le, hs.glob⟩, ?_⟩
  · rw [Heap.get_set]; split
    · trivial
    · exact hs.rel c m hc
  · rw [Heap.get_set] at h5 h6
    split at h5
    · exact absurd rfl h5
    · split at h6
      · exact absurd rfl h6
      · exact hs.inj c c' m m' h1 h2 h3 h4 h5 h6 h7
  · refine ⟨Nat.le_refl _, fun _ _ => rfl, fun c _ hd => ?_, fun c _ hf => ?_, Nat.le_refl _, fun _ _ _ => rfl, fun c m hc hm => absurd (hs.dom c m hm) (by simp only [Nat.not_lt]; exact hc)⟩
    · rw [Heap.get_set]; split
      · rfl
      · exact hd
    · rw [Heap.get_set, if_neg]
      rintro rfl
      rw [hf] at hb; simp at hb

/-- A block is written to. -/
theorem Sim.write {φ : Map} {h : Heap} {w w' : World} (hs : Sim P base w0 φ h w) {b : Nat} {m : Img} (hb : φ b = some m) (hro : m.ro = false) (hl : h.get b ≠ .dead) (k : Blk)
    (hh : ∀ j, j ≠ m.blk → w'.heap[j]? = w.heap[j]?) (hz : w'.heap.size = w.heap.size) (ho : w'.os = w.os) (ht : w'.tape = w.tape) (hp : w'.output = w.output) (hk : OR P φ w' m k) :
    Sim P base w0 φ (h.set b k) w' ∧ Step φ h w φ (h.set b k) w' := by
  have hhi := hs.high b m hb hro
  have hbl := hs.below
  refine ⟨⟨hs.dom, fun c m' hc => ?_, hs.low, fun c m' hc hr => by rw [hz]; exact hs.high c m' hc hr, fun c c' m1 m2 h1 h2 h3 h4 h5 h6 h7 => ?_, ?_, by rw [hz]; exact hs.base_le, hs.glob⟩, ?_⟩
  · rw [Heap.get_set]; split
    · subst_vars
      rw [hb] at hc; cases hc
      exact hk
    · rename_i hne
      by_cases hd : h.get c = .dead
      · rw [hd]; trivial
      · refine (hs.rel c m' hc).block (hh _ ?_)
        cases hr : m'.ro with
        | true => have := hs.low c m' hc hr; omega
        | false => intro e; exact hne (hs.inj c b m' m hc hb hr hro hd hl e)
  · rw [Heap.get_set] at h5 h6
    have g5 : h.get c ≠ .dead := by
      by_cases e : c = b
      · rw [e]; exact hl
      · rw [if_neg e] at h5; exact h5
    have g6 : h.get c' ≠ .dead := by
      by_cases e : c' = b
      · rw [e]; exact hl
      · rw [if_neg e] at h6; exact h6
    exact hs.inj c c' m1 m2 h1 h2 h3 h4 g5 g6 h7
  · exact ⟨ho.trans hbl.os, ht.trans hbl.tape, hp.trans hbl.output, by rw [hz]; exact hbl.size, fun j hj => (hh j (by omega)).trans (hbl.block j hj)⟩
  · refine ⟨Nat.le_refl _, fun _ _ => rfl, fun c _ hd => ?_, fun c _ hf => ?_, by rw [hz]; exact Nat.le_refl _, fun j _ hf => hh j (fun e => hf b m hb hro hl e.symm), fun c m hc hm => absurd (hs.dom c m hm) (by simp only [Nat.not_lt]; exact hc)⟩
    · rw [Heap.get_set, if_neg]
      · exact hd
      · rintro rfl; exact hl hd
    · rw [Heap.get_set, if_neg]
      rintro rfl
      rw [hf] at hb; cases hb

def Map.add (φ : Map) (k : Nat) (m : Img) : Map := fun b => if b = k then some m else φ b

/-- A block is made: in new memory, or where none that lives lies. -/
theorem Sim.add {φ : Map} {h : Heap} {w w' : World} (hs : Sim P base w0 φ h w) (k : Blk) (m : Img) (hro : m.ro = false) (hb : base ≤ m.blk) (hlt : m.blk < w'.heap.size) (hz : w.heap.size ≤ w'.heap.size)
    (hh : ∀ j, j < w.heap.size → j ≠ m.blk → w'.heap[j]? = w.heap[j]?)
    (hfree : ∀ b m', φ b = some m' → m'.ro = false → h.get b ≠ .dead → m'.blk ≠ m.blk)
    (ho : w'.os = w.os) (ht : w'.tape = w.tape) (hp : w'.output = w.output) (hk : OR P (φ.add h.n m) w' m k) :
    Sim P base w0 (φ.add h.n m) (h.push k) w' := by
  have hbl := hs.below
  have hfresh : φ h.n = none := by
    cases e : φ h.n with
    | none => rfl
    | some m' => have := hs.dom _ _ e; omega
  have hsub : ∀ b m', φ b = some m' → (φ.add h.n m) b = some m' := fun b m' e => by
    unfold Map.add; rw [if_neg]; exact e
    rintro rfl; rw [hfresh] at e; cases e
  have hcase : ∀ b m', (φ.add h.n m) b = some m' → (b = h.n ∧ m' = m) ∨ (b ≠ h.n ∧ φ b = some m') := fun b m' e => by
    unfold Map.add at e
    by_cases hbn : b = h.n
    · rw [if_pos hbn] at e; exact .inl ⟨hbn, by cases e; rfl⟩
    · rw [if_neg hbn] at e; exact .inr ⟨hbn, e⟩
  have hbase := hs.base_le
  refine ⟨fun b m' e => ?_, fun b m' e => ?_, fun b m' e hr => ?_, fun b m' e hr => ?_, fun b b' m1 m2 h1 h2 h3 h4 h5 h6 h7 => ?_, ?_, by omega, fun g hg => ?_⟩
  · rw [Heap.n_push]
    rcases hcase b m' e with ⟨rfl, _⟩ | ⟨_, e'⟩
    · omega
    · have := hs.dom b m' e'; omega
  · rw [Heap.get_push]
    rcases hcase b m' e with ⟨rfl, rfl⟩ | ⟨hne, e'⟩
    · rw [if_pos rfl]; exact hk
    · rw [if_neg hne]
      by_cases hd : h.get b = .dead
      · rw [hd]; trivial
      · refine ((hs.rel b m' e').block (hh _ ?_ ?_)).mono hsub
        · cases hr : m'.ro with
          | true => have := hs.low b m' e' hr; omega
          | false => exact (hs.high b m' e' hr).2
        · cases hr : m'.ro with
          | true => have := hs.low b m' e' hr; omega
          | false => exact hfree b m' e' hr hd
  · rcases hcase b m' e with ⟨rfl, rfl⟩ | ⟨_, e'⟩
    · rw [hro] at hr; cases hr
    · exact hs.low b m' e' hr
  · rcases hcase b m' e with ⟨rfl, rfl⟩ | ⟨_, e'⟩
    · exact ⟨hb, hlt⟩
    · have := hs.high b m' e' hr; exact ⟨this.1, by omega⟩
  · rw [Heap.get_push] at h5 h6
    rcases hcase b m1 h1 with ⟨rfl, rfl⟩ | ⟨n1, e1⟩
    · rcases hcase b' m2 h2 with ⟨rfl, rfl⟩ | ⟨n2, e2⟩
      · rfl
      · rw [if_neg n2] at h6; exact absurd h7.symm (hfree b' m2 e2 h4 h6)
    · rw [if_neg n1] at h5
      rcases hcase b' m2 h2 with ⟨rfl, rfl⟩ | ⟨n2, e2⟩
      · exact absurd h7 (hfree b m1 e1 h3 h5)
      · rw [if_neg n2] at h6; exact hs.inj b b' m1 m2 e1 e2 h3 h4 h5 h6 h7
  · exact ⟨ho.trans hbl.os, ht.trans hbl.tape, hp.trans hbl.output, Nat.le_trans hbl.size hz, fun j hj => (hh j (by omega) (by omega)).trans (hbl.block j hj)⟩
  · obtain ⟨m', e, r⟩ := hs.glob g hg
    exact ⟨m', hsub _ _ e, r⟩

theorem Sim.add_step {φ : Map} {h : Heap} {w w' : World} (hs : Sim P base w0 φ h w) (k : Blk) (m : Img) (hro : m.ro = false) (hz : w.heap.size ≤ w'.heap.size)
    (hh : ∀ j, j < w.heap.size → j ≠ m.blk → w'.heap[j]? = w.heap[j]?) (hnew : m.blk = w.heap.size) : Step φ h w (φ.add h.n m) (h.push k) w' := by
  refine ⟨by rw [Heap.n_push]; omega, fun b hb => by unfold Map.add; rw [if_neg (by omega)], fun b hb hd => by rw [Heap.get_push, if_neg (by omega)]; exact hd, fun b hb _ => by rw [Heap.get_push, if_neg (by omega)], hz,
    fun j hj _ => hh j hj (by omega), fun b m' hb e => ?_⟩
  unfold Map.add at e
  by_cases hbn : b = h.n
  · rw [if_pos hbn] at e; cases e; exact ⟨hro, .inl (by omega)⟩
  · rw [if_neg hbn] at e; have := hs.dom b m' e; omega
end
end Go.Am
