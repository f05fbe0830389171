/-
  A chunk's word: made and read back (a chunk that is right).
-/
import Derived.Test.YtdcppkhobfbpeaaDoorD2
set_option linter.unusedVariables false
set_option linter.unusedSimpArgs false
namespace Go.Am.YtdcppkhobfbpeaaDoor
open Go Go.Am Go.Proofs

def maskB (n : Nat) : BitVec 64 := BitVec.allOnes 64 >>> (64 - n)
def getB (w : BitVec 64) (x n : Nat) : BitVec 64 := (w >>> x) &&& maskB n
def putB (w : BitVec 64) (x n : Nat) (v : BitVec 64) : BitVec 64 := (w &&& ~~~(maskB n <<< x)) ||| ((v <<< x) &&& (maskB n <<< x))

theorem maskB_toNat {n : Nat} (h : n ≤ 64) : (maskB n).toNat = 2 ^ n - 1 := by
  unfold maskB
  rw [BitVec.toNat_ushiftRight, BitVec.toNat_allOnes, Nat.shiftRight_eq_div_pow]
  have e : (2 : Nat) ^ 64 = 2 ^ n * 2 ^ (64 - n) := by rw [← Nat.pow_add]; congr 1; omega
  have h1 := Nat.two_pow_pos (64 - n)
  have h2 := Nat.two_pow_pos n
  apply Nat.div_eq_of_lt_le
  · rw [e, Nat.sub_mul, Nat.one_mul]; omega
  · rw [Nat.sub_add_cancel h2, e]; have := Nat.mul_pos h2 h1; omega
theorem getB_toNat {w : BitVec 64} {x n : Nat} (h : n ≤ 64) : (getB w x n).toNat = w.toNat / 2 ^ x % 2 ^ n := by
  unfold getB
  rw [BitVec.toNat_and, maskB_toNat h, BitVec.toNat_ushiftRight, Nat.shiftRight_eq_div_pow, Nat.and_two_pow_sub_one_eq_mod]
theorem maskB_bit {n i : Nat} (h : n ≤ 64) : (maskB n).getLsbD i = decide (i < n) := by
  rw [← BitVec.testBit_toNat, maskB_toNat h, Nat.testBit_two_pow_sub_one]
theorem putB_toNat {w v : BitVec 64} {x n : Nat} (h : x + n ≤ 64) (hw : w.toNat < 2 ^ x) (hv : v.toNat < 2 ^ n) : (putB w x n v).toNat = v.toNat * 2 ^ x + w.toNat := by
  have hwb : ∀ i, x ≤ i → w.getLsbD i = false := fun i hi => by
    rw [← BitVec.testBit_toNat]; exact Nat.testBit_lt_two_pow (Nat.lt_of_lt_of_le hw (Nat.pow_le_pow_right (by decide) hi))
  have hvb : ∀ i, n ≤ i → v.getLsbD i = false := fun i hi => by
    rw [← BitVec.testBit_toNat]; exact Nat.testBit_lt_two_pow (Nat.lt_of_lt_of_le hv (Nat.pow_le_pow_right (by decide) hi))
  have e : putB w x n v = (v <<< x) ||| w := by
    apply BitVec.eq_of_getLsbD_eq
    intro i hi
    unfold putB
    simp only [BitVec.getLsbD_or, BitVec.getLsbD_and, BitVec.getLsbD_not, BitVec.getLsbD_shiftLeft, maskB_bit (show n ≤ 64 by omega)]
    by_cases h1 : i < x
    · simp [h1, hi]
    · have h2 := hwb i (by omega)
      by_cases h3 : i - x < n
      · rw [BitVec.getLsbD_eq_getElem hi] at h2
        simp [h1, hi, h2, h3]
      · rw [BitVec.getLsbD_eq_getElem hi] at h2
        have h4 := hvb (i - x) (by omega)
        simp [h1, hi, h2, h3, h4]
  have hx : v.toNat * 2 ^ x < 2 ^ 64 := by
    have : v.toNat * 2 ^ x < 2 ^ n * 2 ^ x := Nat.mul_lt_mul_of_pos_right hv (Nat.two_pow_pos x)
    rw [← Nat.pow_add] at this
    exact Nat.lt_of_lt_of_le this (Nat.pow_le_pow_right (by decide) (by omega))
  rw [e, BitVec.toNat_or, BitVec.toNat_shiftLeft, Nat.shiftLeft_eq, Nat.mod_eq_of_lt hx, ← Nat.shiftLeft_eq, ← Nat.shiftLeft_add_eq_or_of_lt hw]

theorem f84g {h : Heap} {Q : Value → Heap → Prop} {w : BitVec 64} {x n : Nat} (h1 : 1 ≤ n) (h2 : x + n ≤ 64) (q : Q (ub (getB w x n)) h) : WC T (.func (.func 84) #[] #[]) [ub w, .int .i64 x, .int .i64 n] h Q := by
  refine f84_spec (by omega) (by omega) (by omega) (by omega) ?_
  have : (64 - (n : Int)).toNat = 64 - n := by omega
  rw [this, Int.toNat_natCast]
  exact q
theorem f87g {h : Heap} {Q : Value → Heap → Prop} {w v : BitVec 64} {x n : Nat} (h1 : 1 ≤ n) (h2 : x + n ≤ 64) (q : Q (ub (putB w x n v)) h) : WC T (.func (.func 87) #[] #[]) [ub w, .int .i64 x, .int .i64 n, ub v] h Q := by
  refine f87_spec (by omega) (by omega) (by omega) (by omega) ?_
  have : (64 - (n : Int)).toNat = 64 - n := by omega
  rw [this, Int.toNat_natCast]
  exact q
def plc (x n : Nat) : Value := .agg #[.int .i64 x, .int .i64 n]
theorem f69_spec {h : Heap} {Q : Value → Heap → Prop} {w : BitVec 64} {x n : Nat} (h1 : 1 ≤ n) (h2 : x + n ≤ 64) (q : ∀ h', Ext h h' → Q (ub (getB w x n)) h') : WC T (.func (.func 69) #[] #[]) [plc x n, ub w] h Q := by
  refine WC_fn T69 rfl ?_
  simp (disch := first | assumption | omega | (simp only [push_n, set_n]; done) | (simp only [push_n, set_n]; omega) | fail) only [go_sem, ↓reduceIte, Nat.reduceEqDiff, Nat.reduceAdd, Nat.reduceMul, Int.reduceToNat, Int.reduceAdd, Int.reduceTDiv, Nat.reduceLeDiff, ir69, plc]
  refine f84g h1 h2 ?_
  simp (disch := first | assumption | omega | (simp only [push_n, set_n]; done) | (simp only [push_n, set_n]; omega) | fail) only [go_sem, ↓reduceIte, Nat.reduceEqDiff, Nat.reduceAdd, Nat.reduceMul, Int.reduceToNat, Int.reduceAdd, Int.reduceTDiv, Nat.reduceLeDiff]
  exact q _ (by repeat (first | assumption | exact Ext.refl _ | refine Ext.push ?_ | refine Ext.set ?_ (by omega) | refine Ext.trans ?_ (by assumption)))
theorem f83_spec {h : Heap} {Q : Value → Heap → Prop} {w v : BitVec 64} {x n : Nat} (h1 : 1 ≤ n) (h2 : x + n ≤ 64) (q : ∀ h', Ext h h' → Q (ub (putB w x n v)) h') : WC T (.func (.func 83) #[plc x n] #[]) [ub w, ub v] h Q := by
  refine WC_clo (u := [plc x n]) (v := []) T83 rfl ?_
  simp (disch := first | assumption | omega | (simp only [push_n, set_n]; done) | (simp only [push_n, set_n]; omega) | fail) only [go_sem, ↓reduceIte, Nat.reduceEqDiff, Nat.reduceAdd, Nat.reduceMul, Int.reduceToNat, Int.reduceAdd, Int.reduceTDiv, Nat.reduceLeDiff, ir83, plc]
  refine f87g h1 h2 ?_
  simp (disch := first | assumption | omega | (simp only [push_n, set_n]; done) | (simp only [push_n, set_n]; omega) | fail) only [go_sem, ↓reduceIte, Nat.reduceEqDiff, Nat.reduceAdd, Nat.reduceMul, Int.reduceToNat, Int.reduceAdd, Int.reduceTDiv, Nat.reduceLeDiff]
  exact q _ (by repeat (first | assumption | exact Ext.refl _ | refine Ext.push ?_ | refine Ext.set ?_ (by omega) | refine Ext.trans ?_ (by assumption)))
theorem f68_spec {h : Heap} {Q : Value → Heap → Prop} (q : ∀ h', Ext h h' → Q (plc 0 3) h') : WC T (.func (.func 68) #[] #[]) [] h Q := by
  refine WC_fn T68 rfl ?_
  simp (disch := first | assumption | omega | (simp only [push_n, set_n]; done) | (simp only [push_n, set_n]; omega) | fail) only [go_sem, ↓reduceIte, Nat.reduceEqDiff, Nat.reduceAdd, Nat.reduceMul, Int.reduceToNat, Int.reduceAdd, Int.reduceTDiv, Nat.reduceLeDiff, ir68]
  exact q _ (by repeat (first | assumption | exact Ext.refl _ | refine Ext.push ?_ | refine Ext.set ?_ (by omega) | refine Ext.trans ?_ (by assumption)))
theorem f70_spec {h : Heap} {Q : Value → Heap → Prop} (q : ∀ h', Ext h h' → Q (plc 3 2) h') : WC T (.func (.func 70) #[] #[]) [] h Q := by
  refine WC_fn T70 rfl ?_
  simp (disch := first | assumption | omega | (simp only [push_n, set_n]; done) | (simp only [push_n, set_n]; omega) | fail) only [go_sem, ↓reduceIte, Nat.reduceEqDiff, Nat.reduceAdd, Nat.reduceMul, Int.reduceToNat, Int.reduceAdd, Int.reduceTDiv, Nat.reduceLeDiff, ir70]
  exact q _ (by repeat (first | assumption | exact Ext.refl _ | refine Ext.push ?_ | refine Ext.set ?_ (by omega) | refine Ext.trans ?_ (by assumption)))
theorem f71_spec {h : Heap} {Q : Value → Heap → Prop} (q : ∀ h', Ext h h' → Q (plc 5 6) h') : WC T (.func (.func 71) #[] #[]) [] h Q := by
  refine WC_fn T71 rfl ?_
  simp (disch := first | assumption | omega | (simp only [push_n, set_n]; done) | (simp only [push_n, set_n]; omega) | fail) only [go_sem, ↓reduceIte, Nat.reduceEqDiff, Nat.reduceAdd, Nat.reduceMul, Int.reduceToNat, Int.reduceAdd, Int.reduceTDiv, Nat.reduceLeDiff, ir71]
  exact q _ (by repeat (first | assumption | exact Ext.refl _ | refine Ext.push ?_ | refine Ext.set ?_ (by omega) | refine Ext.trans ?_ (by assumption)))
theorem f72_spec {h : Heap} {Q : Value → Heap → Prop} (q : ∀ h', Ext h h' → Q (plc 11 13) h') : WC T (.func (.func 72) #[] #[]) [] h Q := by
  refine WC_fn T72 rfl ?_
  simp (disch := first | assumption | omega | (simp only [push_n, set_n]; done) | (simp only [push_n, set_n]; omega) | fail) only [go_sem, ↓reduceIte, Nat.reduceEqDiff, Nat.reduceAdd, Nat.reduceMul, Int.reduceToNat, Int.reduceAdd, Int.reduceTDiv, Nat.reduceLeDiff, ir72]
  exact q _ (by repeat (first | assumption | exact Ext.refl _ | refine Ext.push ?_ | refine Ext.set ?_ (by omega) | refine Ext.trans ?_ (by assumption)))
theorem f73_spec {h : Heap} {Q : Value → Heap → Prop} (q : ∀ h', Ext h h' → Q (plc 24 8) h') : WC T (.func (.func 73) #[] #[]) [] h Q := by
  refine WC_fn T73 rfl ?_
  simp (disch := first | assumption | omega | (simp only [push_n, set_n]; done) | (simp only [push_n, set_n]; omega) | fail) only [go_sem, ↓reduceIte, Nat.reduceEqDiff, Nat.reduceAdd, Nat.reduceMul, Int.reduceToNat, Int.reduceAdd, Int.reduceTDiv, Nat.reduceLeDiff, ir73]
  exact q _ (by repeat (first | assumption | exact Ext.refl _ | refine Ext.push ?_ | refine Ext.set ?_ (by omega) | refine Ext.trans ?_ (by assumption)))

/-- A chunk that is right. -/
inductive Ck where
  | free
  | run (k : Nat) (b : BitVec 64)
  | huge (n : Nat)
  | tail
  | log (l n : Nat)
  deriving DecidableEq
def Ck.ok : Ck → Prop
  | .run k b => k < 3 ∧ b.toNat < 2 ^ manyOf k
  | .huge n => 1 ≤ n ∧ n ≤ 8191
  | .log l n => l < 64 ∧ n < 8
  | _ => True
def Ck.kind : Ck → Nat | .free => 0 | .run _ _ => 1 | .huge _ => 2 | .tail => 3 | .log _ _ => 4
def Ck.cls : Ck → Nat | .run k _ => k | _ => 0
def Ck.lane : Ck → Nat | .log l _ => l | _ => 0
def Ck.many : Ck → Nat | .huge n => n | .log _ n => n | _ => 0
def Ck.bits : Ck → BitVec 64 | .run _ b => b | _ => 0#64
def Ck.cells (c : Ck) : List Value := [.int .i64 c.kind, .int .i64 c.cls, .int .i64 c.lane, .int .i64 c.many, ub c.bits]
abbrev Ck.val (c : Ck) : Value := .agg c.cells.toArray
@[go_sem] theorem Ck.cells_length {c : Ck} : c.cells.length = 5 := rfl
@[go_sem] theorem Ck.get_all {c : Ck} : getAt c.cells 0 5 = some c.cells := rfl
@[go_sem] theorem Ck.get_0 {c : Ck} : getAt c.cells 0 1 = some [.int .i64 c.kind] := rfl
@[go_sem] theorem Ck.get_1 {c : Ck} : getAt c.cells 1 1 = some [.int .i64 c.cls] := rfl
@[go_sem] theorem Ck.get_2 {c : Ck} : getAt c.cells 2 1 = some [.int .i64 c.lane] := rfl
@[go_sem] theorem Ck.get_3 {c : Ck} : getAt c.cells 3 1 = some [.int .i64 c.many] := rfl
@[go_sem] theorem Ck.get_4 {c : Ck} : getAt c.cells 4 1 = some [ub c.bits] := rfl
@[go_sem] theorem Ck.set_all {c : Ck} {x y z u v : Value} : setAt [x, y, z, u, v] 0 c.cells = c.cells := rfl
@[go_sem] theorem Ck.set_6 {c : Ck} {x y z u v w : Value} : setAt [x, y, z, u, v, w] 0 c.cells = [.int .i64 c.kind, .int .i64 c.cls, .int .i64 c.lane, .int .i64 c.many, ub c.bits, w] := rfl
def Ck.encN (c : Ck) : Nat := c.kind + 8 * c.cls + 32 * c.lane + 2048 * c.many + 16777216 * c.bits.toNat
def Ck.enc (c : Ck) : BitVec 64 := BitVec.ofNat 64 c.encN

theorem Ck.bounds {c : Ck} (h : c.ok) : c.kind < 8 ∧ c.cls < 4 ∧ c.lane < 64 ∧ c.many < 8192 ∧ c.bits.toNat < 256 := by
  cases c with
  | run k b =>
    obtain ⟨h1, h2⟩ := h
    have h3 : manyOf k ≤ 8 := by unfold manyOf; repeat (first | omega | split)
    have : 2 ^ manyOf k ≤ 2 ^ 8 := Nat.pow_le_pow_right (by decide) h3
    refine ⟨by simp [kind], by simp [cls]; omega, by simp [lane], by simp [many], by simp [bits]; omega⟩
  | huge n => simp [kind, cls, lane, many, bits, ok] at *; omega
  | log l n => simp [kind, cls, lane, many, bits, ok] at *; omega
  | free => simp [kind, cls, lane, many, bits]
  | tail => simp [kind, cls, lane, many, bits]
theorem Ck.encN_lt {c : Ck} (h : c.ok) : c.encN < 18446744073709551616 := by
  have := c.bounds h
  unfold encN
  omega
theorem Ck.enc_toNat {c : Ck} (h : c.ok) : c.enc.toNat = c.encN := by
  unfold enc
  rw [BitVec.toNat_ofNat]
  exact Nat.mod_eq_of_lt (encN_lt h)

/-- The word as it is put together. -/
def Ck.puts (c : Ck) : BitVec 64 := putB (putB (putB (putB (putB 0#64 0 3 (BitVec.ofInt 64 c.kind)) 3 2 (BitVec.ofInt 64 c.cls)) 5 6 (BitVec.ofInt 64 c.lane)) 11 13 (BitVec.ofInt 64 c.many)) 24 8 c.bits
theorem ofInt_nat {n : Nat} (h : n < 18446744073709551616) : (BitVec.ofInt 64 (n : Int)).toNat = n := by
  rw [BitVec.toNat_ofInt]; omega
theorem Ck.puts_enc {c : Ck} (h : c.ok) : c.puts = c.enc := by
  apply BitVec.eq_of_toNat_eq
  rw [enc_toNat h]
  obtain ⟨b1, b2, b3, b4, b5⟩ := c.bounds h
  have o1 : (BitVec.ofInt 64 (c.kind : Int)).toNat = c.kind := ofInt_nat (by omega)
  have o2 : (BitVec.ofInt 64 (c.cls : Int)).toNat = c.cls := ofInt_nat (by omega)
  have o3 : (BitVec.ofInt 64 (c.lane : Int)).toNat = c.lane := ofInt_nat (by omega)
  have o4 : (BitVec.ofInt 64 (c.many : Int)).toNat = c.many := ofInt_nat (by omega)
  have e1 := putB_toNat (w := 0#64) (v := BitVec.ofInt 64 (c.kind : Int)) (x := 0) (n := 3) (by omega) (by decide) (by rw [o1]; omega)
  rw [o1, show (0#64).toNat = 0 from rfl, Nat.pow_zero, Nat.mul_one, Nat.add_zero] at e1
  have e2 := putB_toNat (w := putB 0#64 0 3 (BitVec.ofInt 64 (c.kind : Int))) (v := BitVec.ofInt 64 (c.cls : Int)) (x := 3) (n := 2) (by omega) (by rw [e1]; omega) (by rw [o2]; omega)
  rw [o2, e1] at e2
  have e3 := putB_toNat (v := BitVec.ofInt 64 (c.lane : Int)) (x := 5) (n := 6) (by omega) (w := putB (putB 0#64 0 3 (BitVec.ofInt 64 (c.kind : Int))) 3 2 (BitVec.ofInt 64 (c.cls : Int))) (by rw [e2]; omega) (by rw [o3]; omega)
  rw [o3, e2] at e3
  have e4 := putB_toNat (v := BitVec.ofInt 64 (c.many : Int)) (x := 11) (n := 13) (by omega) (w := putB (putB (putB 0#64 0 3 (BitVec.ofInt 64 (c.kind : Int))) 3 2 (BitVec.ofInt 64 (c.cls : Int))) 5 6 (BitVec.ofInt 64 (c.lane : Int))) (by rw [e3]; omega) (by rw [o4]; omega)
  rw [o4, e3] at e4
  have e5 := putB_toNat (v := c.bits) (x := 24) (n := 8) (by omega) (w := putB (putB (putB (putB 0#64 0 3 (BitVec.ofInt 64 (c.kind : Int))) 3 2 (BitVec.ofInt 64 (c.cls : Int))) 5 6 (BitVec.ofInt 64 (c.lane : Int))) 11 13 (BitVec.ofInt 64 (c.many : Int))) (by rw [e4]; omega) (by omega)
  rw [e4] at e5
  show (putB _ 24 8 c.bits).toNat = _
  rw [e5]
  unfold encN
  omega
theorem Ck.gets {c : Ck} (h : c.ok) : (getB c.enc 0 3).toNat = c.kind ∧ (getB c.enc 3 2).toNat = c.cls ∧ (getB c.enc 5 6).toNat = c.lane ∧ (getB c.enc 11 13).toNat = c.many ∧ getB c.enc 24 8 = c.bits := by
  obtain ⟨b1, b2, b3, b4, b5⟩ := c.bounds h
  refine ⟨?_, ?_, ?_, ?_, BitVec.eq_of_toNat_eq ?_⟩
  all_goals
    rw [getB_toNat (by omega), enc_toNat h]
    unfold encN
    omega

end Go.Am.YtdcppkhobfbpeaaDoor
