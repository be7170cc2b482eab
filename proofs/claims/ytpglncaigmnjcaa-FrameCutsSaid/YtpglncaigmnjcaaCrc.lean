/-
  Plain mathematics of the frame's sum: the step by one bit, the table's step by one byte, and that a changed byte changes the sum. Nothing of the program stands here.
-/
import Derived.KernelRfl
namespace Go.Proofs.Ytpglncaigmnjcaa.crc

def poly : BitVec 32 := 2197175160#32
def step (c : BitVec 32) : BitVec 32 := if c.getLsbD 0 then (c >>> 1) ^^^ poly else c >>> 1
def stepN : Nat → BitVec 32 → BitVec 32
  | 0, c => c
  | n + 1, c => step (stepN n c)
def byteB (c : BitVec 32) (x : UInt8) : BitVec 32 := stepN 8 (c ^^^ BitVec.ofNat 32 x.toNat)
def run (c : BitVec 32) (l : List UInt8) : BitVec 32 := l.foldl byteB c
def ones : BitVec 32 := 4294967295#32
def sum (l : List UInt8) : BitVec 32 := run ones l ^^^ ones
def tab (i : Nat) : BitVec 32 := stepN 8 (BitVec.ofNat 32 i)

theorem step_xor (a b : BitVec 32) : step (a ^^^ b) = step a ^^^ step b := by
  unfold step
  rw [BitVec.getLsbD_xor, BitVec.ushiftRight_xor_distrib]
  cases a.getLsbD 0 <;> cases b.getLsbD 0 <;> simp
  · rw [BitVec.xor_assoc]
  · rw [BitVec.xor_assoc, BitVec.xor_assoc, BitVec.xor_comm poly]
  · rw [BitVec.xor_assoc, BitVec.xor_comm poly, BitVec.xor_assoc, BitVec.xor_self, BitVec.xor_zero]

theorem stepN_xor (n : Nat) (a b : BitVec 32) : stepN n (a ^^^ b) = stepN n a ^^^ stepN n b := by
  induction n with
  | zero => rfl
  | succ n ih => simp only [stepN, ih, step_xor]

theorem stepN_shift (n : Nat) (c : BitVec 32) (h : ∀ i, i < n → c.getLsbD i = false) : stepN n c = c >>> n := by
  induction n with
  | zero => simp [stepN]
  | succ n ih =>
    rw [stepN, ih (fun i hi => h i (by omega))]
    unfold step
    have : (c >>> n).getLsbD 0 = false := by rw [BitVec.getLsbD_ushiftRight]; exact h _ (by omega)
    rw [this]
    show c >>> n >>> 1 = _
    apply BitVec.eq_of_getLsbD_eq
    intro i _
    simp only [BitVec.getLsbD_ushiftRight]
    rw [show n + (1 + i) = n + 1 + i from by omega]

theorem split8 (c : BitVec 32) : c = ((c >>> 8) <<< 8) ^^^ BitVec.ofNat 32 (c.toNat % 256) := by
  apply BitVec.eq_of_getLsbD_eq
  intro i hi
  rw [BitVec.getLsbD_xor, BitVec.getLsbD_shiftLeft, BitVec.getLsbD_ushiftRight, BitVec.getLsbD_ofNat]
  have e : (c.toNat % 256).testBit i = (decide (i < 8) && c.getLsbD i) := by
    rw [show (256 : Nat) = 2 ^ 8 from rfl, Nat.testBit_mod_two_pow]; rfl
  rw [e]
  by_cases h8 : i < 8
  · simp [h8, hi]
  · simp [h8, hi, show 8 + (i - 8) = i from by omega]

theorem byte_tab (c : BitVec 32) (x : UInt8) : byteB c x = (c >>> 8) ^^^ tab ((c.toNat % 256) ^^^ x.toNat) := by
  unfold byteB tab
  have h : c ^^^ BitVec.ofNat 32 x.toNat = ((c >>> 8) <<< 8) ^^^ BitVec.ofNat 32 ((c.toNat % 256) ^^^ x.toNat) := by
    conv => lhs; rw [split8 c]
    rw [BitVec.xor_assoc, ← BitVec.ofNat_xor]
  rw [h, stepN_xor, stepN_shift]
  · congr 1
    apply BitVec.eq_of_getLsbD_eq
    intro i hi
    simp only [BitVec.getLsbD_ushiftRight, BitVec.getLsbD_shiftLeft]
    by_cases h8 : 8 + i < 32
    · simp [h8]
    · simp [h8]; rw [BitVec.getLsbD_of_ge _ _ (by omega)]
  · intro i hi
    rw [BitVec.getLsbD_shiftLeft]
    simp [hi]

theorem step_inj {a b : BitVec 32} (h : step a = step b) : a = b := by
  have ht : ∀ c : BitVec 32, (step c).getLsbD 31 = c.getLsbD 0 := by
    intro c
    unfold step
    have h31 : (c >>> 1).getLsbD 31 = false := by rw [BitVec.getLsbD_ushiftRight]; exact BitVec.getLsbD_of_ge _ _ (by omega)
    cases hc : c.getLsbD 0
    · exact h31
    · simp only [if_true, BitVec.getLsbD_xor, h31]; decide
  have h0 : a.getLsbD 0 = b.getLsbD 0 := by rw [← ht a, ← ht b, h]
  have h1 : a >>> 1 = b >>> 1 := by
    unfold step at h
    rw [h0] at h
    cases hb : b.getLsbD 0
    · rw [hb] at h; exact h
    · rw [hb] at h
      simp only [if_true] at h
      have := congrArg (· ^^^ poly) h
      simpa [BitVec.xor_assoc] using this
  apply BitVec.eq_of_getLsbD_eq
  intro i hi
  match i with
  | 0 => exact h0
  | i + 1 =>
    have := congrArg (fun x => BitVec.getLsbD x i) h1
    simpa [BitVec.getLsbD_ushiftRight, Nat.add_comm] using this

theorem stepN_inj (n : Nat) {a b : BitVec 32} (h : stepN n a = stepN n b) : a = b := by
  induction n with
  | zero => exact h
  | succ n ih => exact ih (step_inj h)

theorem xor_right_inj {a b c : BitVec 32} (h : a ^^^ c = b ^^^ c) : a = b := by
  have := congrArg (· ^^^ c) h
  simpa [BitVec.xor_assoc] using this

theorem byteB_inj {a b : BitVec 32} (x : UInt8) (h : byteB a x = byteB b x) : a = b := xor_right_inj (stepN_inj 8 h)

theorem byteB_byte {c : BitVec 32} {x y : UInt8} (h : byteB c x = byteB c y) : x = y := by
  have h1 := stepN_inj 8 h
  rw [BitVec.xor_comm c, BitVec.xor_comm c] at h1
  have h2 := xor_right_inj h1
  have h3 := congrArg BitVec.toNat h2
  have hx := x.toNat_lt
  have hy := y.toNat_lt
  simp only [BitVec.toNat_ofNat] at h3
  rw [Nat.mod_eq_of_lt (by omega), Nat.mod_eq_of_lt (by omega)] at h3
  exact UInt8.toNat_inj.1 h3

theorem run_inj (l : List UInt8) {a b : BitVec 32} (h : run a l = run b l) : a = b := by
  induction l generalizing a b with
  | nil => exact h
  | cons x l ih => exact byteB_inj x (ih h)

/-- one byte changed: another sum -/
theorem sum_changed (l1 l2 : List UInt8) {x y : UInt8} (h : sum (l1 ++ x :: l2) = sum (l1 ++ y :: l2)) : x = y := by
  have h1 := xor_right_inj h
  unfold run at h1
  rw [List.foldl_append, List.foldl_append, List.foldl_cons, List.foldl_cons] at h1
  exact byteB_byte (run_inj l2 h1)

theorem run_append (c : BitVec 32) (l1 l2 : List UInt8) : run c (l1 ++ l2) = run (run c l1) l2 := by
  unfold run; rw [List.foldl_append]
theorem run_snoc (c : BitVec 32) (l : List UInt8) (x : UInt8) : run c (l ++ [x]) = byteB (run c l) x := by
  rw [run_append]; rfl

end Go.Proofs.Ytpglncaigmnjcaa.crc
