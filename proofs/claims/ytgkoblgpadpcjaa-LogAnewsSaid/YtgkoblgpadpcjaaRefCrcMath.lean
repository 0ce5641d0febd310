/- Plain functions on numbers: the document's sum. -/
import Derived.Test.YtgkoblgpadpcjaaCrcMath
import Derived.Test.YtgkoblgpadpcjaaKit
namespace Go.Proofs.Ytgkoblgpadpcjaa

def mnum : List UInt8 → Nat
  | [] => 0
  | b :: l => b.toNat + 256 * mnum l
theorem mnum_bit (l : List UInt8) : ∀ k, (h : k < l.length) → ∀ j, j < 8 → bit (mnum l) (8 * k + j) = l[k].toNat / 2 ^ j % 2 := by
  induction l with
  | nil => intro k h; exact absurd h (by simp)
  | cons b l ih =>
    intro k h j hj
    have hb := b.toNat_lt
    match k with
    | 0 =>
      have : (mnum (b :: l)).testBit (8 * 0 + j) = b.toNat.testBit j := by
        have e : mnum (b :: l) = 2 ^ 8 * mnum l + b.toNat := by simp [mnum]; omega
        rw [e, Nat.mul_zero, Nat.zero_add, Nat.testBit_two_pow_mul_add _ hb, if_pos hj]
      simp only [bit, this, List.getElem_cons_zero]
      rw [Nat.testBit_eq_decide_div_mod_eq]
      have := Nat.mod_two_eq_zero_or_one (b.toNat / 2 ^ j)
      rcases this with h | h <;> simp [h]
    | k + 1 =>
      have e : mnum (b :: l) = 2 ^ 8 * mnum l + b.toNat := by simp [mnum]; omega
      have : (mnum (b :: l)).testBit (8 * (k + 1) + j) = (mnum l).testBit (8 * k + j) := by
        rw [e, Nat.testBit_two_pow_mul_add _ hb, if_neg (by omega)]
        congr 1; omega
      simp only [bit, this]
      exact ih k (by simpa using h) j hj
theorem mnum_lt (l : List UInt8) : mnum l < 2 ^ (8 * l.length) := by
  induction l with
  | nil => simp [mnum]
  | cons b l ih =>
    have hb := b.toNat_lt
    have : (2 : Nat) ^ (8 * (b :: l).length) = 256 * 2 ^ (8 * l.length) := by
      rw [List.length_cons, Nat.mul_add, Nat.pow_add]; omega
    simp only [mnum]; omega
theorem mnum_bit_hi (l : List UInt8) (i : Nat) (h : 8 * l.length ≤ i) : bit (mnum l) i = 0 := by
  have := mnum_lt l
  have h2 : mnum l < 2 ^ i := Nat.lt_of_lt_of_le this (Nat.pow_le_pow_right (by omega) h)
  simp [bit, Nat.testBit_lt_two_pow h2]
theorem shr_mod (x j : Nat) : ((x : Int) / 2 ^ j).tmod 2 = ((x / 2 ^ j % 2 : Nat) : Int) := by
  have e : ((x : Int) / 2 ^ j) = ((x / 2 ^ j : Nat) : Int) := by simp
  rw [e]; exact (Int.ofNat_tmod ..).symm

def poly33 : Nat := 7976584769
def polyCells : Array Value := #[.int .i64 1, .int .i64 0, .int .i64 0, .int .i64 0, .int .i64 0, .int .i64 0, .int .i64 1, .int .i64 0, .int .i64 0, .int .i64 1, .int .i64 1, .int .i64 0,
  .int .i64 0, .int .i64 0, .int .i64 0, .int .i64 0, .int .i64 1, .int .i64 0, .int .i64 0, .int .i64 0, .int .i64 1, .int .i64 1, .int .i64 1, .int .i64 0,
  .int .i64 1, .int .i64 1, .int .i64 0, .int .i64 1, .int .i64 1, .int .i64 0, .int .i64 1, .int .i64 1, .int .i64 1]
theorem polyCells_eq : polyCells.toList = bitVals poly33 33 := by kernel_rfl
theorem BitRow.poly (w : World) : BitRow (w.alloc (.cells polyCells 3)) w.heap.size poly33 33 := by
  have h := World.ownsRow_lit (base := w.heap.size) (e := 3) (size := 1) w polyCells 33 (Nat.le_refl _) (by decide) rfl
  rw [polyCells_eq] at h
  exact BitRow.of_owns h
def flipN (N j : Nat) : Nat := N ^^^ (2 ^ j - 1)
theorem flipN_zero (N : Nat) : flipN N 0 = N := by simp [flipN]
theorem flipN_bit (N j : Nat) : bit (flipN N (j + 1)) j = 1 - bit (flipN N j) j := by
  simp only [bit, flipN, Nat.testBit_xor, Nat.testBit_two_pow_sub_one]
  cases N.testBit j <;> simp
theorem flipN_other (N j i : Nat) (h : i ≠ j) : (flipN N (j + 1)).testBit i = (flipN N j).testBit i := by
  simp only [flipN, Nat.testBit_xor, Nat.testBit_two_pow_sub_one]
  congr 1
  simp; omega
/-- N after j of the 33 steps of an addition of the polynomial at k. -/
def addN (N k j : Nat) : Nat := N ^^^ ((poly33 % 2 ^ j) * 2 ^ k)
theorem addN_testBit (N k j i : Nat) : (addN N k j).testBit i = (N.testBit i ^^ (decide (k ≤ i) && (decide (i - k < j) && poly33.testBit (i - k)))) := by
  simp only [addN, Nat.testBit_xor]
  congr 1
  rw [Nat.mul_comm, Nat.testBit_two_pow_mul]
  simp [Nat.testBit_mod_two_pow]
theorem addN_zero (N k : Nat) : addN N k 0 = N := by simp [addN, Nat.mod_one]
theorem addN_bit (N k j : Nat) : bit (addN N k (j + 1)) (k + j) = (bit (addN N k j) (k + j) + bit poly33 j) % 2 := by
  have e : k + j - k = j := by omega
  simp only [bit, addN_testBit, e]
  cases N.testBit (k + j) <;> cases poly33.testBit j <;> simp
theorem addN_other (N k j i : Nat) (h : i ≠ k + j) : (addN N k (j + 1)).testBit i = (addN N k j).testBit i := by
  simp only [addN_testBit]
  congr 1
  by_cases hk : k ≤ i
  · have : decide (i - k < j + 1) = decide (i - k < j) := by simp; omega
    rw [this]
  · simp [hk]
theorem addN_end (N k : Nat) : addN N k 33 = N ^^^ (poly33 * 2 ^ k) := by
  simp only [addN]; congr 1
def redN (N : Nat) : Nat → Nat
  | 0 => N
  | k + 1 => if bit (redN N k) k = 1 then redN N k ^^^ (poly33 * 2 ^ k) else redN N k
def outN (N m : Nat) : Nat → Nat
  | 0 => 0
  | j + 1 => outN N m j + (1 - bit N (m + j)) * 2 ^ j
theorem outN_lt (N m j : Nat) : outN N m j < 2 ^ j := by
  induction j with
  | zero => simp [outN]
  | succ j ih =>
    have : (1 - bit N (m + j)) * 2 ^ j ≤ 2 ^ j := by
      have : 1 - bit N (m + j) ≤ 1 := by omega
      calc (1 - bit N (m + j)) * 2 ^ j ≤ 1 * 2 ^ j := Nat.mul_le_mul_right _ this
        _ = 2 ^ j := by omega
    simp only [outN, Nat.pow_succ]; omega
theorem outN_step (N m j : Nat) (hj : j < 32) : ((outN N m j : Nat) + (1 - (bit N (m + j) : Nat)) * 2 ^ j % 4294967296 : Int) % 4294967296 = (outN N m (j + 1) : Nat) := by
  have h1 := outN_lt N m j
  have h2 := outN_lt N m (j + 1)
  have h3 : (2 : Nat) ^ (j + 1) ≤ 4294967296 := Nat.pow_le_pow_right (n := 2) (by omega) (show j + 1 ≤ 32 by omega)
  have h4 : (2 : Nat) ^ j * 2 ≤ 4294967296 := by rw [← Nat.pow_succ]; exact h3
  have e : ((1 - (bit N (m + j) : Nat) : Int)) * 2 ^ j = (((1 - bit N (m + j)) * 2 ^ j : Nat) : Int) := by
    have := bit_le N (m + j)
    rw [Int.natCast_mul, Int.natCast_sub this]; simp
  have h5 : (1 - bit N (m + j)) * 2 ^ j ≤ 2 ^ j := by
    calc (1 - bit N (m + j)) * 2 ^ j ≤ 1 * 2 ^ j := Nat.mul_le_mul_right _ (by omega)
      _ = 2 ^ j := by omega
  rw [e]
  simp only [outN] at h2 ⊢
  generalize (1 - bit N (m + j)) * 2 ^ j = q at *
  generalize (2 : Nat) ^ j = r at *
  omega
def refSum (l : List UInt8) : Nat := outN (redN (flipN (mnum l) 32) (8 * l.length)) (8 * l.length) 32
end Go.Proofs.Ytgkoblgpadpcjaa
