/- Plain laws of the sum: it is the rest of the polynomial; it is linear; four bytes in a row that are turned are told. -/
import Derived.Test.YtgkoblgpadpcjaaRefCrcMath
namespace Go.Proofs.Ytgkoblgpadpcjaa

theorem half_xor (a b : Nat) : (a ^^^ b) / 2 = a / 2 ^^^ b / 2 := by
  have := Nat.shiftRight_xor_distrib (a := a) (b := b) (i := 1)
  simpa [Nat.shiftRight_eq_div_pow] using this
theorem mod_xor (a b : Nat) : (a ^^^ b) % 2 = (a % 2 + b % 2) % 2 := by
  have h : (a ^^^ b).testBit 0 = (a.testBit 0 ^^ b.testBit 0) := Nat.testBit_xor a b 0
  simp only [Nat.testBit_zero] at h
  rcases Nat.mod_two_eq_zero_or_one a with ha | ha <;> rcases Nat.mod_two_eq_zero_or_one b with hb | hb <;>
    rcases Nat.mod_two_eq_zero_or_one (a ^^^ b) with hc | hc <;> simp [ha, hb, hc] at h ⊢
theorem bitStep_xor (a b : Nat) : bitStep (a ^^^ b) = bitStep a ^^^ bitStep b := by
  unfold bitStep
  rw [half_xor, mod_xor]
  rcases Nat.mod_two_eq_zero_or_one a with ha | ha <;> rcases Nat.mod_two_eq_zero_or_one b with hb | hb <;> simp [ha, hb]
  · ac_rfl
  · ac_rfl
  · generalize a / 2 = x
    generalize b / 2 = y
    have : x ^^^ 3988292384 ^^^ (y ^^^ 3988292384) = x ^^^ y ^^^ (3988292384 ^^^ 3988292384) := by ac_rfl
    rw [this]; simp
theorem bitsN_xor (j a b : Nat) : bitsN j (a ^^^ b) = bitsN j a ^^^ bitsN j b := by
  induction j with
  | zero => rfl
  | succ j ih => simp only [bitsN, ih, bitStep_xor]
theorem bitsN_add (i j c : Nat) : bitsN (i + j) c = bitsN i (bitsN j c) := by
  induction i with
  | zero => simp [bitsN]
  | succ i ih => rw [Nat.add_right_comm]; simp only [bitsN, ih]
theorem bitStep_two (z : Nat) : bitStep (2 * z) = z := by
  rw [bitStep_even _ (by omega)]; omega
theorem bitsN_pow (j z : Nat) : bitsN j (z * 2 ^ j) = z := by
  induction j generalizing z with
  | zero => simp [bitsN]
  | succ j ih =>
    have : z * 2 ^ (j + 1) = (2 * z) * 2 ^ j := by rw [Nat.pow_succ]; ac_rfl
    simp only [bitsN]
    rw [this, ih, bitStep_two]
theorem cat_xor (b m : Nat) (hb : b < 256) : b + 256 * m = b ^^^ (m * 2 ^ 8) := by
  refine Nat.eq_of_testBit_eq fun i => ?_
  have e : b + 256 * m = 2 ^ 8 * m + b := by omega
  rw [e, Nat.testBit_two_pow_mul_add _ (by omega), Nat.testBit_xor, Nat.mul_comm m, Nat.testBit_two_pow_mul]
  by_cases h : i < 8
  · rw [if_pos h, decide_eq_false (by omega)]; simp
  · rw [if_neg h, decide_eq_true (by omega)]
    have h8 : (2 : Nat) ^ 8 ≤ 2 ^ i := Nat.pow_le_pow_right (by omega) (by omega)
    have : b.testBit i = false := Nat.testBit_lt_two_pow (by omega)
    simp [this]
theorem crcRun_eq (l : List UInt8) : ∀ c, crcRun c l = bitsN (8 * l.length) (c ^^^ mnum l) := by
  induction l with
  | nil => intro c; simp [crcRun, mnum, bitsN]
  | cons b l ih =>
    intro c
    have e : 8 * (b :: l).length = 8 * l.length + 8 := by simp; omega
    have h1 : crcRun c (b :: l) = crcRun (bitsN 8 (c ^^^ b.toNat)) l := rfl
    rw [h1, ih, e, bitsN_add, mnum, cat_xor _ _ b.toNat_lt]
    congr 1
    rw [← Nat.xor_assoc, bitsN_xor 8 (c ^^^ b.toNat), bitsN_pow]
theorem redN_div (F k : Nat) : redN F k / 2 ^ k = bitsN k F := by
  induction k with
  | zero => simp [redN, bitsN]
  | succ k ih =>
    have hp : ∀ x : Nat, x / 2 ^ (k + 1) = x / 2 ^ k / 2 := fun x => by rw [Nat.pow_succ, Nat.div_div_eq_div_mul]
    have hx : ∀ x y : Nat, (x ^^^ y) / 2 ^ k = x / 2 ^ k ^^^ y / 2 ^ k := fun x y => by
      have := Nat.shiftRight_xor_distrib (a := x) (b := y) (i := k)
      simpa [Nat.shiftRight_eq_div_pow] using this
    have hb : bit (redN F k) k = redN F k / 2 ^ k % 2 := by
      unfold bit; rw [Nat.testBit_eq_decide_div_mod_eq]
      rcases Nat.mod_two_eq_zero_or_one (redN F k / 2 ^ k) with h | h <;> simp [h]
    simp only [redN, bitsN]
    rw [hb, ih, hp]
    rcases Nat.mod_two_eq_zero_or_one (bitsN k F) with h | h
    · rw [if_neg (by omega), bitStep_even _ h, ih]
    · rw [if_pos h, bitStep_odd _ h, hx, ih, Nat.mul_div_cancel _ (Nat.two_pow_pos k), half_xor]; rfl
theorem outN_testBit (N m j : Nat) : ∀ i, (outN N m j).testBit i = (decide (i < j) && !N.testBit (m + i)) := by
  induction j with
  | zero => intro i; simp [outN]
  | succ j ih =>
    intro i
    have e : outN N m (j + 1) = 2 ^ j * (1 - bit N (m + j)) + outN N m j := by simp only [outN]; rw [Nat.mul_comm]; omega
    rw [e, Nat.testBit_two_pow_mul_add _ (outN_lt N m j), ih]
    by_cases h : i < j
    · simp [h]; omega
    · rw [if_neg h]
      by_cases h2 : i = j
      · subst h2
        simp [bit]
        cases N.testBit (m + i) <;> simp
      · have h3 : ¬ i < j + 1 := by omega
        have h4 : i - j ≠ 0 := by omega
        simp [h3]
        have : 1 - bit N (m + j) ≤ 1 := by omega
        rcases Nat.le_one_iff_eq_zero_or_eq_one.1 this with h5 | h5 <;> rw [h5]
        · simp
        · have : (1 : Nat).testBit (i - j) = false := Nat.testBit_lt_two_pow (by have := Nat.pow_le_pow_right (n := 2) (by omega) (show 1 ≤ i - j by omega); omega)
          exact this
theorem refSum_eq (l : List UInt8) : refSum l = crcOf l := by
  have h := redN_div (flipN (mnum l) 32) (8 * l.length)
  have hc := crcRun_eq l 4294967295
  have hx : flipN (mnum l) 32 = 4294967295 ^^^ mnum l := by unfold flipN; rw [Nat.xor_comm]
  rw [hx, ← hc] at h
  have hlt := crcRun_lt l 4294967295 (by omega)
  unfold refSum crcOf
  rw [hx]
  refine Nat.eq_of_testBit_eq fun i => ?_
  rw [outN_testBit, Nat.testBit_xor, ← h, Nat.testBit_div_two_pow]
  have e1 : (4294967295 : Nat).testBit i = decide (i < 32) := Nat.testBit_two_pow_sub_one 32 i
  rw [e1]
  by_cases hi : i < 32
  · simp [hi, Nat.add_comm]
  · have e2 : (redN (4294967295 ^^^ mnum l) (8 * l.length)).testBit (i + 8 * l.length) = (crcRun 4294967295 l).testBit i := by rw [← h, Nat.testBit_div_two_pow]
    have h8 : (2 : Nat) ^ 32 ≤ 2 ^ i := Nat.pow_le_pow_right (by omega) (by omega)
    have := Nat.testBit_lt_two_pow (x := crcRun 4294967295 l) (i := i) (by omega)
    rw [e2]; simp [hi, this]
/-- The sum of bytes is a constant and a part that is linear. -/
theorem crcOf_eq (l : List UInt8) : crcOf l = (4294967295 ^^^ bitsN (8 * l.length) 4294967295) ^^^ bitsN (8 * l.length) (mnum l) := by
  unfold crcOf; rw [crcRun_eq, bitsN_xor, Nat.xor_assoc]
theorem bitStep_zero (x : Nat) (hx : x < 4294967296) (h : bitStep x = 0) : x = 0 := by
  rcases Nat.mod_two_eq_zero_or_one x with h2 | h2
  · rw [bitStep_even _ h2] at h; omega
  · rw [bitStep_odd _ h2] at h
    have h3 : x / 2 = 3988292384 := by
      refine Nat.eq_of_testBit_eq fun i => ?_
      have := congrArg (fun q => q.testBit i) h
      simp only [Nat.testBit_xor, Nat.zero_testBit] at this
      revert this
      cases (x / 2).testBit i <;> cases Nat.testBit 3988292384 i <;> simp
    omega
theorem bitsN_zero (j x : Nat) (hx : x < 4294967296) (h : bitsN j x = 0) : x = 0 := by
  induction j with
  | zero => exact h
  | succ j ih => exact ih (bitStep_zero _ (bitsN_lt j x hx) h)
theorem bitsN_of_zero (j : Nat) : bitsN j 0 = 0 := by
  have := bitsN_pow j 0; simpa using this
theorem mnum_set (l : List UInt8) : ∀ k, k < l.length → ∀ x : UInt8, mnum (l.set k (l.getD k 0 ^^^ x)) = mnum l ^^^ (x.toNat * 2 ^ (8 * k)) := by
  induction l with
  | nil => intro k h; exact absurd h (by simp)
  | cons b l ih =>
    intro k hk x
    match k with
    | 0 =>
      simp only [List.set_cons_zero, mnum, List.getD_cons_zero, UInt8.toNat_xor]
      rw [cat_xor _ _ (by rw [← UInt8.toNat_xor]; exact UInt8.toNat_lt _), cat_xor _ _ b.toNat_lt]
      simp; ac_rfl
    | k + 1 =>
      simp only [List.set_cons_succ, mnum, List.getD_cons_succ]
      rw [ih k (by simpa using hk), cat_xor _ _ b.toNat_lt, cat_xor _ _ b.toNat_lt]
      have : (mnum l ^^^ x.toNat * 2 ^ (8 * k)) * 2 ^ 8 = mnum l * 2 ^ 8 ^^^ x.toNat * 2 ^ (8 * (k + 1)) := by
        have h := Nat.shiftLeft_xor_distrib (a := mnum l) (b := x.toNat * 2 ^ (8 * k)) (i := 8)
        simp only [Nat.shiftLeft_eq] at h
        rw [h, Nat.mul_assoc, ← Nat.pow_add]; rfl
      rw [this]; ac_rfl
theorem mnum_snoc (l : List UInt8) (x : UInt8) : mnum (l ++ [x]) = mnum l ^^^ (x.toNat * 2 ^ (8 * l.length)) := by
  induction l with
  | nil => simp [mnum]
  | cons b l ih =>
    simp only [List.cons_append, mnum]
    rw [ih, cat_xor _ _ b.toNat_lt, cat_xor _ _ b.toNat_lt]
    have : (mnum l ^^^ x.toNat * 2 ^ (8 * l.length)) * 2 ^ 8 = mnum l * 2 ^ 8 ^^^ x.toNat * 2 ^ (8 * (b :: l).length) := by
      have h := Nat.shiftLeft_xor_distrib (a := mnum l) (b := x.toNat * 2 ^ (8 * l.length)) (i := 8)
      simp only [Nat.shiftLeft_eq] at h
      rw [h, Nat.mul_assoc, ← Nat.pow_add]; rfl
    rw [this]; ac_rfl
/-- A list whose bytes from a place on are turned by the first i of some others. -/
def turnTo (l : List UInt8) (at0 : Nat) (xs : List UInt8) : Nat → List UInt8
  | 0 => l
  | i + 1 => (turnTo l at0 xs i).set (at0 + i) ((turnTo l at0 xs i).getD (at0 + i) 0 ^^^ xs.getD i 0)
theorem turnTo_length (l : List UInt8) (at0 : Nat) (xs : List UInt8) (i : Nat) : (turnTo l at0 xs i).length = l.length := by
  induction i with
  | zero => rfl
  | succ i ih => simp [turnTo, ih]
theorem mnum_turnTo (l : List UInt8) (at0 : Nat) (xs : List UInt8) : ∀ i, i ≤ xs.length → at0 + i ≤ l.length → mnum (turnTo l at0 xs i) = mnum l ^^^ (mnum (xs.take i) * 2 ^ (8 * at0)) := by
  intro i
  induction i with
  | zero => intro _ _; simp [turnTo, mnum]
  | succ i ih =>
    intro h1 h2
    have hx : xs.take (i + 1) = xs.take i ++ [xs.getD i 0] := by
      rw [List.take_succ_eq_append_getElem (by omega)]; simp [List.getD, show i < xs.length by omega]
    have hl : (xs.take i).length = i := by simp; omega
    rw [turnTo, mnum_set _ _ (by rw [turnTo_length]; omega), ih (by omega) (by omega), hx, mnum_snoc, hl]
    have h := Nat.shiftLeft_xor_distrib (a := mnum (xs.take i)) (b := (xs.getD i 0).toNat * 2 ^ (8 * i)) (i := 8 * at0)
    simp only [Nat.shiftLeft_eq] at h
    rw [h, Nat.mul_assoc, ← Nat.pow_add, Nat.xor_assoc, show 8 * i + 8 * at0 = 8 * (at0 + i) by omega]
theorem crc_joins (x y xs : List UInt8) (n : Nat) (hx : x.length = n) (hy : y.length = n) (hn : n ≤ xs.length) :
    crcOf (turnTo x 0 xs n) ^^^ crcOf (turnTo y 0 xs n) = crcOf x ^^^ crcOf y := by
  rw [crcOf_eq, crcOf_eq (turnTo y 0 xs n), crcOf_eq x, crcOf_eq y, turnTo_length, turnTo_length, hx, hy,
    mnum_turnTo _ _ _ _ hn (by omega), mnum_turnTo _ _ _ _ hn (by omega), bitsN_xor, bitsN_xor (8 * n) (mnum y)]
  generalize bitsN (8 * n) (mnum (List.take n xs) * 2 ^ (8 * 0)) = a
  generalize bitsN (8 * n) (mnum x) = b
  generalize bitsN (8 * n) (mnum y) = c
  generalize (4294967295 ^^^ bitsN (8 * n) 4294967295) = d
  refine Nat.eq_of_testBit_eq fun i => ?_
  simp only [Nat.testBit_xor]
  cases a.testBit i <;> cases b.testBit i <;> cases c.testBit i <;> cases d.testBit i <;> rfl
theorem crc_tells (l xs : List UInt8) (at0 : Nat) (h : at0 + 4 ≤ l.length) (hx : xs.length = 4) :
    crcOf l = crcOf (turnTo l at0 xs 4) ↔ mnum xs = 0 := by
  have ht : xs.take 4 = xs := List.take_of_length_le (by omega)
  rw [crcOf_eq l, crcOf_eq (turnTo l at0 xs 4), turnTo_length, mnum_turnTo _ _ _ _ (by omega) h, bitsN_xor, ht]
  have e : 8 * l.length = (8 * l.length - 8 * at0) + 8 * at0 := by omega
  have e2 : bitsN (8 * l.length) (mnum xs * 2 ^ (8 * at0)) = bitsN (8 * l.length - 8 * at0) (mnum xs) := by
    conv => lhs; rw [e]
    rw [bitsN_add, bitsN_pow]
  rw [e2]
  have hlt : mnum xs < 4294967296 := by have := mnum_lt xs; rw [hx] at this; exact this
  constructor
  · intro hh
    have h0 : bitsN (8 * l.length - 8 * at0) (mnum xs) = 0 := by
      generalize bitsN (8 * l.length - 8 * at0) (mnum xs) = z at *
      generalize bitsN (8 * l.length) (mnum l) = b at *
      generalize (4294967295 ^^^ bitsN (8 * l.length) 4294967295) = d at *
      refine Nat.eq_of_testBit_eq fun i => ?_
      have := congrArg (fun q => q.testBit i) hh
      simp only [Nat.testBit_xor] at this
      rw [Nat.zero_testBit]
      revert this
      cases z.testBit i <;> cases b.testBit i <;> cases d.testBit i <;> simp
    exact bitsN_zero _ _ hlt h0
  · intro h0; rw [h0, bitsN_of_zero]; simp
end Go.Proofs.Ytgkoblgpadpcjaa
