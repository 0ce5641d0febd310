/- A log, the plain part: records as they lie on a disk, and as they are read again. -/
import Derived.Test.YtgkoblgpadpcjaaLogBa
namespace Go.Proofs.Ytgkoblgpadpcjaa
open Go.RowKit

theorem num_le4 (n : Nat) (r : List UInt8) (bad : Bool) (most : Int) (h : (n : Int) ≤ most) (h2 : n < 4294967296) : numRes (le4 n ++ r) bad most = (n, r, bad) := by
  unfold numRes le4
  simp only [List.cons_append, List.nil_append]
  rw [recApart.num4_le4 n h2, if_pos h]
theorem crc_lt (l : List UInt8) : crcOf l < 4294967296 := crcOf_lt l
theorem pad_drop (x : UInt8) (t : List UInt8) (ht : t.length ≤ 63) : (pad64 (x :: t)).drop 1 = t ++ List.replicate (63 - t.length) 0 := by
  unfold pad64
  rw [List.cons_append, List.drop_succ_cons, List.drop_zero, List.length_cons, show 64 - (t.length + 1) = 63 - t.length by omega]
theorem recSec_drop (i : Nat) (all : List UInt8) : (recSec i all).drop 1 = all.take 63 ++ List.replicate (63 - all.length) 0 := by
  unfold recSec
  rw [pad_drop _ _ (by rw [List.length_take]; omega), List.length_take]
  congr 2
  omega
theorem recSec_head0 (all : List UInt8) : (recSec 0 all).headD 0 = 2 := rfl
theorem recSec_head (i : Nat) (all : List UInt8) (hi : 1 ≤ i) : (recSec i all).headD 0 = 3 := by
  unfold recSec
  rw [if_neg (by omega)]
  rfl
theorem rec_drop (seq epoch : Nat) (b : List UInt8) : (recBytes seq epoch b).drop 16 = b := by
  unfold recBytes
  have h : (le4 b.length ++ le4 seq ++ le4 epoch ++ le4 (crcOf (le4 seq ++ le4 epoch ++ b))).length = 16 := by simp [le4_len]
  rw [show 16 = (le4 b.length ++ le4 seq ++ le4 epoch ++ le4 (crcOf (le4 seq ++ le4 epoch ++ b))).length from h.symm, List.drop_left]
theorem rec_take (seq epoch : Nat) (b : List UInt8) : (recBytes seq epoch b).take 16 = le4 b.length ++ (le4 seq ++ (le4 epoch ++ (le4 (crcOf (le4 seq ++ le4 epoch ++ b)) ++ []))) := by
  unfold recBytes
  have h : (le4 b.length ++ le4 seq ++ le4 epoch ++ le4 (crcOf (le4 seq ++ le4 epoch ++ b))).length = 16 := by simp [le4_len]
  rw [show 16 = (le4 b.length ++ le4 seq ++ le4 epoch ++ le4 (crcOf (le4 seq ++ le4 epoch ++ b))).length from h.symm, List.take_left]
  simp
theorem fourOf_rec (seq epoch : Nat) (b : List UInt8) (hb : b.length ≤ 4096) (hs : seq ≤ 2147483648) (he : epoch ≤ 2147483648) :
    fourOf (recSec 0 (recBytes seq epoch b)) = ((b.length, seq, epoch, crcOf (le4 seq ++ le4 epoch ++ b)), true) := by
  have hc := crc_lt (le4 seq ++ le4 epoch ++ b)
  have hl := rec_len seq epoch b
  have h1 : ((recSec 0 (recBytes seq epoch b)).drop 1).take 16 = (recBytes seq epoch b).take 16 := by
    rw [recSec_drop, List.take_append_of_le_length (by rw [List.length_take]; omega), List.take_take, show min 16 63 = 16 by decide]
  unfold fourOf
  rw [h1, rec_take, num_le4 _ _ _ _ (by omega) (by omega)]
  dsimp only
  rw [num_le4 _ _ _ _ (by omega) (by omega)]
  dsimp only
  rw [num_le4 _ _ _ _ (by omega) (by omega)]
  dsimp only
  rw [num_le4 _ _ _ _ (by omega) (by omega)]
  rfl
/-- The epoch that a record's first sector bears. -/
def lookNum (s : List UInt8) : Nat := (numRes ((s.drop 9).take 4) false 2147483648).1
theorem lookNum_rec (seq epoch : Nat) (b : List UInt8) (he : epoch ≤ 2147483648) : lookNum (recSec 0 (recBytes seq epoch b)) = epoch := by
  have hl := rec_len seq epoch b
  have h1 : (recSec 0 (recBytes seq epoch b)).drop 9 = ((recBytes seq epoch b).take 63 ++ List.replicate (63 - (recBytes seq epoch b).length) 0).drop 8 := by
    rw [← recSec_drop 0, List.drop_drop]
  have h2 : ((recSec 0 (recBytes seq epoch b)).drop 9).take 4 = le4 epoch := by
    rw [h1, List.drop_append_of_le_length (by rw [List.length_take]; omega), List.take_append_of_le_length (by rw [List.length_drop, List.length_take]; omega), List.drop_take, List.take_take, show min 4 (63 - 8) = 4 by decide]
    unfold recBytes
    rfl
  unfold lookNum
  rw [h2, ← List.append_nil (le4 epoch), num_le4 _ _ _ _ (by omega) (by omega)]
theorem numRes_bad (l : List UInt8) (most : Int) : (numRes l true most).2.2 = true := by
  unfold numRes
  split
  · split <;> rfl
  · rfl
theorem four_look (s : List UInt8) (hs : s.length = 64) (h : (fourOf s).2 = true) : (fourOf s).1.2.2.1 = lookNum s := by
  obtain ⟨x, s1, rfl⟩ : ∃ x t, s = x :: t := by cases s with
    | nil => simp at hs
    | cons x t => exact ⟨x, t, rfl⟩
  obtain ⟨a0, a1, a2, a3, b0, b1, b2, b3, c0, c1, c2, c3, d0, d1, d2, d3, r, rfl⟩ : ∃ a0 a1 a2 a3 b0 b1 b2 b3 c0 c1 c2 c3 d0 d1 d2 d3 r, s1 = a0 :: a1 :: a2 :: a3 :: b0 :: b1 :: b2 :: b3 :: c0 :: c1 :: c2 :: c3 :: d0 :: d1 :: d2 :: d3 :: r := by
    match s1, hs with
    | a0 :: a1 :: a2 :: a3 :: b0 :: b1 :: b2 :: b3 :: c0 :: c1 :: c2 :: c3 :: d0 :: d1 :: d2 :: d3 :: r, _ => exact ⟨_, _, _, _, _, _, _, _, _, _, _, _, _, _, _, _, _, rfl⟩
  unfold fourOf lookNum at *
  simp only [List.drop_succ_cons, List.drop_zero, List.take_succ_cons, List.take_zero] at *
  unfold numRes at *
  simp only at *
  by_cases h1 : (num4 a0 a1 a2 a3 : Int) ≤ 4096
  · rw [if_pos h1] at *
    simp only at *
    by_cases h2 : (num4 b0 b1 b2 b3 : Int) ≤ 2147483648
    · rw [if_pos h2] at *
      simp only at *
      by_cases h3 : (num4 c0 c1 c2 c3 : Int) ≤ 2147483648
      · rw [if_pos h3, if_pos h3]
      · rw [if_neg h3] at h
        simp at h
    · rw [if_neg h2] at h
      simp at h
  · rw [if_neg h1] at h
    simp at h

/-- A disk with power, all of whose writes are kept. -/
structure Calm0 (D : Dk) : Prop where
  down : D.down = false
  cache : D.cache = []
theorem Calm0.read {D : Dk} (h : Calm0 D) {a : Nat} {s : List UInt8} (hs : D.kept[a]? = some s) : D.read (a : Int) = (s, 0) := by
  obtain ⟨hl, hg⟩ := List.getElem?_eq_some_iff.1 hs
  rw [diskPower.read_kept h.down h.cache a hl, hg]
/-- A record lies at a place. -/
def RecAt (K : List (List UInt8)) (p seq epoch : Nat) (b : List UInt8) : Prop := ∀ i, i < sectorsOf b.length → K[p + i]? = some (recSec i ((recBytes seq epoch b).drop (63 * i)))
theorem sectors_pos (n : Nat) : 1 ≤ sectorsOf n := by unfold sectorsOf; omega
theorem sectors_fit (n : Nat) : 16 + n ≤ 63 * sectorsOf n := by unfold sectorsOf; omega
theorem moreGo_rec {D : Dk} (h : Calm0 D) (p : Nat) : ∀ (f i : Nat) (acc all : List UInt8) (_ : ∀ j, j < f → D.kept[p + (i + j)]? = some (recSec (i + j) (all.drop (63 * j)))) (_ : 1 ≤ i) (_ : all.length ≤ 63 * f),
    moreGo D p f i acc = (some (acc ++ all ++ List.replicate (63 * f - all.length) 0), 0)
  | 0, i, acc, all, _, _, hl => by
    obtain rfl := List.eq_nil_of_length_eq_zero (show all.length = 0 by omega)
    simp [moreGo]
  | f + 1, i, acc, all, hk, hi, hl => by
    have h0 := h.read (hk 0 (by omega))
    simp only [Nat.add_zero, Nat.mul_zero, List.drop_zero] at h0
    rw [moreGo, h0, if_pos rfl, if_pos (recSec_head i all hi)]
    simp only
    rw [recSec_drop, moreGo_rec h p f (i + 1) _ (all.drop 63) (fun j hj => by
      have := hk (j + 1) (by omega)
      rw [List.drop_drop, show i + 1 + j = i + (j + 1) by omega, show 63 + 63 * j = 63 * (j + 1) by omega]
      exact this) (by omega) (by rw [List.length_drop]; omega)]
    rw [List.length_drop]
    congr 2
    by_cases h63 : 63 ≤ all.length
    · rw [show 63 - all.length = 0 by omega, List.replicate_zero, List.append_nil, List.append_assoc acc, List.take_append_drop, show 63 * f - (all.length - 63) = 63 * (f + 1) - all.length by omega]
    · rw [List.drop_of_length_le (by omega), List.take_of_length_le (by omega), List.append_nil, show all.length - 63 = 0 by omega, ← List.append_assoc, List.append_assoc (acc ++ all), List.replicate_append_replicate]
      congr 2
      omega
theorem moreGo_torn {D : Dk} (h : Calm0 D) (p : Nat) : ∀ (f i : Nat) (acc : List UInt8) (_ : p + i + f ≤ D.kept.length) (_ : ∃ j s, j < f ∧ D.kept[p + (i + j)]? = some s ∧ s.headD 0 ≠ 3), moreGo D p f i acc = (none, 0)
  | 0, i, acc, _, hx => by obtain ⟨j, s, hj, _⟩ := hx; omega
  | f + 1, i, acc, hl, hx => by
    obtain ⟨s0, hs0⟩ : ∃ s, D.kept[p + i]? = some s := ⟨_, List.getElem?_eq_getElem (by omega)⟩
    rw [moreGo, h.read hs0, if_pos rfl]
    simp only
    by_cases h3 : s0.headD 0 = 3
    · rw [if_pos h3]
      refine moreGo_torn h p f (i + 1) _ (by omega) ?_
      obtain ⟨j, s, hj, hs, hn⟩ := hx
      rcases j with _ | j
      · rw [Nat.add_zero, hs0] at hs
        obtain rfl := Option.some.inj hs
        exact absurd h3 hn
      · exact ⟨j, s, by omega, by rw [show i + 1 + j = i + (j + 1) by omega]; exact hs, hn⟩
    · rw [if_neg h3]
theorem nextP_rec {D : Dk} (h : Calm0 D) (L : Lg) (b : List UInt8) (hb : b.length ≤ 4096) (hs : L.list.length ≤ 2147483648) (he : L.epoch ≤ 2147483648) (hfit : L.at_ + sectorsOf b.length ≤ halfOf D)
    (hr : RecAt D.kept (placeOf D L.half L.at_) L.list.length L.epoch b) : nextP D L = (b, sectorsOf b.length, 0) := by
  have hp := sectors_pos b.length
  have hf := sectors_fit b.length
  have hl := rec_len L.list.length L.epoch b
  have h0 := hr 0 (by omega)
  simp only [Nat.add_zero, Nat.mul_zero, List.drop_zero] at h0
  unfold nextP
  rw [if_neg (by omega), h.read h0]
  simp only
  rw [if_neg (by simp), fourOf_rec _ _ _ hb hs he]
  simp only
  rw [if_neg (by rw [recSec_head0]; simp; omega)]
  have hm := moreGo_rec h (placeOf D L.half L.at_) (sectorsOf b.length - 1) 1 ((recSec 0 (recBytes L.list.length L.epoch b)).drop 17) ((recBytes L.list.length L.epoch b).drop 63) (fun j hj => by
    have := hr (1 + j) (by omega)
    rw [List.drop_drop, show 63 + 63 * j = 63 * (1 + j) by omega]
    exact this) (Nat.le_refl _) (by rw [List.length_drop]; omega)
  rw [hm]
  simp only
  have hd : (recSec 0 (recBytes L.list.length L.epoch b)).drop 17 = ((recBytes L.list.length L.epoch b).take 63).drop 16 ++ List.replicate (63 - (recBytes L.list.length L.epoch b).length) 0 := by
    have : (recSec 0 (recBytes L.list.length L.epoch b)).drop 17 = ((recSec 0 (recBytes L.list.length L.epoch b)).drop 1).drop 16 := by rw [List.drop_drop]
    rw [this, recSec_drop, List.drop_append_of_le_length (by rw [List.length_take]; omega)]
  have ht : ((recSec 0 (recBytes L.list.length L.epoch b)).drop 17 ++ (recBytes L.list.length L.epoch b).drop 63 ++ List.replicate (63 * (sectorsOf b.length - 1) - ((recBytes L.list.length L.epoch b).drop 63).length) 0).take b.length = b := by
    rw [hd]
    by_cases h63 : 63 ≤ (recBytes L.list.length L.epoch b).length
    · rw [show 63 - (recBytes L.list.length L.epoch b).length = 0 by omega, List.replicate_zero, List.append_nil]
      have e : ((recBytes L.list.length L.epoch b).take 63).drop 16 ++ (recBytes L.list.length L.epoch b).drop 63 = b := by
        have e1 : (recBytes L.list.length L.epoch b).drop 16 = ((recBytes L.list.length L.epoch b).take 63 ++ (recBytes L.list.length L.epoch b).drop 63).drop 16 := by rw [List.take_append_drop]
        rw [List.drop_append_of_le_length (by rw [List.length_take]; omega)] at e1
        rw [← e1, rec_drop]
      rw [e, List.take_append_of_le_length (Nat.le_refl _), List.take_length]
    · rw [List.take_of_length_le (show (recBytes L.list.length L.epoch b).length ≤ 63 by omega), rec_drop, List.append_assoc, List.append_assoc, List.take_append_of_le_length (Nat.le_refl _), List.take_length]
  rw [ht, if_neg (by simp)]
/-- A sector that begins no record of this epoch. -/
def Clean (K : List (List UInt8)) (a epoch : Nat) : Prop := ∃ s, K[a]? = some s ∧ s.length = 64 ∧ (s.headD 0 = 2 → lookNum s ≠ epoch)
/-- A record of which a sector lacks. -/
def TornAt (K : List (List UInt8)) (p seq epoch : Nat) : Prop := ∃ b : List UInt8, b.length ≤ 4096 ∧ seq ≤ 2147483648 ∧ epoch ≤ 2147483648 ∧ p + sectorsOf b.length ≤ K.length ∧ K[p]? = some (recSec 0 (recBytes seq epoch b)) ∧ ∃ j s, 1 ≤ j ∧ j < sectorsOf b.length ∧ K[p + j]? = some s ∧ s.headD 0 ≠ 3
/-- No record begins at a place. -/
def Stop (K : List (List UInt8)) (p hf at_ seq epoch : Nat) : Prop := hf ≤ at_ ∨ Clean K (p + at_) epoch ∨ TornAt K (p + at_) seq epoch
theorem nextP_stop {D : Dk} (h : Calm0 D) (L : Lg) (hs : Stop D.kept (2 + L.half * halfOf D) (halfOf D) L.at_ L.list.length L.epoch) : nextP D L = ([], 0, 0) := by
  unfold nextP
  by_cases hh : halfOf D ≤ L.at_
  · rw [if_pos hh]
  · rw [if_neg hh]
    rcases hs with h1 | ⟨s, h1, h2, h3⟩ | ⟨b, hb, hsq, he, hp, h1, j, s, hj1, hj2, h2, h3⟩
    · exact absurd h1 hh
    · have hr := h.read h1
      have e : placeOf D L.half L.at_ = 2 + L.half * halfOf D + L.at_ := rfl
      rw [e, hr]
      simp only
      rw [if_neg (by simp)]
      by_cases hc : s.headD 0 = 2
      · by_cases hg : (fourOf s).2 = true
        · have := four_look s h2 hg
          rw [if_pos (.inr (.inr (.inr (.inl (by rw [this]; exact h3 hc)))))]
        · rw [if_pos (.inr (.inl (by simpa using hg)))]
      · rw [if_pos (.inl hc)]
    · have hr := h.read h1
      have e : placeOf D L.half L.at_ = 2 + L.half * halfOf D + L.at_ := rfl
      rw [e, hr]
      simp only
      rw [if_neg (by simp), fourOf_rec _ _ _ hb hsq he]
      simp only
      split
      · rfl
      · have hsp := sectors_pos b.length
        have hm := moreGo_torn h (2 + L.half * halfOf D + L.at_) (sectorsOf b.length - 1) 1 ((recSec 0 (recBytes L.list.length L.epoch b)).drop 17) (by omega) ⟨j - 1, s, by omega, by rw [show 1 + (j - 1) = j by omega]; exact h2, h3⟩
        rw [hm]
/-- How many sectors records have. -/
def roomL : List (List UInt8) → Nat
  | [] => 0
  | b :: r => sectorsOf b.length + roomL r
theorem roomL_append (l m : List (List UInt8)) : roomL (l ++ m) = roomL l + roomL m := by
  induction l with
  | nil => simp [roomL]
  | cons b r ih => simp only [List.cons_append, roomL, ih]; omega
theorem room_len (l : List (List UInt8)) : l.length ≤ roomL l := by
  induction l with
  | nil => simp [roomL]
  | cons b r ih => have := sectors_pos b.length; simp only [List.length_cons, roomL]; omega
/-- Records lie one behind the other. -/
def Recs (K : List (List UInt8)) (p epoch : Nat) : Nat → Nat → List (List UInt8) → Prop
  | _, _, [] => True
  | at_, seq, b :: r => b.length ≤ 4096 ∧ RecAt K (p + at_) seq epoch b ∧ Recs K p epoch (at_ + sectorsOf b.length) (seq + 1) r
theorem Recs.keep {K K' : List (List UInt8)} {p epoch : Nat} : ∀ {rs : List (List UInt8)} {at_ seq : Nat} (_ : Recs K p epoch at_ seq rs) (_ : ∀ i, at_ ≤ i → i < at_ + roomL rs → K'[p + i]? = K[p + i]?), Recs K' p epoch at_ seq rs
  | [], _, _, _, _ => trivial
  | b :: r, at_, seq, h, hk => by
    have := sectors_pos b.length
    refine ⟨h.1, fun i hi => ?_, Recs.keep h.2.2 fun i h1 h2 => hk i (by omega) (by simp only [roomL]; omega)⟩
    rw [Nat.add_assoc, hk (at_ + i) (by omega) (by simp only [roomL]; omega), ← Nat.add_assoc]
    exact h.2.1 i hi
theorem Recs.snoc {K : List (List UInt8)} {p epoch : Nat} {b : List UInt8} : ∀ {rs : List (List UInt8)} {at_ seq : Nat} (_ : Recs K p epoch at_ seq rs) (_ : b.length ≤ 4096) (_ : RecAt K (p + (at_ + roomL rs)) (seq + rs.length) epoch b), Recs K p epoch at_ seq (rs ++ [b])
  | [], at_, seq, _, hb, hr => ⟨hb, by simpa [roomL] using hr, trivial⟩
  | c :: r, at_, seq, h, hb, hr => ⟨h.1, h.2.1, Recs.snoc h.2.2 hb (by
      rw [show at_ + sectorsOf c.length + roomL r = at_ + roomL (c :: r) by simp only [roomL]; omega, show seq + 1 + r.length = seq + (c :: r).length by simp only [List.length_cons]; omega]
      exact hr)⟩
theorem readAll_recs {D : Dk} (h : Calm0 D) : ∀ (rs : List (List UInt8)) (f : Nat) (L : Lg) (_ : Recs D.kept (2 + L.half * halfOf D) L.epoch L.at_ L.list.length rs) (_ : L.at_ + roomL rs ≤ halfOf D) (_ : Stop D.kept (2 + L.half * halfOf D) (halfOf D) (L.at_ + roomL rs) (L.list.length + rs.length) L.epoch)
    (_ : L.epoch ≤ 2147483648) (_ : L.list.length + rs.length ≤ 2147483648) (_ : rs.length < f), readAll D f L = (some { L with list := L.list ++ rs, at_ := L.at_ + roomL rs }, 0)
  | [], 0, L, _, _, _, _, _, hf => by simp at hf
  | [], f + 1, L, _, _, hs, _, _, _ => by
    rw [readAll, nextP_stop h L (by simpa [roomL] using hs), if_neg (by simp), if_pos rfl]
    simp [roomL]
  | b :: r, 0, L, _, _, _, _, _, hf => by simp at hf
  | b :: r, f + 1, L, hr, hfit, hs, he, hl, hf => by
    simp only [roomL, List.length_cons] at hfit hs hl hf
    have hp := sectors_pos b.length
    rw [readAll, nextP_rec h L b hr.1 (by omega) he (by omega) hr.2.1, if_neg (by simp), if_neg (by simp; omega)]
    have := readAll_recs h r f { L with list := L.list ++ [b], at_ := L.at_ + sectorsOf b.length } (by rw [List.length_append]; exact hr.2.2) (by show L.at_ + sectorsOf b.length + roomL r ≤ _; omega)
      (by show Stop _ _ _ (L.at_ + sectorsOf b.length + roomL r) ((L.list ++ [b]).length + r.length) _; rw [List.length_append, List.length_singleton, show L.at_ + sectorsOf b.length + roomL r = L.at_ + (sectorsOf b.length + roomL r) by omega, show L.list.length + 1 + r.length = L.list.length + (r.length + 1) by omega]; exact hs) he (by show (L.list ++ [b]).length + r.length ≤ _; rw [List.length_append, List.length_singleton]; omega) (by omega)
    rw [this]
    simp only [List.append_assoc, List.singleton_append, roomL, Nat.add_assoc]
end Go.Proofs.Ytgkoblgpadpcjaa
