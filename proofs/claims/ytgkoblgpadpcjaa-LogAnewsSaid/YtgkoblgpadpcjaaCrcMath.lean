/- Plain functions on numbers and lists: the sum of bytes, bit by bit. -/
import Derived.Test.YtgkoblgpadpcjaaRows
import Derived.Laws.BitsAllLaws
namespace Go.Proofs.Ytgkoblgpadpcjaa

def bitStep (c : Nat) : Nat := if c % 2 = 1 then (c / 2) ^^^ 3988292384 else c / 2
def bitsN : Nat → Nat → Nat
  | 0, c => c
  | j + 1, c => bitStep (bitsN j c)
def byteStep (c : Nat) (b : UInt8) : Nat := bitsN 8 (c ^^^ b.toNat)
def crcRun (c : Nat) (l : List UInt8) : Nat := l.foldl byteStep c
def crcOf (l : List UInt8) : Nat := 4294967295 ^^^ crcRun 4294967295 l

theorem xor_lt (a b : Nat) (ha : a < 4294967296) (hb : b < 4294967296) : a ^^^ b < 4294967296 :=
  Nat.xor_lt_two_pow (n := 32) ha hb
theorem bitStep_lt (c : Nat) (h : c < 4294967296) : bitStep c < 4294967296 := by
  unfold bitStep; split
  · exact xor_lt _ _ (by omega) (by omega)
  · omega
theorem bitsN_lt (j c : Nat) (h : c < 4294967296) : bitsN j c < 4294967296 := by
  induction j with
  | zero => exact h
  | succ j ih => exact bitStep_lt _ ih
theorem byteStep_lt (c : Nat) (b : UInt8) (h : c < 4294967296) : byteStep c b < 4294967296 :=
  bitsN_lt _ _ (xor_lt _ _ h (by have := b.toNat_lt; omega))
theorem crcRun_lt (l : List UInt8) : ∀ c : Nat, c < 4294967296 → crcRun c l < 4294967296 := by
  induction l with
  | nil => intro c h; exact h
  | cons b l ih => intro c h; exact ih _ (byteStep_lt c b h)
theorem crcOf_lt (l : List UInt8) : crcOf l < 4294967296 := xor_lt _ _ (by omega) (crcRun_lt _ _ (by omega))
theorem crcRun_append (c : Nat) (a b : List UInt8) : crcRun c (a ++ b) = crcRun (crcRun c a) b := by
  simp [crcRun, List.foldl_append]
theorem crcRun_snoc (c : Nat) (a : List UInt8) (b : UInt8) : crcRun c (a ++ [b]) = bitsN 8 (crcRun c a ^^^ b.toNat) := by
  rw [crcRun_append]; rfl
theorem crcRun_take_succ (c : Nat) (l : List UInt8) (k : Nat) (h : k < l.length) :
    crcRun c (l.take (k + 1)) = bitsN 8 (crcRun c (l.take k) ^^^ l[k].toNat) := by
  rw [List.take_succ_eq_append_getElem h, crcRun_snoc]
theorem crcRun_rows_succ (c : Nat) (ls : List (List UInt8)) (k : Nat) (h : k < ls.length) :
    crcRun c (ls.take (k + 1)).flatten = crcRun (crcRun c (ls.take k).flatten) ls[k] := by
  rw [List.take_succ_eq_append_getElem h, List.flatten_append, crcRun_append]
  simp
theorem bitStep_odd (c : Nat) (h : c % 2 = 1) : bitStep c = (c / 2) ^^^ 3988292384 := if_pos h
theorem bitStep_even (c : Nat) (h : c % 2 = 0) : bitStep c = c / 2 := if_neg (by omega)
theorem and_one_odd (c : Nat) (hc : c < 4294967296) (h : c % 2 = 1) : bits .and .u32 (c : Int) 1 = 1 := by
  have := u32_and_nat c 1 hc (by omega)
  rw [nat_mask1, h] at this; exact_mod_cast this
theorem and_one_even (c : Nat) (hc : c < 4294967296) (h : c % 2 = 0) : bits .and .u32 (c : Int) 1 = 0 := by
  have := u32_and_nat c 1 hc (by omega)
  rw [nat_mask1, h] at this; exact_mod_cast this
theorem xor_u32 (a b : Nat) (ha : a < 4294967296) (hb : b < 4294967296) : bits .xor .u32 (a : Int) (b : Int) = ((a ^^^ b : Nat) : Int) := u32_xor_nat a b ha hb
theorem xor_poly (c : Nat) (hc : c < 4294967296) : bits .xor .u32 ((c : Int) / 2) 3988292384 = ((c / 2 ^^^ 3988292384 : Nat) : Int) := by
  have := u32_xor_nat (c / 2) 3988292384 (by omega) (by omega)
  simpa using this
theorem not_u32 (a : Nat) (ha : a < 4294967296) : bits .xor .u32 IntKind.u32.max (a : Int) = ((4294967295 ^^^ a : Nat) : Int) := u32_xor_nat 4294967295 a (by omega) ha
end Go.Proofs.Ytgkoblgpadpcjaa
