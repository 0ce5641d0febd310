/- A log: good, look. -/
import Derived.Test.YtgkoblgpadpcjaaLogT
namespace Go.Proofs.Ytgkoblgpadpcjaa
open Go.RowKit

theorem only_ext {w w1 w2 : World} {q : Nat} (h : Ext w w1) (hq : w.heap.size ≤ q) (o : OnlyAt q w1 w2) : Ext w w2 :=
  Below.trans h ⟨o.os, o.tape, o.output, o.size, fun k hk => o.block k (Nat.lt_of_lt_of_le hk h.size) (by simp; omega)⟩
theorem only_keep {w1 w2 : World} {q k : Nat} {o : Obj} (h : OnlyAt q w1 w2) (hk : w1.heap[k]? = some o) (hne : k ≠ q) : w2.heap[k]? = some o :=
  (h.block k (Array.getElem?_eq_some_iff.1 hk).1 (by simp; omega)).trans hk
/-- A piece of a block of bytes. -/
theorem block_cut {W : World} {B : Nat} {X : List UInt8} {t : TypeId} (h : W.heap[B]? = some (.cells (byteVals X).toArray t (0, 0))) (lo n c : Nat) (hn : lo + n ≤ X.length) (hc : n ≤ c) (hc2 : c ≤ 9223372036854775807) : Bytes W (.slice (some ⟨B, lo, none⟩) n c) ((X.drop lo).take n) := by
  have hl : ((X.drop lo).take n).length = n := by rw [List.length_take, List.length_drop]; omega
  refine ⟨some ⟨B, lo, none⟩, c, by rw [hl], by omega, hc2, (fun h => by cases h), fun i hi => ⟨B, lo, rfl, ?_⟩⟩
  rw [cell_of_row W B (lo + i) _ t (0, 0) h, List.getElem?_toArray, byteVals_get X (lo + i) (by omega)]
  simp
theorem beq_cast (a b : Nat) : (a == b) = ((a : Int) == (b : Int)) := by
  by_cases h : a = b
  · subst h; simp
  · rw [beq_eq_false_iff_ne.2 h, beq_eq_false_iff_ne.2 (by omega)]
def goodPost (s : List UInt8) (w : World) (e : Ending) (w' : World) : Prop := e = .returned (.tuple #[.int .i64 ((goodP s).1 : Nat), .bool (goodP s).2]) ∧ Ext w w'
set_option maxRecDepth 100000 in
set_option maxHeartbeats 4000000 in
theorem good_any (lv : Value) (s : List UInt8) (w : World) (hs : s.length = 64) : Calls Try.prog 68 #[lv, .agg (byteVals s).toArray] w (goodPost s w) := by
  obtain ⟨Z, hZ⟩ : ∃ Z, Z = (byteVals zero64).toArray := ⟨_, rfl⟩
  have HI : Hid (ZFacts Z) := by rw [hZ]; exact zfacts
  have HE := fun (W : World) => (show (Op.equalIn 10000 63 (.agg (byteVals s).toArray) (.agg Z)).run Try.prog W = .ok (s == zero64) W by rw [hZ]; exact sec_eq s zero64 hs rfl W)
  have hi := Lib.hid (show (Try.prog.info? 63).map (·.size) = some (byteVals s).length by rw [byteVals_length, hs]; exact Try.info63)
  have hrg := Lib.hid (show (w.alloc (.cells (byteVals s).toArray 63)).rangeAt w.heap.size 0 (byteVals s) from fun j v hj => by
    rw [Nat.zero_add, cell_of_row _ _ _ _ _ _ (heap_alloc_new w _), List.getElem?_toArray]; exact hj)
  have HBK := Lib.hid (heap_alloc_new w (.cells (byteVals s).toArray 63))
  have X1 := Lib.hid ((Ext.refl w).alloc (.cells (byteVals s).toArray 63))
  have HS := Lib.hid hs
  clear hZ
  by_cases hz : s = zero64
  · have hb : (s == zero64) = true := by rw [hz]; rfl
    have HG := Lib.hid (show goodP s = (0, false) by unfold goodP; rw [if_pos hz])
    rw [hb] at HE
    clear hz hb hs
    go_enter Try.func68, Try.ntmps68
    go_wp2_with (first
      | (refine wpList_load_mid rfl 63 (.tmp 3) rfl w.heap.size 0 rfl (byteVals s) _ hrg.out Try.underlying63 rfl hi.out ?_)
      | (refine wpList_build_z rfl 63 rfl Z HI.out.2.1 ?_))
    go_ret2
    unfold goodPost
    rw [HG.out]
    exact ⟨rfl, X1.out⟩
  · have hb : (s == zero64) = false := by rw [beq_eq_false_iff_ne]; exact hz
    have HG := Lib.hid (show goodP s = ((numRes ((s.drop 1).take 8) false 2147483648).1, s.headD 0 == 1 && (numRes (numRes ((s.drop 1).take 8) false 2147483648).2.1 (numRes ((s.drop 1).take 8) false 2147483648).2.2 4294967295).1 == crcOf (s.take 5)) by unfold goodP; rw [if_neg hz])
    rw [hb] at HE
    clear hz hb hs
    go_enter Try.func68, Try.ntmps68
    go_wp2_with (first
      | (refine wpList_load_mid rfl 63 (.tmp 3) rfl w.heap.size 0 rfl (byteVals s) _ hrg.out Try.underlying63 rfl hi.out ?_)
      | (refine wpList_build_z rfl 63 rfl Z HI.out.2.1 ?_))
    refine (Read_any ((s.drop 1).take 8) _ _ (block_cut HBK.out 1 8 63 (by rw [HS.out]; omega) (by omega) (by omega)) (by rw [List.length_take]; omega)).mono ?_
    rintro e w2 ⟨q, rfl, hq, x2, r2⟩
    have hqB : w.heap.size < q := by simp at hq; omega
    have hqE : w.heap.size ≤ q := Nat.le_of_lt hqB
    have X2 := Lib.hid (X1.out.trans x2)
    have HB2 := Lib.hid (x2.keep HBK.out)
    have hn1 := numRes_lt ((s.drop 1).take 8) false 2147483648
    generalize hr1 : numRes ((s.drop 1).take 8) false 2147483648 = r1 at *
    obtain ⟨n1, l1, b1⟩ := r1
    clear x2 hq
    go_wp2_with fail
    refine (Num_all q _ _ 2147483648 _ r2 (by omega)).mono ?_
    rw [hr1]
    rintro e w3 ⟨rfl, o3, r3⟩
    have X3 := Lib.hid (only_ext X2.out hqE o3)
    have HB3 := Lib.hid (only_keep o3 HB2.out (Nat.ne_of_lt hqB))
    have hn2 := numRes_lt l1 b1 4294967295
    generalize hr2 : numRes l1 b1 4294967295 = r2' at *
    obtain ⟨n2, l2, b2⟩ := r2'
    clear r2 o3 hr1
    go_wp2_with fail
    refine (Num_all q _ _ 4294967295 _ r3 (by omega)).mono ?_
    have hr2b : numRes (n1, l1, b1).2.1 (n1, l1, b1).2.2 4294967295 = (n2, l2, b2) := hr2
    rw [hr2b]
    rintro e w4 ⟨rfl, o4, -⟩
    have X4 := Lib.hid (only_ext X3.out hqE o4)
    have HB4 := Lib.hid (only_keep o4 HB3.out (Nat.ne_of_lt hqB))
    clear r3 o4 hr2 hr2b
    have hn1' : n1 < 4294967296 := hn1
    have hn2' : n2 < 4294967296 := hn2
    clear hn1 hn2
    obtain ⟨c, t, hct⟩ : ∃ c t, s = c :: t := by
      cases s with
      | nil => have := HS.out; simp at this
      | cons c t => exact ⟨c, t, rfl⟩
    have c0 : w4.cell? ⟨w.heap.size, 0, none⟩ = some (.int .u8 c.toNat) := by
      rw [cell_of_row _ _ _ _ _ _ HB4.out, List.getElem?_toArray, hct]; rfl
    have HCT := Lib.hid hct
    clear hct
    by_cases hc1 : c = 1
    · have hcn : (c.toNat : Int) = 1 := by rw [hc1]; rfl
      rw [hcn] at c0
      have BH := Lib.hid (show Bytes w4 (.slice (some ⟨w.heap.size, 0, none⟩) 5 64) (s.take 5) from block_bytes HB4.out 5 64 (by rw [HS.out]; omega) (by omega) (by omega))
      obtain ⟨sm, hsm⟩ : ∃ sm, sm = crcOf (s.take 5) := ⟨_, rfl⟩
      have hsl : sm < 4294967296 := by rw [hsm]; exact crcOf_lt _
      have HSM := Lib.hid hsm
      have HC1 := Lib.hid hc1
      have hw2 : IntKind.u32.wrap (n2 : Int) = (n2 : Int) := IntWalk.u32_in _ (by omega)
      have hm2 : (n2 : Int) % 4294967296 = (n2 : Int) := by omega
      clear hsm hc1 hcn
      go_wp2_with fail
      refine (crc_one HSM.out (RowsN.one BH.out ((Ext.refl _).alloc _) (heap_alloc_new _ _))).mono ?_
      rintro e w5 ⟨rfl, rfl⟩
      go_wp2_with fail
      go_ret2
      unfold goodPost
      rw [HG.out]
      refine ⟨?_, X4.out.alloc _⟩
      have e : (s.headD 0 == 1) = true := by rw [HCT.out]; show (c == 1) = true; rw [HC1.out]; rfl
      rw [e, Bool.true_and, ← HSM.out]
      rw [show (((n1, l1, b1) : Nat × List UInt8 × Bool)).1 = n1 from rfl]
      rw [show ((n2 == sm) : Bool) = ((n2 : Int) == (sm : Int)) from beq_cast n2 sm]
      rfl
    · have hcn : ((c.toNat : Int) == 1) = false := by
        rw [beq_eq_false_iff_ne]
        intro e
        exact hc1 (UInt8.toNat_inj.1 (by show c.toNat = 1; omega))
      have HC1 := Lib.hid hc1
      clear hc1
      go_wp2_with fail
      go_ret2
      unfold goodPost
      rw [HG.out]
      refine ⟨?_, X4.out⟩
      have e : (s.headD 0 == 1) = false := by rw [HCT.out]; exact beq_eq_false_iff_ne.2 HC1.out
      rw [e]; rfl
end Go.Proofs.Ytgkoblgpadpcjaa
