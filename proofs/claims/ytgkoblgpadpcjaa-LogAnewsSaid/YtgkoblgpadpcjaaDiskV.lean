/- The document's example of package disk. -/
import Derived.Test.YtgkoblgpadpcjaaDiskN
namespace Go.Proofs.Ytgkoblgpadpcjaa
open Go.RowKit

/-- A sector that begins with a byte. -/
def sec1 (b : UInt8) : List UInt8 := b :: List.replicate 63 0
theorem sec1_len (b : UInt8) : (sec1 b).length = 64 := rfl
theorem built_sec1 (b : UInt8) : Try.prog.built 63 [(0, .int .u8 b.toNat)] = some (byteVals (sec1 b)).toArray := by
  obtain ⟨i0, hi, hz0, hz1, hz2⟩ := info_parts Try.zero63
  obtain ⟨i5, h5, h50, h51, h52⟩ := info_parts Try.info5
  unfold Program.built
  rw [hi, Try.underlying63]
  simp only [hz0, h5, h51]
  have e := putAt_mid [.int .u8 b.toNat] [.int .u8 0] [] (List.replicate 63 (Value.int IntKind.u8 0)) rfl
  unfold Instr.fill
  simp only [Nat.zero_mul]
  rw [if_neg (by rw [show (Value.int IntKind.u8 (b.toNat : Int)).cells.size = 1 from rfl]; decide)]
  rw [show ((Value.int IntKind.u8 (b.toNat : Int)).cells.zipIdx.foldl (fun cs (x : Value × Nat) => cs.setIfInBounds (0 + x.2) x.1) (Value.agg (byteVals zero64).toArray).cells) = putAt (byteVals zero64).toArray 0 [.int .u8 b.toNat] from fold_putAt' 0 #[_] _]
  exact congrArg some e
theorem wpList_sec1 {ops : Array Oper} {rest : List Oper} {o : Oper} {a : Act} {w : World} {Q : Exit → Act → World → Prop} (hg : o.guard = none) (x : Operand) (ho : o.op = .build 63 #[(0, x)]) (b : UInt8)
    (hx : a.eval x = .int .u8 b.toNat) (h : wpList Try.prog ops Q rest (a.put o.dst (.agg (byteVals (sec1 b)).toArray)) w) : wpList Try.prog ops Q (o :: rest) a w := by
  have hb := built_sec1 b
  refine wpList_build hg 63 #[(0, x)] ho (by simp [hx, hb]) ?_
  simpa [hx, hb] using h
theorem DOnly.keep {base g kb k : Nat} {a b : World} {cs : Array Value} {t : TypeId} {fz : Nat × Nat} (h : DOnly base g kb a b) (hk : a.heap[k]? = some (.cells cs t fz)) (ht : t ≠ 113) (hg : k ≠ g) (hkb : k ≠ kb) : b.heap[k]? = some (.cells cs t fz) := by
  rw [h.block k (Array.getElem?_eq_some_iff.1 hk).1 hg hkb (.inr fun cs' fz' e => ?_)]
  · exact hk
  · rw [hk] at e
    simp only [Option.some.injEq, Obj.cells.injEq] at e
    exact ht e.2.1
theorem Ext.keep {k : Nat} {a b : World} {o : Obj} (h : Ext a b) (hk : a.heap[k]? = some o) : b.heap[k]? = some o :=
  (h.block k (Array.getElem?_eq_some_iff.1 hk).1).trans hk
theorem block_cell {w : World} {k : Nat} {l : List Value} {t : TypeId} (h : w.heap[k]? = some (.cells l.toArray t (0, 0))) (i : Nat) (v : Value) (hv : l[i]? = some v) : w.cell? ⟨k, i, none⟩ = some v := by
  rw [cell_of_row w k i _ t (0, 0) h, List.getElem?_toArray]; exact hv

theorem Disk.lt {base g kb : Nat} {w : World} {D : Dk} (h : Disk base w g kb D) : g < w.heap.size ∧ kb < w.heap.size := by
  obtain ⟨cv, h⟩ := h; exact ⟨h.lt g (.inl rfl), h.lt kb (.inr (.inl rfl))⟩
theorem size63 (s : List UInt8) (h : s.length = 64) : (Try.prog.info? 63).map (·.size) = some (byteVals s).toArray.size := by rw [List.size_toArray, byteVals_length, h]; exact Try.info63
theorem zsize (Z : Array Value) (h : ZFacts Z) (s : List UInt8) (hs : s.length = 64) : Z.size = (byteVals s).toArray.size := by rw [h.2.2.2.2, List.size_toArray, byteVals_length, hs]
def A0 : Dk := Dk.new 2
def A1 : Dk := (A0.write 0 (sec1 1)).1
def A2 : Dk := A1.flush.1
def A3 : Dk := (A2.write 0 (sec1 2)).1
def A4 : Dk := A3.crash 0
def A5 : Dk := { A4 with down := false }
theorem a01 : (A0.write 0 (sec1 1)).2 = 0 := by kernel_rfl
theorem a12 : A1.flush.2 = 0 := by kernel_rfl
theorem a23 : (A2.write 0 (sec1 2)).2 = 0 := by kernel_rfl
theorem a3r : A3.read 0 = (sec1 2, 0) := by kernel_rfl
theorem a4r : A4.read 0 = (zero64, 3) := by kernel_rfl
theorem a5r : A5.read 0 = (sec1 1, 0) := by kernel_rfl
theorem a5l : A5.kept.length = 2 := by kernel_rfl
theorem a5s : A5.steps = 3 := by kernel_rfl
theorem a5d : A5.down = false := by kernel_rfl
theorem aS0 : A0.steps ≤ 1000000000 ∧ A0.cache.length ≤ 1000000000 := of_decide_eq_true (by kernel_rfl)
theorem aS1 : A1.steps ≤ 1000000000 := of_decide_eq_true (by kernel_rfl)
theorem aS2 : A2.steps ≤ 1000000000 ∧ A2.cache.length ≤ 1000000000 := of_decide_eq_true (by kernel_rfl)

set_option maxRecDepth 100000 in
set_option maxHeartbeats 4000000 in
theorem diskAlive_any (w : World) : Calls Try.prog 38 #[] w fun e w' => e = .returned (.bool true) ∧ Ext w w' := by
  obtain ⟨Z, hZ⟩ : ∃ Z, Z = (byteVals zero64).toArray := ⟨_, rfl⟩
  have HI : Hid (ZFacts Z) := by rw [hZ]; exact zfacts
  clear hZ
  go_enter Try.func38, Try.ntmps38
  go_wp2_with fail
  refine (New_any 2 _).mono ?_
  rintro e w1 ⟨g, kb, rfl, hg, hk, x1, d1⟩
  have X1 := Lib.hid x1
  have D1 : Hid (Disk w.heap.size w1 g kb A0) := d1
  have HG := Lib.hid hg
  have HK := Lib.hid hk
  clear x1 d1 hg hk
  go_wp2_with (refine wpList_sec1 rfl _ rfl 1 rfl ?_)
  refine (Write_any w.heap.size g kb A0 0 (sec1 1) _ D1.out aS0.1 aS0.2 rfl X1.out.size).mono ?_
  rw [a01]
  rintro e w2 ⟨rfl, o2, d2⟩
  have O2 := Lib.hid o2
  have D2 : Hid (Disk w.heap.size w2 g kb A1) := d2
  clear o2 d2
  go_wp2_with fail
  refine (Flush_any w.heap.size g kb A1 _ D2.out aS1 (Nat.le_trans X1.out.size O2.out.size)).mono ?_
  rw [a12]
  rintro e w3 ⟨rfl, o3, d3⟩
  have O3 := Lib.hid (O2.out.trans o3)
  have D3 : Hid (Disk w.heap.size w3 g kb A2) := d3
  clear o3 d3 O2
  go_wp2_with (refine wpList_sec1 rfl _ rfl 2 rfl ?_)
  refine (Write_any w.heap.size g kb A2 0 (sec1 2) _ D3.out aS2.1 aS2.2 rfl (Nat.le_trans X1.out.size O3.out.size)).mono ?_
  rw [a23]
  rintro e w4 ⟨rfl, o4, d4⟩
  have O4 := Lib.hid (O3.out.trans o4)
  have D4 : Hid (Disk w.heap.size w4 g kb A3) := d4
  clear o4 d4 O3
  go_wp2_with fail
  refine (DRead_any w.heap.size g kb A3 0 _ D4.out).mono ?_
  unfold readPost
  rw [a3r]
  rintro e w5 ⟨rfl, x5⟩
  have O5 := Lib.hid (O4.out.ext x5)
  have D5 := Lib.hid (D4.out.ext x5)
  clear x5 O4
  dsimp only
  go_wp2_with (first
    | (refine wpList_alloc_z rfl 63 rfl Z HI.out.1 ?_)
    | (refine wpList_store_new rfl 63 (.tmp 5) (.tmp 25) rfl w5 63 Z (byteVals (sec1 2)).toArray rfl rfl (size63 _ rfl) (zsize Z HI.out _ rfl) (all_oneCell_toArray (byteVals_oneCell _)) ?_))
  have H5 := Lib.hid (heap_alloc_new w5 (.cells (byteVals (sec1 2)).toArray 63))
  have O5a := Lib.hid (O5.out.ext ((Ext.refl w5).alloc (.cells (byteVals (sec1 2)).toArray 63)))
  have D5a := Lib.hid (D5.out.ext ((Ext.refl w5).alloc (.cells (byteVals (sec1 2)).toArray 63)))
  have L5 := Lib.hid D5.out.lt
  clear O5 D5
  refine (Crash_any w.heap.size g kb A3 0 _ D5a.out (by decide) (Nat.le_trans X1.out.size O5a.out.size)).mono ?_
  rintro e w6 ⟨⟨v6, rfl⟩, o6, d6⟩
  have O6 := Lib.hid (O5a.out.trans o6)
  have D6 : Hid (Disk w.heap.size w6 g kb A4) := d6
  have H6 := Lib.hid (o6.keep H5.out (by decide) (by have := L5.out; omega) (by have := L5.out; omega))
  clear o6 d6 O5a H5 D5a
  go_wp2_with fail
  refine (DRead_any w.heap.size g kb A4 0 _ D6.out).mono ?_
  unfold readPost
  rw [a4r]
  rintro e w7 ⟨rfl, x7⟩
  dsimp only
  have O7 := Lib.hid ((O6.out.ext x7).ext ((Ext.refl w7).alloc (.cells (byteVals zero64).toArray 63)))
  have D7 := Lib.hid ((D6.out.ext x7).ext ((Ext.refl w7).alloc (.cells (byteVals zero64).toArray 63)))
  have H7 := Lib.hid (((Ext.refl w7).alloc (.cells (byteVals zero64).toArray 63)).keep (x7.keep H6.out))
  clear x7 O6 D6 H6
  go_wp2_with (first
    | (refine wpList_alloc_z rfl 63 rfl Z HI.out.1 ?_)
    | (refine wpList_store_new rfl 63 (.tmp 7) (.tmp 32) rfl w7 63 Z (byteVals zero64).toArray rfl rfl (size63 _ rfl) (zsize Z HI.out _ rfl) (all_oneCell_toArray (byteVals_oneCell _)) ?_))
  refine (On_any w.heap.size g kb A4 _ D7.out).mono ?_
  rintro e w8 ⟨⟨v8, rfl⟩, o8, d8⟩
  have O8 := Lib.hid (O7.out.trans o8)
  have D8 : Hid (Disk w.heap.size w8 g kb A5) := d8
  have H8 := Lib.hid (o8.keep H7.out (by decide) (by have := L5.out; omega) (by have := L5.out; omega))
  clear o8 d8 O7 H7 D7
  go_wp2_with fail
  refine (DRead_any w.heap.size g kb A5 0 _ D8.out).mono ?_
  unfold readPost
  rw [a5r]
  rintro e w9 ⟨rfl, x9⟩
  dsimp only
  have O9 := Lib.hid ((O8.out.ext x9).ext ((Ext.refl w9).alloc (.cells (byteVals (sec1 1)).toArray 63)))
  have D9 := Lib.hid ((D8.out.ext x9).ext ((Ext.refl w9).alloc (.cells (byteVals (sec1 1)).toArray 63)))
  have q5 := block_cell (((Ext.refl w9).alloc (.cells (byteVals (sec1 1)).toArray 63)).keep (x9.keep H8.out)) 0 (.int .u8 2) rfl
  have q9 := block_cell (heap_alloc_new w9 (.cells (byteVals (sec1 1)).toArray 63)) 0 (.int .u8 1) rfl
  have BB := Lib.hid ((show Below w.heap.size w w1 from X1.out).trans (O9.out.below HG.out HK.out X1.out.size))
  clear x9 O8 D8 H8 O9
  go_wp2_with (first
    | (refine wpList_alloc_z rfl 63 rfl Z HI.out.1 ?_)
    | (refine wpList_store_new rfl 63 (.tmp 9) (.tmp 39) rfl w9 63 Z (byteVals (sec1 1)).toArray rfl rfl (size63 _ rfl) (zsize Z HI.out _ rfl) (all_oneCell_toArray (byteVals_oneCell _)) ?_))
  refine (Len_any w.heap.size g kb A5 _ D9.out).mono ?_
  rw [a5l]
  rintro e w10 ⟨rfl, rfl⟩
  go_wp2_with fail
  refine (Steps_any w.heap.size g kb A5 _ D9.out).mono ?_
  rw [a5s]
  rintro e w11 ⟨rfl, rfl⟩
  go_wp2_with fail
  refine (Down_any w.heap.size g kb A5 _ D9.out).mono ?_
  rw [a5d]
  rintro e w12 ⟨rfl, rfl⟩
  go_wp2_with fail
  go_ret
  exact ⟨rfl, BB.out⟩
end Go.Proofs.Ytgkoblgpadpcjaa
