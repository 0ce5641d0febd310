/- The document's disk: New. -/
import Derived.Test.YtgkoblgpadpcjaaDiskI
import Derived.Test.YtgkoblgpadpcjaaDiskMap
namespace Go.Proofs.Ytgkoblgpadpcjaa
open Go.RowKit

set_option maxRecDepth 100000 in
theorem run_buildSlice62 (X : List Value) (h : X.length = 64) (w : World) : (Instr.buildSlice 73 1 #[(0, .agg X.toArray)]).run Try.prog w = .ok (.slice (some ⟨w.heap.size, 0, none⟩) 1 1) (w.alloc (.cells X.toArray 62)) := by
  obtain ⟨i0, hi, hz0, hz1, hz2⟩ := info_parts Try.zero62
  have hzs : (Value.agg (byteVals zero64).toArray).cells.size = 64 := rfl
  generalize (Value.agg (byteVals zero64).toArray) = zv at *
  have hf := fill_one ((Array.range (1 * 64)).map (fun j => zv.cells[j % zv.cells.size]!)) (.agg X.toArray) X 64 rfl h (by simp)
  simp only [Instr.buildSlice, Sem.run_bind, run_underlying Try.underlying73, Result.andThen_ok, sizeOf, typeInfo, hi, zeroValue, hz0, hz1]
  simp [hf, hi, hz0, hz1, newRow]
theorem wpList_bs62 {ops : Array Oper} {rest : List Oper} {o : Oper} {a : Act} {w : World} {Q : Exit → Act → World → Prop} (hw : Region.wanted o (yielded ops a.tmps) = true) (x : Operand) (ho : o.op = .buildSlice 73 1 #[(0, x)]) (X : List Value) (hX : X.length = 64) (hx : a.eval x = .agg X.toArray)
    (h : wpList Try.prog ops Q rest (a.put o.dst (.slice (some ⟨w.heap.size, 0, none⟩) 1 1)) (w.alloc (.cells X.toArray 62))) : wpList Try.prog ops Q (o :: rest) a w :=
  wpList_value hw _ (by simp [execOp, ho, hx, run_buildSlice62 X hX w]) h
def RNewPost (n : Int) (w : World) (e : Ending) (w' : World) : Prop := ∃ v, e = .returned v ∧ Ext w w' ∧ Ref w' v (Dk.new n)
theorem Try.results48 : Try.f48.results = #[.cell 2 76] := by kernel_rfl
def RNewL (w : World) (m : Nat) (i : Value) (wr : World) : Prop :=
  ∃ (k : Nat) (kv : Value), i = .int .i64 k ∧ k ≤ m ∧ Hid (Ext w wr) ∧ Hid (wr.heap[w.heap.size]? = some (.cells #[.slice none 0 0, .slice none 0 0, .bool false, .int .i64 0, .int .u64 0, .int .i64 0] 76 (0, 0))) ∧
    Hid (wr.heap[w.heap.size + 1]? = some (.cells #[kv, .slice none 0 0, .bool false, .int .i64 (-1), .int .u64 0, .int .i64 0] 76 (0, 0))) ∧ Hid (wr.ownsRow (w.heap.size + 2) 62 64 kv k (flatK (List.replicate k zero64)))
theorem src_one62 (W : World) : Src (W.alloc (.cells (byteVals zero64).toArray 62)) (.slice (some ⟨W.heap.size, 0, none⟩) 1 1) [zero64].length (flatK [zero64]) := by
  have := src_lits W (byteVals zero64) 62 1 (Nat.le_refl _)
  simpa [flatK] using this
set_option maxRecDepth 100000 in
set_option maxHeartbeats 2000000 in
theorem RNew_any (q : Nat) (w : World) (hq : q ≤ 31) : Calls Try.prog 48 #[.int .i64 (q : Int)] w (RNewPost (q : Int) w) := by
  obtain ⟨m, hm⟩ : ∃ m, m = max 1 q := ⟨_, rfl⟩
  have HM := Lib.hid hm
  have hm1 : 1 ≤ m := by omega
  have hmq : q ≤ m := by omega
  have hm31 : m ≤ 31 := by omega
  obtain ⟨Z, hZ⟩ : ∃ Z, Z = (byteVals zero64).toArray := ⟨_, rfl⟩
  have HI : Hid (ZFacts2 Z) := by rw [hZ]; exact zfacts2
  have HZ := Lib.hid hZ
  have HZW : Hid (Value.agg Z = .agg (byteVals zero64).toArray) := by rw [hZ]; exact rfl
  clear hZ hm
  go_enter Try.func48, Try.ntmps48
  go_wp2_with fail
  go_loopw [4] (fun i wr => RNewL w m i wr) (fun i _ => m - (intOf i).toNat)
  case atStart => exact ⟨0, .slice none 0 0, rfl, Nat.zero_le _, ((Ext.refl w).alloc _).alloc _, (two_blocks w _ _).1, (two_blocks w _ _).2, World.ownsRow_nil _ _ _ _⟩
  case round =>
    obtain ⟨k, kv, rfl, hk, hx, hb1, hb2, ho⟩ := hrel
    obtain ⟨a, cap, rfl, hc1, hc2⟩ := own_form ho.out
    have q0 : wr.cell? ⟨w.heap.size + 1, 0, none⟩ = some (.slice a k cap) := by rw [cell_of_row _ _ _ _ _ _ hb2.out]; rfl
    by_cases hlt : k < m
    · have HBB0 := Lib.hid (show w.heap.size + 2 ≤ wr.heap.size from (Array.getElem?_eq_some_iff.1 hb2.out).1)
      have HBB := Lib.hid (show w.heap.size + 2 ≤ (wr.alloc (.cells (byteVals zero64).toArray 62)).heap.size by rw [World.size_alloc]; have := HBB0.out; omega)
      have HOW : Hid ((wr.alloc (.cells (byteVals zero64).toArray 62)).ownsRow (w.heap.size + 2) 62 64 (.slice a k cap) (List.replicate k zero64).length (flatK (List.replicate k zero64))) := by
        rw [List.length_replicate]; exact World.ownsRow.alloc ho.out _
      have HZS : Hid (∀ s ∈ [zero64], s.length = 64) := fun s hs => by simp at hs; subst hs; rfl
      have HLE : Hid ((List.replicate k zero64).length + [zero64].length ≤ 1000000000) := by show _ ≤ _; simp; omega
      have HRP := Lib.hid (show List.replicate k zero64 ++ [zero64] = List.replicate (k + 1) zero64 from List.replicate_succ'.symm)
      have HRL := Lib.hid (show (List.replicate (k + 1) zero64).length = k + 1 from List.length_replicate)
      by_cases hkq : k < q
      · have hd1 : decide ((k : Int) < (q : Int)) = true := by simp; omega
        have hd2 : decide ((k : Int) < 4096) = true := by simp; omega
        go_upto_region 4 with (first
          | (refine wpList_build_z rfl 62 rfl Z HI.out.2.1 ?_)
          | (refine wpList_bs62 rfl _ rfl (byteVals zero64) rfl HZW.out ?_)
          | (refine wpList_app62 rfl (.tmp 20) (.tmp 22) rfl (w.heap.size + 2) (.slice a k cap) (.slice (some ⟨wr.heap.size, 0, none⟩) 1 1) rfl rfl (List.replicate k zero64) [zero64] HOW.out HZS.out (src_one62 wr) HLE.out HBB.out ?_))
        intro v5 w5 o5 g5 _
        obtain ⟨a5, c5, rfl, -, -⟩ := own_form o5
        have hrow : ∀ j, j < w.heap.size + 2 → w5.heap[j]? = wr.heap[j]? := fun j hj => (g5.block j (by have := HBB.out; omega) (fun e => by have := own_row HOW.out j e.symm; omega)).trans (heap_alloc_old _ _ (by have := HBB0.out; omega))
        have b1 := (hrow w.heap.size (by omega)).trans hb1.out
        have b2 := (hrow (w.heap.size + 1) (by omega)).trans hb2.out
        have X5 := Lib.hid (ext_setCell (Ext.grown (hx.out.alloc (.cells (byteVals zero64).toArray 62)) g5 (fun j e => by have := own_row HOW.out j e; omega)) (w.heap.size + 1) 0 (.slice a5 (List.replicate k zero64 ++ [zero64]).length c5) (by omega))
        have q5 : w5.cell? ⟨w.heap.size + 1, 0, none⟩ = some (.slice a k cap) := by rw [cell_of_row _ _ _ _ _ _ b2]; rfl
        have f5 : w5.frozen? ⟨w.heap.size + 1, 0, none⟩ = false := by simp [World.frozen?, b2]
        have Y1 := Lib.hid ((Below.heap_setCell w5 ⟨w.heap.size + 1, 0, none⟩ (.slice a5 (List.replicate k zero64 ++ [zero64]).length c5) w.heap.size (by show w.heap.size ≠ w.heap.size + 1; omega)).trans b1)
        have Y2 := Lib.hid (setCell_get w5 (w.heap.size + 1) 0 (.slice a5 (List.replicate k zero64 ++ [zero64]).length c5) _ _ _ b2)
        have Y3 := Lib.hid (own_setCell (i := 0) (u := .slice a5 (List.replicate k zero64 ++ [zero64]).length c5) o5 b2 (by decide))
        rw [HRP.out] at X5 Y1 Y2 Y3
        rw [HRL.out] at X5 Y1 Y2 Y3
        clear o5 g5 hrow b1 b2
        go_wp2_with fail
        go_roundw
        case rel => exact ⟨k + 1, _, by go_num, by omega, X5, Y1, Y2, Y3⟩
        case measure => simp [intOf]; omega
      · have hd1 : decide ((k : Int) < (q : Int)) = false := by simp; omega
        have hd2 : decide ((k : Int) < 1) = true := by have := HM.out; simp; omega
        go_upto_region 4 with (first
          | (refine wpList_build_z rfl 62 rfl Z HI.out.2.1 ?_)
          | (refine wpList_bs62 rfl _ rfl (byteVals zero64) rfl HZW.out ?_)
          | (refine wpList_app62 rfl (.tmp 20) (.tmp 22) rfl (w.heap.size + 2) (.slice a k cap) (.slice (some ⟨wr.heap.size, 0, none⟩) 1 1) rfl rfl (List.replicate k zero64) [zero64] HOW.out HZS.out (src_one62 wr) HLE.out HBB.out ?_))
        intro v5 w5 o5 g5 _
        obtain ⟨a5, c5, rfl, -, -⟩ := own_form o5
        have hrow : ∀ j, j < w.heap.size + 2 → w5.heap[j]? = wr.heap[j]? := fun j hj => (g5.block j (by have := HBB.out; omega) (fun e => by have := own_row HOW.out j e.symm; omega)).trans (heap_alloc_old _ _ (by have := HBB0.out; omega))
        have b1 := (hrow w.heap.size (by omega)).trans hb1.out
        have b2 := (hrow (w.heap.size + 1) (by omega)).trans hb2.out
        have X5 := Lib.hid (ext_setCell (Ext.grown (hx.out.alloc (.cells (byteVals zero64).toArray 62)) g5 (fun j e => by have := own_row HOW.out j e; omega)) (w.heap.size + 1) 0 (.slice a5 (List.replicate k zero64 ++ [zero64]).length c5) (by omega))
        have q5 : w5.cell? ⟨w.heap.size + 1, 0, none⟩ = some (.slice a k cap) := by rw [cell_of_row _ _ _ _ _ _ b2]; rfl
        have f5 : w5.frozen? ⟨w.heap.size + 1, 0, none⟩ = false := by simp [World.frozen?, b2]
        have Y1 := Lib.hid ((Below.heap_setCell w5 ⟨w.heap.size + 1, 0, none⟩ (.slice a5 (List.replicate k zero64 ++ [zero64]).length c5) w.heap.size (by show w.heap.size ≠ w.heap.size + 1; omega)).trans b1)
        have Y2 := Lib.hid (setCell_get w5 (w.heap.size + 1) 0 (.slice a5 (List.replicate k zero64 ++ [zero64]).length c5) _ _ _ b2)
        have Y3 := Lib.hid (own_setCell (i := 0) (u := .slice a5 (List.replicate k zero64 ++ [zero64]).length c5) o5 b2 (by decide))
        rw [HRP.out] at X5 Y1 Y2 Y3
        rw [HRL.out] at X5 Y1 Y2 Y3
        clear o5 g5 hrow b1 b2
        go_wp2_with fail
        go_roundw
        case rel => exact ⟨k + 1, _, by go_num, by omega, X5, Y1, Y2, Y3⟩
        case measure => simp [intOf]; omega
    · obtain rfl : k = m := by omega
      have hd1 : decide ((k : Int) < (q : Int)) = false := by simp; omega
      have hd2 : decide ((k : Int) < 1) = false := by simp; omega
      have HE := Lib.hid (show (Dk.new (q : Int)).kept = List.replicate k zero64 by
        show List.replicate (max 1 (min (q : Int) 4096)).toNat zero64 = _
        congr 1
        have := HM.out
        omega)
      obtain ⟨R0, hR0⟩ : ∃ R0 : Array Value, R0 = #[.slice a k cap, .slice none 0 0, .bool false, .int .i64 (-1), .int .u64 0, .int .i64 0] := ⟨_, rfl⟩
      have HR0 := Lib.hid hR0
      have HI6 : Hid ((Try.prog.info? 76).map (·.size) = some R0.size) := by rw [hR0]; exact Try.info76
      have HAL : Hid (R0.all (·.oneCell') = true) := by rw [hR0]; exact six_one _ _ _ _ _ _ _ _ _ _
      have HSZ : Hid (R0.size = 6) := by rw [hR0]; exact rfl
      rw [← hR0] at hb2
      clear hR0
      have O2 := Lib.hid (own_base (own_setRow (R0 := R0) ho.out hb1.out (by decide)) (Nat.zero_le _))
      have X2 := Lib.hid (below_setRow hx.out (Nat.le_refl _) R0)
      go_wp2_with (first
        | (refine wpList_load_row rfl 76 (.tmp 3) rfl (w.heap.size + 1) rfl 76 R0 (0, 0) _ hb2.out Try.underlying76 rfl HI6.out ?_)
        | (refine wpList_store_row rfl 76 (.tmp 2) (.tmp 25) rfl w.heap.size R0 rfl rfl 76 _ hb1.out HI6.out HSZ.out.symm HAL.out ?_))
      refine bodyPost_ret (res_one Try.results48 _ _ w.heap.size R0 rfl (setRow_heap _ _ _ _ _ _ hb1.out) HSZ.out) rfl ?_
      refine ⟨_, rfl, X2.out, _, _, 0, by rw [HR0.out]; rfl, ?_, World.ownsRow_nil _ _ _ _, by decide, fun h => absurd h (by show ¬ (0 : Int) < -1; decide), wf_new _⟩
      rw [HE.out, List.length_replicate]
      exact O2.out
end Go.Proofs.Ytgkoblgpadpcjaa
