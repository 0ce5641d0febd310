/- The walk of RecApart. -/
import Derived.Test.YtgkoblgpadpcjaaRecApartL
import Derived.Deep.CutRange
import Derived.Deep.RegionHeld3
namespace Go.Proofs.Ytgkoblgpadpcjaa.recApart
open Go.RowKit

set_option maxRecDepth 100000 in
set_option maxHeartbeats 8000000 in
theorem walk_short (la lb : List UInt8) (va vb : Value) (w : World) (ha : Bytes w va la) (hb : Bytes w vb lb) (hal : la.length ≤ 100) (hbl : lb.length ≤ 100) :
    Calls Try.prog 6 #[va, vb] w fun e w' => e = .returned (.bool true) ∧ Below w.heap.size w w' := by
  have A0 := Lib.hid ha
  have B0 := Lib.hid hb
  obtain ⟨a, cap, rfl, -⟩ := ha
  obtain ⟨b, capb, rfl, -⟩ := hb
  have q1 : decide ((100 : Int) < (la.length : Int)) = false := by simp; omega
  have q2 : decide ((100 : Int) < (lb.length : Int)) = false := by simp; omega
  have HP := Lib.hid (packed_len la la lb hal hal hbl)
  have HI := Lib.hid (inner_len la lb hal hbl)
  have Hal := Lib.hid hal
  have Hbl := Lib.hid hbl
  clear hal hbl
  go_enter Try.func6, Try.ntmps6
  go_wp2_with fail
  refine (recAlive_any _).mono ?_
  rintro e w1 ⟨rfl, l1⟩
  have L1 := Lib.hid l1
  have A1 := Lib.hid (A0.out.below l1 (Nat.le_refl _))
  have B1 := Lib.hid (B0.out.below l1 (Nat.le_refl _))
  clear l1 A0 B0
  go_wp2_with (at_builtin; refine wpList_append_empty_bytes _ rfl (.tmp 25) (.tmp 26) 22 rfl Try.underlying22 _ _ rfl rfl la (A1.out.alloc _) (by have := Hal.out; omega) ?_)
  intro v2 w2 f2
  have F2 := Lib.hid f2.bytes
  obtain ⟨ax, cx, rfl⟩ := Bytes.shape F2.out
  have O2 := Lib.hid f2
  have X2 := Lib.hid (((Ext.refl w1).alloc (.cells #[] 5)).trans (show Ext _ w2 from f2.below))
  have N2 := Lib.hid (fresh_lt f2 (by rintro g e; cases e; have := f2.grown.size; simp at this; omega))
  have A2 := Lib.hid (A1.out.ext X2.out)
  have B2 := Lib.hid (B1.out.ext X2.out)
  have KC := Lib.hid (show ∀ W, Ext w2 W → (convert 22 9 (.slice a la.length cap)).run Try.prog W = .ok (.string ⟨la.toArray⟩) W from fun W h => run_bs W _ la (A2.out.ext h))
  clear f2
  go_upto_region 6 with (fail)
  go_cut [6] from 28 to 39 (fun p wc => ∃ ap cp, p = .slice ap (packed la la lb).length cp ∧ Fresh w2 wc (.slice ap (packed la la lb).length cp) (packed la la lb))
  case first =>
    have X2' := Lib.hid ((Ext.refl w2).drew)
    go_region_held3 (fun W => (convert 22 9 (.slice a la.length cap)).run Try.prog W = .ok (.string ⟨la.toArray⟩) W)
      (first
        | exact KC.out _ (Ext.refl _)
        | exact KC.out _ X2'.out
        | exact KC.out _ X3.out
        | exact KC.out _ X4.out
        | exact KC.out _ X5.out
        | exact KC.out _ (X5.out.alloc _)
        | exact KC.out _ X6.out
        | exact KC.out _ (X6.out.alloc _)
        | exact KC.out _ X7.out
        | go_keep)
      (first
        | ((go_at_call 22); (refine (Raw_any la _ _ (F2.out.ext X2'.out) (by have := Hal.out; omega)).mono ?_); (rintro e w3 ⟨v3, rfl, f3⟩); (have F3 := Lib.hid f3); (have X3 := Lib.hid (X2'.out.trans f3.1)); (obtain ⟨a3, n3, c3, rfl⟩ := Fresh.parts f3); (clear f3))
        | ((go_at_call 22); (refine (Raw_any lb _ _ (B2.out.ext X3.out) (by have := Hbl.out; omega)).mono ?_); (rintro e w4 ⟨v4, rfl, f4⟩); (have F4 := Lib.hid f4); (have X4 := Lib.hid (X3.out.trans f4.1)); (obtain ⟨a4, n4, c4, rfl⟩ := Fresh.parts f4); (clear f4))
        | ((go_at_call 24); (refine (Text_any la _ (by have := Hal.out; omega)).mono ?_); (rintro e w5 ⟨v5, rfl, f5⟩); (have F5 := Lib.hid f5); (have X5 := Lib.hid (X4.out.trans f5.1)); (obtain ⟨a5, n5, c5, rfl⟩ := Fresh.parts f5); (clear f5))
        | ((go_at_call 23); (refine (List_any [le4 lb.length ++ lb, le4 la.length ++ la] _ _ (lit2 (F4.out.before F5.out.1).bytes F5.out.bytes ((Ext.refl _).alloc _) (heap_new _ _)) (by have := HI.out; unfold inner at this; omega)).mono ?_); (rintro e w6 ⟨v6, rfl, f6⟩); (have F6 := Lib.hid (f6.after ((Ext.refl _).alloc _))); (have X6 := Lib.hid (X5.out.trans F6.out.1)); (obtain ⟨a6, n6, c6, rfl⟩ := Fresh.parts f6); (clear f6))
        | ((go_at_call 21); (refine (Pack_any [le4 la.length ++ la, le4 (inner la lb).length ++ inner la lb] _ _ (lit2 (F3.out.before (F4.out.1.trans (F5.out.1.trans F6.out.1))).bytes F6.out.bytes ((Ext.refl _).alloc _) (heap_new _ _)) (by have := HP.out; unfold packed at this; omega)).mono ?_); (rintro e w7 ⟨v7, rfl, f7⟩); (have F7 := Lib.hid (show Fresh w6 w7 v7 (packed la la lb) from f7.after ((Ext.refl _).alloc _))); (have X7 := Lib.hid (X6.out.trans F7.out.1)); (obtain ⟨a7, c7, rfl⟩ := Fresh.shape F7.out); (clear f7)))
    go_wp2_with fail
    go_meet
    exact ⟨_, _, rfl, F7.out.after X6.out⟩
  case rest =>
  obtain ⟨ap, cp, rfl, fp⟩ := hcut
  have FP := Lib.hid fp
  have A2' := Lib.hid (A2.out.ext fp.1)
  have B2' := Lib.hid (B2.out.ext fp.1)
  have KC' := Lib.hid (show ∀ W, Ext wc W → (convert 22 9 (.slice a la.length cap)).run Try.prog W = .ok (.string ⟨la.toArray⟩) W from fun W h => run_bs W _ la (A2'.out.ext h))
  clear fp
  go_upto_region 7 with (fail)
  go_cut [7] from 39 to 50 (fun p wd => ∃ ap cp, p = .slice ap (packed la la lb).length cp ∧ Fresh wc wd (.slice ap (packed la la lb).length cp) (packed la la lb))
  case first =>
    have X2' := Lib.hid ((Ext.refl wc).drew)
    go_region_held3 (fun W => (convert 22 9 (.slice a la.length cap)).run Try.prog W = .ok (.string ⟨la.toArray⟩) W)
      (first
        | exact KC'.out _ (Ext.refl _)
        | exact KC'.out _ X2'.out
        | exact KC'.out _ X3.out
        | exact KC'.out _ X4.out
        | exact KC'.out _ X5.out
        | exact KC'.out _ (X5.out.alloc _)
        | exact KC'.out _ X6.out
        | exact KC'.out _ (X6.out.alloc _)
        | exact KC'.out _ X7.out
        | go_keep)
      (first
        | ((go_at_call 22); (refine (Raw_any la _ _ (A2'.out.ext X2'.out) (by have := Hal.out; omega)).mono ?_); (rintro e w3 ⟨v3, rfl, f3⟩); (have F3 := Lib.hid f3); (have X3 := Lib.hid (X2'.out.trans f3.1)); (obtain ⟨a3, n3, c3, rfl⟩ := Fresh.parts f3); (clear f3))
        | ((go_at_call 22); (refine (Raw_any lb _ _ (B2'.out.ext X3.out) (by have := Hbl.out; omega)).mono ?_); (rintro e w4 ⟨v4, rfl, f4⟩); (have F4 := Lib.hid f4); (have X4 := Lib.hid (X3.out.trans f4.1)); (obtain ⟨a4, n4, c4, rfl⟩ := Fresh.parts f4); (clear f4))
        | ((go_at_call 24); (refine (Text_any la _ (by have := Hal.out; omega)).mono ?_); (rintro e w5 ⟨v5, rfl, f5⟩); (have F5 := Lib.hid f5); (have X5 := Lib.hid (X4.out.trans f5.1)); (obtain ⟨a5, n5, c5, rfl⟩ := Fresh.parts f5); (clear f5))
        | ((go_at_call 23); (refine (List_any [le4 lb.length ++ lb, le4 la.length ++ la] _ _ (lit2 (F4.out.before F5.out.1).bytes F5.out.bytes ((Ext.refl _).alloc _) (heap_new _ _)) (by have := HI.out; unfold inner at this; omega)).mono ?_); (rintro e w6 ⟨v6, rfl, f6⟩); (have F6 := Lib.hid (f6.after ((Ext.refl _).alloc _))); (have X6 := Lib.hid (X5.out.trans F6.out.1)); (obtain ⟨a6, n6, c6, rfl⟩ := Fresh.parts f6); (clear f6))
        | ((go_at_call 21); (refine (Pack_any [le4 la.length ++ la, le4 (inner la lb).length ++ inner la lb] _ _ (lit2 (F3.out.before (F4.out.1.trans (F5.out.1.trans F6.out.1))).bytes F6.out.bytes ((Ext.refl _).alloc _) (heap_new _ _)) (by have := HP.out; unfold packed at this; omega)).mono ?_); (rintro e w7 ⟨v7, rfl, f7⟩); (have F7 := Lib.hid (show Fresh w6 w7 v7 (packed la la lb) from f7.after ((Ext.refl _).alloc _))); (have X7 := Lib.hid (X6.out.trans F7.out.1)); (obtain ⟨a7, c7, rfl⟩ := Fresh.shape F7.out); (clear f7)))
    go_wp2_with fail
    go_meet
    exact ⟨_, _, rfl, F7.out.after X6.out⟩
  case rest =>
  obtain ⟨aq, cq, rfl, fq⟩ := hcut
  have FQ := Lib.hid fq
  have I0 := Lib.hid (inv_start O2.out X2.out FP.out fq)
  have N2' := N2.out
  have Hs12 := X2.out.size
  have N2' := N2.out
  have Hs12 := X2.out.size
  have N2' := N2.out
  have Hs12 := X2.out.size
  clear fq FQ FP A2 B2 A2' B2' KC KC' O2 F2 N2
  have R1 := Lib.hid (raw1 la lb Hal.out)
  have R2 := Lib.hid (raw2 la lb Hal.out Hbl.out)
  have R3 := Lib.hid (raw3 la lb Hbl.out)
  have R4 := Lib.hid (raw4 la Hal.out)
  have HN := Lib.hid N2'
  have hal2 := Hal.out
  clear N2'
  generalize packed la la lb = P at *
  generalize inner la lb = inn at *
  go_wp2_with fail
  go_loopw [52] (fun i W => ∃ k : Nat, k ≤ la.length ∧ i = .int .i64 k ∧ Inv w1.heap.size w2.heap.size la.length w1 W (.slice ax la.length cx) (.slice ap P.length cp) (.slice aq P.length cq) P) (fun i _ => la.length - (intOf i).toNat)
  case atStart => exact ⟨0, by omega, rfl, I0.out⟩
  case round =>
    obtain ⟨k, hk, rfl, T⟩ := hrel
    clear I0
    by_cases hlt : k < la.length
    · obtain ⟨g, z, rfl, cX, fX, T2⟩ := T.step HN.out k hlt
      have TT2 := Lib.hid T2
      clear T T2
      go_wp2_with fail
      go_roundw
      case rel => exact ⟨k + 1, by omega, by go_num, TT2.out⟩
      case measure => simp [intOf]; omega
    · have hke : k = la.length := by omega
      subst hke
      have TT := Lib.hid T
      clear T
      go_wp2_with fail
      refine (same_any P P _ _ _ TT.out.2.1.bytes TT.out.2.2.bytes).mono ?_
      rintro e w' ⟨rfl, rfl⟩
      have hs : decide (P = P) = true := by simp
      rw [hs]
      clear hs
      go_wp2_with fail
      refine (Read_any P _ _ TT.out.2.1.bytes (by have := HP.out; omega)).mono ?_
      rintro e w8 ⟨g, rfl, hg8, x8, r8⟩
      have R8 := Lib.hid r8
      have X8 := Lib.hid x8
      have hs8 := x8.size
      clear r8 x8
      have hraw := RawR_any2 g P false 200 w8 R8.out (by omega) (by have := HP.out; omega)
      unfold rawPost2 at hraw
      rw [R1.out] at hraw
      have Hraw := Lib.hid hraw
      clear hraw
      go_wp2_with fail
      refine Hraw.out.mono ?_
      rintro e w9 ⟨v9, rfl, o9, g9, old9⟩
      have D9 := Lib.hid ((show Below wr.heap.size wr w8 from X8.out).trans (o9.below hg8 hs8))
      have hs9 := o9.size
      have Old9 := Lib.hid old9
      obtain ⟨ay, cy, rfl⟩ := Bytes.shape g9.bytes
      have M9 := Lib.hid ((mine_got g9).resolve_right (by omega))
      clear Hraw R8 X8 o9 g9 old9
      go_wp2_with fail
      go_loopw [72] (fun i W => ∃ k : Nat, k ≤ la.length ∧ i = .int .i64 k ∧ Mine w8.heap.size la.length w9 W (.slice ay la.length cy)) (fun i _ => la.length - (intOf i).toNat)
      case atStart => exact ⟨0, by omega, rfl, M9.out⟩
      case round =>
        obtain ⟨k, hk, rfl, T⟩ := hrel
        clear M9
        by_cases hlt : k < la.length
        · obtain ⟨gy, z, rfl, -, cX, fX, T2⟩ := T.step k hlt
          have TT2 := Lib.hid T2
          clear T T2
          go_wp2_with fail
          go_roundw
          case rel => exact ⟨k + 1, by omega, by go_num, TT2.out⟩
          case measure => simp [intOf]; omega
        · have hke : k = la.length := by omega
          subst hke
          have RG := Lib.hid (Old9.out.2 _ T.1)
          have D10 := Lib.hid (D9.out.trans (T.1.mono hs8))
          have hsr := T.1.size
          clear T Old9 D9
          have hl := ListR_any g _ false _ RG.out (by have := HI.out; simp [le4]; omega)
          rw [R2.out] at hl
          have HL := Lib.hid hl
          clear hl
          go_wp2_with fail
          refine HL.out.mono ?_
          rintro e w11 ⟨g', rfl, hg', o11, r11, r11'⟩
          have RA := Lib.hid r11
          have RB := Lib.hid r11'
          have D11 := Lib.hid (D10.out.trans (o11.below hg8 (by omega)))
          have hgg : g ≠ g' := by have := RG.out.lt; omega
          have hs11 := o11.size
          clear r11 r11' o11 RG D10 HL
          have hraw := RawR_any g' inn false 200 w11 RB.out (by omega) (by have := HI.out; omega)
          unfold rawPost at hraw
          rw [R3.out] at hraw
          have Hraw := Lib.hid hraw
          clear hraw
          go_wp2_with fail
          refine Hraw.out.mono ?_
          rintro e w12 ⟨v12, rfl, o12, g12, r12⟩
          have RC := Lib.hid r12
          have RA2 := Lib.hid (RB.out.other RA.out hgg o12)
          have D12 := Lib.hid (D11.out.trans (o12.below (by omega) (by omega)))
          have V12 := Lib.hid g12.bytes
          obtain ⟨az, cz, rfl⟩ := Bytes.shape g12.bytes
          have hs12 := o12.size
          clear o12 g12 r12 RA RB D11 Hraw
          have htx := TextR_any g' _ false 200 w12 RC.out (by omega) (by have := Hal.out; simp [le4]; omega)
          rw [R4.out] at htx
          have Htx := Lib.hid htx
          clear htx
          go_wp2_with fail
          refine Htx.out.mono ?_
          rintro e w13 ⟨rfl, o13, r13⟩
          have RD := Lib.hid r13
          have RA3 := Lib.hid (RC.out.other RA2.out hgg o13)
          have D13 := Lib.hid (D12.out.trans (o13.below (by omega) (by omega)))
          have V13 := Lib.hid (V12.out.only RC.out o13)
          have E13 := Lib.hid (TT.out.1.1.trans (D13.out.mono (TT.out.1.1.size)))
          have hcv := run_bs w13 _ la (A1.out.below E13.out (Nat.le_refl _))
          have BP := Lib.hid (TT.out.2.1.bytes.below D13.out (Nat.le_refl _))
          have BQ := Lib.hid (TT.out.2.2.bytes.below D13.out (Nat.le_refl _))
          have BB := Lib.hid (B1.out.below E13.out (Nat.le_refl _))
          clear o13 r13 RC RA2 D12 Htx V12
          go_wp2_with fail
          refine (same_any lb lb _ _ _ V13.out BB.out).mono ?_
          rintro e w' ⟨rfl, rfl⟩
          rw [show decide (lb = lb) = true by simp]
          go_wp2_with fail
          refine (Done_any g' _ _ _ RD.out).mono ?_
          rintro e w' ⟨rfl, rfl⟩
          go_wp2_with fail
          refine (Done_any g _ _ _ RA3.out).mono ?_
          rintro e w' ⟨rfl, rfl⟩
          go_wp2_with fail
          refine (same_any P P _ _ _ BP.out BQ.out).mono ?_
          rintro e w' ⟨rfl, rfl⟩
          rw [show decide (P = P) = true by simp]
          go_wp2_with fail
          go_ret
          exact ⟨rfl, L1.out.trans (E13.out.mono L1.out.size)⟩
end Go.Proofs.Ytgkoblgpadpcjaa.recApart
