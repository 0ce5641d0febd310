/- A log: look. -/
import Derived.Test.YtgkoblgpadpcjaaLogU
import Derived.Deep.RegionLaw
namespace Go.Proofs.Ytgkoblgpadpcjaa
open Go.RowKit

theorem lookGo_succ (D : Dk) (f a top : Nat) (s : List UInt8) (e : Nat) (h : D.read (a : Int) = (s, e)) :
    lookGo D (f + 1) a top = if e = 0 then lookGo D f (a + 1) (if s.headD 0 = 2 then max top (numRes ((s.drop 9).take 4) false 2147483648).1 else top) else (top, e) := by
  rw [lookGo, h]
theorem Len_eq (base g kb : Nat) (D : Dk) (n : Nat) (hn : n = D.kept.length) (w : World) (h : Disk base w g kb D) : Calls Try.prog 42 #[.pointer (some ⟨g, 0, none⟩)] w fun e w' => e = .returned (.int .i64 (n : Nat)) ∧ w = w' := by
  subst hn; exact Len_any base g kb D w h
theorem numRes_most (l : List UInt8) (bad : Bool) (most : Nat) : (numRes l bad most).1 ≤ most := by
  unfold numRes
  split
  · split
    · omega
    · exact Nat.zero_le _
  · exact Nat.zero_le _
def lookRel (base g kb l : Nat) (lv : Value) (D : Dk) (L : Lg) (w : World) (i : Value) (wr : World) : Prop :=
  ∃ (p t : Nat), i = .int .i64 (p : Int) ∧ 2 ≤ p ∧ p ≤ D.kept.length ∧ t ≤ 2147483648 ∧ Hid (LogAt base wr g kb l lv D { L with top := t }) ∧ Hid (LOnly base g kb l none w wr) ∧ Hid (lookGo D (D.kept.length - p) p t = lookP D L.epoch)
def lookPost (base g kb l : Nat) (lv : Value) (D : Dk) (L : Lg) (w : World) (e : Ending) (w' : World) : Prop :=
  e = .returned (.int .i64 ((lookP D L.epoch).2 : Nat)) ∧ LOnly base g kb l none w w' ∧ LogAt base w' g kb l lv D { L with top := (lookP D L.epoch).1 } ∧ (lookP D L.epoch).1 ≤ 2147483648

set_option maxRecDepth 100000 in
set_option maxHeartbeats 4000000 in
theorem look_any (base g kb l : Nat) (lv : Value) (D : Dk) (L : Lg) (w : World) (h : LogAt base w g kb l lv D L) (hep : L.epoch ≤ 2147483648) (hB : base ≤ w.heap.size) :
    Calls Try.prog 69 #[.pointer (some ⟨l, 0, none⟩)] w (lookPost base g kb l lv D L w) := by
  have HL := Lib.hid h
  obtain ⟨c0, c1, c2, c3, c4, c5, c6, hf⟩ := h.cells
  have hf2 := hf 2
  have hm := h.disk.wf.most
  have h6 := h.six
  obtain ⟨n, hn⟩ : ∃ n, n = D.kept.length := ⟨_, rfl⟩
  have HN := Lib.hid hn
  have hn1 : n ≤ D.kept.length := by omega
  have hn2 : D.kept.length ≤ n := by omega
  clear hn
  obtain ⟨Z, hZ⟩ : ∃ Z, Z = (byteVals zero64).toArray := ⟨_, rfl⟩
  have HI : Hid (ZFacts Z) := by rw [hZ]; exact zfacts
  have LA1 := Lib.hid (h.put 2 (.int .i64 (L.epoch : Int)) { L with top := L.epoch } lv rfl h.rows h.half h.at_)
  have X1 := Lib.hid ((LOnly.refl (base := base) (g := g) (kb := kb) (l := l) (lb := none) (a := w)).setL 2 (.int .i64 (L.epoch : Int)))
  clear h hf c3 c4 c5 c6 hZ
  go_enter Try.func69, Try.ntmps69
  go_wp2_with fail
  generalize hw1 : w.setCell ⟨l, 2, none⟩ (.int .i64 (L.epoch : Int)) = w1 at *
  clear hw1 c0 c1 c2 hf2
  go_loopw [3] (fun i wr => lookRel base g kb l lv D L w i wr) (fun i _ => D.kept.length - (intOf i).toNat)
  case atStart => exact ⟨2, L.epoch, rfl, Nat.le_refl _, by omega, hep, LA1, X1, rfl⟩
  case round =>
    obtain ⟨p, t, rfl, hp2, hk, ht, hla, hxl, hlk⟩ := hrel
    obtain ⟨c0, c1, c2, c3, c4, c5, c6, hf⟩ := hla.out.cells
    have hf2 := hf 2
    have c2' : wr.cell? ⟨l, 2, none⟩ = some (.int .i64 (t : Int)) := c2
    clear hf c1 c2 c3 c4 c5 c6
    by_cases hlt : p < D.kept.length
    · have hlt2 : p < n := by omega
      go_wp2_with ((go_at_call 42); refine (Len_eq base g kb D n HN.out _ hla.out.disk).mono ?_; rintro e w' ⟨rfl, rfl⟩)
      refine (DRead_any base g kb D (p : Int) _ hla.out.disk).mono ?_
      unfold readPost
      rintro e w2 ⟨rfl, x2⟩
      dsimp only
      have hs64 := read_len hla.out.disk.wf (p : Int)
      have HLK := Lib.hid (lookGo_succ D (D.kept.length - (p + 1)) p t (D.read (p : Int)).1 (D.read (p : Int)).2 rfl)
      generalize hr : D.read (p : Int) = r at *
      obtain ⟨s, en⟩ := r
      have hs64 : s.length = 64 := hs64
      have X2 := Lib.hid x2
      have hi := Lib.hid (show (Try.prog.info? 63).map (·.size) = some (byteVals s).toArray.size by rw [List.size_toArray, byteVals_length, hs64]; exact Try.info63)
      have hZs := Lib.hid (show Z.size = (byteVals s).toArray.size by rw [HI.out.2.2.2.2]; simp [byteVals_length, hs64])
      have h1 := Lib.hid (all_oneCell_toArray (byteVals_oneCell s))
      have HS := Lib.hid hs64
      have X3 := Lib.hid (show Ext wr (w2.alloc (.cells (byteVals s).toArray 63)) from x2.alloc _)
      have HB3 := Lib.hid (heap_alloc_new w2 (.cells (byteVals s).toArray 63))
      have HSZ3 := Lib.hid (size_alloc w2 (.cells (byteVals s).toArray 63))
      obtain ⟨B, hBB⟩ : ∃ B, B = w2.heap.size := ⟨_, rfl⟩
      rw [← hBB] at HB3 HSZ3
      have HBB := Lib.hid hBB
      have hck := Lib.hid (show lookGo D (D.kept.length - p) p t = if en = 0 then lookGo D (D.kept.length - (p + 1)) (p + 1) (if s.headD 0 = 2 then max t (numRes ((s.drop 9).take 4) false 2147483648).1 else t) else (t, en) by
        rw [show D.kept.length - p = D.kept.length - (p + 1) + 1 by omega]
        exact HLK.out)
      clear hs64 x2 HLK hr hBB c0
      by_cases hen : en = 0
      · have HCK := Lib.hid (hck.out.trans (if_pos hen))
        subst hen
        obtain ⟨c, tl, hct⟩ : ∃ c t, s = c :: t := by
          cases s with
          | nil => have := HS.out; simp at this
          | cons c t => exact ⟨c, t, rfl⟩
        have HCT := Lib.hid hct
        have c0 : (w2.alloc (.cells (byteVals s).toArray 63)).cell? ⟨w2.heap.size, 0, none⟩ = some (.int .u8 c.toNat) := by
          rw [cell_of_row _ _ _ _ _ _ (heap_alloc_new w2 _), List.getElem?_toArray, hct]; rfl
        have c0z : (byteVals s)[0]? = some (.int .u8 c.toNat) := by rw [hct]; rfl
        clear hct
        by_cases hc2 : c = 2
        · have hcn : (c.toNat : Int) = 2 := by rw [hc2]; rfl
          rw [hcn] at c0 c0z
          have HC2 := Lib.hid hc2
          clear hcn hc2
          go_upto_region 9 with (first
            | (refine wpList_alloc_z rfl 63 rfl Z HI.out.1 ?_)
            | (refine wpList_store_new rfl 63 (.tmp 4) (.tmp 30) rfl w2 63 Z _ rfl rfl hi.out hZs.out h1.out ?_))
          go_wp2_with fail
          refine (Read_any ((s.drop 9).take 4) _ _ (block_cut (heap_alloc_new w2 (.cells (byteVals s).toArray 63)) 9 4 55 (by rw [HS.out]; omega) (by omega) (by omega)) (by rw [List.length_take]; omega)).mono ?_
          rintro e w4 ⟨q, rfl, hq, x4, r4⟩
          have hqw : wr.heap.size ≤ q := Nat.le_trans X3.out.size hq
          have X4 := Lib.hid (X3.out.trans x4)
          have LA4 := Lib.hid (hla.out.ext X4.out)
          have hn1 : (numRes ((s.drop 9).take 4) false 2147483648).1 ≤ 2147483648 := numRes_most ((s.drop 9).take 4) false 2147483648
          generalize hr1 : numRes ((s.drop 9).take 4) false 2147483648 = r1 at *
          obtain ⟨n1, l1, b1⟩ := r1
          have hn1 : n1 ≤ 2147483648 := hn1
          have R4 := Lib.hid (show ReaderAt w4.drew q ((s.drop 9).take 4) false from r4)
          have HR1 := Lib.hid hr1
          clear hr1 x4 r4 c0
          obtain ⟨c40, c41, c42, c43, c44, c45, c46, cf4⟩ := LA4.out.cells
          have c42 : w4.cell? ⟨l, 2, none⟩ = some (.int .i64 (t : Int)) := c42
          have cf42 := cf4 2
          clear c40 c41 c43 c44 c45 c46 cf4
          go_upto_region 10 with (fail)
          go_region_law ((go_simp; go_at_call 35; refine (Num_all q _ _ 2147483648 _ R4.out (by omega)).mono ?_; rw [HR1.out]; rintro e w5 ⟨rfl, o5, -⟩; have x5 : Ext wr w5 := only_ext X4.out.drew hqw o5; have X5 := Lib.hid x5; have c52 : w5.cell? ⟨l, 2, none⟩ = some (.int .i64 (t : Int)) := (hla.out.ext x5).cells.2.2.1; have cf52 : w5.frozen? ⟨l, 2, none⟩ = false := (hla.out.ext x5).cells.2.2.2.2.2.2.2 2; clear x5 o5))
          all_goals
            go_wp2_with fail
            have ev : (if t < n1 then (n1 : Int) else (t : Int)) = ((max t n1 : Nat) : Int) := by split <;> omega
            rw [ev]
            go_roundw
            case rel =>
              refine ⟨p + 1, max t n1, by go_num, by omega, by omega, by omega, Lib.hid ?_, Lib.hid ?_, Lib.hid ?_⟩
              · exact (hla.out.ext X5.out).put 2 (.int .i64 ((max t n1 : Nat) : Int)) { L with top := max t n1 } lv rfl (hla.out.ext X5.out).rows hla.out.half hla.out.at_
              · exact (hxl.out.trans (X5.out.lonly (lb := none)) (.inl rfl)).setL 2 _
              · have e1 := HCK.out
                rw [if_pos (by rw [HCT.out]; exact HC2.out)] at e1
                exact e1.symm.trans hlk.out
            case measure => simp [intOf]; omega
        · have hcn : ((c.toNat : Int) == 2) = false := by
            rw [beq_eq_false_iff_ne]
            intro e
            exact hc2 (UInt8.toNat_inj.1 (by show c.toNat = 2; omega))
          have HC2 := Lib.hid hc2
          clear hc2
          go_wp2_with (first
            | (refine wpList_alloc_z rfl 63 rfl Z HI.out.1 ?_)
            | (refine wpList_store_new rfl 63 (.tmp 4) (.tmp 30) rfl w2 63 Z _ rfl rfl hi.out hZs.out h1.out ?_))
          go_roundw
          case rel =>
            refine ⟨p + 1, t, by go_num, by omega, by omega, ht, Lib.hid (hla.out.ext X3.out), Lib.hid (hxl.out.trans (X3.out.lonly (lb := none)) (.inl rfl)), Lib.hid ?_⟩
            have e1 := HCK.out
            rw [if_neg (by rw [HCT.out]; exact HC2.out)] at e1
            rw [← e1]; exact hlk.out
          case measure => simp [intOf]; omega
      · have hne := eq_int hen
        have hne2 := ne_int hen
        have HCK := Lib.hid (hck.out.trans (if_neg hen))
        go_wp2_with (first
          | (refine wpList_alloc_z rfl 63 rfl Z HI.out.1 ?_)
          | (refine wpList_store_new rfl 63 (.tmp 4) (.tmp 30) rfl w2 63 Z _ rfl rfl hi.out hZs.out h1.out ?_))
        go_ret
        unfold lookPost
        rw [show lookP D L.epoch = (t, en) from hlk.out.symm.trans HCK.out]
        exact ⟨rfl, hxl.out.trans (X3.out.lonly (lb := none)) (.inl rfl), hla.out.ext X3.out, ht⟩
    · have hnl : ¬ p < n := by omega
      go_wp2_with ((go_at_call 42); refine (Len_eq base g kb D n HN.out _ hla.out.disk).mono ?_; rintro e w' ⟨rfl, rfl⟩)
      go_ret
      unfold lookPost
      have e1 := hlk.out
      rw [show D.kept.length - p = 0 by omega] at e1
      rw [show lookP D L.epoch = (t, 0) from e1.symm]
      exact ⟨rfl, hxl.out, hla.out, ht⟩
end Go.Proofs.Ytgkoblgpadpcjaa
