/- A log: Open. -/
import Derived.Test.YtgkoblgpadpcjaaLogW
import Derived.Deep.LoopGhost
namespace Go.Proofs.Ytgkoblgpadpcjaa
open Go.RowKit

def headsGo (D : Dk) : Nat → Lg
  | 0 => Lg.zero
  | k + 1 => headGo D k (headsGo D k)
def openRel1 (base g kb l : Nat) (D : Dk) (w : World) (i : Value) (wr : World) : Prop :=
  ∃ (k : Nat) (M : Lg), i = .int .i64 k ∧ k ≤ 2 ∧ Hid (M = headsGo D k) ∧ Hid (LogAt base wr g kb l (.slice none 0 0) D M) ∧ Hid (Ext w wr) ∧ Hid (∀ j, j < k → (D.read ((j : Nat) : Int)).2 = 0) ∧ M.epoch ≤ 2147483648 ∧ Hid (M.list.length ≤ M.at_)
def openPost (base g kb : Nat) (w : World) (r : Dk × Option Lg × Nat) (e : Ending) (w' : World) : Prop :=
  DOnly base g kb w w' ∧ match r with
    | (D', none, n) => e = .returned (.tuple #[.pointer none, .int .i64 (n : Nat)]) ∧ Disk base w' g kb D'
    | (D', some L, n) => ∃ l lv, e = .returned (.tuple #[.pointer (some ⟨l, 0, none⟩), .int .i64 (n : Nat)]) ∧ w.heap.size ≤ l ∧ LogAt base w' g kb l lv D' L ∧ ∀ q, lv.ownBlock = some q → w.heap.size ≤ q
theorem openPost.none {base g kb : Nat} {w w' : World} {D D' : Dk} {n : Nat} (h : openP D = (D', Option.none, n)) (x : DOnly base g kb w w') (d : Disk base w' g kb D') : openPost base g kb w (openP D) (.returned (.tuple #[.pointer Option.none, .int .i64 (n : Int)])) w' := by
  rw [h]; exact ⟨x, rfl, d⟩
theorem ext_setL {w a : World} {l i : Nat} {u : Value} (h : Ext w a) (hl : w.heap.size ≤ l) : Ext w (a.setCell ⟨l, i, none⟩ u) := h.setCell hl u
theorem Ext.donly {base g kb : Nat} {a b : World} (h : Ext a b) : DOnly base g kb a b := (DOnly.refl base g kb a).ext h
theorem lonly_donly {base g kb l : Nat} {lb : Option Nat} {w a b : World} (h : DOnly base g kb w a) (hl : w.heap.size ≤ l) (hlb : ∀ q, lb = some q → w.heap.size ≤ q) (k : LOnly base g kb l lb a b) : DOnly base g kb w b :=
  ⟨k.os.trans h.os, k.tape.trans h.tape, k.output.trans h.output, Nat.le_trans h.size k.size, fun i hi h1 h2 h5 => by
    have e := h.block i hi h1 h2 h5
    refine (k.block i (Nat.lt_of_lt_of_le hi h.size) h1 h2 (by omega) (fun e2 => ?_) (h5.imp id fun hn cs fz => ?_)).trans e
    · have := hlb i e2.symm; omega
    · rw [e]; exact hn cs fz⟩

theorem LogAt.blk_grown {base g kb l : Nat} {w w' : World} {lv v : Value} {D : Dk} {L : Lg} (h : LogAt base w g kb l lv D L) {vs : List Value} (hr : w.ownsRow base 22 1 lv L.list.length vs) (g2 : (w.alloc (.cells #[v] 22)).grownBy w' lv.ownBlock) : w'.heap[l]? = w.heap[l]? := by
  have hk : l < w.heap.size := (Array.getElem?_eq_some_iff.1 h.blk).1
  rw [g2.block l (by simp; omega) (by
    intro e
    rcases hr.2 with ⟨rfl, _⟩ | ⟨q, cap, cur, rfl, _, hq, _⟩
    · simp [Value.ownBlock] at e
    · simp only [Value.ownBlock, Option.some.injEq] at e
      subst e
      have := h.blk.symm.trans hq
      simp at this), heap_at_old _ _ _ hk]
theorem grown_undrew {a b : World} {r : Option Nat} (h : a.drew.grownBy b r) : a.grownBy b r := ⟨h.os, h.tape, h.output, h.size, h.block⟩
theorem readAll_succ {D : Dk} {f : Nat} {M : Lg} {b : List UInt8} {n e : Nat} (h : nextP D M = (b, n, e)) :
    readAll D (f + 1) M = if e ≠ 0 then (none, e) else if n = 0 then (some M, 0) else readAll D f { M with list := M.list ++ [b], at_ := M.at_ + n } := by
  rw [readAll, h]
def openRel2 (base g kb l : Nat) (D : Dk) (w : World) (M0 : Lg) (f : Nat) (wr : World) : Prop :=
  ∃ (M : Lg) (lvk : Value), Hid (LogAt base wr g kb l lvk D M) ∧ Hid (DOnly base g kb w wr) ∧ Hid (∀ q, lvk.ownBlock = some q → w.heap.size ≤ q) ∧ Hid (readAll D f M = readAll D (halfOf D + 1) M0) ∧ halfOf D + 1 ≤ f + M.at_ ∧ M.list.length ≤ M.at_ ∧ M.epoch ≤ 2147483648

set_option maxRecDepth 100000 in
set_option maxHeartbeats 8000000 in
theorem Open_any (base g kb : Nat) (D : Dk) (w : World) (h : Disk base w g kb D) (hst : D.steps ≤ 800000000) (hc : D.cache.length ≤ 800000000) (hB : base ≤ w.heap.size) :
    Calls Try.prog 55 #[.pointer (some ⟨g, 0, none⟩)] w (openPost base g kb w (openP D)) := by
  have HD := Lib.hid h
  have hm := h.wf.most
  have HW := Lib.hid h.wf
  obtain ⟨n, hn⟩ : ∃ n, n = D.kept.length := ⟨_, rfl⟩
  have HN := Lib.hid hn
  have hn4 : n ≤ 4096 := by omega
  clear h
  by_cases h6 : D.kept.length < 6
  · have HO := Lib.hid (show openP D = (D, none, 1) by unfold openP; rw [if_pos h6])
    have hn6 : n < 6 := by omega
    clear hn h6 hm
    go_enter Try.func55, Try.ntmps55
    go_wp2_with ((go_at_call 42); refine (Len_eq base g kb D n HN.out _ HD.out).mono ?_; rintro e w' ⟨rfl, rfl⟩)
    go_ret2
    exact openPost.none HO.out (DOnly.refl _ _ _ _) HD.out
  · have HO := Lib.hid (show openP D = (if (D.read 0).2 ≠ 0 then (D, none, (D.read 0).2) else if (D.read 1).2 ≠ 0 then (D, none, (D.read 1).2) else
        let k := lookP D (headsGo D 2).epoch
        if k.2 ≠ 0 then (D, none, k.2) else
          let M := { (headsGo D 2) with top := k.1 }
          if M.epoch = 0 then
            let r := rewriteP D M []
            if r.2.2 ≠ 0 then (r.1, none, r.2.2) else (r.1, some r.2.1, 0)
          else (D, (readAll D (halfOf D + 1) M).1, (readAll D (halfOf D + 1) M).2)) by unfold openP; rw [if_neg h6]; rfl)
    have hn6 : 6 ≤ n := by omega
    have hk6 : 6 ≤ D.kept.length := by omega
    obtain ⟨Z, hZ⟩ : ∃ Z, Z = (byteVals zero64).toArray := ⟨_, rfl⟩
    have HI : Hid (ZFacts Z) := by rw [hZ]; exact zfacts
    clear hn h6 hm hZ
    go_enter Try.func55, Try.ntmps55
    go_wp2_with ((go_at_call 42); refine (Len_eq base g kb D n HN.out _ HD.out).mono ?_; rintro e w' ⟨rfl, rfl⟩)
    have LA0 := Lib.hid (show LogAt base (w.alloc (.cells #[.pointer (some ⟨g, 0, none⟩), .int .i64 0, .int .i64 0, .int .i64 0, .int .i64 0, .slice none 0 0, .bool false] 119)) g kb w.heap.size (.slice none 0 0) D Lg.zero from
      ⟨HD.out.ext ((Ext.refl w).alloc _), hB, heap_alloc_new w _, RecRow.nil _ _, hk6, Nat.zero_le _, Nat.zero_le _⟩)
    have X0 := Lib.hid ((Ext.refl w).alloc (.cells #[.pointer (some ⟨g, 0, none⟩), .int .i64 0, .int .i64 0, .int .i64 0, .int .i64 0, .slice none 0 0, .bool false] 119))
    obtain ⟨l, hl⟩ : ∃ l, l = w.heap.size := ⟨_, rfl⟩
    rw [← hl] at LA0
    rw [← hl]
    have hlw : w.heap.size ≤ l := by omega
    generalize hw1 : w.alloc (.cells #[.pointer (some ⟨g, 0, none⟩), .int .i64 0, .int .i64 0, .int .i64 0, .int .i64 0, .slice none 0 0, .bool false] 119) = w1 at *
    clear hl hw1
    go_loopw [21] (fun i wr => openRel1 base g kb l D w i wr) (fun i _ => 2 - (intOf i).toNat)
    case atStart => exact ⟨0, Lg.zero, rfl, by omega, rfl, LA0, X0, Lib.hid (fun j hj => absurd hj (by omega)), by show (0 : Nat) ≤ _; omega, Lib.hid (Nat.le_refl _)⟩
    case round =>
      obtain ⟨k, M, rfl, hk, hM, hla, hx, hrd, hme, hli⟩ := hrel
      by_cases hlt : k < 2
      · obtain ⟨c0, c1, c2, c3, c4, c5, c6, hf⟩ := hla.out.cells
        have hf1 := hf 1
        have hf3 := hf 3
        clear hf c0 c2 c3 c4 c5 c6
        go_wp2_with fail
        refine (DRead_any base g kb D (k : Int) _ hla.out.disk).mono ?_
        unfold readPost
        rintro e w2 ⟨rfl, x2⟩
        dsimp only
        have hs64 := read_len HW.out (k : Int)
        have HGG := Lib.hid (show headsGo D (k + 1) = headGo D k M by rw [hM.out]; rfl)
        have HGO := Lib.hid (show headGo D k M = if (goodP (D.read (k : Int)).1).2 && M.epoch < (goodP (D.read (k : Int)).1).1 then { M with epoch := (goodP (D.read (k : Int)).1).1, half := k } else M from rfl)
        have HRE := Lib.hid (show (D.read (k : Int)).2 = (D.read (k : Int)).2 from rfl)
        obtain ⟨r, hr⟩ : ∃ r, r = D.read (k : Int) := ⟨_, rfl⟩
        rw [← hr] at hs64 HGO
        rw [← hr]
        have HR := Lib.hid hr
        obtain ⟨s, en⟩ := r
        have hs64 : s.length = 64 := hs64
        dsimp only at HGO
        have hi := Lib.hid (show (Try.prog.info? 63).map (·.size) = some (byteVals s).toArray.size by rw [List.size_toArray, byteVals_length, hs64]; exact Try.info63)
        have hZs := Lib.hid (show Z.size = (byteVals s).toArray.size by rw [HI.out.2.2.2.2]; simp [byteVals_length, hs64])
        have h1 := Lib.hid (all_oneCell_toArray (byteVals_oneCell s))
        have X3r := Lib.hid (show Ext wr (w2.alloc (.cells (byteVals s).toArray 63)) from x2.alloc _)
        have X3 := Lib.hid (hx.out.trans X3r.out)
        have HS := Lib.hid hs64
        clear hs64 hr x2 HRE
        by_cases hen : en = 0
        · subst hen
          have hrg := Lib.hid (show (w2.alloc (.cells (byteVals s).toArray 63)).rangeAt w2.heap.size 0 (byteVals s) from fun j v hj => by
            rw [Nat.zero_add, cell_of_row _ _ _ _ _ _ (heap_alloc_new w2 _), List.getElem?_toArray]; exact hj)
          have hi2 := Lib.hid (show (Try.prog.info? 63).map (·.size) = some (byteVals s).length by rw [byteVals_length, HS.out]; exact Try.info63)
          go_upto_region 10 with (first
            | (refine wpList_alloc_z rfl 63 rfl Z HI.out.1 ?_)
            | (refine wpList_store_new rfl 63 (.tmp 6) (.tmp 28) rfl w2 63 Z _ rfl rfl hi.out hZs.out h1.out ?_))
          generalize hw3 : w2.alloc (.cells (byteVals s).toArray 63) = w3 at *
          generalize hB3 : w2.heap.size = B3 at *
          clear hw3 hB3
          go_wp2_with (refine wpList_load_mid rfl 63 (.tmp 6) rfl B3 0 rfl (byteVals s) _ hrg.out Try.underlying63 rfl hi2.out ?_)
          refine (good_any _ s _ HS.out).mono ?_
          unfold goodPost
          rintro e w4 ⟨rfl, x4⟩
          dsimp only
          have X4r := Lib.hid (X3r.out.trans x4)
          have X4 := Lib.hid (hx.out.trans X4r.out)
          have LA4 := Lib.hid (hla.out.ext X4r.out)
          have hgm : (goodP s).1 ≤ 2147483648 := by
            unfold goodP
            split
            · exact Nat.zero_le _
            · exact numRes_most _ _ 2147483648
          obtain ⟨gp, hgp⟩ : ∃ gp, gp = goodP s := ⟨_, rfl⟩
          rw [← hgp] at hgm HGO
          rw [← hgp]
          obtain ⟨ge, gb⟩ := gp
          have hgm : ge ≤ 2147483648 := hgm
          dsimp only at HGO
          have hrd2 := Lib.hid (show ∀ j, j < k + 1 → (D.read ((j : Nat) : Int)).2 = 0 from fun j hj => by
            rcases Nat.lt_or_ge j k with h9 | h9
            · exact hrd.out j h9
            · rw [show j = k by omega, ← HR.out])
          clear x4 hgp c1 hf1 hf3
          obtain ⟨c0, c1, c2, c3, c4, c5, c6, hf⟩ := LA4.out.cells
          have hf1 := hf 1
          have hf3 := hf 3
          clear hf c0 c2 c4 c5 c6
          cases gb
          · go_wp2_with fail
            go_roundw
            case rel => exact ⟨k + 1, M, by go_num, by omega, Lib.hid (by rw [HGG.out, HGO.out]; rfl), LA4, X4, hrd2, hme, hli⟩
            case measure => simp [intOf]; omega
          · by_cases hep : M.epoch < ge
            · have hed : decide (M.epoch < ge) = true := by rw [decide_eq_true_iff]; exact hep
              have HE := Lib.hid hed
              clear hep
              go_wp2_with fail
              go_roundw
              case rel =>
                refine ⟨k + 1, { M with epoch := ge, half := k }, by go_num, by omega, Lib.hid ?_, Lib.hid ?_, Lib.hid ?_, hrd2, hgm, hli⟩
                · rw [HGG.out, HGO.out, HE.out]; rfl
                · have p1 := LA4.out.put 1 (.int .i64 (ge : Int)) { M with epoch := ge } _ rfl LA4.out.rows LA4.out.half LA4.out.at_
                  exact p1.put 3 (.int .i64 (k : Int)) { M with epoch := ge, half := k } _ rfl p1.rows (by show k ≤ 1; omega) LA4.out.at_
                · exact ext_setL (ext_setL X4.out hlw) hlw
              case measure => simp [intOf]; omega
            · have hed : decide (M.epoch < ge) = false := by rw [decide_eq_false_iff_not]; exact hep
              have HE := Lib.hid hed
              clear hep
              go_wp2_with fail
              go_roundw
              case rel => exact ⟨k + 1, M, by go_num, by omega, Lib.hid (by rw [HGG.out, HGO.out, HE.out]; rfl), LA4, X4, hrd2, hme, hli⟩
              case measure => simp [intOf]; omega
        · have hne := eq_int hen
          have hne2 := ne_int hen
          have HN1 := Lib.hid (show openP D = (D, none, en) by
            rw [HO.out]
            rcases Nat.eq_zero_or_pos k with hk0 | hk0
            · subst hk0
              have e0 : D.read 0 = (s, en) := HR.out.symm
              rw [e0, if_pos hen]
            · have hk1 : k = 1 := by omega
              subst hk1
              have e0 : (D.read 0).2 = 0 := hrd.out 0 (by omega)
              have e1 : D.read 1 = (s, en) := HR.out.symm
              rw [if_neg (not_not_intro e0), e1, if_pos hen])
          go_wp2_with (first
            | (refine wpList_alloc_z rfl 63 rfl Z HI.out.1 ?_)
            | (refine wpList_store_new rfl 63 (.tmp 6) (.tmp 28) rfl w2 63 Z _ rfl rfl hi.out hZs.out h1.out ?_))
          go_ret2
          exact openPost.none HN1.out X3.out.donly (HD.out.ext X3.out)
      · have hk2 : k = 2 := by omega
        subst hk2
        have HO2 := Lib.hid (show openP D = (
          let k := lookP D M.epoch
          if k.2 ≠ 0 then (D, none, k.2) else
            let M1 := { M with top := k.1 }
            if M1.epoch = 0 then
              let r := rewriteP D M1 []
              if r.2.2 ≠ 0 then (r.1, none, r.2.2) else (r.1, some r.2.1, 0)
            else (D, (readAll D (halfOf D + 1) M1).1, (readAll D (halfOf D + 1) M1).2)) by
          have e0 : (D.read 0).2 = 0 := hrd.out 0 (by omega)
          have e1 : (D.read 1).2 = 0 := hrd.out 1 (by omega)
          rw [HO.out, if_neg (not_not_intro e0), if_neg (not_not_intro e1), hM.out])
        clear hM hrd
        go_wp2_with fail
        refine (look_any base g kb l _ D M _ hla.out hme (Nat.le_trans hB hx.out.size)).mono ?_
        unfold lookPost
        rintro e w5 ⟨rfl, o5, d5, htp⟩
        obtain ⟨lp, hlp⟩ : ∃ lp, lp = lookP D M.epoch := ⟨_, rfl⟩
        rw [← hlp] at HO2 d5 htp
        rw [← hlp]
        obtain ⟨tp, en⟩ := lp
        have htp : tp ≤ 2147483648 := htp
        dsimp only at HO2
        have LA5 := Lib.hid d5
        have X5 := Lib.hid (lonly_donly hx.out.donly hlw (by intro q hq; cases hq) o5)
        clear o5 d5 hlp
        by_cases hen : en = 0
        · have HO3 := Lib.hid (HO2.out.trans (if_neg (not_not_intro hen)))
          subst hen
          obtain ⟨c0, c1, c2, c3, c4, c5, c6, hf⟩ := LA5.out.cells
          have c1 : w5.cell? ⟨l, 1, none⟩ = some (.int .i64 (M.epoch : Int)) := c1
          clear hf c0 c2 c3 c4 c5 c6
          by_cases hz : M.epoch = 0
          · have hz0 : ((M.epoch : Int) == 0) = true := by rw [hz]; rfl
            have HO4 := Lib.hid (HO3.out.trans (if_pos hz))
            clear hz
            go_wp2_with fail
            refine (Rewrite_any base g kb l _ D { M with top := tp } (.slice none 0 0) [] _ LA5.out ⟨none, 0, rfl, fun i hi => absurd hi (by simp)⟩ (by simp) (by simp) (by show tp < _; omega) hst hc (Nat.le_trans hB X5.out.size)).mono ?_
            unfold rewPost
            rintro e w6 ⟨rfl, lv6, o6, d6, hlv⟩
            obtain ⟨r6, hr6⟩ : ∃ r6, r6 = rewriteP D { M with top := tp } [] := ⟨_, rfl⟩
            rw [← hr6] at HO4 d6
            rw [← hr6]
            obtain ⟨D6, L6, e6⟩ := r6
            dsimp only at HO4
            have LA6 := Lib.hid d6
            have X6 := Lib.hid (lonly_donly X5.out hlw (by intro q hq; cases hq) o6)
            have HLV := Lib.hid (show ∀ q, lv6.ownBlock = some q → w.heap.size ≤ q from by
              rcases hlv with rfl | h9
              · intro q hq; cases hq
              · intro q hq; exact Nat.le_trans X5.out.size (h9 q hq))
            clear o6 d6 hlv hr6 c1
            by_cases he6 : e6 = 0
            · have HO5 := Lib.hid (HO4.out.trans (if_neg (not_not_intro he6)))
              subst he6
              go_wp2_with fail
              go_ret2
              rw [HO5.out]
              exact ⟨X6.out, l, lv6, rfl, hlw, LA6.out, HLV.out⟩
            · have hne := eq_int he6
              have hne2 := ne_int he6
              have HO5 := Lib.hid (HO4.out.trans (if_pos he6))
              go_wp2_with fail
              go_ret2
              exact openPost.none HO5.out X6.out LA6.out.disk
          · have hz0 : ((M.epoch : Int) == 0) = false := by rw [beq_eq_false_iff_ne]; omega
            have HO4 := Lib.hid (HO3.out.trans (if_neg hz))
            clear hz
            go_wp2_with fail
            clear c1
            go_loopg [12] (halfOf D + 1) (fun f x wr => openRel2 base g kb l D w { M with top := tp } f wr)
            case atStart => exact ⟨{ M with top := tp }, _, LA5, X5, Lib.hid (by intro q hq; cases hq), rfl, by show halfOf D + 1 ≤ _; omega, hli.out, hme⟩
            case round =>
              obtain ⟨M2, lvk, hla2, hx2, hlb2, hra, hfm, hll, hme2⟩ := hrel
              have hat2 := hla2.out.at_
              have hmm := HW.out.most
              have hhD : halfOf D ≤ 4096 := by unfold halfOf; omega
              obtain ⟨f, rfl⟩ : ∃ f, gk = f + 1 := ⟨gk - 1, by omega⟩
              go_wp2_with fail
              refine (next_any base g kb l lvk D M2 _ hla2.out (by omega) (by omega) (Nat.le_trans hB hx2.out.size)).mono ?_
              rintro e w6 ⟨bv, rfl, x6, ob⟩
              have HRS := Lib.hid (readAll_succ (f := f) (show nextP D M2 = ((nextP D M2).1, (nextP D M2).2.1, (nextP D M2).2.2) from rfl))
              have HSP := Lib.hid (fun hn => nextP_spec HW.out (show nextP D M2 = ((nextP D M2).1, (nextP D M2).2.1, (nextP D M2).2.2) from rfl) hn)
              obtain ⟨r2, hr2⟩ : ∃ r2, r2 = nextP D M2 := ⟨_, rfl⟩
              rw [← hr2] at HRS HSP ob
              rw [← hr2]
              obtain ⟨b, n2, e2⟩ := r2
              dsimp only at HRS HSP ob
              have OB := Lib.hid ob
              have X6r := Lib.hid x6
              have X6 := Lib.hid (hx2.out.ext x6)
              have LA6 := Lib.hid (hla2.out.ext x6)
              obtain ⟨ab, cb, rfl, -⟩ := ob.bytes
              clear ob x6 hr2
              by_cases he2 : e2 = 0
              · have HRS2 := Lib.hid (HRS.out.trans (if_neg (not_not_intro he2)))
                subst he2
                by_cases hn2 : n2 = 0
                · have HRS3 := Lib.hid (HRS2.out.trans (if_pos hn2))
                  subst hn2
                  go_wp2_with fail
                  go_ret2
                  rw [HO4.out, ← hra.out, HRS3.out]
                  exact ⟨X6.out, l, lvk, rfl, hlw, LA6.out, hlb2.out⟩
                · have HRS3 := Lib.hid (HRS2.out.trans (if_neg hn2))
                  have hnz := eq_int hn2
                  obtain ⟨-, -, hb4, hfit⟩ := HSP.out hn2
                  obtain ⟨sk, hsk⟩ : ∃ sk, sk = M2.at_ + n2 := ⟨_, rfl⟩
                  have hsu : IntKind.i64.wrap ((M2.at_ : Int) + (n2 : Int)) = (sk : Int) := by rw [IntWalk.i64_in _ (by omega)]; omega
                  have HSK := Lib.hid hsk
                  have hskh : sk ≤ halfOf D := by omega
                  have hskf : halfOf D + 1 ≤ f + sk := by omega
                  have hn1 : 1 ≤ n2 := by omega
                  have hlk : M2.list.length + 1 ≤ sk := by omega
                  clear hsk hn2
                  obtain ⟨al2, cl2, rfl⟩ := LA6.out.rows.shape
                  obtain ⟨c0, c1, c2, c3, c4, c5, c6, hf⟩ := LA6.out.cells
                  have hf4 := hf 4
                  clear hf c0 c1 c2 c3 c6
                  have c48 := ((Ext.refl w6).alloc (.cells #[.slice ab b.length cb] 22)).cell c4
                  have c58 := ((Ext.refl w6).alloc (.cells #[.slice ab b.length cb] 22)).cell c5
                  obtain ⟨vs, hr7, hi7⟩ := LA6.out.rows
                  have HR7 := Lib.hid hr7
                  have HI7 := Lib.hid hi7
                  clear hr7 hi7
                  obtain ⟨i0, hi0, hz0', hz1, hz2⟩ := info_parts Try.info22'
                  have HI2 := Lib.hid (And.intro hi0 (And.intro hz0' (And.intro hz1 hz2)))
                  clear hi0 hz0' hz1 hz2
                  have hbs := Nat.le_trans hB X6.out.size
                  have OBB := Lib.hid (OB.out.le hx2.out.size)
                  have OBb := Lib.hid (OBB.out.le hB)
                  go_upto_region 27 with (fail)
                  go_region_law ((refine step_append_src rfl (.tmp 90) (.tmp 92) 92 rfl base 22 i0 _ 1 24 Try.underlying92' HI2.out.1 HI2.out.2.1 HI2.out.2.2.1 HI2.out.2.2.2 rfl (by decide) _ _ rfl rfl M2.list.length vs (HR7.out.alloc (.cells #[.slice ab b.length cb] 22)).drew 1 [.slice ab b.length cb] rfl (show Src (w6.alloc (.cells #[.slice ab b.length cb] 22)).drew _ _ _ from src_lit1 w6 _ _ _) (by simp [Value.oneCell']) (by unfold maxLen; omega) (by omega) (by have h9 : (w6.alloc (.cells #[.slice ab b.length cb] 22)).drew.heap.size = w6.heap.size + 1 := size_alloc _ _; omega) ?_; intro v8 w8 o8 g8 n8; (obtain ⟨a8, m8, c8, rfl⟩ := row_shape o8); have P8 := LA6.out.pushed OBb.out HR7.out HI7.out o8 (grown_undrew g8); have q1 := P8.2.2.1; have q2 := P8.2.2.2; have P81 := Lib.hid P8.1; have P82 := Lib.hid P8.2.1; have N8 := Lib.hid (new_le n8 (show w6.heap.size ≤ _ from by have h9 : (w6.alloc (.cells #[.slice ab b.length cb] 22)).drew.heap.size = w6.heap.size + 1 := size_alloc _ _; omega)); have hbg := LA6.out.blk_grown HR7.out (grown_undrew g8); have c4w := (World.cell?_of_block (a := ⟨l, 4, none⟩) hbg).trans c4; have f4w := (World.frozen?_of_block (a := ⟨l, 4, none⟩) hbg).trans hf4; clear P8 o8 g8 n8 hbg))
                  all_goals
                    go_wp2_with fail
                    go_roundg f
                    case measure => omega
                    case rel =>
                      refine ⟨{ M2 with list := M2.list ++ [b], at_ := sk }, .slice a8 m8 c8, Lib.hid ?_, Lib.hid ?_, Lib.hid ?_, Lib.hid ?_, hskf, ?_, hme2⟩
                      · exact P81.out.put 4 (.int .i64 (sk : Int)) { M2 with list := M2.list ++ [b], at_ := sk } _ rfl P81.out.rows LA6.out.half hskh
                      · exact lonly_donly X6.out hlw hlb2.out (P82.out.setL 4 _)
                      · rcases N8.out with e | e
                        · rw [e]; exact hlb2.out
                        · intro q hq; exact Nat.le_trans X6.out.size (e q hq)
                      · rw [HSK.out, ← HRS3.out]; exact hra.out
                      · show (M2.list ++ [b]).length ≤ sk
                        rw [List.length_append]; exact hlk
              · have hne := eq_int he2
                have hne2 := ne_int he2
                have HRS2 := Lib.hid (HRS.out.trans (if_pos he2))
                go_wp2_with fail
                go_ret2
                exact openPost.none (by rw [HO4.out, ← hra.out, HRS2.out]) X6.out LA6.out.disk
        · have hne := eq_int hen
          have hne2 := ne_int hen
          have HO3 := Lib.hid (HO2.out.trans (if_pos hen))
          go_wp2_with fail
          go_ret2
          exact openPost.none HO3.out X5.out LA5.out.disk
end Go.Proofs.Ytgkoblgpadpcjaa
