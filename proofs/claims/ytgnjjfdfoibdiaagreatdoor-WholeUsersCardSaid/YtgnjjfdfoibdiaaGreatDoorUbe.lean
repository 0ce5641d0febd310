/- A file that is the users' to turn, and was turned, stays as they turned it behind whichever upgrades of its package (WholeUsers). Condition: none. -/
import Derived.Test.YtgnjjfdfoibdiaaGreatDoorUbd
set_option linter.all false
namespace Go.Proofs.YtgnjjfdfoibdiaaGreatDoor
section
open Go.RowKit Go.Maps Go.Sort Go.Lib
set_option maxRecDepth 100000
theorem size_pos {w : World} {u : Value} (h : w.cell? ⟨0, 0, none⟩ = some u) : 0 < w.heap.size := by
 rcases Nat.eq_zero_or_pos w.heap.size with h0 | h0
 ·exfalso;have h2 : w.heap[0]? = none := Array.getElem?_eq_none (by omega);simp [World.cell?, h2] at h
 ·exact h0
theorem enc_dig (k : Nat) (hk : k < 8) : Utf8.encode (49 + (k : Int)) = ba (dig (k + 1)) := by
 have h : k = 0 ∨ k = 1 ∨ k = 2 ∨ k = 3 ∨ k = 4 ∨ k = 5 ∨ k = 6 ∨ k = 7 := by omega
 rcases h with rfl | rfl | rfl | rfl | rfl | rfl | rfl | rfl <;> rfl
theorem pkg_lit {W : World} {f g d : Nat} {bv : Value} {b : List UInt8} (hf : W.heap[f]? = some (.cells #[.string (ba zA4), .bool true, bv, .string (ba zA6), .bool false, bv] 30 (0, 0)))
  (hg : W.heap[g]? = some (.cells #[.string (ba nmA), .string (ba (dig d)), .slice none 0 0, .slice none 0 0, .slice (some ⟨f, 0, none⟩) 2 2, .slice none 0 0] 35 (0, 0))) (hb : BytesIs W bv b) (hl : b.length ≤ 512) : ComeW W d (.slice (some ⟨g, 0, none⟩) 1 1) (fB b) := by
 obtain ⟨a, c, hv⟩ := hb.form;have h1 : bv.oneCell' = true := by rw [hv]; rfl
 have ha : ArcW W (.slice (some ⟨f, 0, none⟩) 2 2) [(⟨zA4, true, b⟩, bv), (⟨zA6, false, b⟩, bv)] :=
  ⟨zJ8 (R := rFile) [[.string (ba zA4), .bool true, bv], [.string (ba zA6), .bool false, bv]] hf (by simp [rFile]) (fun r hr u hu => by simp only [List.mem_cons, List.not_mem_nil, or_false] at hr; rcases hr with rfl | rfl <;> (simp only [List.mem_cons, List.not_mem_nil, or_false] at hu; rcases hu with rfl | rfl | rfl <;> first | exact h1 | rfl)) (by simp), fun y hy => by
   simp only [List.mem_cons, List.not_mem_nil, or_false] at hy
   rcases hy with rfl | rfl <;> exact hb, by simp⟩
 exact come_one (d := d) (xs := [(⟨zA4, true, b⟩, bv), (⟨zA6, false, b⟩, bv)]) hg ha (by simp) (by simp [hl])
def usersRel (w : World) (B h o v : Nat) (mine : List UInt8) (n : Nat) (tv iv : Value) (wr : World) : Prop :=
 ∃ k, k ≤ n ∧ iv = .int .i64 k ∧ tv = .bool (decide (n / 2 < k)) ∧ Hid (StU wr B h o v mine n k) ∧ Hid (Ext w wr) ∧ Hid (B ≤ wr.heap.size)
set_option maxHeartbeats 4000000 in
theorem walk_main (rows : List (List UInt8)) (rv : Value) (mine : List UInt8) (mv : Value) (w : World) (mx : Int) (hr : ListAt 1 (zE5 w) rv rows) (hm : Bytes w mv mine) (hn : rows.length ≤ 8) (h1 : 0 < rows.length) (hml : mine.length ≤ 100) (hmx : w.cell? ⟨0, 0, none⟩ = some (.int .i64 mx)) :
  Calls Tryz.prog 3 #[rv, mv] w fun e w' => e = .returned (.bool true) ∧ Ext w w' := by
 have h0 := size_pos hmx;have HR := zh hr;have HM := zh hm;have HMX := zh hmx;have HSD := zh (Sound_any w h0 hmx);have HML := zh hml;obtain ⟨ra, rc, rfl, -, -⟩ := hr;obtain ⟨ma, mc, rfl, -, -, -, -⟩ := hm;generalize hgn : rows.length = n at *;generalize hgm : mine.length = m at *;have HGN := zh hgn;have HGM := zh hgm;have hn8 : (n : Int) ≤ 8 := by omega
 have hn0 : (0 : Int) < n := by omega
 have hm100 : (m : Int) ≤ 100 := by omega
 have hc1 : decide ((8 : Int) < n) = false := by rw [decide_eq_false_iff_not]; omega
 have hc2 : decide ((100 : Int) < m) = false := by rw [decide_eq_false_iff_not]; omega
 have hc3 : ((n : Int) == 0) = false := by rw [beq_eq_false_iff_ne]; omega
 clear hmx hgn hgm;go_enter Tryz.func3, Tryz.ntmps3
 go_upto_region 8 with (first
  | (go_at_call 4; refine HSD.out.mono ?_; rintro e w1 ⟨rfl, x1⟩; have X1 := zh x1; clear x1)
  | (go_at_call 5; refine (Made_any w1 (Nat.lt_of_lt_of_le h0 X1.out.sz) (X1.out.cell HMX.out)).mono ?_; rintro e w2 ⟨h, rfl, p2, x2⟩; have P2 := zh p2; have X2 := zh x2; clear p2 x2))
 obtain ⟨o, x, hhb, hid⟩ := P2.out;have HS0 : Hid (StU w2 w1.heap.size h o x.v mine n 0) := .inl ⟨rfl, x, rfl, hhb, hid⟩;have HB : Hid (w.heap.size ≤ w1.heap.size) := X1.out.sz;have HB2 : Hid (w1.heap.size ≤ w2.heap.size) := X2.out.sz;have HB0 : Hid (0 < w1.heap.size) := Nat.lt_of_lt_of_le h0 X1.out.sz;have XA := zh (X1.out.trans X2.out);clear hhb hid P2 X1 X2;generalize w1.heap.size = B at *;generalize x.v = v at *
 go_loopw [6, 37] (fun tv iv wr => usersRel w B h o v mine n tv iv wr) (fun _ i _ => n - (intOf i).toNat)
 case atStart => exact ⟨0, Nat.zero_le _, rfl, by simp, HS0, XA, HB2⟩
 case round =>
  obtain ⟨wq, rfl⟩ : ∃ x : World, x = wr := ⟨_, rfl⟩
  obtain ⟨k, hk, rfl, rfl, HST, XQ, HBQ⟩ := hrel
  by_cases hlt : k < n
  ·obtain ⟨bb, ro, hra, bv, hbc, hbb, hbl⟩ := HR.out.at k (by rw [HGN.out]; exact hlt);subst hra;rw [Nat.mul_one] at hbc;have hbq := XQ.out.cell hbc;have HBB := zh (hbb.ext XQ.out);have HBW := zh hbb;obtain ⟨ba_, bc, rfl, -, -, -, -⟩ := hbb;clear hbc hbl;generalize rows[k]'(by rw [HGN.out]; exact hlt) = b at *;have HRB : Hid (b.length ≤ 100 → ∀ W, Ext wq W → _) := fun hl W x => ref_any b _ W (by omega) (HBB.out.ext x)
   have HRM : Hid (∀ W, Ext wq W → _) := fun W x => ref_any mine _ W (by rw [HGM.out]; omega) (HM.out.ext (XQ.out.trans x))
   have HBL : Hid (b.length = b.length) := rfl;generalize hgl : b.length = bl at *;generalize hcb : zA3 b = cb at *;generalize hcm : zA3 mine = cm at *;have HGL := zh hgl;have HCB := zh hcb;have HCM := zh hcm;clear hgl hcb hcm
   by_cases hbl : bl ≤ 100
   ·have hbl2 : (bl : Int) ≤ 100 := by omega
    have hc4 : decide ((100 : Int) < bl) = false := by rw [decide_eq_false_iff_not]; omega
    by_cases hcc : cb = cm
    ·subst hcc
     go_upto_region 11 with (first
      | (go_at_call_of 6 (Value.slice ba_ bl bc); refine (HRB.out hbl _ (xr _)).mono ?_; rintro e w3 ⟨rfl, x3⟩; have X3 := zh x3; clear x3)
      | (go_at_call_of 6 (Value.slice ma m mc); refine (HRM.out _ X3.out).mono ?_; rintro e w4 ⟨rfl, x4⟩; have X4 := zh (X3.out.trans x4); clear x4))
     go_wp2_with fail
     go_ret
     exact ⟨rfl, XQ.out.trans X4.out⟩
    ·have hc5 : ((cb : Int) == (cm : Int)) = false := by rw [beq_eq_false_iff_ne]; omega
     go_upto_region 12 with (first
      | (go_at_call_of 6 (Value.slice ba_ bl bc); refine (HRB.out hbl _ (xr _)).mono ?_; rintro e w3 ⟨rfl, x3⟩; have X3 := zh x3; clear x3)
      | (go_at_call_of 6 (Value.slice ma m mc); refine (HRM.out _ X3.out).mono ?_; rintro e w4 ⟨rfl, x4⟩; have X4 := zh (X3.out.trans x4); clear x4))
     go_upto_region 13 with fail
     obtain ⟨W5, hW5⟩ : ∃ W5, W5 = (w4.alloc (.cells #[.string ⟨#[47, 101, 116, 99, 47, 97]⟩, .bool true, .slice ba_ bl bc, .string ⟨#[47, 108, 105, 98, 47, 97]⟩, .bool false, .slice ba_ bl bc] 30)).alloc (.cells #[.string ⟨#[97]⟩, .string (Utf8.encode (49 + (k : Int))), .slice none 0 0, .slice none 0 0, .slice (some ⟨w4.heap.size, 0, none⟩) 2 2, .slice none 0 0] 35) := ⟨_, rfl⟩
     rw [← hW5];have HSZ := zh (show W5.heap.size = w4.heap.size + 1 + 1 by rw [hW5]; simp);have X5 := zh (show Ext w4 W5 by rw [hW5]; exact ((xr w4).alloc _).alloc _)
     have Q0 := zh (show W5.heap[w4.heap.size]? = some (.cells #[.string (ba zA4), .bool true, .slice ba_ bl bc, .string (ba zA6), .bool false, .slice ba_ bl bc] 30 (0, 0)) by
      rw [hW5]; exact ((xr _).alloc _).get (heap_alloc_new w4 (.cells #[.string ⟨#[47, 101, 116, 99, 47, 97]⟩, .bool true, .slice ba_ bl bc, .string ⟨#[47, 108, 105, 98, 47, 97]⟩, .bool false, .slice ba_ bl bc] 30)))
     have HED := zh (enc_dig k (by omega))
     have Q1 := zh (show W5.heap[w4.heap.size + 1]? = some (.cells #[.string ⟨#[97]⟩, .string (Utf8.encode (49 + (k : Int))), .slice none 0 0, .slice none 0 0, .slice (some ⟨w4.heap.size, 0, none⟩) 2 2, .slice none 0 0] 35 (0, 0)) by
      rw [hW5]
      exact zKa w4 (.cells #[.string ⟨#[47, 101, 116, 99, 47, 97]⟩, .bool true, .slice ba_ bl bc, .string ⟨#[47, 108, 105, 98, 47, 97]⟩, .bool false, .slice ba_ bl bc] 30) (.cells #[.string ⟨#[97]⟩, .string (Utf8.encode (49 + (k : Int))), .slice none 0 0, .slice none 0 0, .slice (some ⟨w4.heap.size, 0, none⟩) 2 2, .slice none 0 0] 35))
     clear hW5;generalize Utf8.encode (49 + (k : Int)) = vs at *;obtain ⟨p0, p1, p2, p3, p4, p5, pf⟩ := cells6 Q1.out
     obtain ⟨W6, hW6⟩ : ∃ W6, W6 = W5.alloc (.cells #[.string ⟨#[97]⟩, .string vs, .slice none 0 0, .slice none 0 0, .slice (some ⟨w4.heap.size, 0, none⟩) 2 2, .slice none 0 0] 35) := ⟨_, rfl⟩
     have X6 := zh (show Ext W5 W6 by rw [hW6]; exact (xr W5).alloc _);have XQ6 := zh (X4.out.trans (X5.out.trans X6.out))
     have HCW := zh (show ComeW W6 (k + 1) (.slice (some ⟨W5.heap.size, 0, none⟩) 1 1) (fB b) from
      pkg_lit (X6.out.get Q0.out) (by rw [hW6]; have := heap_alloc_new W5 (.cells #[.string ⟨#[97]⟩, .string vs, .slice none 0 0, .slice none 0 0, .slice (some ⟨w4.heap.size, 0, none⟩) 2 2, .slice none 0 0] 35); rw [HED.out] at this ⊢; exact this) (HBB.out.ext XQ6.out) (by rw [HGL.out]; omega))
     have HAK := zh (users_ask (HST.out.ext XQ6.out) (by omega) (by rw [HGL.out]; exact hbl) (by rw [HGM.out]; omega) HCW.out HB0.out ((XQ.out.trans XQ6.out).cell HMX.out));have HB6 := zh (Nat.le_trans HBQ.out XQ6.out.sz)
     go_upto_region 15 with (first
      | (rw [← hW6]; go_at_call 7; refine HAK.out.mono ?_; rintro e w7 ⟨rfl, s7, m7⟩; have S7 := zh s7; have M7 := zh m7; clear s7 m7 p0 p1 p2 p3 p4 p5 pf)
      | (go_at_call 8; refine (users_settle S7.out (by omega) HB0.out (Nat.le_trans HB6.out M7.out.size) ((M7.out.below HB6.out).cell HB0.out |>.trans ((XQ.out.trans XQ6.out).cell HMX.out))).mono ?_; rintro e w8 ⟨rfl, s8, m8⟩; have S8 := zh s8; have X8 := zh (((XQ.out.trans XQ6.out).then_mut (M7.out.trans m8) HB.out)); have HB8 := zh (Nat.le_trans HB6.out (Nat.le_trans M7.out.size m8.size)); clear s8 m8))
     obtain ⟨c8, hc8, hi8⟩ := S8.out;have HI8 := zh hi8;have HC8 := zh hc8;clear hi8 hc8;have RE : Hid (∀ W t, Ext w W → TreeV W t (zK1 (if n / 2 < k then mine else b) b (enB (k + 1) b)) [] → Calls Tryz.prog 10 #[.pointer (some ⟨t, 0, none⟩), .string ⟨#[47, 101, 116, 99, 47, 97]⟩] W (fun e w' => ∃ u, e = .returned (.tuple #[u, .int .i64 0]) ∧ BytesIs w' u (if n / 2 < k then mine else b) ∧ Ext W w')) := fun W t x y => zJ1 (s := zA4) y zKi (zGe _ _ _) (x.cell HMX.out)
     have RL : Hid (∀ W t, Ext w W → TreeV W t (zK1 (if n / 2 < k then mine else b) b (enB (k + 1) b)) [] → Calls Tryz.prog 10 #[.pointer (some ⟨t, 0, none⟩), .string ⟨#[47, 108, 105, 98, 47, 97]⟩] W (fun e w' => ∃ u, e = .returned (.tuple #[u, .int .i64 0]) ∧ BytesIs w' u b ∧ Ext W w')) := fun W t x y => zJ1 (s := zA6) y zMx (zH3 _ _ _) (x.cell HMX.out)
     go_upto_region 16 with (first
      | (go_at_call 9; refine (zF7 HI8.out (by have := HC8.out; omega) (zGd _ _ _)).mono ?_; rintro e w9 ⟨t9, rfl, tv9, x9⟩; have T9 := zh tv9; have X9 := zh x9; clear tv9 x9)
      | (go_at_call 10; refine (RE.out _ _ (X8.out.trans X9.out) T9.out).mono ?_; rintro e w10 ⟨z10, rfl, b10, x10⟩; have B10 := zh b10; have X10 := zh (X9.out.trans x10); clear b10 x10))
     go_upto_region 17 with (first
      | (go_at_call 9; refine (zF7 (HI8.out.ext X10.out) (by have := HC8.out; omega) (zGd _ _ _)).mono ?_; rintro e w11 ⟨t11, rfl, tv11, x11⟩; have T11 := zh tv11; have X11 := zh (X10.out.trans x11); have Y11 := zh x11; clear tv11 x11)
      | (go_at_call 10; refine (RL.out _ _ (X8.out.trans X11.out) T11.out).mono ?_; rintro e w12 ⟨z12, rfl, b12, x12⟩; have B12 := zh b12; have X12 := zh (X11.out.trans x12); have Y12 := zh (Y11.out.trans x12); clear b12 x12))
     have Z12 := zh (X8.out.trans X12.out);have S12 := zh (S8.out.ext X12.out);have hcv1 := zMm w12 (.slice ba_ bl bc) b (HBW.out.ext Z12.out);have hcv2 := zMm w12 (.slice ma m mc) mine (HM.out.ext Z12.out);have hcv3 := zMm w12 z10 _ (B10.out.ext Y12.out);have hcv4 := zMm w12 z12 b B12.out;have HB12 := zh (Nat.le_trans HB8.out X12.out.sz)
     by_cases ht : n / 2 < k
     ·have htd : decide (n / 2 < k) = true := by rw [decide_eq_true_eq]; exact ht
      rw [if_pos ht] at hcv3
      go_wp2_with fail
      go_roundw
      case rel => exact ⟨k + 1, hlt, by go_num, by congr 1; rw [decide_eq_true (show n / 2 < k + 1 by omega), htd], zh (S12.out.next (by omega) (by rw [HGL.out]; exact hbl) (by rw [HCB.out, HCM.out]; exact fun h => hcc h.symm)), Z12, HB12⟩
      case measure => simp [intOf]; omega
     ·have htd : decide (n / 2 < k) = false := by rw [decide_eq_false_iff_not]; exact ht
      rw [if_neg ht] at hcv3
      by_cases hkn : k = n / 2
      ·have hkz : ((k : Int) == (n : Int) / 2) = true := by rw [beq_iff_eq]; omega
       have HED2 := zh (users_edit S12.out (by omega) hkn (by rw [HGL.out]; exact hbl) (by rw [HGM.out]; omega) (by rw [HCB.out, HCM.out]; exact fun h => hcc h.symm) (HM.out.ext Z12.out) (Z12.out.cell HMX.out));clear hkn
       go_wp2_with (go_at_call 11; refine HED2.out.mono ?_; rintro e w13 ⟨rfl, s13, m13⟩; have S13 := zh s13; have M13 := zh m13; clear s13 m13)
       go_roundw
       case rel => exact ⟨k + 1, hlt, by go_num, by congr 1; rw [decide_eq_true (show n / 2 < k + 1 by have := beq_iff_eq.1 hkz; omega)], S13, zh (Z12.out.then_mut M13.out HB.out), zh (Nat.le_trans HB12.out M13.out.size)⟩
       case measure => simp [intOf]; omega
      ·have hkz : ((k : Int) == (n : Int) / 2) = false := by rw [beq_eq_false_iff_ne]; omega
       have HNX := zh (S12.out.next hkn (by rw [HGL.out]; exact hbl) (by rw [HCB.out, HCM.out]; exact fun h => hcc h.symm));have HKN := zh hkn;clear hkn
       go_wp2_with fail
       go_roundw
       case rel => exact ⟨k + 1, hlt, by go_num, by congr 1; rw [htd, decide_eq_false (show ¬ n / 2 < k + 1 by have := HKN.out; omega)], HNX, Z12, HB12⟩
       case measure => simp [intOf]; omega
   ·have hc4 : decide ((100 : Int) < bl) = true := by rw [decide_eq_true_eq]; omega
    go_wp2_with fail
    go_ret
    exact ⟨rfl, XQ.out⟩
  ·have hkn : k = n := by omega
   subst hkn
   obtain ⟨W7, hW7⟩ : ∃ W7, W7 = wq.alloc (.cells #[.string ⟨#[97]⟩] 9) := ⟨_, rfl⟩
   have X7 := zh (show Ext wq W7 by rw [hW7]; exact (xr wq).alloc _);have hb7 : W7.heap[wq.heap.size]? = some (.cells #[.string (ba nmA)] 9 (0, 0)) := by rw [hW7]; exact heap_alloc_new wq (.cells #[.string (ba nmA)] 9)
   have HGO := zh (users_gone (HST.out.ext X7.out) h1 (by omega) (by rw [HGM.out]; omega) (zHz hb7) (by rw [zAb hb7]; rfl) HB0.out ((XQ.out.trans X7.out).cell HMX.out));have HB7 := zh (Nat.le_trans HBQ.out X7.out.sz);clear hb7
   go_upto_region 29 with (first
    | (rw [← hW7]; go_at_call 7; refine HGO.out.mono ?_; rintro e w8 ⟨rfl, s8, m8⟩; have S8 := zh s8; have M8 := zh m8; clear s8 m8)
    | (go_at_call 8; refine (zPi S8.out HB0.out (Nat.le_trans HB7.out M8.out.size) ((M8.out.below HB7.out).cell HB0.out |>.trans ((XQ.out.trans X7.out).cell HMX.out))).mono ?_; rintro e w9 ⟨rfl, s9, m9⟩; have S9 := zh s9; have X9 := zh ((XQ.out.trans X7.out).then_mut (M8.out.trans m9) HB.out); clear s9 m9))
   obtain ⟨c9, hc9, hi9⟩ := S9.out;have HI9 := zh hi9;have HC9 := zh hc9;clear hi9 hc9;have RE : Hid (∀ W t, Ext w W → TreeV W t (vEnd mine) [] → Calls Tryz.prog 10 #[.pointer (some ⟨t, 0, none⟩), .string ⟨#[47, 101, 116, 99, 47, 97]⟩] W (fun e w' => ∃ u, e = .returned (.tuple #[u, .int .i64 0]) ∧ BytesIs w' u mine ∧ Ext W w')) := fun W t x y => zJ1 (s := zA4) y zKi (end_etcA _) (x.cell HMX.out)
   have RL : Hid (∀ W t, Ext w W → TreeV W t (vEnd mine) [] → Calls Tryz.prog 10 #[.pointer (some ⟨t, 0, none⟩), .string ⟨#[47, 108, 105, 98, 47, 97]⟩] W (fun e w' => e = .returned (.tuple #[.slice none 0 0, .int .i64 8]) ∧ Ext W w')) := fun W t x y => zMf (s := zA6) y zMx (end_libA _) (x.cell HMX.out)
   have hv9 : (vEnd mine).length ≤ 40 := by have : (vEnd mine).length = 9 := rfl; omega
   have HV9 := zh hv9;clear hv9
   go_upto_region 30 with (first
    | (go_at_call 9; refine (zF7 HI9.out (by have := HC9.out; omega) HV9.out).mono ?_; rintro e w10 ⟨t10, rfl, tv10, x10⟩; have T10 := zh tv10; have X10 := zh x10; clear tv10 x10)
    | (go_at_call 10; refine (RE.out _ _ (X9.out.trans X10.out) T10.out).mono ?_; rintro e w11 ⟨z11, rfl, b11, x11⟩; have B11 := zh b11; have X11 := zh (X10.out.trans x11); clear b11 x11))
   go_upto_region 31 with (first
    | (go_at_call 9; refine (zF7 (HI9.out.ext X11.out) (by have := HC9.out; omega) HV9.out).mono ?_; rintro e w12 ⟨t12, rfl, tv12, x12⟩; have T12 := zh tv12; have X12 := zh (X11.out.trans x12); have Y12 := zh x12; clear tv12 x12)
    | (go_at_call 10; refine (RL.out _ _ (X9.out.trans X12.out) T12.out).mono ?_; rintro e w13 ⟨rfl, x13⟩; have X13 := zh (X12.out.trans x13); have Y13 := zh (Y12.out.trans x13); clear x13))
   have Z13 := zh (X9.out.trans X13.out);have hcv1 := zMm w13 (.slice ma m mc) mine (HM.out.ext Z13.out);have hcv2 := zMm w13 z11 mine (B11.out.ext Y13.out)
   go_wp2_with fail
   go_ret
   exact ⟨rfl, Z13.out⟩
theorem zPh (rows : List (List UInt8)) (rv : Value) (mine : List UInt8) (mv : Value) (w : World) (mx : Int) (hr : ListAt 1 (zE5 w) rv rows) (hm : Bytes w mv mine) (hrl : rows.length ≤ 140737488355328) (hml : mine.length ≤ 140737488355328) (hmx : w.cell? ⟨0, 0, none⟩ = some (.int .i64 mx)) (b1 b2 b3 : Bool)
  (h1 : decide ((8 : Int) < (rows.length : Nat)) = b1) (h2 : decide ((100 : Int) < (mine.length : Nat)) = b2) (h3 : (((rows.length : Nat) : Int) == 0) = b3) (hb : b1 = true ∨ b2 = true ∨ b3 = true) :
  Calls Tryz.prog 3 #[rv, mv] w fun e w' => e = .returned (.bool true) ∧ Ext w w' := by
 have h0 := size_pos hmx;have HSD := zh (Sound_any w h0 hmx);obtain ⟨ra, rc, rfl, -, -⟩ := hr;obtain ⟨ma, mc, rfl, -, -, -, -⟩ := hm;generalize rows.length = n at *;generalize mine.length = m at *;clear hmx;cases b1
 ·cases b2
  ·cases b3
   ·simp at hb
   ·clear hb;go_enter Tryz.func3, Tryz.ntmps3
    go_wp2_with (go_at_call 4; refine HSD.out.mono ?_; rintro e w1 ⟨rfl, x1⟩; have X1 := zh x1; clear x1)
    go_ret
    exact ⟨rfl, X1.out⟩
  ·clear hb h3;go_enter Tryz.func3, Tryz.ntmps3
   go_wp2_with (go_at_call 4; refine HSD.out.mono ?_; rintro e w1 ⟨rfl, x1⟩; have X1 := zh x1; clear x1)
   go_ret
   exact ⟨rfl, X1.out⟩
 ·clear hb h2 h3;go_enter Tryz.func3, Tryz.ntmps3
  go_wp2_with (go_at_call 4; refine HSD.out.mono ?_; rintro e w1 ⟨rfl, x1⟩; have X1 := zh x1; clear x1)
  go_ret
  exact ⟨rfl, X1.out⟩
theorem walk_all : WalkIs := by
 intro rows rv mine mv w mx hr hm hml hmx;have hrl : rows.length ≤ 140737488355328 := by obtain ⟨_, _, _, h, _⟩ := hr; exact h
 by_cases h1 : rows.length ≤ 8
 ·by_cases h2 : mine.length ≤ 100
  ·by_cases h3 : rows.length = 0
   ·exact zPh rows rv mine mv w mx hr hm hrl hml hmx _ _ true rfl rfl (by rw [beq_iff_eq]; omega) (.inr (.inr rfl))
   ·exact walk_main rows rv mine mv w mx hr hm h1 (by omega) h2 hmx
  ·exact zPh rows rv mine mv w mx hr hm hrl hml hmx _ true _ rfl (by rw [decide_eq_true_eq]; omega) rfl (.inr (.inl rfl))
 ·exact zPh rows rv mine mv w mx hr hm hrl hml hmx true _ _ (by rw [decide_eq_true_eq]; omega) rfl rfl (.inl rfl)
theorem proved : Rows.WholeUsersCardSaid := card_of walk_all
#print axioms proved
end
end Go.Proofs.YtgnjjfdfoibdiaaGreatDoor
