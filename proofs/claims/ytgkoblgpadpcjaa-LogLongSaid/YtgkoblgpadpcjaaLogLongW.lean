/- LogLong: the walk. -/
import Derived.Test.YtgkoblgpadpcjaaLogCa
namespace Go.Proofs.Ytgkoblgpadpcjaa.logLong
open Go.RowKit

def some4 : List UInt8 := [115, 111, 109, 101]
def R1 (base B g kb l m : Nat) (w0 : World) (i : Value) (wr : World) : Prop :=
  ∃ (k : Nat) (D : Dk) (L : Lg) (lv : Value), i = .int .i64 k ∧ k ≤ m ∧ Hid (Below B w0 wr) ∧ Hid (LogAt base wr g kb l lv D L) ∧ Hid (Lv D L (List.replicate k some4)) ∧ D.fate < 1 ∧ Hid (D.kept.length = 300) ∧ D.steps ≤ 10 + 70 * k ∧ L.epoch ≤ 1 ∧ L.top ≤ 1 ∧ Hid (base_lt base lv)
theorem room_some (k : Nat) : roomL (List.replicate k some4) = k := by
  induction k with
  | zero => rfl
  | succ k ih => rw [List.replicate_succ, roomL, ih]; show 1 + k = k + 1; omega
set_option maxRecDepth 100000 in
set_option maxHeartbeats 4000000 in
theorem walk_main (a0 a1 : Int) (w : World) :
    Calls Try.prog 13 #[.int .i64 a0, .int .i64 a1] w fun e w' => e = .returned (.bool true) ∧ Below w.heap.size w w' := by
  obtain ⟨q, hq, eq⟩ := and_i64_mask a0 8191 (by decide)
  obtain ⟨m, hm7, em⟩ := and_i64_mask a1 7 (by decide)
  have eq' : bits BinOp.and IntKind.i64 a0 8191 = (q : Int) := eq
  have em' : bits BinOp.and IntKind.i64 a1 7 = (m : Int) := em
  clear eq em
  have kc := fun (w : World) (C : Array Value) (n c g : Nat) (hg : g = w.heap.size) => Joins.run_convert_bytes_const_at (P := Try.prog) w 22 5 C n c g hg Try.underlying22 Try.underlying5
  go_enter Try.func13, Try.ntmps13
  go_wp2_with fail
  refine (logAlive_any _).mono ?_
  rintro e w1 ⟨rfl, x1⟩
  have X1 := Lib.hid x1
  clear x1
  go_wp2_with fail
  refine (New_any 300 _).mono ?_
  rintro e w2 ⟨g, kb, rfl, hg, hkb, x2, d2⟩
  have X2 := Lib.hid (X1.out.trans x2)
  have D2 := Lib.hid d2
  have HG := Lib.hid hg
  have HK := Lib.hid hkb
  have HBS := Lib.hid x2.size
  obtain ⟨E, hE, st, tl, hfa, hkl, hsteps, -⟩ := open_new 300 (by decide) (by decide)
  have HO := Lib.hid hE
  have S0 := Lib.hid st
  have T0 := Lib.hid tl
  have HKL := Lib.hid hkl
  clear x2 d2 hg hkb hE st tl hkl
  go_wp2_with fail
  refine (Open_any w1.heap.size g kb (Dk.new 300) _ D2.out (by decide) (by decide) HBS.out).mono ?_
  intro e w3 hp
  obtain ⟨o3, l, lv, rfl, hl, a3, hlv⟩ := open_some HO.out hp
  have BB3 := Lib.hid (Below.trans (show Below w.heap.size w w2 from X2.out) ((o3.below HG.out HK.out HBS.out).mono X1.out.size))
  have HLB := Lib.hid a3.hl
  have LV3 := Lib.hid (show base_lt w1.heap.size lv from fun q hq => Nat.le_trans HBS.out (hlv q hq))
  have LA3 := Lib.hid a3
  clear hp o3 a3 hl hlv D2
  go_wp2_with fail
  go_loopw [25] (fun i wr => R1 w1.heap.size w.heap.size g kb l m w i wr) (fun i _ => m - (intOf i).toNat)
  case atStart => exact ⟨0, E, _, lv, rfl, Nat.zero_le _, BB3, LA3, Lib.hid ⟨S0.out, rfl, rfl, rfl, T0.out⟩, hfa, HKL, by omega, Nat.le_refl _, Nat.le_refl _, LV3⟩
  case round =>
    obtain ⟨k, D, L, lvk, rfl, hk, hbb, hla, hlvv, hfa2, hkl2, hst2, hep, htop, hlb⟩ := hrel
    by_cases hlt : k < m
    · have HFIT := Lib.hid (show roomL (List.replicate k some4) + sectorsOf some4.length ≤ halfOf D by rw [room_some]; unfold halfOf; rw [hkl2.out]; show k + 1 ≤ 149; omega)
      rcases append_lv hlvv.out (b := some4) (by decide) HFIT.out with ⟨g1, g2, g3, g4, g5, g6, g7, g8⟩ | ⟨_, _, _, g4, _⟩
      · have hbs := hbb.out.size
        have ST := Lib.hid (lit_stands (base := w1.heap.size) (g := g) (kb := kb) (l := l) (X := some4) (n := 4) (c := 4) (heap_alloc_new wr (.cells (byteVals some4).toArray 5 (4, 5))) rfl (by decide) (by decide) (by have := hla.out.disk.lt; omega) (by have := hla.out.disk.lt; omega) (by have := (Array.getElem?_eq_some_iff.1 hla.out.blk).1; omega))
        have LA := Lib.hid (hla.out.ext ((Ext.refl wr).alloc (.cells (byteVals some4).toArray 5 (4, 5))))
        have BBa := Lib.hid (Below.alloc hbb.out hbs (.cells (byteVals some4).toArray 5 (4, 5)))
        have HG1 := Lib.hid g1
        have HG2 := Lib.hid g2
        have HG3 := Lib.hid (g3 hfa2)
        have HG5 := Lib.hid (g5.trans hkl2.out)
        have HLL := Lib.hid (show L.list.length ≤ 1000000 by rw [hlvv.out.list, List.length_replicate]; omega)
        have HCC := Lib.hid (show D.cache.length ≤ 800000000 by rw [hlvv.out.st.calm.cache]; decide)
        have HB1 := Lib.hid (show w1.heap.size ≤ (wr.alloc (.cells (byteVals some4).toArray 5 (4, 5))).heap.size by have := (Array.getElem?_eq_some_iff.1 hla.out.blk).1; have := hla.out.hl; rw [size_alloc]; omega)
        have HG4 := Lib.hid g4
        have HG6 := Lib.hid (And.intro g6 g7)
        clear g1 g2 g3 g4 g5 g6 g7 g8
        go_wp2_with fail
        refine (Append_any w1.heap.size g kb l lvk D L _ some4 _ LA.out ST.out (by decide) HLL.out (by omega) (by omega) HCC.out HB1.out).mono ?_
        unfold appPost
        rw [HG1.out]
        rintro e w4 ⟨rfl, lv4, o4, a4, n4⟩
        have BB4 := Lib.hid (Below.trans BBa.out ((o4.below HG.out HK.out HLB.out hlb.out HB1.out).mono X1.out.size))
        have LA4 := Lib.hid a4
        have LB4 := Lib.hid (show base_lt w1.heap.size lv4 from fun q hq => n4.elim (fun e => hlb.out q (e ▸ hq)) (fun h => Nat.le_trans HB1.out (h q hq)))
        clear o4 a4 n4
        go_wp2_with fail
        go_roundw
        case rel => exact ⟨k + 1, _, _, lv4, by go_num, by omega, BB4, LA4, Lib.hid (by rw [List.replicate_succ']; exact HG2.out), HG3.out, HG5, by have := HG4.out; omega, by rw [HG6.out.1]; exact hep, by rw [HG6.out.2]; exact htop, LB4⟩
        case measure => simp [intOf]; omega
      · omega
    · have hkm : k = m := by omega
      have HLI := Lib.hid hlvv.out.list
      have HAT := Lib.hid (show L.at_ = m by rw [hlvv.out.at_, room_some, hkm])
      have HHF := Lib.hid (show halfOf D = 149 by unfold halfOf; rw [hkl2.out])
      have HDD := Lib.hid hlvv.out.dead
      have HLL := Lib.hid (show L.list.length ≤ 1000000 by rw [hlvv.out.list, List.length_replicate]; omega)
      have HLB16 := Lib.hid (show ∀ b ∈ L.list, b.length ≤ 16777216 from fun b hb => by rw [hlvv.out.list] at hb; rw [(List.mem_replicate.1 hb).2]; decide)
      have HCC := Lib.hid (show D.cache.length ≤ 800000000 by rw [hlvv.out.st.calm.cache]; decide)
      have hst3 : D.steps ≤ 800000000 := by omega
      have HBW := Lib.hid (show w1.heap.size ≤ wr.heap.size by have := (Array.getElem?_eq_some_iff.1 hla.out.blk).1; have := hla.out.hl; omega)
      have hkm2 := Lib.hid hkm
      clear hkm
      go_wp2_with fail
      refine (LogList_any w1.heap.size g kb l lvk D L _ hla.out HLL.out HLB16.out).mono ?_
      unfold listPost
      rintro e w5 ⟨v5, rfl, x5, r5⟩
      have R5 := Lib.hid r5
      have LA5 := Lib.hid (hla.out.ext x5)
      have BB5 := Lib.hid (Below.trans hbb.out (x5.mono hbb.out.size))
      have HB5 := Lib.hid (Nat.le_trans HBW.out x5.size)
      have HGL := Lib.hid (show g < wr.heap.size ∧ kb < wr.heap.size ∧ l < wr.heap.size ∧ ∀ q, lvk.ownBlock = some q → q < wr.heap.size from ⟨hla.out.disk.lt.1, hla.out.disk.lt.2, (Array.getElem?_eq_some_iff.1 hla.out.blk).1, fun q hq => by obtain ⟨vs, h1, -⟩ := hla.out.rows; exact (h1.lt q hq).2⟩)
      have HLM := Lib.hid (show L.list.length = m by rw [hlvv.out.list, List.length_replicate, hkm2.out])
      obtain ⟨a5, c5, h5⟩ := r5.shape
      rw [HLM.out] at h5
      subst h5
      clear r5 x5
      go_wp2_with fail
      refine (Left_any w1.heap.size g kb l lvk D L _ LA5.out).mono ?_
      rw [HHF.out, HAT.out]
      obtain ⟨lf, hlf⟩ : ∃ lf, lf = 149 - m := ⟨_, rfl⟩
      rw [← hlf]
      rintro e w6 ⟨rfl, x6⟩
      have R6 := Lib.hid (R5.out.ext x6)
      have LA6 := Lib.hid (LA5.out.ext x6)
      have BB6 := Lib.hid (Below.trans BB5.out (x6.mono BB5.out.size))
      have HB6 := Lib.hid (Nat.le_trans HB5.out x6.size)
      clear x6 R5 LA5 BB5 HB5
      have LA6a := Lib.hid (LA6.out.ext ((Ext.refl w6).alloc (.cells (byteVals (List.replicate q 0)).toArray 5)))
      have BB6a := Lib.hid (Below.alloc BB6.out BB6.out.size (.cells (byteVals (List.replicate q 0)).toArray 5))
      have R6a := Lib.hid (R6.out.ext ((Ext.refl w6).alloc (.cells (byteVals (List.replicate q 0)).toArray 5)))
      have ST6 := Lib.hid (lit_stands (base := w1.heap.size) (g := g) (kb := kb) (l := l) (X := List.replicate q 0) (n := q) (c := q) (heap_alloc_new w6 (.cells (byteVals (List.replicate q 0)).toArray 5)) (by simp) (Nat.le_refl _) (by omega) (by have := LA6.out.disk.lt; omega) (by have := LA6.out.disk.lt; omega) (by have := (Array.getElem?_eq_some_iff.1 LA6.out.blk).1; omega))
      have HB6a := Lib.hid (Nat.le_trans HB6.out ((Ext.refl w6).alloc (.cells (byteVals (List.replicate q 0)).toArray 5)).size)
      have HQL := Lib.hid (show (List.replicate q (0 : UInt8)).length = q by simp)
      have HLF := Lib.hid hlf
      have hlf2 : lf ≤ 149 ∧ 142 ≤ lf := by omega
      obtain ⟨hlf3, hlf4⟩ := hlf2
      clear hlf
      by_cases hq4 : 4096 < q
      · have HAL := Lib.hid (append_long (D := D) (L := L) (b := List.replicate q 0) HDD.out (by rw [HQL.out]; exact hq4))
        go_upto_region 13 with fail
        go_wp2_with (refine wpList_make_bytes rfl (.tmp 37) (.tmp 37) rfl q (by omega) rfl rfl ?_)
        refine (Append_any w1.heap.size g kb l lvk D L _ (List.replicate q 0) _ LA6a.out ST6.out (by rw [HQL.out]; omega) HLL.out (by omega) hst3 HCC.out HB6a.out).mono ?_
        unfold appPost
        rw [HAL.out]
        rintro e w7 ⟨rfl, lv7, o7, a7, n7⟩
        have BB7 := Lib.hid (Below.trans BB6a.out ((o7.below HG.out HK.out HLB.out hlb.out HB6a.out).mono X1.out.size))
        have LA7 := Lib.hid a7
        have R7 := Lib.hid (R6a.out.lonly o7 HGL.out.1 HGL.out.2.1 HGL.out.2.2.1 HGL.out.2.2.2)
        have LB7 := Lib.hid (show base_lt w1.heap.size lv7 from fun q hq => n7.elim (fun e => hlb.out q (e ▸ hq)) (fun h => Nat.le_trans HB6a.out (h q hq)))
        have HB7 := Lib.hid (Nat.le_trans HB6a.out o7.size)
        clear o7 a7 n7
        have HEQ := Lib.hid (show (L.list == L.list) = true by simp)
        go_wp2_with fail
        refine (LogList_any w1.heap.size g kb l lv7 D L _ LA7.out HLL.out HLB16.out).mono ?_
        unfold listPost
        rintro e w8 ⟨v8, rfl, x8, r8⟩
        have R8 := Lib.hid r8
        have LA8 := Lib.hid (LA7.out.ext x8)
        have R78 := Lib.hid (R7.out.ext x8)
        have BB8 := Lib.hid (Below.trans BB7.out (x8.mono BB7.out.size))
        have HB8 := Lib.hid (Nat.le_trans HB7.out x8.size)
        obtain ⟨a8, c8, h8⟩ := r8.shape
        rw [HLM.out] at h8
        subst h8
        clear r8 x8 LA7 BB7 R7 HB7
        go_wp2_with fail
        refine (logSame_any _ _ L.list L.list _ (R8.out.rows (by have := HLL.out; omega)) (R78.out.rows (by have := HLL.out; omega))).mono ?_
        rw [HEQ.out]
        rintro e w9 ⟨rfl, x9⟩
        have LA9 := Lib.hid (LA8.out.ext x9)
        have R9 := Lib.hid (R78.out.ext x9)
        have BB9 := Lib.hid (Below.trans BB8.out (x9.mono BB8.out.size))
        have HB9 := Lib.hid (Nat.le_trans HB8.out x9.size)
        clear x9 LA8 BB8 R78 HB8 R8
        go_wp2_with fail
        refine (Left_any w1.heap.size g kb l lv7 D L _ LA9.out).mono ?_
        rw [HHF.out, HAT.out, ← HLF.out]
        rintro e w10 ⟨rfl, x10⟩
        have LA10 := Lib.hid ((LA9.out.ext x10).ext (((Ext.refl w10).alloc (.cells (byteVals (List.replicate q 0)).toArray 5)).alloc (.cells #[.slice none 0 0, .slice (some ⟨w10.heap.size, 0, none⟩) q q] 22)))
        have R10 := Lib.hid ((R9.out.ext x10).ext (((Ext.refl w10).alloc (.cells (byteVals (List.replicate q 0)).toArray 5)).alloc (.cells #[.slice none 0 0, .slice (some ⟨w10.heap.size, 0, none⟩) q q] 22)))
        have BB10a := Lib.hid (Below.trans BB9.out (x10.mono BB9.out.size))
        have BB10 := Lib.hid (Below.alloc (Below.alloc BB10a.out BB10a.out.size (.cells (byteVals (List.replicate q 0)).toArray 5)) (Below.alloc BB10a.out BB10a.out.size (.cells (byteVals (List.replicate q 0)).toArray 5)).size (.cells #[.slice none 0 0, .slice (some ⟨w10.heap.size, 0, none⟩) q q] 22))
        have HB10 := Lib.hid (Nat.le_trans HB9.out (x10.trans (((Ext.refl w10).alloc (.cells (byteVals (List.replicate q 0)).toArray 5)).alloc (.cells #[.slice none 0 0, .slice (some ⟨w10.heap.size, 0, none⟩) q q] 22))).size)
        have HST := Lib.hid (show Stands w1.heap.size g kb l ((w10.alloc (.cells (byteVals (List.replicate q 0)).toArray 5)).alloc (.cells #[.slice none 0 0, .slice (some ⟨w10.heap.size, 0, none⟩) q q] 22)) (.slice (some ⟨w10.heap.size + 1, 0, none⟩) 2 2) [[], List.replicate q 0] from by
          have h1 := LA9.out.disk.lt
          have h2 := (Array.getElem?_eq_some_iff.1 LA9.out.blk).1
          have h3 := x10.size
          refine stands_two (by have h9 := heap_alloc_new (w10.alloc (.cells (byteVals (List.replicate q 0)).toArray 5)) (.cells #[.slice none 0 0, .slice (some ⟨w10.heap.size, 0, none⟩) q q] 22); rw [size_alloc] at h9; exact h9) (by omega) (by omega) (by omega) (fun W _ => (OwnBytes.nil W 0).bytes) ?_
          exact lit_stands (hxo _ _ (heap_alloc_new w10 (.cells (byteVals (List.replicate q 0)).toArray 5))) (by simp) (Nat.le_refl _) (by omega) (by omega) (by omega) (by omega))
        have HRW := Lib.hid (show rewriteP D L [[], List.replicate q 0] = (D, L, 6) by unfold rewriteP; rw [if_neg (by rw [HDD.out]; decide)]; unfold roomOf; rw [if_neg (by decide)]; unfold roomOf; rw [if_pos (by rw [HQL.out]; exact hq4)])
        clear x10 LA9 BB9 R9 HB9 BB10a
        go_wp2_with (refine wpList_make_bytes rfl (.tmp 59) (.tmp 59) rfl q (by omega) rfl rfl ?_)
        refine (Rewrite_any w1.heap.size g kb l lv7 D L _ [[], List.replicate q 0] _ LA10.out HST.out (by simp) (by intro b hb; simp at hb; rcases hb with rfl | rfl <;> simp; omega) (by omega) hst3 HCC.out HB10.out).mono ?_
        unfold rewPost
        rw [HRW.out]
        rintro e w11 ⟨rfl, lv11, o11, a11, n11⟩
        have LA11 := Lib.hid a11
        have R11 := Lib.hid (R10.out.lonly o11 HGL.out.1 HGL.out.2.1 HGL.out.2.2.1 (by simp))
        have BB11 := Lib.hid (Below.trans BB10.out ((o11.below HG.out HK.out HLB.out (by simp) HB10.out).mono X1.out.size))
        clear o11 a11 n11 LA10 R10 BB10 HB10
        go_wp2_with fail
        refine (LogList_any w1.heap.size g kb l lv11 D L _ LA11.out HLL.out HLB16.out).mono ?_
        unfold listPost
        rintro e w12 ⟨v12, rfl, x12, r12⟩
        have R12 := Lib.hid r12
        have R11x := Lib.hid (R11.out.ext x12)
        have BB12 := Lib.hid (Below.trans BB11.out (x12.mono BB11.out.size))
        obtain ⟨a12, c12, h12⟩ := r12.shape
        rw [HLM.out] at h12
        subst h12
        clear r12 x12 LA11 BB11 R11
        go_wp2_with fail
        refine (logSame_any _ _ L.list L.list _ (R12.out.rows (by have := HLL.out; omega)) (R11x.out.rows (by have := HLL.out; omega))).mono ?_
        rw [HEQ.out]
        rintro e w13 ⟨rfl, x13⟩
        have BB13 := Lib.hid (Below.trans BB12.out (x13.mono BB12.out.size))
        clear x13 BB12
        go_wp2_with fail
        go_ret
        exact ⟨rfl, BB13.out⟩
      · obtain ⟨ks, hks⟩ : ∃ ks, ks = sectorsOf q := ⟨_, rfl⟩
        have hks1 : 1 ≤ ks ∧ ks ≤ 66 := by unfold sectorsOf at hks; omega
        obtain ⟨hks2, hks3⟩ := hks1
        have HKS := Lib.hid hks
        rcases append_lv hlvv.out (b := List.replicate q 0) (by rw [HQL.out]; omega) (by rw [HQL.out, ← hks, hkm2.out, room_some, HHF.out]; omega) with ⟨g1, g2, g3, g4, g5, g6, g7, g8⟩ | ⟨_, _, _, g4, _⟩
        · have HG1 := Lib.hid g1
          obtain ⟨n1, hn1⟩ : ∃ n1, n1 = m + 1 := ⟨_, rfl⟩
          obtain ⟨lg, hlg⟩ : ∃ lg, lg = lf - ks := ⟨_, rfl⟩
          have HGL2 := Lib.hid (show (appendP D L (List.replicate q 0)).2.1.list.length = n1 by rw [g2.list, hkm2.out, List.length_append, List.length_replicate, hn1]; rfl)
          have HGA := Lib.hid (show halfOf (appendP D L (List.replicate q 0)).1 - (appendP D L (List.replicate q 0)).2.1.at_ = lg by
            rw [g2.at_, hkm2.out, roomL_append, room_some]
            have e : halfOf (appendP D L (List.replicate q 0)).1 = 149 := by unfold halfOf; rw [g5, hkl2.out]
            rw [e, hlg, HLF.out]
            show 149 - (m + (sectorsOf (List.replicate q (0 : UInt8)).length + 0)) = _
            rw [HQL.out, ← HKS.out]
            omega)
          have HGB := Lib.hid (show ∀ b ∈ (appendP D L (List.replicate q 0)).2.1.list, b.length ≤ 16777216 from fun b hb => by
            rw [g2.list] at hb
            rcases List.mem_append.1 hb with h9 | h9
            · rw [(List.mem_replicate.1 h9).2]; decide
            · rw [List.mem_singleton.1 h9, HQL.out]; omega)
          clear g1 g2 g3 g4 g5 g6 g7 g8 hks
          have hlt5 : decide (lf < ks) = false := by rw [decide_eq_false_iff_not]; omega
          have hs1 : IntKind.i64.wrap ((m : Int) + 1) = (n1 : Int) := by rw [IntWalk.i64_in _ (by omega)]; omega
          have hs2 : IntKind.i64.wrap ((lf : Int) - (ks : Int)) = (lg : Int) := by rw [IntWalk.i64_in _ (by omega)]; omega
          have HS1 := Lib.hid (And.intro hs1 hs2)
          have hn1b : n1 ≤ 1000 := by omega
          clear hs1 hs2 hn1 hlg
          go_upto_region 13 with fail
          go_wp2_with (refine wpList_make_bytes rfl (.tmp 37) (.tmp 37) rfl q (by omega) rfl rfl ?_)
          refine (Append_any w1.heap.size g kb l lvk D L _ (List.replicate q 0) _ LA6a.out ST6.out (by rw [HQL.out]; omega) HLL.out (by omega) hst3 HCC.out HB6a.out).mono ?_
          unfold appPost
          rw [HG1.out]
          rintro e w7 ⟨rfl, lv7, o7, a7, n7⟩
          have BB7 := Lib.hid (Below.trans BB6a.out ((o7.below HG.out HK.out HLB.out hlb.out HB6a.out).mono X1.out.size))
          have LA7 := Lib.hid a7
          clear o7 a7 n7
          obtain ⟨D7, hD7⟩ : ∃ D7, D7 = (appendP D L (List.replicate q 0)).1 := ⟨_, rfl⟩
          obtain ⟨L7, hL7⟩ : ∃ L7, L7 = (appendP D L (List.replicate q 0)).2.1 := ⟨_, rfl⟩
          rw [← hD7, ← hL7] at LA7 HGA
          rw [← hL7] at HGL2 HGB
          clear hD7 hL7
          go_wp2_with fail
          refine (Room_any (q : Int) (by omega) _).mono ?_
          rw [Int.toNat_natCast, ← HKS.out]
          rintro e w8 ⟨rfl, rfl⟩
          go_wp2_with fail
          refine (LogList_any w1.heap.size g kb l lv7 D7 L7 _ LA7.out (by rw [HGL2.out]; omega) HGB.out).mono ?_
          unfold listPost
          rintro e w9 ⟨v9, rfl, x9, r9⟩
          have LA9 := Lib.hid (LA7.out.ext x9)
          have BB9 := Lib.hid (Below.trans BB7.out (x9.mono BB7.out.size))
          obtain ⟨a9, c9, h9⟩ := r9.shape
          rw [HGL2.out] at h9
          subst h9
          clear r9 x9 LA7 BB7
          have hs1 := HS1.out.1
          go_wp2_with fail
          refine (Left_any w1.heap.size g kb l lv7 D7 L7 _ LA9.out).mono ?_
          rw [HGA.out]
          rintro e w10 ⟨rfl, x10⟩
          have BB10 := Lib.hid (Below.trans BB9.out (x10.mono BB9.out.size))
          clear x10 BB9 LA9
          go_wp2_with fail
          refine (Room_any (q : Int) (by omega) _).mono ?_
          rw [Int.toNat_natCast, ← HKS.out]
          rintro e w11 ⟨rfl, rfl⟩
          have hs2 := HS1.out.2
          go_wp2_with fail
          go_ret
          exact ⟨rfl, BB10.out⟩
        · omega
end Go.Proofs.Ytgkoblgpadpcjaa.logLong
