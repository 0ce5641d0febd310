/- LogTorn: the walk. -/
import Derived.Test.YtgkoblgpadpcjaaLogTornL
namespace Go.Proofs.Ytgkoblgpadpcjaa.logTorn
open Go.RowKit

def R1 (base g kb l : Nat) (w : World) (rows : List (List UInt8)) (told list i : Value) (wr : World) : Prop :=
  ∃ (k t : Nat) (lst : List (List UInt8)) (D : Dk) (L : Lg) (lv : Value), i = .int .i64 k ∧ k ≤ rows.length ∧ told = .int .i64 t ∧ Hid (Below w.heap.size w wr) ∧ Hid (LogAt base wr g kb l lv D L) ∧ Hid (TS D L lst t) ∧ D.steps ≤ 10 + 70 * k ∧ lst.length ≤ k ∧ t ≤ lst.length ∧ Hid (base_lt base lv) ∧ Hid (RowF w wr list lst) ∧ Hid (list.ownBlock = none ∨ list.ownBlock ≠ lv.ownBlock)
set_option maxRecDepth 100000 in
theorem walk_long (rows : List (List UInt8)) (rv : Value) (step : Int) (keeps : Nat) (w : World) (hr : ListAt 1 (CellBytes w) rv rows) (hl : 30 < rows.length) :
    Calls Try.prog 15 #[rv, .int .i64 step, .int .u64 keeps] w fun e w' => e = .returned (.bool true) ∧ Below w.heap.size w w' := by
  obtain ⟨ra, rc, rfl, -, -⟩ := hr
  have hq : ((30 : Int) < (rows.length : Int)) := by omega
  go_enter Try.func15, Try.ntmps15
  go_wp2_with fail
  refine (logAlive_any _).mono ?_
  rintro e w1 ⟨rfl, x1⟩
  have X1 := Lib.hid x1
  clear x1
  go_wp2_with fail
  go_ret
  exact ⟨rfl, X1.out⟩
set_option maxRecDepth 100000 in
set_option maxHeartbeats 4000000 in
theorem walk_main (rows : List (List UInt8)) (rv : Value) (step : Int) (keeps : Nat) (w : World) (hr : ListAt 1 (CellBytes w) rv rows) (hl : rows.length ≤ 30) (hk : keeps < 18446744073709551616) :
    Calls Try.prog 15 #[rv, .int .i64 step, .int .u64 keeps] w fun e w' => e = .returned (.bool true) ∧ Below w.heap.size w w' := by
  have HR := Lib.hid hr
  have HKP := Lib.hid hk
  obtain ⟨ra, rc, rfl, -, -⟩ := hr
  obtain ⟨q, hq, eq⟩ := and_i64_mask step 127 (by decide)
  have eq' : bits BinOp.and IntKind.i64 step 127 = (q : Int) := eq
  clear eq hk
  go_enter Try.func15, Try.ntmps15
  go_wp2_with fail
  refine (logAlive_any _).mono ?_
  rintro e w1 ⟨rfl, x1⟩
  have X1 := Lib.hid x1
  clear x1
  go_wp2_with fail
  refine (New_any 1500 _).mono ?_
  rintro e w2 ⟨g, kb, rfl, hg, hkb, x2, d2⟩
  have X2 := Lib.hid (X1.out.trans x2)
  have D2 := Lib.hid d2
  have HG := Lib.hid hg
  have HK := Lib.hid hkb
  have HBS := Lib.hid x2.size
  obtain ⟨E, hE, st, tl, hfa, hkl, hsteps, -⟩ := open_new 1500 (by decide) (by decide)
  have HO := Lib.hid hE
  have S0 := Lib.hid st
  have T0 := Lib.hid tl
  have HKL := Lib.hid hkl
  clear x2 d2 hg hkb hE st tl hkl
  go_wp2_with fail
  refine (Open_any w1.heap.size g kb (Dk.new 1500) _ D2.out (by decide) (by decide) HBS.out).mono ?_
  intro e w3 hp
  obtain ⟨o3, l, lv, rfl, hl3, a3, hlv⟩ := open_some HO.out hp
  have BB3 := Lib.hid (Below.trans (show Below w.heap.size w w2 from X2.out) ((o3.below HG.out HK.out HBS.out).mono X1.out.size))
  have HLB := Lib.hid a3.hl
  have LV3 := Lib.hid (show base_lt w1.heap.size lv from fun q hq => Nat.le_trans HBS.out (hlv q hq))
  have LA3 := Lib.hid a3
  clear hp o3 a3 hl3 hlv D2
  go_wp2_with fail
  refine (Plan_any w1.heap.size g kb E (1 + (q : Int)) keeps _ LA3.out.disk HKP.out (by omega)).mono ?_
  rintro e w4 ⟨⟨v4, rfl⟩, o4, d4⟩
  have HW1 := Lib.hid (show w1.heap.size ≤ w3.heap.size from Nat.le_trans LA3.out.hl (Nat.le_of_lt (Array.getElem?_eq_some_iff.1 LA3.out.blk).1))
  have BB4 := Lib.hid (Below.trans BB3.out ((o4.below HG.out HK.out HW1.out).mono X1.out.size))
  have LA4 := Lib.hid (LA3.out.only o4 d4 rfl)
  clear o4 d4
  have LA5 := Lib.hid (LA4.out.ext ((Ext.refl w4).alloc (.cells #[] 22)))
  have BB5 := Lib.hid (Below.alloc BB4.out BB4.out.size (.cells #[] 22))
  have RF5 := Lib.hid (show RowF w (w4.alloc (.cells #[] 22)) (.slice (some ⟨w4.heap.size, 0, none⟩) 0 0) [] from ⟨[], World.ownsRow_made w4 #[] 0 BB4.out.size (by decide) rfl, fun i hi => absurd hi (by simp)⟩)
  have AP5 := Lib.hid (show (Value.slice (some ⟨w4.heap.size, 0, none⟩) 0 0).ownBlock = none ∨ (Value.slice (some ⟨w4.heap.size, 0, none⟩) 0 0).ownBlock ≠ lv.ownBlock from .inr fun e => by
    obtain ⟨vs, h1, -⟩ := LA4.out.rows
    have := (h1.lt w4.heap.size e.symm).2
    omega)
  go_wp2_with fail
  go_loopw [10, 11, 43] (fun told list i wr => R1 w1.heap.size g kb l w rows told list i wr) (fun _ _ i _ => rows.length - (intOf i).toNat)
  case atStart => exact ⟨0, 0, [], _, _, lv, rfl, Nat.zero_le _, rfl, BB5, LA5, Lib.hid ⟨.inl ⟨Lv.planned ⟨S0.out, rfl, rfl, rfl, T0.out⟩ _ _, rfl⟩, rfl, rfl, Nat.le_refl _, HKL.out, (fun b hb => by cases hb), S0.out.calm.cache⟩, hsteps, Nat.le_refl _, Nat.le_refl _, LV3, RF5, AP5⟩
  case round =>
    obtain ⟨k, t, lst, D, L, lvk, rfl, hk, rfl, hbb, hla, hts, hst, hll, htl, hlb, hrf, hap⟩ := hrel
    by_cases hlt : k < rows.length
    · obtain ⟨bb, o, rfl, u, e0, eb, hbl⟩ := HR.out.at k hlt
      generalize rows[k] = b at *
      have EB := Lib.hid eb
      have e1 := (hbb.out.cell (World.block_lt_of_cell? w _ e0)).trans e0
      rw [Nat.mul_one] at e1
      obtain ⟨au, cu, rfl, -⟩ := eb
      clear e0
      by_cases hb3 : b.length ≤ 300
      · have hb3' : ¬ ((300 : Int) < (b.length : Int)) := by omega
        obtain ⟨ao, co, rfl⟩ := hrf.out.shape
        obtain ⟨i0, hi0, hz0, hz1, hz2⟩ := info_parts Try.info22'
        have HI := Lib.hid (And.intro hi0 (And.intro hz0 (And.intro hz1 hz2)))
        clear hi0 hz0 hz1 hz2
        have hsz := hbb.out.size
        obtain ⟨vs, hr7, hi7⟩ := hrf.out
        have HR7 := Lib.hid hr7
        have HI7 := Lib.hid hi7
        clear hr7 hi7
        have HTS := hts.out.step (b := b) hb3 (by omega)
        obtain ⟨hst8, hts8⟩ := HTS
        have HTS8 := Lib.hid hts8
        have HST8 := Lib.hid hst8
        have HLL := Lib.hid (show L.list.length ≤ 1000000 by have := hts.out.len; omega)
        have HEP := Lib.hid hts.out.epoch
        have HCC := Lib.hid (show D.cache.length ≤ 800000000 by rw [hts.out.cache]; decide)
        clear hst8 hts8
        go_wp2_with (first
          | (refine wpList_append_src _ rfl (.tmp 50) (.tmp 52) 92 rfl w.heap.size 22 i0 _ 1 24 Try.underlying92' HI.out.1 HI.out.2.1 HI.out.2.2.1 HI.out.2.2.2 rfl (by decide) _ _ rfl rfl _ vs (HR7.out.alloc _) 1 [.slice au b.length cu] rfl (src_lit1 _ _ _ _) (by simp [Value.oneCell']) (by unfold maxLen; omega) (by omega) (by simp; omega) ?_; intro v8 w8 o8 g8 n8))
        have RF8 := Lib.hid (RowF.push HR7.out HI7.out EB.out o8)
        have RS8 := Lib.hid (show v8.ownBlock = none ∨ v8.ownBlock ≠ lvk.ownBlock from by
          rcases n8 with n8 | ⟨q8, hq8, hle⟩
          · rw [n8]; exact hap.out
          · refine .inr fun e => ?_
            obtain ⟨ws, h9, -⟩ := hla.out.rows
            have h10 := (h9.lt q8 (e.symm.trans hq8)).2
            rw [size_alloc] at hle
            omega)
        have LA8 := Lib.hid (hla.out.beside (b := w8) (t := (Value.slice ao lst.length co).ownBlock) (fun q hq => hrf.out.typed hq) hap.out (fun q hq hne => by rw [g8.block q (by rw [size_alloc]; omega) hne, heap_at_old _ _ _ hq]))
        have BB8 := Lib.hid ((Below.alloc hbb.out hsz (.cells #[.slice au b.length cu] 22)).grown g8 (by rw [size_alloc]; omega) (fun q hq => (HR7.out.lt q hq).1))
        obtain ⟨a8, c8, h8⟩ := RF8.out.shape
        rw [List.length_append, List.length_singleton] at h8
        obtain ⟨n1, hn1⟩ : ∃ n1, n1 = lst.length + 1 := ⟨_, rfl⟩
        have HN1 := Lib.hid hn1
        rw [← hn1] at h8
        subst h8
        have hn2 : n1 ≤ k + 1 := by omega
        clear o8 g8 n8 hn1
        have HBx := Lib.hid (show w1.heap.size ≤ w8.heap.size from Nat.le_trans LA8.out.hl (Nat.le_of_lt (Array.getElem?_eq_some_iff.1 LA8.out.blk).1))
        have HBY := Lib.hid (show ∀ W, LOnly w1.heap.size g kb l none w8 W → Bytes W (.slice au b.length cu) b from fun W ho => EB.out.below (Below.trans BB8.out ((ho.below HG.out HK.out HLB.out (by simp) HBx.out).mono X1.out.size)) (Nat.le_refl _))
        go_wp2_with fail
        refine (Append_any w1.heap.size g kb l lvk D L _ b _ LA8.out HBY.out (by omega) HLL.out (by rw [HEP.out]; decide) (by omega) HCC.out HBx.out).mono ?_
        unfold appPost
        rintro e w9 ⟨rfl, lv9, o9, a9, n9⟩
        obtain ⟨r, hr⟩ : ∃ r, r = appendP D L b := ⟨_, rfl⟩
        rw [← hr] at a9 HTS8 HST8
        rw [← hr]
        clear hr
        obtain ⟨D9, L9, e9⟩ := r
        have hst9 : D9.steps ≤ D.steps + 70 := HST8.out
        have hts9 : (e9 = 0 ∧ TS D9 L9 (lst ++ [b]) (lst.length + 1)) ∨ (e9 ≠ 0 ∧ TS D9 L9 (lst ++ [b]) t) := HTS8.out
        have LA9 : Hid (LogAt w1.heap.size w9 g kb l lv9 D9 L9) := a9
        have BB9 := Lib.hid (Below.trans BB8.out ((o9.below HG.out HK.out HLB.out hlb.out HBx.out).mono X1.out.size))
        have RF9 := Lib.hid (RF8.out.lonly LA8.out o9 (.inr rfl) RS8.out)
        have AP9 := Lib.hid (show (Value.slice a8 n1 c8).ownBlock = none ∨ (Value.slice a8 n1 c8).ownBlock ≠ lv9.ownBlock from by
          rcases n9 with n9 | n9
          · rw [n9]; exact RS8.out
          · cases hq : (Value.slice a8 n1 c8).ownBlock with
            | none => exact .inl rfl
            | some q8 =>
              refine .inr fun e => ?_
              have h9 := n9 q8 e.symm
              obtain ⟨cs, hc⟩ := RF8.out.typed hq
              have := (Array.getElem?_eq_some_iff.1 hc).1
              omega)
        have LB9 := Lib.hid (show base_lt w1.heap.size lv9 from fun q hq => n9.elim (fun e => hlb.out q (e ▸ hq)) (fun h => Nat.le_trans HBx.out (h q hq)))
        clear o9 a9 n9 HTS8 HST8
        have HLA := Lib.hid (show (lst ++ [b]).length = n1 by rw [HN1.out]; simp)
        by_cases he9 : e9 = 0
        · have TS9 := Lib.hid (show TS D9 L9 (lst ++ [b]) n1 from by
            rcases hts9 with h9 | h9
            · rw [HN1.out]; exact h9.2
            · exact absurd he9 h9.1)
          subst he9
          clear hts9
          go_wp2_with fail
          go_roundw
          case rel => exact ⟨k + 1, n1, lst ++ [b], D9, L9, lv9, by go_num, by omega, rfl, BB9, LA9, TS9, by omega, by rw [HLA.out]; omega, by rw [HLA.out]; exact Nat.le_refl _, LB9, RF9, AP9⟩
          case measure => simp [intOf]; omega
        · have TS9 := Lib.hid (show TS D9 L9 (lst ++ [b]) t from by
            rcases hts9 with h9 | h9
            · exact absurd h9.1 he9
            · exact h9.2)
          have hne := eq_int he9
          clear hts9
          go_wp2_with fail
          go_roundw
          case rel => exact ⟨k + 1, t, lst ++ [b], D9, L9, lv9, by go_num, by omega, rfl, BB9, LA9, TS9, by omega, by rw [HLA.out]; omega, by rw [HLA.out, HN1.out]; omega, LB9, RF9, AP9⟩
          case measure => simp [intOf]; omega
      · have hb3' : ((300 : Int) < (b.length : Int)) := by omega
        go_wp2_with fail
        go_roundw
        case rel => exact ⟨k + 1, t, lst, D, L, lvk, by go_num, by omega, rfl, hbb, hla, hts, by omega, by omega, htl, hlb, hrf, hap⟩
        case measure => simp [intOf]; omega
    · obtain ⟨k7, hk7⟩ : ∃ k7, k7 = keeps / 128 := ⟨_, rfl⟩
      have h128 : (keeps : Int) / 128 = (k7 : Int) := by omega
      have HK7 := Lib.hid (show k7 < 18446744073709551616 by have := HKP.out; omega)
      clear hk7
      obtain ⟨t', ht1, ht2, ht3, hs6⟩ := hts.out.done k7
      have HS6 := Lib.hid hs6
      have hcc : D.cache.length ≤ 0 := by rw [hts.out.cache]; exact Nat.le_refl _
      have HBx := Lib.hid (show w1.heap.size ≤ wr.heap.size from Nat.le_trans hla.out.hl (Nat.le_of_lt (Array.getElem?_eq_some_iff.1 hla.out.blk).1))
      have HTL := Lib.hid (show (lst.take t').length = t' by rw [List.length_take]; omega)
      have HSM := Lib.hid (show ∀ b ∈ lst.take t', b.length ≤ 16777216 from fun b hb => by have := hts.out.small b (List.mem_of_mem_take hb); omega)
      obtain ⟨ao, co, h8⟩ := hrf.out.shape
      obtain ⟨ll, hll8⟩ : ∃ ll, ll = lst.length := ⟨_, rfl⟩
      have HL8 := Lib.hid hll8
      rw [← hll8] at h8
      subst h8
      have ht4 : t' ≤ ll := by omega
      have hcap : ll ≤ co := by
        obtain ⟨vs, h1, -⟩ := hrf.out
        rcases h1.2 with ⟨e, h0⟩ | ⟨q9, cap, cur, e, _, _, h9, _⟩
        · simp only [Value.slice.injEq] at e; omega
        · simp only [Value.slice.injEq] at e; omega
      clear hs6 hll8
      go_wp2_with fail
      refine (Crash_any w1.heap.size g kb D k7 _ hla.out.disk HK7.out HBx.out).mono ?_
      rintro e w5 ⟨⟨v5, rfl⟩, o5, d5⟩
      have BB5 := Lib.hid (Below.trans hbb.out ((o5.below HG.out HK.out HBx.out).mono X1.out.size))
      have RF5 := Lib.hid (hrf.out.donly hla.out.disk o5)
      have DA5 := Lib.hid d5
      have HB5 := Lib.hid (Nat.le_trans HBx.out o5.size)
      clear o5 d5
      go_wp2_with fail
      refine (On_any w1.heap.size g kb (D.crash k7) _ DA5.out).mono ?_
      rintro e w6 ⟨⟨v6, rfl⟩, o6, d6⟩
      have BB6 := Lib.hid (Below.trans BB5.out ((o6.below HG.out HK.out HB5.out).mono X1.out.size))
      have RF6 := Lib.hid (RF5.out.donly DA5.out o6)
      have HB6 := Lib.hid (Nat.le_trans HB5.out o6.size)
      obtain ⟨D6, hD6⟩ : ∃ D6 : Dk, D6 = { D.crash k7 with down := false } := ⟨_, rfl⟩
      have hst6 : D6.steps ≤ 800000000 := by rw [hD6]; show D.steps ≤ _; omega
      rw [← hD6] at d6 HS6
      have DA6 := Lib.hid d6
      obtain ⟨T, hop, -⟩ := open_st HS6.out
      have HOP := Lib.hid hop
      have HC6 := Lib.hid (show D6.cache.length ≤ 800000000 by rw [HS6.out.calm.cache]; decide)
      clear o6 d6 hD6 hop RF5 DA5 BB5 HB5
      go_wp2_with fail
      refine (Open_any w1.heap.size g kb D6 _ DA6.out hst6 HC6.out HB6.out).mono ?_
      intro e w7 hp
      obtain ⟨o7, l7, lv7, rfl, hl7, a7, hlv7⟩ := open_some HOP.out hp
      have BB7 := Lib.hid (Below.trans BB6.out ((o7.below HG.out HK.out HB6.out).mono X1.out.size))
      have RF7 := Lib.hid (RF6.out.donly DA6.out o7)
      have LA7 := Lib.hid a7
      clear hp o7 a7 hl7 hlv7 RF6 BB6 DA6
      go_wp2_with fail
      refine (LogList_any w1.heap.size g kb l7 lv7 D6 _ _ LA7.out (by show (lst.take t').length ≤ _; rw [HTL.out]; omega) HSM.out).mono ?_
      unfold listPost
      rintro e w8 ⟨v8, rfl, x8, r8⟩
      have R8 := Lib.hid (show RecRow w7.heap.size w8 v8 (lst.take t') from r8)
      have RF8 := Lib.hid (RF7.out.ext x8)
      have BB8 := Lib.hid (Below.trans BB7.out (x8.mono BB7.out.size))
      obtain ⟨a8, c8, h8⟩ := R8.out.shape
      rw [HTL.out] at h8
      subst h8
      clear r8 x8 LA7 BB7 RF7
      have HRW := Lib.hid ((RF8.out.rows BB8.out (by omega)).take t' (by have := HL8.out; omega))
      have HEQ := Lib.hid (show (lst.take t' == lst.take t') = true by simp)
      go_wp2_with (refine wpList_slice_to2 rfl 92 (.tmp 100) (.tmp 102) rfl Try.underlying92' (fun w => by kernel_rfl) ao ll co t' rfl rfl (by omega) ?_)
      refine (logSame_any _ _ (lst.take t') (lst.take t') _ (R8.out.rows (by rw [HTL.out]; omega)) HRW.out).mono ?_
      rw [HEQ.out]
      rintro e w9 ⟨rfl, x9⟩
      have BB9 := Lib.hid (Below.trans BB8.out (x9.mono BB8.out.size))
      clear x9
      go_wp2_with fail
      go_ret
      exact ⟨rfl, BB9.out⟩
end Go.Proofs.Ytgkoblgpadpcjaa.logTorn
