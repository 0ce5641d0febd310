/- A log: Append. -/
import Derived.Test.YtgkoblgpadpcjaaLogR
import Derived.StillTailTactics
import Derived.Deep.RegionLaw
namespace Go.Proofs.Ytgkoblgpadpcjaa
open Go.RowKit

theorem putGo_kept (p : Nat) : ∀ (f i : Nat) (all : List UInt8) (D : Dk), (putGo p f i all D).1.kept.length = D.kept.length ∧ (putGo p f i all D).1.steps ≤ D.steps + f ∧ (putGo p f i all D).1.cache.length ≤ D.cache.length + f
  | 0, _, _, _ => ⟨rfl, Nat.le_refl _, Nat.le_refl _⟩
  | f + 1, i, all, D => by
    obtain ⟨h1, h2, h3⟩ := write_kept D ((p + i : Nat) : Int) (recSec i all)
    rw [putGo]
    split
    · obtain ⟨k1, k2, k3⟩ := putGo_kept p f (i + 1) (all.drop 63) (D.write ((p + i : Nat) : Int) (recSec i all)).1
      exact ⟨k1.trans h1, by omega, by omega⟩
    · exact ⟨h1, by omega, by omega⟩
theorem putP_kept (D : Dk) (L : Lg) (a s : Nat) (b : List UInt8) (hb : b.length ≤ 4096) : (putP D L a s b).1.kept.length = D.kept.length ∧ (putP D L a s b).1.steps ≤ D.steps + 66 ∧ (putP D L a s b).1.cache.length ≤ D.cache.length + 66 := by
  obtain ⟨h1, h2, h3⟩ := putGo_kept (placeOf D L.half a) (sectorsOf b.length) 0 (recBytes s L.epoch b) D
  have : sectorsOf b.length ≤ 66 := by unfold sectorsOf; omega
  unfold putP
  exact ⟨h1, by omega, by omega⟩
theorem flush_kept (D : Dk) : (D.flush).1.kept.length = D.kept.length ∧ (D.flush).1.steps ≤ D.steps + 1 ∧ (D.flush).1.cache.length ≤ D.cache.length := by
  obtain ⟨h1, h2, h3⟩ := step_kept D
  unfold Dk.flush
  split
  · exact ⟨rfl, Nat.le_succ _, Nat.le_refl _⟩
  · split
    · exact ⟨by simp [Dk.flushed, lay_length, h1], Nat.le_of_eq h2, by simp [Dk.flushed]⟩
    · exact ⟨h1, Nat.le_of_eq h2, h3⟩
theorem LOnly.drewN {base g kb l : Nat} {lb : Option Nat} {a b : World} (h : LOnly base g kb l lb a b) (n : Nat) : LOnly base g kb l lb a (b.drewN n) := ⟨h.os, h.tape, h.output, h.size, h.block⟩
theorem half_eq (base g kb : Nat) (D : Dk) (ho : Nat) (hh : ho = halfOf D) (w : World) (h : Disk base w g kb D) (h2 : 2 ≤ D.kept.length) : Calls Try.prog 72 #[.pointer (some ⟨g, 0, none⟩)] w fun e w' => e = .returned (.int .i64 (ho : Nat)) ∧ w = w' := by
  subst hh; exact half_any base g kb D w h h2
theorem sectors_eq (n ks : Nat) (hk : ks = sectorsOf n) (hn : n ≤ 140737488355328) (w : World) : Calls Try.prog 71 #[.int .i64 (n : Int)] w fun e w' => e = .returned (.int .i64 (ks : Nat)) ∧ w' = w := by
  subst hk; exact (sectors_any n hn w).mono fun e w' h => ⟨h.1, h.2.symm⟩
theorem eq_int {n : Nat} (h : n ≠ 0) : ((n : Int) == 0) = false := by rw [beq_eq_false_iff_ne]; omega
theorem LOnly.of_none {base g kb l : Nat} {lb : Option Nat} {a b : World} (h : LOnly base g kb l none a b) : LOnly base g kb l lb a b := ⟨h.os, h.tape, h.output, h.size, fun k hk h1 h2 h3 _ h5 => h.block k hk h1 h2 h3 (by simp) h5⟩
theorem new_le {w W : World} {v v' : Value} (h : NewOrSame W v v') (hs : w.heap.size ≤ W.heap.size) : v'.ownBlock = v.ownBlock ∨ ∀ q, v'.ownBlock = some q → w.heap.size ≤ q :=
  h.imp id fun ⟨k, hk, hle⟩ q hq => by rw [hk] at hq; obtain rfl := Option.some.inj hq; omega
def appPost (base g kb l : Nat) (lv : Value) (w : World) (r : Dk × Lg × Nat) (e : Ending) (w' : World) : Prop :=
  e = .returned (.int .i64 (r.2.2 : Nat)) ∧ ∃ lv', LOnly base g kb l lv.ownBlock w w' ∧ LogAt base w' g kb l lv' r.1 r.2.1 ∧ (lv'.ownBlock = lv.ownBlock ∨ ∀ q, lv'.ownBlock = some q → w.heap.size ≤ q)

set_option maxRecDepth 100000 in
set_option maxHeartbeats 4000000 in
theorem Append_any (base g kb l : Nat) (lv : Value) (D : Dk) (L : Lg) (bv : Value) (b : List UInt8) (w : World) (h : LogAt base w g kb l lv D L) (hb : ∀ W, LOnly base g kb l none w W → Bytes W bv b) (hbl : b.length ≤ 16777216)
    (hseq : L.list.length ≤ 1000000) (hep : L.epoch < 4294967296) (hst : D.steps ≤ 800000000) (hc : D.cache.length ≤ 800000000) (hB : base ≤ w.heap.size) :
    Calls Try.prog 56 #[.pointer (some ⟨l, 0, none⟩), bv] w (appPost base g kb l lv w (appendP D L b)) := by
  have HL := Lib.hid h
  have HB := Lib.hid hb
  obtain ⟨ab, capb, rfl, -⟩ := hb w LOnly.refl
  obtain ⟨al, cl, rfl⟩ := h.rows.shape
  obtain ⟨c0, c1, c2, c3, c4, c5, c6, hf⟩ := h.cells
  have hf4 := hf 4
  have hm := h.disk.wf.most
  have h6 := h.six
  have hat := h.at_
  have hh : halfOf D ≤ 4096 := by unfold halfOf; omega
  have hat4 : L.at_ ≤ 4096 := by omega
  have hsec : sectorsOf b.length ≤ 16777216 := by unfold sectorsOf; omega
  clear h hb hf
  cases hd : L.dead
  · rw [hd] at c6
    by_cases hlong : 4096 < b.length
    · have HS := Lib.hid (show appendP D L b = (D, L, 6) by unfold appendP; rw [if_neg (by rw [hd]; decide), if_pos hlong])
      have hlt : ((4096 : Int) < (b.length : Int)) := by omega
      clear hd
      go_enter Try.func56, Try.ntmps56
      go_wp2_with ((go_at_call 71); refine (sectors_any b.length (by omega) _).mono ?_; rintro e w' ⟨rfl, rfl⟩)
      go_ret
      rw [HS.out]
      exact ⟨rfl, _, LOnly.refl, HL.out, .inl rfl⟩
    · have hlong' : ¬ ((4096 : Int) < (b.length : Int)) := by omega
      obtain ⟨ks, hks⟩ : ∃ ks, ks = sectorsOf b.length := ⟨_, rfl⟩
      obtain ⟨ak, hak⟩ : ∃ ak, ak = L.at_ + ks := ⟨_, rfl⟩
      have HSU := Lib.hid (show IntKind.i64.wrap ((L.at_ : Int) + (ks : Int)) = (ak : Int) by rw [IntWalk.i64_in _ (by omega)]; omega)
      have HKS := Lib.hid hks
      have HAK := Lib.hid hak
      obtain ⟨ho, hho⟩ : ∃ ho, ho = halfOf D := ⟨_, rfl⟩
      have HHO := Lib.hid hho
      by_cases hfull : halfOf D < L.at_ + sectorsOf b.length
      · have HS := Lib.hid (show appendP D L b = (D, L, 7) by unfold appendP; rw [if_neg (by rw [hd]; decide), if_neg hlong, if_pos hfull])
        have hfd : decide (ho < ak) = true := by rw [decide_eq_true_iff]; omega
        clear hd hlong hks hak hfull hh hho
        go_enter Try.func56, Try.ntmps56
        go_upto_region 6 with ((go_at_call 71); refine (sectors_any b.length (by omega) _).mono ?_; rintro e w' ⟨rfl, rfl⟩; rw [← HKS.out])
        have hsu := HSU.out
        go_quiet (first | ((go_at_call 72); exact Calls.quiet_of_same ((half_eq base g kb D ho HHO.out _ (Disk.drewN HL.out.disk _) (by omega)).mono fun e w' h => ⟨h.1, h.2.symm⟩)))
        clear hsu
        go_wp2_with fail
        go_ret
        rw [HS.out]
        exact ⟨rfl, _, LOnly.refl.drewN nq, HL.out.ext ((Ext.refl w).drewN nq), .inl rfl⟩
      · have hfd : decide (ho < ak) = false := by rw [decide_eq_false_iff_not]; omega
        have HPK := Lib.hid (putP_kept D L L.at_ L.list.length b (by omega))
        have HS := Lib.hid (show appendP D L b = (if (putFlush D L L.at_ L.list.length b).2 = 0 then ((putFlush D L L.at_ L.list.length b).1, { L with at_ := L.at_ + sectorsOf b.length, list := L.list ++ [b] }, 0)
          else ((putFlush D L L.at_ L.list.length b).1, L.die (putFlush D L L.at_ L.list.length b).2, (putFlush D L L.at_ L.list.length b).2)) by
            unfold appendP; rw [if_neg (by rw [hd]; decide), if_neg hlong, if_neg hfull])
        have hll : L.list.length ≤ 9223372036854775807 := by omega
        have HFU := Lib.hid hfull
        clear hd hlong hks hak hfull hh hho
        go_enter Try.func56, Try.ntmps56
        go_upto_region 6 with ((go_at_call 71); refine (sectors_any b.length (by omega) _).mono ?_; rintro e w' ⟨rfl, rfl⟩; rw [← HKS.out])
        have hsu := HSU.out
        go_quiet (first | ((go_at_call 72); exact Calls.quiet_of_same ((half_eq base g kb D ho HHO.out _ (Disk.drewN HL.out.disk _) (by omega)).mono fun e w' h => ⟨h.1, h.2.symm⟩)))
        clear hsu
        have H1 := Lib.hid (HL.out.ext ((Ext.refl w).drewN nq))
        have X1 := Lib.hid ((DOnly.refl base g kb w).ext ((Ext.refl w).drewN nq))
        generalize hw1 : w.drewN nq = w1 at *
        have HW1 := Lib.hid hw1
        clear hw1 c0 c1 c2 c3 c4 c5 c6 hf4
        obtain ⟨c0, c1, c2, c3, c4, c5, c6, hf⟩ := H1.out.cells
        clear hf c1 c2 c3 c6
        go_upto_region 8 with (fail)
        go_still_tail 11, (by kernel_rfl)
        change wpList _ _ _ _ _ w1.drew
        have H2 := Lib.hid (H1.out.ext ((Ext.refl w1).drew))
        have X2 := Lib.hid (X1.out.drew)
        generalize hw2 : w1.drew = w2 at *
        clear hw2 c0 c4 c5
        go_wp2_with fail
        refine (put_any base g kb l _ D L L.at_ L.list.length _ b _ H2.out (HB.out _ X2.out.lonly) (by omega) (by omega) (by omega) hep (by omega) (by omega) (Nat.le_trans hB X2.out.size)).mono ?_
        rintro e w3 ⟨rfl, o3, d3⟩
        have LA3 := Lib.hid (H2.out.only o3 d3 HPK.out.1)
        have X3 := Lib.hid (X2.out.trans o3)
        have hpk := HPK.out
        generalize hr : putP D L L.at_ L.list.length b = r at *
        obtain ⟨D3, en⟩ := r
        have hpk2 : D3.kept.length = D.kept.length ∧ D3.steps ≤ D.steps + 66 ∧ D3.cache.length ≤ D.cache.length + 66 := hpk
        obtain ⟨hp1, hp2, hp3⟩ := hpk2
        have HR := Lib.hid hr
        clear o3 d3 hpk hr HPK
        obtain ⟨c0, c1, c2, c3, c4, c5, c6, hf⟩ := LA3.out.cells
        clear hf c1 c2 c3 c4 c5 c6
        by_cases hen : en = 0
        · subst hen
          have HPF := Lib.hid (show putFlush D L L.at_ L.list.length b = D3.flush by unfold putFlush; rw [HR.out]; rfl)
          have hfk := flush_kept D3
          go_wp2_with fail
          refine (Flush_any base g kb D3 _ LA3.out.disk (by omega) (Nat.le_trans hB X3.out.size)).mono ?_
          rintro e w4 ⟨rfl, o4, d4⟩
          generalize hr4 : D3.flush = r4 at *
          obtain ⟨D4, fn⟩ := r4
          have hfk1 : D4.kept.length = D3.kept.length := hfk.1
          have LA4 := Lib.hid (LA3.out.only o4 d4 hfk1)
          have X4 := Lib.hid (X3.out.trans o4)
          clear o4 d4 hfk hr4 c0
          obtain ⟨c0, c1, c2, c3, c4, c5, c6, hf⟩ := LA4.out.cells
          have hf4 := hf 4
          clear hf c0 c1 c2 c3 c5 c6
          by_cases hfn : fn = 0
          · subst hfn
            go_upto_region 13 with (fail)
            refine wp_region_still_tail 10 (by kernel_rfl) (by kernel_rfl) ?_
            simp only [List.take_succ_cons, List.take_zero, List.drop_succ_cons, List.drop_zero]
            repeat still_step
            have hsu := HSU.out
            still_call (sectors_eq b.length ks HKS.out (by omega) _)
            repeat still_step
            refine wpStill_nil ?_
            clear hsu
            change wpList _ _ _ _ _ w4.drew
            have hhE : halfOf D4 = halfOf D := by unfold halfOf; rw [hfk1, hp1]
            have LA5 := Lib.hid ((LA4.out.ext ((Ext.refl w4).drew)).put 4 (.int .i64 (ak : Int)) { L with at_ := ak } _ rfl (LA4.out.ext ((Ext.refl w4).drew)).rows LA4.out.half (by rw [hhE]; have h1 := HFU.out; have h2 := HAK.out; have h3 := HKS.out; show ak ≤ halfOf D; omega))
            have X5 := Lib.hid ((X4.out.drew.lonly (l := l) (lb := none)).setL 4 (.int .i64 (ak : Int)))
            clear hhE
            go_upto_region 14 with (fail)
            have e45 : (w4.drew).setCell ⟨l, 4, none⟩ (.int .i64 (ak : Int)) = (w4.setCell ⟨l, 4, none⟩ (.int .i64 (ak : Int))).drew := rfl
            rw [e45] at LA5 X5
            generalize hw5 : (w4.setCell ⟨l, 4, none⟩ (.int .i64 (ak : Int))).drew = w5 at *
            have HB5 := Lib.hid (HB.out _ X5.out.drew)
            clear hw5 e45 c4 hf4
            obtain ⟨c0, c1, c2, c3, c4, c5, c6, hf⟩ := LA5.out.cells
            clear hf c0 c1 c2 c3 c4 c6
            obtain ⟨i0, hi0, hz0, hz1, hz2⟩ := info_parts Try.info22'
            have HI := Lib.hid (And.intro hi0 (And.intro hz0 (And.intro hz1 hz2)))
            clear hi0 hz0 hz1 hz2
            go_region_law (first
              | (refine step_append_empty_bytes rfl (.const (.slice none 0 0)) (.tmp 71) 22 rfl Try.underlying22 _ _ rfl rfl b HB5.out (by omega) ?_; intro v7 w7 f7; have x7 : Ext w5 w7 := (Ext.refl w5).drew.trans f7.below; have X7 := Lib.hid x7; have F7 := Lib.hid (f7.ownb (Nat.le_trans hB X5.out.size)); (obtain ⟨a7, c7, rfl, -⟩ := f7.bytes); have c57 := x7.cell c5; have c58 := (x7.alloc (.cells #[.slice a7 b.length c7] 22)).cell c5; have LA7 := Lib.hid (LA5.out.ext x7); (obtain ⟨vs, hr7, hi7⟩ := LA7.out.rows); have HR7 := Lib.hid hr7; have HI7 := Lib.hid hi7; clear f7 x7 hr7 hi7)
              | (refine step_append_src rfl (.tmp 70) (.tmp 73) 92 rfl base 22 i0 _ 1 24 Try.underlying92' HI.out.1 HI.out.2.1 HI.out.2.2.1 HI.out.2.2.2 rfl (by decide) _ _ rfl rfl L.list.length vs (HR7.out.alloc _) 1 [.slice a7 b.length c7] rfl (src_lit1 _ _ _ _) (by simp [Value.oneCell']) (by unfold maxLen; omega) (by omega) (by have := X5.out.size; have := X7.out.size; simp; omega) ?_; intro v8 w8 o8 g8 n8; (obtain ⟨a8, m8, c8, rfl⟩ := row_shape o8); have P8 := LA7.out.pushed F7.out HR7.out HI7.out o8 g8; have q1 := P8.2.2.1; have q2 := P8.2.2.2; have P81 := Lib.hid P8.1; have P82 := Lib.hid P8.2.1; have N8 := Lib.hid (new_le n8 (show w.heap.size ≤ _ from Nat.le_trans X5.out.size (Nat.le_trans X7.out.size (by simp)))); clear P8 o8 g8 n8))
            all_goals
              go_wp2_with fail
              go_ret
              rw [HS.out, HPF.out]
              rw [if_pos rfl]
              have e := HAK.out
              rw [HKS.out] at e
              rw [← e]
              refine ⟨rfl, _, ?_, P81.out, N8.out⟩
              exact (X5.out.of_none.trans (X7.out.lonly (lb := none)).of_none (.inl rfl)).trans P82.out (.inl rfl)
          · -- the flush fails
            have hne := eq_int hfn
            have hne2 := ne_int hfn
            go_wp2_with fail
            refine (die_any base g kb l _ D4 L fn _ LA4.out).mono ?_
            rintro e w9 ⟨rfl, o9, d9⟩
            have O9 := Lib.hid o9
            have D9 := Lib.hid d9
            clear o9 d9
            go_wp2_with fail
            go_ret
            rw [HS.out, HPF.out]
            rw [if_neg hfn]
            exact ⟨rfl, _, X4.out.lonly.trans O9.out (.inl rfl), D9.out, .inl rfl⟩
        · have HPF := Lib.hid (show putFlush D L L.at_ L.list.length b = (D3, en) by unfold putFlush; rw [HR.out]; exact if_neg hen)
          have hne := eq_int hen
          have hne2 := ne_int hen
          go_wp2_with fail
          refine (die_any base g kb l _ D3 L en _ LA3.out).mono ?_
          rintro e w9 ⟨rfl, o9, d9⟩
          have O9 := Lib.hid o9
          have D9 := Lib.hid d9
          clear o9 d9
          go_wp2_with fail
          go_ret
          rw [HS.out, HPF.out]
          rw [if_neg hen]
          exact ⟨rfl, _, X3.out.lonly.trans O9.out (.inl rfl), D9.out, .inl rfl⟩
  · have HS := Lib.hid (show appendP D L b = (D, L, 3) by unfold appendP; rw [if_pos hd])
    rw [hd] at c6
    clear hd
    go_enter Try.func56, Try.ntmps56
    go_wp2_with ((go_at_call 71); refine (sectors_any b.length (by omega) _).mono ?_; rintro e w' ⟨rfl, rfl⟩)
    go_ret
    rw [HS.out]
    exact ⟨rfl, _, LOnly.refl, HL.out, .inl rfl⟩
end Go.Proofs.Ytgkoblgpadpcjaa
