/- The document's disk: Read. -/
import Derived.Test.YtgkoblgpadpcjaaDiskH
namespace Go.Proofs.Ytgkoblgpadpcjaa
open Go.RowKit

theorem Try.z62 : (Try.prog.info? 62).map (fun i => i.zero) = some (some (.agg (byteVals zero64).toArray)) := by kernel_rfl
theorem Try.b62 : Try.prog.built 62 [] = some (byteVals zero64).toArray := by kernel_rfl
theorem Try.results53 : Try.f53.results = #[.cell 4 62, .tmp 5] := by kernel_rfl
theorem res53 (tmps : Array Value) (w : World) (B : Nat) (cs : Array Value) (e : Value) (hp : tmps.getD 4 undef = .pointer (some ⟨B, 0, none⟩)) (h5 : tmps.getD 5 undef = e) (hg : w.heap[B]? = some (.cells cs 62 (0, 0))) (hcs : cs.size = 64) :
    (results Try.f53 tmps).run Try.prog w = .ok (.tuple #[.agg cs, e]) w := by
  have hp' : tmps[4]?.getD undef = .pointer (some ⟨B, 0, none⟩) := by simpa using hp
  have h5' : tmps[5]?.getD undef = e := by simpa using h5
  simp [results, Try.results53, hp', h5', asAddr, run_loadVar_row w B 62 62 cs (0, 0) _ hg Try.underlying62 rfl (by rw [hcs]; exact Try.info62)]
/-- What the walks are told of a sector of noughts. -/
def ZFacts2 (Z : Array Value) : Prop := (Try.prog.info? 62).map (fun i => i.zero) = some (some (.agg Z)) ∧ Try.prog.built 62 [] = some Z ∧ (Try.prog.info? 62).map (·.size) = some Z.size ∧ Z.all (·.oneCell') = true ∧ Z.size = 64
theorem zfacts2 : ZFacts2 (byteVals zero64).toArray := ⟨Try.z62, Try.b62, by show _ = some 64; exact Try.info62, all_oneCell_toArray (byteVals_oneCell zero64), rfl⟩
/-- The sector as the first k writes leave it. -/
def outAt (D : Dk) (a k : Nat) : List UInt8 := match lastAt a (D.cache.take k) with | some s => s | none => D.kept.getD a []
theorem outAt_succ (D : Dk) (a k : Nat) (h : k < D.cache.length) : outAt D a (k + 1) = if D.cache[k].1 = a then D.cache[k].2 else outAt D a k := by
  unfold outAt
  rw [List.take_succ_eq_append_getElem h, lastAt_append]
  by_cases he : D.cache[k].1 = a
  · simp [lastAt, he]
  · simp [lastAt, he]
theorem lastAt_mem (a : Nat) : ∀ (l : List (Nat × List UInt8)) (s : List UInt8), lastAt a l = some s → ∃ c ∈ l, c.2 = s
  | [], s, h => by cases h
  | c :: r, s, h => by
    rw [lastAt] at h
    cases hr : lastAt a r with
    | some t =>
      rw [hr] at h
      simp only [Option.some.injEq] at h
      subst h
      obtain ⟨c', hc', e⟩ := lastAt_mem a r t hr
      exact ⟨c', by simp [hc'], e⟩
    | none =>
      rw [hr] at h
      simp only at h
      split at h
      · simp only [Option.some.injEq] at h
        exact ⟨c, by simp, h⟩
      · cases h
theorem outAt_len (D : Dk) (a k : Nat) (h : Wf D) (ha : a < D.kept.length) : (outAt D a k).length = 64 := by
  unfold outAt
  split
  · rename_i s hs
    obtain ⟨c, hc, e⟩ := lastAt_mem a _ s hs
    rw [← e]
    exact (h.cache c (List.mem_of_mem_take hc)).2
  · simp only [List.getD, List.getElem?_eq_getElem ha, Option.getD_some]
    exact h.kept _ (List.getElem_mem ha)
theorem outAt_read (D : Dk) (a : Nat) (hd : D.down = false) (ha : a < D.kept.length) : D.read (a : Int) = (outAt D a D.cache.length, 0) := by
  unfold Dk.read outAt
  rw [if_neg (by rw [hd]; decide), if_neg (by omega), List.take_length, Int.toNat_natCast]
  split <;> rename_i h <;> rw [h]
def RRead (w : World) (N a : Nat) (C0 Z : Array Value) (D : Dk) (i : Value) (wr : World) : Prop :=
  ∃ k : Nat, i = .int .i64 k ∧ k ≤ D.cache.length ∧ Hid (Ext w wr) ∧ Hid (wr.heap[w.heap.size]? = some (.cells C0 76 (0, 0))) ∧ Hid (wr.heap[w.heap.size + 1]? = some (.cells Z 62 (0, 0))) ∧ Hid (wr.heap[N]? = some (.cells (byteVals (outAt D a k)).toArray 62 (0, 0)))
set_option maxRecDepth 100000 in
set_option maxHeartbeats 2000000 in
theorem RRead_any (D : Dk) (kv cv : Value) (kp : Nat) (at_ : Int) (w : World) (h : RefIs w kv cv kp D) :
    Calls Try.prog 53 #[.agg #[kv, cv, .bool D.down, .int .i64 D.fate, .int .u64 kp, .int .i64 D.steps], .int .i64 at_] w (readPost w D at_) := by
  have HR := Lib.hid h
  have hm := h.wf.most
  obtain ⟨ka, kcap, rfl, hk1, hk2, hkk⟩ := own_sectors h.kept h.wf.kept
  obtain ⟨ca, ccap, rfl, hc1, hc2, hcc⟩ := own_writes h.cache (fun c hc => (h.wf.cache c hc).2)
  have HKK := Lib.hid hkk
  have HCC := Lib.hid hcc
  clear h hkk hcc
  obtain ⟨Z, hZ⟩ : ∃ Z, Z = (byteVals zero64).toArray := ⟨_, rfl⟩
  have HI : Hid (ZFacts2 Z) := by rw [hZ]; exact zfacts2
  have HZ := Lib.hid hZ
  clear hZ
  by_cases hd : D.down = true
  · have HS := Lib.hid (show D.read at_ = (zero64, 3) by unfold Dk.read; rw [if_pos hd])
    go_enter Try.func53, Try.ntmps53
    go_wp2_with (first
      | (refine wpList_alloc_z rfl 62 rfl Z HI.out.1 ?_)
      | (refine wpList_build_z rfl 62 rfl Z HI.out.2.1 ?_)
      | (refine wpList_store_row rfl 62 (.tmp 4) (.tmp 10) rfl (w.heap.size + 1) Z rfl rfl 62 Z (two_blocks w _ _).2 HI.out.2.2.1 rfl HI.out.2.2.2.1 ?_))
    refine bodyPost_ret (res53 _ _ (w.heap.size + 1) Z _ rfl rfl (setRow_heap _ _ _ _ _ _ (two_blocks w _ _).2) HI.out.2.2.2.2) rfl ?_
    unfold readPost
    rw [HS.out, ← HZ.out]
    exact ⟨rfl, below_setRow (((Ext.refl w).alloc _).alloc _) (Nat.le_succ _) _⟩
  · have hdf : D.down = false := by simpa using hd
    by_cases h12 : at_ < 0 ∨ (D.kept.length : Int) ≤ at_
    · have HS := Lib.hid (show D.read at_ = (zero64, 2) by unfold Dk.read; rw [if_neg hd, if_pos h12])
      by_cases h1 : at_ < 0
      · clear h12
        go_enter Try.func53, Try.ntmps53
        go_wp2_with (first
          | (refine wpList_alloc_z rfl 62 rfl Z HI.out.1 ?_)
          | (refine wpList_build_z rfl 62 rfl Z HI.out.2.1 ?_)
          | (refine wpList_store_row rfl 62 (.tmp 4) (.tmp 20) rfl (w.heap.size + 1) Z rfl rfl 62 Z (two_blocks w _ _).2 HI.out.2.2.1 rfl HI.out.2.2.2.1 ?_))
        refine bodyPost_ret (res53 _ _ (w.heap.size + 1) Z _ rfl rfl (setRow_heap _ _ _ _ _ _ (two_blocks w _ _).2) HI.out.2.2.2.2) rfl ?_
        unfold readPost
        rw [HS.out, ← HZ.out]
        exact ⟨rfl, below_setRow (((Ext.refl w).alloc _).alloc _) (Nat.le_succ _) _⟩
      · have h2 : (D.kept.length : Int) ≤ at_ := by omega
        clear h12
        go_enter Try.func53, Try.ntmps53
        go_wp2_with (first
          | (refine wpList_alloc_z rfl 62 rfl Z HI.out.1 ?_)
          | (refine wpList_build_z rfl 62 rfl Z HI.out.2.1 ?_)
          | (refine wpList_store_row rfl 62 (.tmp 4) (.tmp 20) rfl (w.heap.size + 1) Z rfl rfl 62 Z (two_blocks w _ _).2 HI.out.2.2.1 rfl HI.out.2.2.2.1 ?_))
        refine bodyPost_ret (res53 _ _ (w.heap.size + 1) Z _ rfl rfl (setRow_heap _ _ _ _ _ _ (two_blocks w _ _).2) HI.out.2.2.2.2) rfl ?_
        unfold readPost
        rw [HS.out, ← HZ.out]
        exact ⟨rfl, below_setRow (((Ext.refl w).alloc _).alloc _) (Nat.le_succ _) _⟩
    · obtain ⟨a, rfl⟩ : ∃ a : Nat, at_ = (a : Int) := ⟨at_.toNat, by omega⟩
      have ha : a < D.kept.length := by omega
      have h2 : ¬ (D.kept.length : Int) ≤ (a : Int) := by omega
      have HS := Lib.hid (outAt_read D a hdf ha)
      have HO0 := Lib.hid (show outAt D a 0 = D.kept[a] by unfold outAt; simp [lastAt, List.getD, ha])
      have HOL := Lib.hid (fun k => outAt_len D a k HR.out.wf ha)
      obtain ⟨kb, rfl, -, hkl, hkr, -⟩ := HKK.out a ha
      have hk64 : (byteVals D.kept[a]).length = 64 := by rw [byteVals_length]; exact HR.out.wf.kept _ (List.getElem_mem ha)
      have hi64 := Lib.hid (show (Try.prog.info? 62).map (·.size) = some (byteVals D.kept[a]).length by rw [hk64]; exact Try.info62)
      obtain ⟨C0, hC0⟩ : ∃ C0 : Array Value, C0 = #[.slice (some ⟨kb, 0, none⟩) D.kept.length kcap, .slice ca D.cache.length ccap, .bool false, .int .i64 D.fate, .int .u64 kp, .int .i64 D.steps] := ⟨_, rfl⟩
      have HC0 := Lib.hid hC0
      have XW := Lib.hid (((Ext.refl w).alloc (.cells C0 76)).alloc (.cells Z 62))
      have TB := Lib.hid (two_blocks w (.cells C0 76) (.cells Z 62))
      have KR := Lib.hid (range_keep hkr (XW.out.block kb hkl))
      rw [hC0] at XW TB KR
      clear h12 hd hkr hC0
      go_enter Try.func53, Try.ntmps53
      go_upto_region 5 with (first
        | (refine wpList_alloc_z rfl 62 rfl Z HI.out.1 ?_)
        | (refine wpList_build_z rfl 62 rfl Z HI.out.2.1 ?_))
      have hsz2 : ((w.alloc (.cells #[.slice (some ⟨kb, 0, none⟩) D.kept.length kcap, .slice ca D.cache.length ccap, .bool false, .int .i64 D.fate, .int .u64 kp, .int .i64 D.steps] 76)).alloc (.cells Z 62)).heap.size = w.heap.size + 1 + 1 := by simp
      have c0 : ((w.alloc (.cells #[.slice (some ⟨kb, 0, none⟩) D.kept.length kcap, .slice ca D.cache.length ccap, .bool false, .int .i64 D.fate, .int .u64 kp, .int .i64 D.steps] 76)).alloc (.cells Z 62)).cell? ⟨w.heap.size, 0, none⟩ = some (.slice (some ⟨kb, 0, none⟩) D.kept.length kcap) := by rw [cell_of_row _ _ _ _ _ _ TB.out.1]; rfl
      generalize (w.alloc (.cells #[.slice (some ⟨kb, 0, none⟩) D.kept.length kcap, .slice ca D.cache.length ccap, .bool false, .int .i64 D.fate, .int .u64 kp, .int .i64 D.steps] 76)).alloc (.cells Z 62) = W2 at *
      have hb1 := Lib.hid (((Ext.refl W2).alloc (.cells (byteVals D.kept[a]).toArray 62)).keep TB.out.1)
      have hb2 := Lib.hid (((Ext.refl W2).alloc (.cells (byteVals D.kept[a]).toArray 62)).keep TB.out.2)
      have hb3 := Lib.hid (heap_alloc_new W2 (.cells (byteVals D.kept[a]).toArray 62))
      have XW3 := Lib.hid (XW.out.alloc (.cells (byteVals D.kept[a]).toArray 62))
      have HSZ2 := Lib.hid hsz2
      clear hsz2
      go_wp2_with (first
        | (refine wpList_load_mid rfl 62 (.tmp 24) rfl kb (a * 64) rfl (byteVals D.kept[a]) _ KR.out Try.underlying62 rfl hi64.out ?_)
        | (refine wpList_alloc_z rfl 62 rfl Z HI.out.1 ?_)
        | (refine wpList_store_new rfl 62 (.tmp 6) (.tmp 25) rfl W2 62 Z _ rfl rfl hi64.out (by rw [HI.out.2.2.2.2]; simp [hk64]) (all_oneCell_toArray (byteVals_oneCell _)) ?_))
      rw [← HC0.out] at hb1
      have hsm : D.cache.length ≤ 9223372036854775807 := by omega
      clear KR XW TB c0 hi64 hk64
      go_loopw [7] (fun i wr => RRead w W2.heap.size a C0 Z D i wr) (fun i _ => D.cache.length - (intOf i).toNat)
      case atStart => exact ⟨0, rfl, Nat.zero_le _, XW3, hb1, hb2, by rw [HO0.out]; exact hb3⟩
      clear hb1 hb2 hb3 XW3
      case round =>
        obtain ⟨k, rfl, hk, hx, hb1, hb2, hb3⟩ := hrel
        have q1 : wr.cell? ⟨w.heap.size, 1, none⟩ = some (.slice ca D.cache.length ccap) := by rw [cell_of_row _ _ _ _ _ _ hb1.out, HC0.out]; rfl
        by_cases hlt : k < D.cache.length
        · obtain ⟨cb, rfl, hcb, hr, hr1, hr2⟩ := HCC.out k hlt
          have hos := outAt_succ D a k hlt
          have hcl2 := HR.out.wf.cache _ (List.getElem_mem hlt)
          generalize D.cache[k] = c at *
          obtain ⟨cx, sv⟩ := c
          simp only at hr1 hr2 hos hcl2
          have e1 := hx.out.cell hr1
          have E2 := Lib.hid (range_keep hr2 (hx.out.block cb hcb))
          clear hr hr1 hr2
          by_cases heq : cx = a
          · subst heq
            rw [if_pos rfl] at hos
            have hs6 := Lib.hid (show (Try.prog.info? 62).map (·.size) = some (byteVals sv).length by rw [byteVals_length, hcl2.2]; exact Try.info62)
            have HOLD := Lib.hid (show (byteVals (outAt D cx k)).toArray.size = (byteVals sv).toArray.size by simp [byteVals_length, hcl2.2, HOL.out k])
            have hn1 : w.heap.size ≠ W2.heap.size := by have := HSZ2.out; omega
            have hn2 : w.heap.size + 1 ≠ W2.heap.size := by have := HSZ2.out; omega
            have Y1 := Lib.hid (below_setRow hx.out (show w.heap.size ≤ W2.heap.size by have := HSZ2.out; omega) (byteVals sv).toArray)
            have Y2 := Lib.hid ((setRow_other wr W2.heap.size w.heap.size (byteVals sv).toArray hn1).trans hb1.out)
            have Y3 := Lib.hid ((setRow_other wr W2.heap.size (w.heap.size + 1) (byteVals sv).toArray hn2).trans hb2.out)
            have Y4 := Lib.hid (setRow_heap wr W2.heap.size _ (byteVals sv).toArray 62 (0, 0) hb3.out)
            have HOS := Lib.hid hos
            clear hos hn1 hn2
            go_wp2_with (first
              | (refine wpList_load_mid rfl 62 (.tmp 45) rfl cb (k * 65 + 1) rfl (byteVals sv) _ E2.out Try.underlying62 rfl hs6.out ?_)
              | (refine wpList_store_row rfl 62 (.tmp 6) (.tmp 46) rfl W2.heap.size (byteVals sv).toArray rfl rfl 62 _ hb3.out hs6.out HOLD.out (all_oneCell_toArray (byteVals_oneCell _)) ?_))
            go_roundw
            case rel => exact ⟨k + 1, by go_num, by omega, Y1, Y2, Y3, by rw [HOS.out]; exact Y4⟩
            case measure => simp [intOf]; omega
          · rw [if_neg heq] at hos
            have hq : ((cx : Int) == (a : Int)) = false := by rw [beq_eq_false_iff_ne]; omega
            have HOS := Lib.hid hos
            clear hos heq
            go_wp2_with fail
            go_roundw
            case rel => exact ⟨k + 1, by go_num, by omega, hx, hb1, hb2, by rw [HOS.out]; exact hb3⟩
            case measure => simp [intOf]; omega
        · obtain rfl : k = D.cache.length := by omega
          have hs6 := Lib.hid (show (Try.prog.info? 62).map (·.size) = some (byteVals (outAt D a D.cache.length)).toArray.size by rw [List.size_toArray, byteVals_length, HOL.out]; exact Try.info62)
          have HSO := Lib.hid (show Z.size = (byteVals (outAt D a D.cache.length)).toArray.size by rw [HI.out.2.2.2.2]; simp [byteVals_length, HOL.out])
          have HSF := Lib.hid (show (byteVals (outAt D a D.cache.length)).toArray.size = 64 by simp [byteVals_length, HOL.out])
          have HW := Lib.hid (below_setRow hx.out (Nat.le_succ w.heap.size) (byteVals (outAt D a D.cache.length)).toArray)
          generalize outAt D a D.cache.length = ov at *
          go_wp2_with (first
            | (refine wpList_load_row rfl 62 (.tmp 6) rfl W2.heap.size rfl 62 (byteVals ov).toArray (0, 0) _ hb3.out Try.underlying62 rfl hs6.out ?_)
            | (refine wpList_store_row rfl 62 (.tmp 4) (.tmp 47) rfl (w.heap.size + 1) (byteVals ov).toArray rfl rfl 62 _ hb2.out hs6.out HSO.out (all_oneCell_toArray (byteVals_oneCell _)) ?_))
          refine bodyPost_ret (res53 _ _ (w.heap.size + 1) _ _ rfl rfl (setRow_heap _ _ _ _ _ _ hb2.out) HSF.out) rfl ?_
          unfold readPost
          rw [HS.out]
          exact ⟨rfl, HW.out⟩
end Go.Proofs.Ytgkoblgpadpcjaa
