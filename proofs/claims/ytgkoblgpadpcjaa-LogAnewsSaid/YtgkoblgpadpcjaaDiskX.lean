/- A disk's Flush. -/
import Derived.Test.YtgkoblgpadpcjaaDiskW
namespace Go.Proofs.Ytgkoblgpadpcjaa
open Go.RowKit

set_option maxRecDepth 100000 in
set_option maxHeartbeats 2000000 in
theorem Flush_any (base g kb : Nat) (D : Dk) (w : World) (h : Disk base w g kb D) (hs : D.steps ≤ 1000000000) (hb : base ≤ w.heap.size) :
    Calls Try.prog 41 #[.pointer (some ⟨g, 0, none⟩)] w fun e w' => e = .returned (.int .i64 (D.flush).2) ∧ DOnly base g kb w w' ∧ Disk base w' g kb (D.flush).1 := by
  have h1 := h
  obtain ⟨cv, h1⟩ := h1
  obtain ⟨c0, c1, c2, c3, c4, c5, hf⟩ := h1.open
  by_cases hd : D.down = true
  · have HS := Lib.hid (show D.flush = (D, 3) by unfold Dk.flush; rw [if_pos hd])
    have HX := Lib.hid h
    clear h h1 hf
    go_enter Try.func41, Try.ntmps41
    go_wp2_with fail
    go_ret
    rw [HS.out]
    exact ⟨rfl, DOnly.refl _ _ _ _, HX.out⟩
  · have hdf : D.down = false := by simpa using hd
    have HS := Lib.hid (show D.flush = if (Dk.step D).2 then ((Dk.step D).1.flushed, 0) else ((Dk.step D).1, 3) by unfold Dk.flush; rw [if_neg hd])
    have HST := Lib.hid (step_any base g kb D w h hs hb)
    unfold stepPost at HST
    generalize Dk.step D = st at *
    obtain ⟨E, b⟩ := st
    clear h h1 hf hd
    go_enter Try.func41, Try.ntmps41
    go_wp2_with fail
    refine HST.out.mono ?_
    rintro e w1 ⟨rfl, o1, r1⟩
    have O1 := Lib.hid o1
    have R1 := Lib.hid r1
    clear HST o1 r1 c0 c1 c2 c3 c4 c5
    cases b
    · go_wp2_with fail
      go_ret
      rw [HS.out]
      exact ⟨rfl, O1.out, R1.out⟩
    · obtain ⟨cv1, h⟩ := R1.out
      obtain ⟨c0, c1, c2, c3, c4, c5, hf⟩ := h.open
      obtain ⟨a, cap, rfl, hc1, hc2, hw⟩ := h.writes
      have H := Lib.hid h
      have hsm : E.cache.length ≤ 9223372036854775807 := by omega
      clear h hf hw
      go_wp2_with fail
      go_loopw [17] (fun i wr => ∃ k : Nat, k ≤ E.cache.length ∧ i = .int .i64 k ∧ Hid (DOnly base g kb w wr) ∧ Hid (DiskAt base wr g kb (.slice a E.cache.length cap) { E with kept := lay (fun _ => true) (E.cache.take k) 0 E.kept })) (fun i _ => E.cache.length - (intOf i).toNat)
      case atStart => exact ⟨0, Nat.zero_le _, rfl, O1, H.out⟩
      case round =>
        obtain ⟨k, hk, rfl, ho, hd⟩ := hrel
        obtain ⟨d0, d1, d2, d3, d4, d5, df⟩ := hd.out.open
        by_cases hlt : k < E.cache.length
        · obtain ⟨a', cap', e1, -, -, hw⟩ := hd.out.writes
          obtain ⟨cb, ha, hr, hr1, hr2⟩ := hw k hlt
          simp only [Value.slice.injEq] at e1
          obtain ⟨rfl, -, rfl⟩ := e1
          subst ha
          have hwf := hd.out.wf
          have hcl := hwf.cache _ (List.getElem_mem hlt)
          have HLS := Lib.hid (lay_take_succ (fun _ => true) E.cache 0 k E.kept hlt)
          have HD := Lib.hid (hd.out.ext ((Ext.refl _).alloc (.cells (wvals E.cache[k]).toArray 113)))
          have HO := Lib.hid (ho.out.ext ((Ext.refl _).alloc (.cells (wvals E.cache[k]).toArray 113)))
          generalize E.cache[k] = c at *
          obtain ⟨ca, sv⟩ := c
          obtain ⟨hca, hsv⟩ := hcl
          have HR := Lib.hid hr
          have hlw : (wvals (ca, sv)).length = 65 := wvals_len hsv
          have hl65 := Lib.hid (show (Try.prog.info? 113).map (·.size) = some (wvals (ca, sv)).length by rw [hlw]; exact Try.info113)
          have h1w := Lib.hid (wvals_one (ca, sv))
          have HLW := Lib.hid hlw
          clear df hw hr hr2 hlw hwf
          rw [if_pos rfl] at HLS
          go_upto_region 8 with (first
            | (refine wpList_load_mid rfl 113 (.tmp 19) rfl cb (k * 65) rfl (wvals (ca, sv)) _ HR.out Try.underlying113 rfl hl65.out ?_)
            | (refine wpList_store_new rfl 113 (.tmp 4) (.tmp 20) rfl wr 113 _ _ rfl rfl hl65.out (by rw [zc113]; simp [HLW.out]) (all_oneCell_toArray h1w.out) ?_))
          generalize lay (fun _ => true) (List.take k E.cache) 0 E.kept = kl at *
          have e0 := HD.out.open.1
          have e1 := wvals_first wr ca sv
          have e2 := wvals_range wr ca sv
          have e3 := HD.out.there ca hca
          have hbl : (byteVals sv).length = 64 := by rw [byteVals_length]; exact hsv
          have hu := Try.underlying63
          have hi : (Try.prog.info? 63).map (·.size) = some (byteVals sv).length := by rw [hbl]; exact Try.info63
          have h1b := byteVals_oneCell sv
          have hb0 : (0 : Int) ≤ (ca : Int) := by omega
          have hb1 : (ca : Int) < (kl.length : Int) := by simp at hca; omega
          have hkl4 : kl.length ≤ 4096 := HD.out.wf.most
          simp only at e0
          generalize hWE : wr.alloc (.cells (wvals (ca, sv)).toArray 113) = W5 at *
          have HWE := Lib.hid hWE
          have hca0 : ca < kl.length := hca
          clear hWE d0 d1 d2 d3 d4 d5 c0 c1 c2 c3 c4 c5 hr1 hca
          have KS := Lib.hid (Sk.store (g := g) (kb := kb) (B := wr.heap.size) (n := kl.length) ⟨e0, e1, e2, e3⟩ HD.out.ne (by have := hd.out.lt kb (.inr (.inl rfl)); omega))
          have HK := Lib.hid (HD.out.drew.store ca sv hca0 hsv)
          have HOK := Lib.hid (HO.out.drew.setK (ca * 64) (byteVals sv))
          go_region_held3 (fun W => W.cell? ⟨g, 0, none⟩ = some (.slice (some ⟨kb, 0, none⟩) kl.length kl.length) ∧ W.cell? ⟨wr.heap.size, 0, none⟩ = some (.int .i64 ca) ∧ W.rangeAt wr.heap.size 1 (byteVals sv) ∧ W.there kb (ca * 64) 64)
            (first | exact KS.out | go_keep_ranges) (fail)
          all_goals go_wp2_with fail
          all_goals go_roundw
          case rel => exact ⟨k + 1, by omega, by go_num, HOK, by rw [HLS.out]; exact HK⟩
          case measure => simp [intOf]; omega
        · have df1 := df 1
          have hkl : k = E.cache.length := by omega
          subst hkl
          rw [List.take_length] at hd
          have R := Lib.hid hd.out.wipe
          have O := Lib.hid (ho.out.setG 1 (.slice none 0 0))
          clear df hd
          go_wp2_with fail
          go_ret
          rw [HS.out]
          exact ⟨rfl, O.out, _, R.out⟩
end Go.Proofs.Ytgkoblgpadpcjaa
