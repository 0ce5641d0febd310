/- The document's disk: Flush. -/
import Derived.Test.YtgkoblgpadpcjaaDiskG
namespace Go.Proofs.Ytgkoblgpadpcjaa
open Go.RowKit

theorem lay_congr (p q : Nat → Bool) (h : ∀ i, p i = q i) : ∀ (c : List (Nat × List UInt8)) (i : Nat) (k : List (List UInt8)), lay p c i k = lay q c i k
  | [], _, _ => rfl
  | x :: r, i, k => by rw [lay, lay, h, lay_congr p q h r]
theorem bit_all (i : Nat) : bitOf 18446744073709551615 i = true := by
  unfold bitOf
  have h : i % 64 < 64 := Nat.mod_lt _ (by decide)
  generalize i % 64 = j at h
  rw [show (18446744073709551615 : Nat) = 2 ^ 64 - 1 from rfl, Nat.testBit_two_pow_sub_one]
  simpa using h
theorem crash_all (E : Dk) : (E.crash 18446744073709551615).kept = E.flushed.kept := lay_congr _ _ bit_all _ _ _
theorem step_cache (D : Dk) : (Dk.step D).1.cache.length ≤ D.cache.length := by
  unfold Dk.step
  split
  · split
    · exact Nat.zero_le _
    · exact Nat.le_refl _
  · exact Nat.le_refl _
theorem ext_setCell {w W : World} (h : Ext w W) (N i : Nat) (u : Value) (hN : w.heap.size ≤ N) : Ext w (W.setCell ⟨N, i, none⟩ u) :=
  ⟨h.os, h.tape, h.output, by simp [World.setCell]; exact h.size, fun k hk => (Below.heap_setCell W _ _ k (by show k ≠ N; omega)).trans (h.block k hk)⟩
def RFlushPost (D : Dk) (w : World) (e : Ending) (w' : World) : Prop :=
  ∃ v, e = .returned (.tuple #[v, .int .i64 (D.flush).2]) ∧ Ext w w' ∧ Ref w' v (D.flush).1
theorem Try.results50 : Try.f50.results = #[.cell 2 76, .tmp 3] := by kernel_rfl
set_option maxRecDepth 100000 in
set_option maxHeartbeats 2000000 in
theorem RFlush_any (D : Dk) (kv cv : Value) (kp : Nat) (w : World) (h : RefIs w kv cv kp D) (hcl : D.cache.length ≤ 500000000) (hs : D.steps ≤ 1000000000) :
    Calls Try.prog 50 #[.agg #[kv, cv, .bool D.down, .int .i64 D.fate, .int .u64 kp, .int .i64 D.steps]] w (RFlushPost D w) := by
  have HR := Lib.hid h
  obtain ⟨ka, kcap, rfl, hk1, hk2⟩ := own_form h.kept
  obtain ⟨ca, ccap, rfl, hc1, hc2⟩ := own_form h.cache
  clear h
  by_cases hd : D.down = true
  · have HS := Lib.hid (show D.flush = (D, 3) by unfold Dk.flush; rw [if_pos hd])
    go_enter Try.func50, Try.ntmps50
    go_wp2_with fail
    refine bodyPost_ret (res_two Try.results50 _ _ (w.heap.size + 1) _ _ rfl rfl (two_blocks w _ _).2 rfl) rfl ?_
    unfold RFlushPost
    rw [HS.out]
    exact ⟨_, rfl, ((Ext.refl w).alloc _).alloc _, _, _, kp, by rw [hd], HR.out.ext (((Ext.refl w).alloc _).alloc _)⟩
  · have hdf : D.down = false := by simpa using hd
    have HS := Lib.hid (show D.flush = if (Dk.step D).2 then ((Dk.step D).1.flushed, 0) else ((Dk.step D).1, 3) by unfold Dk.flush; rw [if_neg hd])
    have hst := RStep_any D (.slice ka D.kept.length kcap) (.slice ca D.cache.length ccap) kp _ (HR.out.ext (((Ext.refl w).alloc (.cells #[.slice ka D.kept.length kcap, .slice ca D.cache.length ccap, .bool false, .int .i64 D.fate, .int .u64 kp, .int .i64 D.steps] 76)).alloc (.cells #[.slice none 0 0, .slice none 0 0, .bool false, .int .i64 0, .int .u64 0, .int .i64 0] 76))) (by omega) hs
    rw [hdf] at hst
    have HST := Lib.hid hst
    clear hst hd
    go_enter Try.func50, Try.ntmps50
    go_wp2_with fail
    refine HST.out.mono ?_
    rintro e w2 ⟨v, rfl, x2, r2⟩
    obtain ⟨kv2, cv2, kp2, rfl, r2⟩ := r2
    obtain ⟨ka2, kcap2, rfl, hk3, hk4⟩ := own_form r2.kept
    obtain ⟨ca2, ccap2, rfl, hc3, hc4⟩ := own_form r2.cache
    have hcE : (Dk.step D).1.cache.length ≤ 500000000 := Nat.le_trans (step_cache D) hcl
    generalize Dk.step D = st at *
    obtain ⟨E, b⟩ := st
    simp only at r2 HS hk3 hk4 hc3 hc4 hcE ⊢
    have X2 := Lib.hid (Ext.trans (((Ext.refl w).alloc _).alloc _) x2)
    have B2 := Lib.hid (x2.keep (two_blocks w _ _).2)
    have R2 := Lib.hid r2
    clear x2 r2 HST
    obtain ⟨R0, hR0⟩ : ∃ R0 : Array Value, R0 = #[.slice ka2 E.kept.length kcap2, .slice ca2 E.cache.length ccap2, .bool E.down, .int .i64 E.fate, .int .u64 kp2, .int .i64 E.steps] := ⟨_, rfl⟩
    have HR0 := Lib.hid hR0
    cases b
    · have HI6 : Hid ((Try.prog.info? 76).map (·.size) = some R0.size) := by rw [hR0]; exact Try.info76
      have HAL : Hid (R0.all (·.oneCell') = true) := by rw [hR0]; exact six_one _ _ _ _ _ _ _ _ _ _
      have HSZ : Hid (R0.size = 6) := by rw [hR0]; exact rfl
      have X3 := Lib.hid (below_setRow (X2.out.alloc (.cells R0 76)) (show w.heap.size ≤ w.heap.size + 1 by omega) R0)
      have B4 := Lib.hid (((Ext.refl w2).alloc (.cells R0 76)).keep B2.out)
      have R4 := Lib.hid ((R2.out.ext ((Ext.refl w2).alloc (.cells R0 76))).setRow (w.heap.size + 1) R0 B4.out)
      rw [← hR0]
      clear hR0
      go_wp2_with (first
        | (refine wpList_store_new rfl 76 (.tmp 4) (.tmp 13) rfl w2 76 _ R0 rfl rfl HI6.out HSZ.out.symm HAL.out ?_)
        | (refine wpList_load_row rfl 76 (.tmp 4) rfl w2.heap.size rfl 76 R0 (0, 0) _ (heap_alloc_new w2 _) Try.underlying76 rfl HI6.out ?_)
        | (refine wpList_store_row rfl 76 (.tmp 2) (.tmp 17) rfl (w.heap.size + 1) R0 rfl rfl 76 _ B4.out HI6.out HSZ.out.symm HAL.out ?_))
      refine bodyPost_ret (res_two Try.results50 _ _ (w.heap.size + 1) R0 _ rfl rfl (setRow_heap _ _ _ _ _ _ B4.out) HSZ.out) rfl ?_
      unfold RFlushPost
      rw [HS.out]
      exact ⟨_, rfl, X3.out, _, _, kp2, by rw [HR0.out]; rfl, R4.out⟩
    · have X3 := Lib.hid ((Ext.refl w2).alloc (.cells R0 76))
      have B3 := Lib.hid (heap_alloc_new w2 (.cells R0 76))
      rw [hR0] at X3 B3
      clear hR0
      go_wp2_with fail
      refine (RCrash_any E _ _ kp2 18446744073709551615 _ (R2.out.ext X3.out) (by decide) (by omega)).mono ?_
      rintro e w3 ⟨v3, rfl, x3, r3⟩
      obtain ⟨kv3, cv3, kp3, rfl, r3⟩ := r3
      obtain ⟨ka3, kcap3, rfl, hk5, hk6⟩ := own_form r3.kept
      obtain ⟨ca3, ccap3, rfl, -, -⟩ := own_form r3.cache
      have XC := Lib.hid (X2.out.trans (X3.out.trans x3))
      have B5 := Lib.hid (x3.keep B3.out)
      have B6 := Lib.hid ((X3.out.trans x3).keep B2.out)
      have K3 := Lib.hid r3.kept
      have R3 := Lib.hid (R2.out.ext (X3.out.trans x3))
      clear x3 r3
      go_upto_region 7 with fail
      have HKC := Lib.hid (crash_all E)
      have hkl := congrArg List.length HKC.out
      obtain ⟨F, hF⟩ : ∃ F, F = E.crash 18446744073709551615 := ⟨_, rfl⟩
      rw [← hF] at HKC hkl K3 hk5 ⊢
      clear hF
      have XN := Lib.hid ((Ext.refl w3).alloc (.cells #[.slice ka3 F.kept.length kcap3, .slice ca3 F.cache.length ccap3, .bool F.down, .int .i64 F.fate, .int .u64 kp3, .int .i64 F.steps] 76))
      have qa := cell_new0 w3 #[.slice ka3 F.kept.length kcap3, .slice ca3 F.cache.length ccap3, .bool F.down, .int .i64 F.fate, .int .u64 kp3, .int .i64 F.steps] 76 0
      generalize w3.alloc (.cells #[.slice ka3 F.kept.length kcap3, .slice ca3 F.cache.length ccap3, .bool F.down, .int .i64 F.fate, .int .u64 kp3, .int .i64 F.steps] 76) = W4 at *
      have b5 := XN.out.keep B5.out
      have b6 := XN.out.keep B6.out
      have hN : w.heap.size + 1 < w2.heap.size := (Array.getElem?_eq_some_iff.1 B2.out).1
      obtain ⟨N, hNe⟩ : ∃ N, N = w2.heap.size := ⟨_, rfl⟩
      rw [← hNe] at b5 hN ⊢
      have qb : W4.cell? ⟨N, 0, none⟩ = some (.slice ka2 E.kept.length kcap2) := by rw [cell_of_row _ _ _ _ _ _ b5]; rfl
      have qb1 : W4.cell? ⟨N, 1, none⟩ = some (.slice ca2 E.cache.length ccap2) := by rw [cell_of_row _ _ _ _ _ _ b5]; rfl
      have qf : W4.frozen? ⟨N, 0, none⟩ = false := by simp [World.frozen?, b5]
      have qf1 : W4.frozen? ⟨N, 1, none⟩ = false := by simp [World.frozen?, b5]
      have B7 := Lib.hid (setCell_get _ N 1 (.slice none 0 0) _ _ _ (setCell_get W4 N 0 (.slice ka3 F.kept.length kcap3) _ _ _ b5))
      have B8 := Lib.hid ((Below.heap_setCell (W4.setCell ⟨N, 0, none⟩ (.slice ka3 F.kept.length kcap3)) ⟨N, 1, none⟩ (.slice none 0 0) (w.heap.size + 1) (by show w.heap.size + 1 ≠ N; omega)).trans ((Below.heap_setCell W4 ⟨N, 0, none⟩ (.slice ka3 F.kept.length kcap3) (w.heap.size + 1) (by show w.heap.size + 1 ≠ N; omega)).trans b6))
      have X5 := Lib.hid (ext_setCell (ext_setCell (XC.out.trans XN.out) N 0 (.slice ka3 F.kept.length kcap3) (by omega)) N 1 (.slice none 0 0) (by omega))
      have K5 := Lib.hid (own_setCell (i := 1) (u := .slice none 0 0) (own_setCell (i := 0) (u := .slice ka3 F.kept.length kcap3) (own_ext K3.out XN.out) b5 (by decide)) (setCell_get W4 N 0 (.slice ka3 F.kept.length kcap3) _ _ _ b5) (by decide))
      have HQ := Lib.hid hkl
      clear b5 b6 hNe hkl
      obtain ⟨R7, hR7⟩ : ∃ R7 : Array Value, R7 = #[.slice ka3 F.kept.length kcap3, .slice none 0 0, .bool E.down, .int .i64 E.fate, .int .u64 kp2, .int .i64 E.steps] := ⟨_, rfl⟩
      have HR7 := Lib.hid hR7
      have HI6 : Hid ((Try.prog.info? 76).map (·.size) = some R7.size) := by rw [hR7]; exact Try.info76
      have HAL : Hid (R7.all (·.oneCell') = true) := by rw [hR7]; exact six_one _ _ _ _ _ _ _ _ _ _
      have HSZ : Hid (R7.size = 6) := by rw [hR7]; exact rfl
      have B9 : Hid ((((W4.setCell ⟨N, 0, none⟩ (.slice ka3 F.kept.length kcap3)).setCell ⟨N, 1, none⟩ (.slice none 0 0))).heap[N]? = some (.cells R7 76 (0, 0))) := by rw [hR7]; exact B7.out
      clear hR7 B7
      go_wp2_with (first
        | (refine wpList_load_row rfl 76 (.tmp 4) rfl N rfl 76 R7 (0, 0) _ B9.out Try.underlying76 rfl HI6.out ?_)
        | (refine wpList_store_row rfl 76 (.tmp 2) (.tmp 24) rfl (w.heap.size + 1) R7 rfl rfl 76 _ B8.out HI6.out HSZ.out.symm HAL.out ?_))
      refine bodyPost_ret (res_two Try.results50 _ _ (w.heap.size + 1) R7 _ rfl rfl (setRow_heap _ _ _ _ _ _ B8.out) HSZ.out) rfl ?_
      unfold RFlushPost
      rw [HS.out]
      refine ⟨_, rfl, below_setRow X5.out (by omega) _, _, _, kp2, by rw [HR7.out]; rfl, ?_, World.ownsRow_nil _ _ _ _, R2.out.keeps, R2.out.same, R2.out.wf.flushed⟩
      have := own_setRow (R0 := R7) K5.out B8.out (by decide)
      show World.ownsRow _ _ _ _ _ E.flushed.kept.length (flatK E.flushed.kept)
      rw [← HKC.out]
      exact this
end Go.Proofs.Ytgkoblgpadpcjaa
