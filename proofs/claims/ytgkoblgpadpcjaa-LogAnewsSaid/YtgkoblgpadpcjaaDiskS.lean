/- A disk's step. -/
import Derived.Test.YtgkoblgpadpcjaaDiskC
namespace Go.Proofs.Ytgkoblgpadpcjaa
open Go.RowKit

def stepPost (base g kb : Nat) (D : Dk) (w : World) (e : Ending) (w' : World) : Prop :=
  e = .returned (.bool (Dk.step D).2) ∧ DOnly base g kb w w' ∧ Disk base w' g kb (Dk.step D).1
theorem Wf.stepped {D : Dk} (h : Wf D) : Wf (Dk.step D).1 := by
  unfold Dk.step
  have hf := h.fate
  split
  · split
    · exact (h.more.setFate 0 (by omega)).crash _
    · exact h.more.setFate _ (by omega)
  · exact h.more
set_option maxRecDepth 100000 in
set_option maxHeartbeats 2000000 in
theorem step_any (base g kb : Nat) (D : Dk) (w : World) (h : Disk base w g kb D) (hs : D.steps ≤ 1000000000) (hb : base ≤ w.heap.size) :
    Calls Try.prog 66 #[.pointer (some ⟨g, 0, none⟩)] w (stepPost base g kb D w) := by
  obtain ⟨cv, h⟩ := h
  obtain ⟨c0, c1, c2, c3, c4, c5, hf⟩ := h.open
  have hf5 := hf 5
  have hf3 := hf 3
  have hfate := h.wf.fate
  have H5 := h.put 5 (.int .i64 ((D.steps : Int) + 1)) { D with steps := D.steps + 1 } rfl rfl rfl h.wf.more
  have O5 := Lib.hid ((DOnly.refl base g kb w).setG 5 (.int .i64 ((D.steps : Int) + 1)))
  have R5 := Lib.hid H5
  by_cases h1 : 0 < D.fate
  · obtain ⟨d0, d1, d2, d3, d4, d5, df⟩ := H5.open
    have df3 := df 3
    have H3 := H5.put 3 (.int .i64 (D.fate - 1)) { D with steps := D.steps + 1, fate := D.fate - 1 } rfl rfl rfl (h.wf.more.setFate _ (by omega))
    obtain ⟨e0, e1, e2, e3, e4, e5, ef⟩ := H3.open
    have O3 := Lib.hid (O5.out.setG 3 (.int .i64 (D.fate - 1)))
    have R3 := Lib.hid H3
    by_cases h2 : D.fate = 1
    · have hz : D.fate - 1 = 0 := by omega
      have HS := Lib.hid (show (Dk.step D) = (Dk.crash { D with steps := D.steps + 1, fate := 0 } D.keeps, false) by unfold Dk.step; rw [if_pos h1, if_pos h2])
      rw [hz] at R3 O3
      have hkp := Lib.hid h.wf.keeps
      simp only at d0 d1 d2 d3 d4 d5 e0 e1 e2 e3 e4 e5
      clear h hf H5 H3 df ef
      go_enter Try.func66, Try.ntmps66
      go_wp2_with fail
      refine (Crash_any base g kb { D with steps := D.steps + 1, fate := 0 } D.keeps _ ⟨_, R3.out⟩ hkp.out (by simp [World.setCell]; omega)).mono ?_
      rintro e w3 ⟨⟨v, rfl⟩, o3, r3⟩
      have OO := Lib.hid (O3.out.trans o3)
      have RR := Lib.hid r3
      clear o3 r3
      go_wp2_with fail
      go_ret
      unfold stepPost
      rw [HS.out]
      exact ⟨rfl, OO.out, RR.out⟩
    · have HS := Lib.hid (show (Dk.step D) = ({ D with steps := D.steps + 1, fate := D.fate - 1 }, true) by unfold Dk.step; rw [if_pos h1, if_neg h2])
      have hne : (D.fate - 1 == 0) = false := by simp; omega
      simp only at d0 d1 d2 d3 d4 d5 e0 e1 e2 e3 e4 e5
      clear h hf H5 H3 df ef
      go_enter Try.func66, Try.ntmps66
      go_wp2_with fail
      go_ret
      unfold stepPost
      rw [HS.out]
      exact ⟨rfl, O3.out, _, R3.out⟩
  · have HS := Lib.hid (show (Dk.step D) = ({ D with steps := D.steps + 1 }, true) by unfold Dk.step; rw [if_neg h1])
    obtain ⟨d0, d1, d2, d3, d4, d5, df⟩ := H5.open
    simp only at d0 d1 d2 d3 d4 d5
    clear h hf H5 df
    go_enter Try.func66, Try.ntmps66
    go_wp2_with fail
    go_ret
    unfold stepPost
    rw [HS.out]
    exact ⟨rfl, O5.out, _, R5.out⟩
end Go.Proofs.Ytgkoblgpadpcjaa
