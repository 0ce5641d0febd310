/- A disk's small functions. -/
import Derived.Test.YtgkoblgpadpcjaaDiskM
import Derived.Deep.RegionHeld3
namespace Go.Proofs.Ytgkoblgpadpcjaa
open Go.RowKit

def dptr (g : Nat) : Value := .pointer (some ⟨g, 0, none⟩)
theorem Len_any (base g kb : Nat) (D : Dk) (w : World) (h : Disk base w g kb D) :
    Calls Try.prog 42 #[.pointer (some ⟨g, 0, none⟩)] w fun e w' => e = .returned (.int .i64 D.kept.length) ∧ w = w' := by
  obtain ⟨cv, h⟩ := h
  obtain ⟨c0, c1, c2, c3, c4, c5, hf⟩ := h.open
  have hm := h.wf.most
  clear h hf
  go_enter Try.func42, Try.ntmps42
  go_wp2_with fail
  go_ret
  exact ⟨rfl, rfl⟩
theorem Steps_any (base g kb : Nat) (D : Dk) (w : World) (h : Disk base w g kb D) :
    Calls Try.prog 46 #[.pointer (some ⟨g, 0, none⟩)] w fun e w' => e = .returned (.int .i64 D.steps) ∧ w = w' := by
  obtain ⟨cv, h⟩ := h
  obtain ⟨c0, c1, c2, c3, c4, c5, hf⟩ := h.open
  clear h hf
  go_enter Try.func46, Try.ntmps46
  go_wp2_with fail
  go_ret
  exact ⟨rfl, rfl⟩
theorem Down_any (base g kb : Nat) (D : Dk) (w : World) (h : Disk base w g kb D) :
    Calls Try.prog 47 #[.pointer (some ⟨g, 0, none⟩)] w fun e w' => e = .returned (.bool D.down) ∧ w = w' := by
  obtain ⟨cv, h⟩ := h
  obtain ⟨c0, c1, c2, c3, c4, c5, hf⟩ := h.open
  clear h hf
  go_enter Try.func47, Try.ntmps47
  go_wp2_with fail
  go_ret
  exact ⟨rfl, rfl⟩
theorem On_any (base g kb : Nat) (D : Dk) (w : World) (h : Disk base w g kb D) :
    Calls Try.prog 45 #[.pointer (some ⟨g, 0, none⟩)] w fun e w' => (∃ v, e = .returned v) ∧ DOnly base g kb w w' ∧ Disk base w' g kb { D with down := false } := by
  obtain ⟨cv, h⟩ := h
  obtain ⟨c0, c1, c2, c3, c4, c5, hf⟩ := h.open
  have hf2 := hf 2
  have R := Lib.hid (h.put 2 (.bool false) { D with down := false } rfl rfl rfl (h.wf.on false))
  have O := Lib.hid ((DOnly.refl base g kb w).setG 2 (.bool false))
  clear h hf
  go_enter Try.func45, Try.ntmps45
  go_wp2_with fail
  go_end0
  exact ⟨⟨_, rfl⟩, O.out, _, R.out⟩
theorem Plan_any (base g kb : Nat) (D : Dk) (n : Int) (keeps : Nat) (w : World) (h : Disk base w g kb D) (hk : keeps < 18446744073709551616) (hn : n ≤ 9223372036854775807) :
    Calls Try.prog 52 #[.pointer (some ⟨g, 0, none⟩), .int .i64 n, .int .u64 keeps] w fun e w' => (∃ v, e = .returned v) ∧ DOnly base g kb w w' ∧ Disk base w' g kb { D with fate := n, keeps := keeps } := by
  obtain ⟨cv, h⟩ := h
  obtain ⟨c0, c1, c2, c3, c4, c5, hf⟩ := h.open
  have hf3 := hf 3
  have hf4 := hf 4
  have R := Lib.hid ((h.put 3 (.int .i64 n) { D with fate := n } rfl rfl rfl (h.wf.setFate n hn)).put 4 (.int .u64 keeps) { D with fate := n, keeps := keeps } rfl rfl rfl (h.wf.plan n keeps hk hn))
  have O := Lib.hid (((DOnly.refl base g kb w).setG 3 (.int .i64 n)).setG 4 (.int .u64 keeps))
  clear h hf
  go_enter Try.func52, Try.ntmps52
  go_wp2_with fail
  go_end0
  exact ⟨⟨_, rfl⟩, O.out, _, R.out⟩
end Go.Proofs.Ytgkoblgpadpcjaa
