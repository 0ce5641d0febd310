/- A log: Room, Left, die, read. -/
import Derived.Test.YtgkoblgpadpcjaaLogM
import Derived.Deep.CutRange
import Derived.Deep.RegionHeld3
import Derived.Deep.QuietTactic
import Derived.BigQuiet
namespace Go.Proofs.Ytgkoblgpadpcjaa
open Go.RowKit

theorem Disk.drewN {base g kb : Nat} {w : World} {D : Dk} (h : Disk base w g kb D) (m : Nat) : Disk base (w.drewN m) g kb D := by
  obtain ⟨cv, h⟩ := h; exact ⟨cv, h.same fun _ _ => rfl⟩
theorem Ext.drewN {w w' : World} (h : Ext w w') (m : Nat) : Ext w (w'.drewN m) := ⟨h.os, h.tape, h.output, h.size, h.block⟩
theorem Room_any (n : Int) (hn : n ≤ 140737488355328) (w : World) : Calls Try.prog 61 #[.int .i64 n] w fun e w' => e = .returned (.int .i64 (sectorsOf n.toNat : Nat)) ∧ w = w' := by
  by_cases h : 0 ≤ n
  · obtain ⟨k, rfl⟩ : ∃ k : Nat, n = (k : Int) := ⟨n.toNat, by omega⟩
    go_enter Try.func61, Try.ntmps61
    go_wp2_with fail
    refine (sectors_any k (by omega) _).mono ?_
    rintro e w' ⟨rfl, rfl⟩
    go_wp2_with fail
    go_ret
    exact ⟨rfl, rfl⟩
  · have e0 : n.toNat = 0 := by omega
    rw [e0]
    go_enter Try.func61, Try.ntmps61
    go_wp2_with fail
    refine (sectors_any 0 (by omega) _).mono ?_
    rintro e w' ⟨rfl, rfl⟩
    go_wp2_with fail
    go_ret
    exact ⟨rfl, rfl⟩
section
variable {base g kb l : Nat} {lv : Value} {D : Dk} {L : Lg} {w : World}
theorem LogAt.dies (h : LogAt base w g kb l lv D L) (e : Nat) : LogAt base (w.setCell ⟨l, 6, none⟩ (.bool (L.dead || e != 0))) g kb l lv D (L.die e) :=
  h.put 6 (.bool (L.dead || e != 0)) (L.die e) lv rfl h.rows h.half h.at_
end
set_option maxRecDepth 100000 in
theorem die_any (base g kb l : Nat) (lv : Value) (D : Dk) (L : Lg) (e : Nat) (w : World) (h : LogAt base w g kb l lv D L) :
    Calls Try.prog 74 #[.pointer (some ⟨l, 0, none⟩), .int .i64 (e : Int)] w fun r w' => r = .returned (.int .i64 (e : Int)) ∧ LOnly base g kb l lv.ownBlock w w' ∧ LogAt base w' g kb l lv D (L.die e) := by
  obtain ⟨c0, c1, c2, c3, c4, c5, c6, hf⟩ := h.cells
  have hf6 := hf 6
  have HD := Lib.hid (h.dies e)
  have HO : Hid (LOnly base g kb l lv.ownBlock w (w.setCell ⟨l, 6, none⟩ (.bool (L.dead || e != 0)))) := LOnly.refl.setL 6 _
  clear h hf
  cases hd : L.dead
  · have hd2 : ((e : Int) != 0) = (e != 0) := by
      by_cases he : e = 0
      · subst he; rfl
      · have h1 : (e : Int) ≠ 0 := by omega
        rw [bne_iff_ne.2 h1, bne_iff_ne.2 he]
    rw [hd] at c6 HD HO
    rw [Bool.false_or] at HD HO
    go_enter Try.func74, Try.ntmps74
    go_wp2_with fail
    go_ret
    exact ⟨rfl, HO.out, HD.out⟩
  · rw [hd] at c6 HD HO
    rw [Bool.true_or] at HD HO
    go_enter Try.func74, Try.ntmps74
    go_wp2_with fail
    go_ret
    exact ⟨rfl, HO.out, HD.out⟩
set_option maxRecDepth 100000 in
theorem Left_any (base g kb l : Nat) (lv : Value) (D : Dk) (L : Lg) (w : World) (h : LogAt base w g kb l lv D L) :
    Calls Try.prog 58 #[.pointer (some ⟨l, 0, none⟩)] w fun r w' => r = .returned (.int .i64 ((halfOf D - L.at_ : Nat) : Int)) ∧ Ext w w' := by
  obtain ⟨c0, c1, c2, c3, c4, c5, c6, hf⟩ := h.cells
  have HL := Lib.hid h
  clear h hf
  go_enter Try.func58, Try.ntmps58
  have hm := HL.out.disk.wf.most
  have ha := HL.out.at_
  have hh : halfOf D ≤ 4096 := by unfold halfOf; omega
  have hsub : IntKind.i64.wrap (((halfOf D : Nat) : Int) - (L.at_ : Int)) = ((halfOf D - L.at_ : Nat) : Int) := by rw [IntWalk.i64_in _ (by omega)]; omega
  go_upto_region 1 with fail
  go_quiet (first | ((go_at_call 72); exact Calls.quiet_of_same ((half_any base g kb D _ (Disk.drewN HL.out.disk _) (by have := HL.out.six; omega)).mono fun e w' h => ⟨h.1, h.2.symm⟩)))
  go_wp2_with fail
  go_ret
  exact ⟨rfl, (Ext.refl w).drewN nq⟩
end Go.Proofs.Ytgkoblgpadpcjaa
