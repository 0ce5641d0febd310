/- The laws on sums: the walks. -/
import Derived.Test.YtgkoblgpadpcjaaRefCrc
import Derived.Test.YtgkoblgpadpcjaaCrcLaw
import Derived.Lib.SmallJoins
namespace Go.Proofs.Ytgkoblgpadpcjaa
open Go.RowKit

def l1234 : List UInt8 := [49, 50, 51, 52]
def l56789 : List UInt8 := [53, 54, 55, 56, 57]
theorem crc_example : crcOf (List.flatten [l1234, l56789]) = 3421780262 := by decide +kernel

set_option maxRecDepth 100000 in
theorem alive_any (w : World) : Calls Try.prog 17 #[] w fun e w' => e = .returned (.bool true) ∧ Below w.heap.size w w' := by
  have b1 := Bytes.lit w #[.int .u8 49, .int .u8 50, .int .u8 51, .int .u8 52] l1234 5 rfl 4 (by decide) (by decide) 4 rfl (4, 5)
  generalize hw1 : w.alloc (.cells #[.int .u8 49, .int .u8 50, .int .u8 51, .int .u8 52] 5 (4, 5)) = w1 at b1
  have b2 := Bytes.lit w1 #[.int .u8 53, .int .u8 54, .int .u8 55, .int .u8 56, .int .u8 57] l56789 5 rfl 5 (by decide) (by decide) 5 rfl (5, 6)
  have b1' := b1.alloc (.cells #[.int .u8 53, .int .u8 54, .int .u8 55, .int .u8 56, .int .u8 57] 5 (5, 6))
  have hs1 : w1.heap.size = w.heap.size + 1 := by subst hw1; simp
  have bel1 : Below w.heap.size w w1 := by subst hw1; exact (Below.refl _ _).alloc (Nat.le_refl _) _
  generalize hw2 : w1.alloc (.cells #[.int .u8 53, .int .u8 54, .int .u8 55, .int .u8 56, .int .u8 57] 5 (5, 6)) = w2 at b2 b1'
  have hs2 : w2.heap.size = w.heap.size + 1 + 1 := by subst hw2; simp [hs1]
  have bel2 : Below w.heap.size w w2 := by subst hw2; exact bel1.alloc (by omega) _
  rw [hs1] at b2
  have hrows := RowsOf.two (cell_new0 w2 #[.slice (some ⟨w.heap.size, 0, none⟩) 4 4, .slice (some ⟨w.heap.size + 1, 0, none⟩) 5 5] 22 0) (b1'.alloc _) (cell_new0 w2 _ 22 1) (b2.alloc _)
  rw [hs2] at hrows
  have bel3 : Below w.heap.size w (w2.alloc (.cells #[.slice (some ⟨w.heap.size, 0, none⟩) 4 4, .slice (some ⟨w.heap.size + 1, 0, none⟩) 5 5] 22)) := bel2.alloc (by omega) _
  subst hw2
  subst hw1
  have Hrows := Lib.hid hrows
  have Bel3 := Lib.hid bel3
  clear b1 b1' b2 hs1 hs2 bel1 bel2 hrows bel3
  have kc := fun (w : World) (C : Array Value) (n c g : Nat) (hg : g = w.heap.size) => Joins.run_convert_bytes_const_at (P := Try.prog) w 22 5 C n c g hg Try.underlying22 Try.underlying5
  go_enter Try.func17, Try.ntmps17
  go_wp2_with fail
  refine (crc_of _ _ _ _ _ (by decide) Hrows.out).mono ?_
  rintro e w' ⟨rfl, rfl⟩
  rw [crc_example]
  go_wp2
  go_ret
  exact ⟨rfl, Bel3.out⟩
end Go.Proofs.Ytgkoblgpadpcjaa
