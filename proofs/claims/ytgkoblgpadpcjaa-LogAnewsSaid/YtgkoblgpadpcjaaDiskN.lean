/- A new disk. -/
import Derived.Test.YtgkoblgpadpcjaaDiskR
import Derived.Laws.MakeOwn
namespace Go.Proofs.Ytgkoblgpadpcjaa
open Go.RowKit

theorem byteVals_zero : byteVals zero64 = List.replicate 64 (.int .u8 0) := rfl
theorem flatK_replicate (n : Nat) : flatK (List.replicate n zero64) = List.replicate (n * 64) (.int .u8 0) := by
  induction n with
  | zero => rfl
  | succ n ih =>
    unfold flatK at *
    rw [List.replicate_succ, List.flatMap_cons, ih, byteVals_zero, List.replicate_append_replicate, show 64 + n * 64 = (n + 1) * 64 by omega]
theorem made_zero (n : Nat) : madeCells (byteVals zero64).toArray n = (List.replicate n (.int .u8 0)).toArray := by
  rw [byteVals_zero]
  apply Array.ext
  · simp [madeCells]
  · intro i h1 h2
    simp only [madeCells, Array.getElem_map, Array.getElem_range, List.size_toArray, List.length_replicate]
    have h : i % 64 < (List.replicate 64 (Value.int IntKind.u8 0)).toArray.size := by rw [List.size_toArray, List.length_replicate]; exact Nat.mod_lt _ (by decide)
    rw [getElem!_pos (List.replicate 64 (Value.int IntKind.u8 0)).toArray (i % 64) h]
    simp only [List.getElem_toArray, List.getElem_replicate]
theorem wpList_make_sectors {ops : Array Oper} {rest : List Oper} {o : Oper} {a : Act} {w : World} {Q : Exit → Act → World → Prop} (hg : o.guard = none) (x y : Operand) (ho : o.op = .makeSlice 71 x y) (n : Nat) (hn : n ≤ 4096)
    (hx : a.eval x = .int .i64 (n : Int)) (hy : a.eval y = .int .i64 (n : Int))
    (h : wpList Try.prog ops Q rest (a.put o.dst (.slice (some ⟨w.heap.size, 0, none⟩) n n)) (w.alloc (.cells (flatK (List.replicate n zero64)).toArray 63))) : wpList Try.prog ops Q (o :: rest) a w := by
  refine wpList_plain hg fun K hK => ?_
  obtain ⟨i0, hi, hz0, hz1, hz2⟩ := info_parts Try.zero63
  have hrun := run_make (P := Try.prog) w 71 63 i0 _ Try.underlying71 hi hz0 .i64 .i64 (n : Int) (n : Int) (by omega) (by omega) (by rw [hz2]; omega) (by omega)
  rw [hz1, Int.toNat_natCast, show (Value.agg (byteVals zero64).toArray).cells = (byteVals zero64).toArray from rfl, made_zero, ← flatK_replicate] at hrun
  unfold Oper.wp
  simp [execOp, ho, hx, hy, hrun, Result.andThen]
  exact hK _ _ h
theorem wf_new (n : Int) : Wf (Dk.new n) where
  pos := by simp only [Dk.new, List.length_replicate]; omega
  most := by simp only [Dk.new, List.length_replicate]; omega
  kept := by intro s hs; rw [(List.mem_replicate.1 hs).2]; rfl
  cache := fun c hc => by cases hc
  keeps := by show (0 : Nat) < _; omega
  fate := by show (-1 : Int) ≤ _; omega
theorem new_disk (n : Int) (m : Nat) (w : World) (hm : m = (max 1 (min n 4096)).toNat) : Disk w.heap.size ((w.alloc (.cells (flatK (List.replicate m zero64)).toArray 63)).alloc (.cells #[.slice (some ⟨w.heap.size, 0, none⟩) m m, .slice none 0 0, .bool false, .int .i64 (-1), .int .u64 0, .int .i64 0] 111)) (w.heap.size + 1) w.heap.size (Dk.new n) := by
  refine ⟨.slice none 0 0, Nat.le_succ _, Nat.le_refl _, ?_, ?_, World.ownsRow_nil _ _ _ _, wf_new n⟩
  · have := heap_alloc_new (w.alloc (.cells (flatK (List.replicate m zero64)).toArray 63)) (.cells #[.slice (some ⟨w.heap.size, 0, none⟩) m m, .slice none 0 0, .bool false, .int .i64 (-1), .int .u64 0, .int .i64 0] 111)
    rw [World.size_alloc] at this
    rw [this]
    simp [Dk.new, hm]
  · rw [heap_alloc_old _ _ (by simp), heap_alloc_new]
    simp [Dk.new, hm]
theorem new_ext (w : World) (o1 o2 : Obj) : Ext w ((w.alloc o1).alloc o2) := ((Ext.refl w).alloc o1).alloc o2

def newPost (n : Int) (w : World) (e : Ending) (w' : World) : Prop :=
  ∃ g kb, e = .returned (.pointer (some ⟨g, 0, none⟩)) ∧ w.heap.size ≤ g ∧ w.heap.size ≤ kb ∧ Ext w w' ∧ Disk w.heap.size w' g kb (Dk.new n)
set_option maxRecDepth 100000 in
set_option maxHeartbeats 2000000 in
theorem New_any (n : Int) (w : World) : Calls Try.prog 39 #[.int .i64 n] w (newPost n w) := by
  obtain ⟨m, hm⟩ : ∃ m : Nat, m = (max 1 (min n 4096)).toNat := ⟨_, rfl⟩
  have HN := Lib.hid (new_disk n m w hm)
  have hm4 : m ≤ 4096 := by omega
  by_cases h1 : 4096 < n
  · obtain rfl : m = 4096 := by omega
    clear hm
    go_enter Try.func39, Try.ntmps39
    go_wp2_with (refine wpList_make_sectors rfl (.tmp 5) (.tmp 5) rfl 4096 hm4 rfl rfl ?_)
    go_ret
    exact ⟨_, _, rfl, Nat.le_succ _, Nat.le_refl _, new_ext _ _ _, HN.out⟩
  · by_cases h2 : 1 < n
    · obtain rfl : n = (m : Int) := by omega
      clear hm
      go_enter Try.func39, Try.ntmps39
      go_wp2_with (refine wpList_make_sectors rfl (.tmp 5) (.tmp 5) rfl m hm4 rfl rfl ?_)
      go_ret
      exact ⟨_, _, rfl, Nat.le_succ _, Nat.le_refl _, new_ext _ _ _, HN.out⟩
    · obtain rfl : m = 1 := by omega
      clear hm
      go_enter Try.func39, Try.ntmps39
      go_wp2_with (refine wpList_make_sectors rfl (.tmp 5) (.tmp 5) rfl 1 hm4 rfl rfl ?_)
      go_ret
      exact ⟨_, _, rfl, Nat.le_succ _, Nat.le_refl _, new_ext _ _ _, HN.out⟩
end Go.Proofs.Ytgkoblgpadpcjaa
