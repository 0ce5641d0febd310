/- A graph in memory: Behind, where one stands behind one. -/
import Derived.Test.YtobdjfibaemmhaaGk
import Derived.RangeFuncBox
import Derived.RangeFuncLeaves
import Derived.OwnWalkIn
import Derived.TacticsInMore
import Derived.LoopNIn
import Derived.LoopIn
namespace Go.Proofs.Ytobdjfibaemmhaa
open Go.RowKit Go.Maps Go.Lib Go.Shelf

attribute [local go_sem] Oper.semAt_some
set_option maxRecDepth 100000 in
set_option maxHeartbeats 2000000 in
theorem values61 (n : Nat) (hn : 1 ≤ n) (Bs b o c : Nat) (x : Str) (w : World) (hBs : w.cell? ⟨Bs, 0, none⟩ = some (.slice (some ⟨b, o, none⟩) 1 c)) (hc : w.cell? ⟨b, o, none⟩ = some (.string (ba x))) :
    SeqGives Fence.wide n Try.prog 61 #[.pointer (some ⟨Bs, 0, none⟩)] encStr (fun ss => ss = [x]) 1 w := fun l J W hW hJ hY h0 => by
  have hB1 := (hW.cell (World.block_lt_of_cell? w _ hBs)).trans hBs
  have hc1 := (hW.cell (World.block_lt_of_cell? w _ hc)).trans hc
  have hY0 := hY [] x W h0 (by simp)
  rw [encStr_ba] at hY0
  clear hBs hc hW hJ hY
  refine callsIn_of_wp Try.func61 rfl trivial ?_ rfl
  simp only [Try.ntmps61, List.size_toArray, List.length_cons, List.length_nil, Nat.reduceAdd, Nat.reduceSub, Array.replicate_succ, Array.replicate_zero, List.push_toArray, List.append_toArray, List.nil_append, List.cons_append]
  gi_wp2
  gi_loopw [7] (fun i wr => (i = .int .i64 0 ∧ wr = W) ∨ (i = .int .i64 1 ∧ J [x] wr)) (fun i _ => 1 - (intOf i).toNat)
  case atStart => exact .inl ⟨rfl, rfl⟩
  case round =>
    rcases hrel with ⟨rfl, rfl⟩ | ⟨rfl, hJ1⟩
    · obtain ⟨fn, tmps, assign, body, hy, hR⟩ := hY0
      gi_wp2
      refine hR.mono ?_
      rintro e W3 ⟨rfl, hJ3, -⟩
      gi_wp2
      go_roundw
      case rel => exact .inr ⟨rfl, hJ3⟩
      case measure => simp [intOf]
    · gi_wp2
      go_end0
      exact ⟨⟨_, rfl⟩, [x], rfl, hJ1⟩
theorem values49 (a : Option Addr) (n c : Nat) (w : World) : Calls Try.prog 49 #[.slice a n c] w fun e w' => e = .returned (.func (.func 61) #[] #[.pointer (some ⟨w.heap.size, 0, none⟩)]) ∧ w' = w.alloc (.cells #[.slice a n c] 23) := by
  go_enter Try.func49, Try.ntmps49
  go_wp2_with fail
  go_ret
  exact ⟨rfl, rfl⟩
theorem sorted61 {w : World} {b o c : Nat} {x : Str} (hc : w.cell? ⟨b, o, none⟩ = some (.string (ba x))) :
    Calls Try.prog 41 #[.func (.func 61) #[] #[.pointer (some ⟨w.heap.size, 0, none⟩)]] (w.alloc (.cells #[.slice (some ⟨b, o, none⟩) 1 c] 23)) fun e w' => ∃ v, e = .returned v ∧ OwnS w' w.heap.size v [x] ∧ Ext w w' := by
  have hseq : SeqGives Fence.wide 2 Try.prog 61 #[.pointer (some ⟨w.heap.size, 0, none⟩)] encStr (fun ss => ss = [x]) 1 (w.alloc (.cells #[.slice (some ⟨b, o, none⟩) 1 c] 23)) :=
    values61 2 (by omega) w.heap.size b o c x _ (by rw [cell_blk (heap_alloc_new _ _)]; rfl) (((Ext.refl w).alloc _).cell hc)
  have h := AnyZ.sorted_in Try.sorted41 Fence.wide 5 trivial trivial trivial trivial rfl (by omega) (Try.sorts41 _) (enters_of Try.func40 (by kernel_rfl) rfl) 61 #[.pointer (some ⟨w.heap.size, 0, none⟩)] trivial (enters_of Try.func61 (by kernel_rfl) rfl) _ 1 (by decide) (by omega) _ hseq
  refine (callsIn_wide.1 h).mono ?_
  rintro e w' ⟨v, ss, rfl, rfl, ho, -, hb⟩
  refine ⟨v, rfl, ?_, ((Ext.refl w).alloc _).trans hb⟩
  unfold OwnS
  have h2 : ([x].mergeSort fun x y => decide (x ≤ y)) = [x] := by simp
  rw [h2] at ho
  exact own_base ho (by simp)
theorem compact_one (x : Str) : Lib.compact [x] = [x] := by
  simp [Lib.compact, Lib.compactUpTo, Lib.keeps]
def behindPost (w : World) (x : Str) (e : Ending) (w' : World) : Prop := ∃ v, e = .returned v ∧ OwnS w' w.heap.size v [x] ∧ Ext w w'
set_option maxRecDepth 100000 in
set_option maxHeartbeats 2000000 in
theorem Behind_one {w : World} {g ub nu bb nb : Nat} {ov : Value} {us : List Un} {bh : Beh} {order : List Str} (h : GraphAt w g ub nu bb nb ov us bh order) {n x : Str} (hn : n.length ≤ maxLen) (hb : bh n = [x]) :
    Calls Try.prog 29 #[.pointer (some ⟨g, 0, none⟩), .string (ba n)] w (behindPost w x) := by
  obtain ⟨bget, hm, hr⟩ := h.behind
  have hrn := hr n
  rw [hb] at hrn
  have hlk : (Instr.lookup 55 (.map (some bb)) (.string (ba n)) false).run Try.prog w = .ok (bval bget n) w := hm.look (t := 55) (e := 23) Try.underlying55 (zero23_run w) hn
  have c1 : w.cell? ⟨g, 1, none⟩ = some (.map (some bb)) := by rw [cell_blk h.cells]; rfl
  have hrn2 : SRow w (bval bget n) [x] := hrn
  obtain ⟨a, c, e, -⟩ := hrn2.form
  rw [e] at hlk hrn2
  obtain ⟨b, o, rfl, hc⟩ := hrn2.at 0 (by simp)
  have HS := sorted61 (w := w) (c := c) hc
  have HV := values49 (some ⟨b, o, none⟩) 1 c w
  clear h hm hr hrn hrn2 e hc
  go_enter Try.func29, Try.ntmps29
  go_wp2_with (first
    | (go_at_call 49; refine HV.mono ?_; rintro e w' ⟨rfl, rfl⟩; clear HV)
    | (go_at_call 41; refine HS.mono ?_; rintro e w3 ⟨v3, rfl, o3, x3⟩; have O3 := Lib.hid o3; have X3 := Lib.hid x3; have HC := Lib.hid (compact_any o3); clear o3 x3 HS)
    | (go_at_call 48; refine HC.out.mono ?_; rintro e w4 ⟨v4, rfl, o4, g4⟩; have O4 := Lib.hid o4; have G4 := Lib.hid g4; clear o4 g4))
  go_ret
  refine ⟨_, rfl, ?_, X3.out.grow G4.out fun k hk => (O3.out.lt k hk).1⟩
  have := O4.out
  rw [compact_one] at this
  exact this
end Go.Proofs.Ytobdjfibaemmhaa
