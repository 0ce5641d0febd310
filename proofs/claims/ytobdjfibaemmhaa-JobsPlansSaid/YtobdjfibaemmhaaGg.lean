/- A graph in memory: sort's closures. -/
import Derived.Test.YtobdjfibaemmhaaGf
namespace Go.Proofs.Ytobdjfibaemmhaa
open Go.RowKit Go.Maps Go.Lib

structure SortOn (W : World) (g B ub bb : Nat) (ov : Value) (bget : Str → Option Value) (bh : Beh) (order : List Str) : Prop where
  cg : W.heap[g]? = some (.cells #[.map (some ub), .map (some bb), ov] 57 (0, 0))
  box : W.heap[B]? = some (.cells #[.pointer (some ⟨g, 0, none⟩)] 26 (0, 0))
  map : ∃ nb, MapIs W bb nb bget
  rows : ∀ k, SRow W (bval bget k) (bh k)
  short : ∀ k, ShortAll (bh k)
  order : SRow W ov order
theorem SortOn.ext {W W' : World} {g B ub bb : Nat} {ov : Value} {bget : Str → Option Value} {bh : Beh} {order : List Str} (h : SortOn W g B ub bb ov bget bh order) (x : Ext W W') : SortOn W' g B ub bb ov bget bh order := by
  obtain ⟨nb, hm⟩ := h.map
  exact ⟨x.get h.cg, x.get h.box, ⟨nb, hm.ext x⟩, fun k => (h.rows k).ext x, h.short, h.order.ext x⟩
set_option maxRecDepth 100000 in
set_option maxHeartbeats 2000000 in
theorem sort53 {W : World} {g B ub bb : Nat} {ov : Value} {bget : Str → Option Value} {bh : Beh} {order : List Str} (h : SortOn W g B ub bb ov bget bh order) (x : Str) :
    Calls Try.prog 53 #[.string (ba x), .pointer (some ⟨B, 0, none⟩)] W fun e w' => e = .returned (.bool (!decide (x ∈ order))) ∧ ∃ q, w' = W.drewN q := by
  have HC := contains_any h.order x
  rw [encStr_ba] at HC
  have c0 : W.cell? ⟨B, 0, none⟩ = some (.pointer (some ⟨g, 0, none⟩)) := by rw [cell_blk h.box]; rfl
  have c2 : W.cell? ⟨g, 2, none⟩ = some ov := by rw [cell_blk h.cg]; rfl
  obtain ⟨a, c, rfl, -⟩ := h.order.form
  clear h
  go_enter Try.func53, Try.ntmps53
  go_wp2_with (go_at_call 36; refine HC.mono ?_; rintro e w' ⟨rfl, rfl⟩; clear HC)
  go_ret
  exact ⟨rfl, 0, rfl⟩
set_option maxRecDepth 100000 in
set_option maxHeartbeats 2000000 in
theorem sort52 {W : World} {g B ub bb : Nat} {ov : Value} {bget : Str → Option Value} {bh : Beh} {order : List Str} (h : SortOn W g B ub bb ov bget bh order) {n : Str} (hn : n.length ≤ maxLen) :
    Calls Try.prog 52 #[.string (ba n), .pointer (some ⟨B, 0, none⟩)] W fun e w' => e = .returned (.bool (free bh order n)) ∧ ∃ q, w' = W.drewN q := by
  have c0 : W.cell? ⟨B, 0, none⟩ = some (.pointer (some ⟨g, 0, none⟩)) := by rw [cell_blk h.box]; rfl
  have c1 : W.cell? ⟨g, 1, none⟩ = some (.map (some bb)) := by rw [cell_blk h.cg]; rfl
  obtain ⟨nb, hm⟩ := h.map
  have hlk : (Instr.lookup 55 (.map (some bb)) (.string (ba n)) false).run Try.prog W = .ok (bval bget n) W := hm.look (t := 55) (e := 23) Try.underlying55 (zero23_run W) hn
  have hr := h.rows n
  have HC := cfunc_any hr (h.short n) (fun x => !decide (x ∈ order)) 53 #[.pointer (some ⟨B, 0, none⟩)] (enters_of Try.func53 (by kernel_rfl) rfl) (fun V x hb => sort53 (h.ext hb) x.1)
  obtain ⟨a, c, e, -⟩ := hr.form
  rw [e] at HC hlk
  have e1 : free bh order n = !((bh n).any fun x => !decide (x ∈ order)) := by
    unfold free
    rw [List.all_eq_not_any_not]
    simp
  have E1 := Lib.hid e1
  clear h hm hr e1 e
  go_enter Try.func52, Try.ntmps52
  go_wp2_with (go_at_call 43; refine HC.mono ?_; rintro e w' ⟨rfl, q, rfl⟩; clear HC)
  go_ret
  rw [E1.out]
  exact ⟨rfl, _, rfl⟩
end Go.Proofs.Ytobdjfibaemmhaa
