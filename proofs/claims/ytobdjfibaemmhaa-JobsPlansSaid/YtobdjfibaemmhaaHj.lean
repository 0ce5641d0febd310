/- The document's example of jobs. -/
import Derived.Test.YtobdjfibaemmhaaHi
import Derived.Test.YtobdjfibaemmhaaHb
import Derived.Test.YtobdjfibaemmhaaGo
namespace Go.Proofs.Ytobdjfibaemmhaa
open Go.RowKit Go.Maps Go.Lib

def wc : Un := ⟨[99], [], [], [], [], [], [], 0⟩
def wa : Un := ⟨[97], [], [], [], [], [], [], 0⟩
def us4 : List Un := [ua, ub, wc]
def us5 : List Un := [ub, wa]
theorem names4 : namesOf us4 = [[97], [98], [99]] := by
  unfold namesOf
  exact sortS_of (by decide)
theorem order4 : orderOf us4 = ([[98], [97], [99]], []) := by
  unfold orderOf behP
  rw [names4]
  decide
theorem new4 : newErr us4 = none := by
  unfold newErr needsP
  rw [names4, order4]
  decide
theorem small4 : SmallU us4 := smallB_u (by decide)
theorem names5 : namesOf us5 = [[97], [98]] := by
  unfold namesOf
  exact sorted_unique ((sortS_perm _).trans (List.Perm.swap _ _ _)) (sortS_sorted _) (by decide)
theorem order5 : orderOf us5 = ([[97], [98]], []) := by
  unfold orderOf behP
  rw [names5]
  decide
theorem new5 : newErr us5 = none := by
  unfold newErr needsP
  rw [names5, order5]
  decide
theorem small5 : SmallU us5 := smallB_u (by decide)
theorem lean4 {r : List Str} (h : ListOf (LeanIn us4 [[98]]) r) : r = [[97], [98]] := by
  have hb : LeanIn us4 [[98]] [98] := .base (by simp) (by decide)
  have ha : LeanIn us4 [[98]] [97] := .step hb (u := ua) rfl (by decide)
  have : ListOf (LeanIn us4 [[98]]) [[97], [98]] := ⟨by decide, by decide, fun x => ⟨fun hx => by
    simp only [List.mem_cons, List.not_mem_nil, or_false] at hx
    rcases hx with rfl | rfl
    · exact ha
    · exact hb, fun hx => by
      cases hx with
      | base h _ => simp at h; subst h; decide
      | @step n y u h1 hu hy =>
        have ht : there us4 x = true := by unfold there; rw [hu]; rfl
        have hm : x ∈ [[97], [98], [99]] := there_iff.1 ht
        simp only [List.mem_cons, List.not_mem_nil, or_false] at hm
        rcases hm with rfl | rfl | rfl
        · decide
        · decide
        · have : findU us4 [99] = some wc := rfl
          rw [this] at hu
          cases hu
          simp [wc] at hy⟩⟩
  exact h.unique this
theorem stop4 : stopOf us4 [[97], [98]] [[97], [98], [99]] = [[97], [98]] := by
  unfold stopOf; rw [order4]; decide
theorem start4 : startOf us4 [[97], [98]] = [[98], [97]] := by
  unfold startOf; rw [order4]; decide
theorem stop5 : stopOf us4 [[97], [98]] [[98], [99]] = [[98]] := by
  unfold stopOf; rw [order4]; decide
theorem gone5 : sortS (goneP us5 [[99], [97]]) = [[99]] := by
  have : goneP us5 [[99], [97]] = [[99]] := by decide
  rw [this]
  exact sortS_of (by decide)
theorem in4 {W : World} {b0 b3 : Nat} (h0 : W.heap[b0]? = some (.cells #[.string (ba [98])] 9 (0, 0)))
    (h3 : W.heap[b3]? = some (.cells #[.string (ba [97]), .slice none 0 0, .slice none 0 0, .slice none 0 0, .slice (some ⟨b0, 0, none⟩) 1 1, .slice none 0 0, .slice none 0 0, .int .i64 0, .string (ba [98]), .slice none 0 0, .slice none 0 0, .slice none 0 0, .slice none 0 0, .slice none 0 0, .slice none 0 0, .int .i64 0,
      .string (ba [99]), .slice none 0 0, .slice none 0 0, .slice none 0 0, .slice none 0 0, .slice none 0 0, .slice none 0 0, .int .i64 0] 45 (0, 0))) : UnitsIn W (.slice (some ⟨b3, 0, none⟩) 3 3) us4 := by
  have n := SRow.nil W
  refine unitsIn_block (Rs := [[.string (ba [97]), .slice none 0 0, .slice none 0 0, .slice none 0 0, .slice (some ⟨b0, 0, none⟩) 1 1, .slice none 0 0, .slice none 0 0, .int .i64 0], [.string (ba [98]), .slice none 0 0, .slice none 0 0, .slice none 0 0, .slice none 0 0, .slice none 0 0, .slice none 0 0, .int .i64 0],
      [.string (ba [99]), .slice none 0 0, .slice none 0 0, .slice none 0 0, .slice none 0 0, .slice none 0 0, .slice none 0 0, .int .i64 0]]) h3 rfl (by simp) rfl rfl (by decide) (by decide) fun i hi => ?_
  match i, hi with
  | 0, _ => exact unit_lit (u := ua) _ _ _ _ _ _ n n n (row_lit h0) n n
  | 1, _ => exact unit_lit (u := ub) _ _ _ _ _ _ n n n n n n
  | 2, _ => exact unit_lit (u := wc) _ _ _ _ _ _ n n n n n n
theorem in5 {W : World} {b3 : Nat}
    (h3 : W.heap[b3]? = some (.cells #[.string (ba [98]), .slice none 0 0, .slice none 0 0, .slice none 0 0, .slice none 0 0, .slice none 0 0, .slice none 0 0, .int .i64 0, .string (ba [97]), .slice none 0 0, .slice none 0 0, .slice none 0 0, .slice none 0 0, .slice none 0 0, .slice none 0 0, .int .i64 0] 45 (0, 0))) :
    UnitsIn W (.slice (some ⟨b3, 0, none⟩) 2 2) us5 := by
  have n := SRow.nil W
  refine unitsIn_block (Rs := [[.string (ba [98]), .slice none 0 0, .slice none 0 0, .slice none 0 0, .slice none 0 0, .slice none 0 0, .slice none 0 0, .int .i64 0], [.string (ba [97]), .slice none 0 0, .slice none 0 0, .slice none 0 0, .slice none 0 0, .slice none 0 0, .slice none 0 0, .int .i64 0]]) h3 rfl (by simp) rfl rfl (by decide) (by decide) fun i hi => ?_
  match i, hi with
  | 0, _ => exact unit_lit (u := ub) _ _ _ _ _ _ n n n n n n
  | 1, _ => exact unit_lit (u := wa) _ _ _ _ _ _ n n n n n n
theorem call4 (w : World) : Calls Try.prog 10 #[.slice (some ⟨w.heap.size + 1, 0, none⟩) 3 3] ((w.alloc (.cells #[.string ⟨#[98]⟩] 9)).alloc (.cells #[.string ⟨#[97]⟩, .slice none 0 0, .slice none 0 0, .slice none 0 0, .slice (some ⟨w.heap.size, 0, none⟩) 1 1, .slice none 0 0, .slice none 0 0, .int .i64 0, .string ⟨#[98]⟩, .slice none 0 0, .slice none 0 0, .slice none 0 0, .slice none 0 0, .slice none 0 0, .slice none 0 0, .int .i64 0,
    .string ⟨#[99]⟩, .slice none 0 0, .slice none 0 0, .slice none 0 0, .slice none 0 0, .slice none 0 0, .slice none 0 0, .int .i64 0] 45)) (newOk w us4) := by
  have h0 := in4 (W := ((w.alloc (.cells #[.string ⟨#[98]⟩] 9)).alloc (.cells #[.string ⟨#[97]⟩, .slice none 0 0, .slice none 0 0, .slice none 0 0, .slice (some ⟨w.heap.size, 0, none⟩) 1 1, .slice none 0 0, .slice none 0 0, .int .i64 0, .string ⟨#[98]⟩, .slice none 0 0, .slice none 0 0, .slice none 0 0, .slice none 0 0, .slice none 0 0, .slice none 0 0, .int .i64 0,
    .string ⟨#[99]⟩, .slice none 0 0, .slice none 0 0, .slice none 0 0, .slice none 0 0, .slice none 0 0, .slice none 0 0, .int .i64 0] 45))) (b0 := w.heap.size) (b3 := w.heap.size + 1) (alloc_get _ _ (heap_alloc_new _ _)) (alloc_at _ _ (by simp))
  refine (New_any h0 small4).mono fun e w' h => ?_
  obtain ⟨x, g, ub, nu, bb, nb, ov, h1, h2⟩ := new_ok h new4
  exact ⟨(((Ext.refl w).alloc _).alloc _).trans x, g, ub, nu, bb, nb, ov, h1, h2⟩
theorem call5 (w : World) : Calls Try.prog 10 #[.slice (some ⟨w.heap.size, 0, none⟩) 2 2] (w.alloc (.cells #[.string ⟨#[98]⟩, .slice none 0 0, .slice none 0 0, .slice none 0 0, .slice none 0 0, .slice none 0 0, .slice none 0 0, .int .i64 0, .string ⟨#[97]⟩, .slice none 0 0, .slice none 0 0, .slice none 0 0, .slice none 0 0, .slice none 0 0, .slice none 0 0, .int .i64 0] 45)) (newOk w us5) := by
  have h0 := in5 (W := (w.alloc (.cells #[.string ⟨#[98]⟩, .slice none 0 0, .slice none 0 0, .slice none 0 0, .slice none 0 0, .slice none 0 0, .slice none 0 0, .int .i64 0, .string ⟨#[97]⟩, .slice none 0 0, .slice none 0 0, .slice none 0 0, .slice none 0 0, .slice none 0 0, .slice none 0 0, .int .i64 0] 45))) (b3 := w.heap.size) (heap_alloc_new _ _)
  refine (New_any h0 small5).mono fun e w' h => ?_
  obtain ⟨x, g, ub, nu, bb, nb, ov, h1, h2⟩ := new_ok h new5
  exact ⟨((Ext.refl w).alloc _).trans x, g, ub, nu, bb, nb, ov, h1, h2⟩
theorem new_nodup {us : List Un} (h : newErr us = none) : (us.map Un.name).Nodup := (newErr_none h).2.1
def resPost (W : World) (s t : List Str) (e : Ending) (w' : World) : Prop := ∃ sv tv, e = .returned (.agg #[sv, tv]) ∧ OwnS w' W.heap.size sv s ∧ OwnS w' W.heap.size tv t ∧ Ext W w'
theorem callR {w W : World} {g ub nu bb nb g2 ub2 nu2 bb2 nb2 : Nat} {ov ov2 : Value} {vs : List Un} (h : GraphAt w g ub nu bb nb ov us4 (behP us4) (orderOf us4).1) (h2 : GraphAt w g2 ub2 nu2 bb2 nb2 ov2 vs (behP vs) (orderOf vs).1) (sv : SmallU vs) (nv : (vs.map Un.name).Nodup)
    (x : Ext w W) {cs : Array Value} {run s : List Str} (hcs : cs.toList = strVals run) (n : Nat) (hn : n = run.length) (hn9 : n ≤ 9) (hs : stopOf us4 [[97], [98]] run = s) :
    Calls Try.prog 11 #[.pointer (some ⟨g, 0, none⟩), .pointer (some ⟨g2, 0, none⟩), .slice (some ⟨W.heap.size, 0, none⟩) n n, .slice (some ⟨W.heap.size + 1, 0, none⟩) 1 1] ((W.alloc (.cells cs 9)).alloc (.cells #[.string ⟨#[98]⟩] 9)) (resPost W s (startOf vs s)) := by
  have X := (x.alloc (.cells cs 9)).alloc (.cells #[.string ⟨#[98]⟩] 9)
  have r1 : SRow ((W.alloc (.cells cs 9)).alloc (.cells #[.string ⟨#[98]⟩] 9)) (.slice (some ⟨W.heap.size, 0, none⟩) n n) run := rows_lit (alloc_get _ _ (heap_alloc_new _ _)) hcs hn (Nat.le_refl _) (by omega)
  have r2 : SRow ((W.alloc (.cells cs 9)).alloc (.cells #[.string ⟨#[98]⟩] 9)) (.slice (some ⟨W.heap.size + 1, 0, none⟩) 1 1) [[98]] := rows_lit (alloc_at _ _ (by simp)) rfl rfl (by decide) (by decide)
  refine (Restart_any (h.ext X) (h2.ext X) small4 sv (new_nodup new4) nv r1 r2 (short_of (by decide)) (by decide)).mono ?_
  rintro e w' ⟨a, b, L, rfl, hL, o1, o2, x2⟩
  rw [lean4 hL, hs] at o1 o2
  exact ⟨a, b, rfl, o1.base (by simp; omega), o2.base (by simp; omega), ((Ext.refl W).alloc _).alloc _ |>.trans x2⟩
theorem callG {w W : World} {g ub nu bb nb : Nat} {ov : Value} (h : GraphAt w g ub nu bb nb ov us5 (behP us5) (orderOf us5).1) (x : Ext w W) :
    Calls Try.prog 20 #[.pointer (some ⟨g, 0, none⟩), .slice (some ⟨W.heap.size, 0, none⟩) 2 2] (W.alloc (.cells #[.string ⟨#[99]⟩, .string ⟨#[97]⟩] 9)) fun e w' => ∃ v, e = .returned v ∧ OwnS w' W.heap.size v [[99]] ∧ Ext W w' := by
  have hn : SRow (W.alloc (.cells #[.string ⟨#[99]⟩, .string ⟨#[97]⟩] 9)) (.slice (some ⟨W.heap.size, 0, none⟩) 2 2) [[99], [97]] := rows_lit (heap_alloc_new _ _) rfl rfl (by decide) (by decide)
  refine (Gone_any (h.ext (x.alloc _)) small5 hn (short_of (by decide)) (by decide)).mono ?_
  rintro e w' ⟨v, rfl, o, x2⟩
  rw [gone5] at o
  exact ⟨v, rfl, o.base (by simp), ((Ext.refl W).alloc _).trans x2⟩
set_option maxRecDepth 100000 in
set_option maxHeartbeats 4000000 in
theorem alive15 (w : World) : Calls Try.prog 8 #[] w fun e w' => e = .returned (.bool true) ∧ Ext w w' := by
  have HN1 := Lib.hid (call4 w)
  go_enter Try.func8, Try.ntmps8
  go_wp2_with fail
  refine HN1.out.mono ?_
  rintro e w3 ⟨x3, g, ub, nu, bb, nb, ov, rfl, hg3⟩
  have X3 := Lib.hid x3
  have G3 := Lib.hid hg3
  have HN2 := Lib.hid (call5 w3)
  clear x3 hg3
  go_wp2_with fail
  refine HN2.out.mono ?_
  rintro e w4 ⟨x4, g2, ub2, nu2, bb2, nb2, ov2, rfl, hg4⟩
  have X4 := Lib.hid x4
  have G4 := Lib.hid hg4
  have G34 := Lib.hid (G3.out.ext x4)
  clear x4 hg4
  have HR1 := Lib.hid (callR G34.out G34.out small4 (new_nodup new4) (Ext.refl w4) (cs := #[.string ⟨#[97]⟩, .string ⟨#[98]⟩, .string ⟨#[99]⟩]) (run := [[97], [98], [99]]) rfl 3 rfl (by decide) stop4)
  rw [start4] at HR1
  go_wp2_with fail
  refine HR1.out.mono ?_
  rintro e w5 ⟨s5, t5, rfl, o5, p5, x5⟩
  obtain ⟨as5, cs5, rfl, -⟩ := o5.row.form
  obtain ⟨at5, ct5, rfl, -⟩ := p5.row.form
  obtain ⟨W5, hW5⟩ : ∃ W5 : World, W5 = w5.alloc (.cells #[.slice as5 2 cs5, .slice at5 2 ct5] 31) := ⟨_, rfl⟩
  have XW5 := Lib.hid (show Ext w5 W5 by rw [hW5]; exact (Ext.refl w5).alloc _)
  have X45 := Lib.hid (show Ext w4 W5 from x5.trans XW5.out)
  have BP := Lib.hid (show W5.heap[w5.heap.size]? = some (.cells #[.slice as5 2 cs5, .slice at5 2 ct5] 31 (0, 0)) by rw [hW5]; exact heap_alloc_new _ _)
  have OP := Lib.hid (And.intro (o5.ext XW5.out) (p5.ext XW5.out))
  have HR2 := Lib.hid (callR G34.out G4.out small5 (new_nodup new5) X45.out (cs := #[.string ⟨#[98]⟩, .string ⟨#[99]⟩]) (run := [[98], [99]]) rfl 2 rfl (by decide) stop5)
  clear o5 p5 x5
  go_upto_region 6 with fail
  rw [← hW5]
  clear hW5
  go_wp2_with fail
  refine HR2.out.mono ?_
  rintro e w6 ⟨s6, t6, rfl, o6, p6, x6⟩
  obtain ⟨as6, cs6, rfl, -⟩ := o6.row.form
  obtain ⟨at6, ct6, rfl, -⟩ := p6.row.form
  have htl : ∃ m, m = (startOf us5 [[98]]).length := ⟨_, rfl⟩
  obtain ⟨tl, htl⟩ := htl
  rw [← htl]
  obtain ⟨W6, hW6⟩ : ∃ W6 : World, W6 = w6.alloc (.cells #[.slice as6 1 cs6, .slice at6 tl ct6] 31) := ⟨_, rfl⟩
  have XW6 := Lib.hid (show Ext w6 W6 by rw [hW6]; exact (Ext.refl w6).alloc _)
  have X56 := Lib.hid (show Ext W5 W6 from x6.trans XW6.out)
  have BQ := Lib.hid (show W6.heap[w6.heap.size]? = some (.cells #[.slice as6 1 cs6, .slice at6 tl ct6] 31 (0, 0)) by rw [hW6]; exact heap_alloc_new _ _)
  have HG := Lib.hid (callG G4.out (X45.out.trans X56.out))
  clear o6 p6 x6 htl
  go_upto_region 7 with fail
  rw [← hW6]
  clear hW6
  go_wp2_with fail
  refine HG.out.mono ?_
  rintro e w7 ⟨v7, rfl, o7, x7⟩
  have X57 := X56.out.trans x7
  obtain ⟨b5, p5, e5, q0⟩ := (OP.out.1.row.ext X57).at 0 (by simp)
  obtain ⟨b5', p5', e5', q1⟩ := (OP.out.1.row.ext X57).at 1 (by simp)
  obtain ⟨b6, p6, e6, q2⟩ := (OP.out.2.row.ext X57).at 0 (by simp)
  obtain ⟨a7, c7, rfl, -⟩ := o7.row.form
  obtain ⟨b7, p7, e7, q3⟩ := o7.row.at 0 (by simp)
  cases e5
  cases e5'
  cases e6
  cases e7
  have k0 : w7.cell? ⟨w5.heap.size, 0, none⟩ = some (.slice (some ⟨b5, p5, none⟩) 2 cs5) := by rw [cell_blk (X57.get BP.out)]; rfl
  have k1 : w7.cell? ⟨w5.heap.size, 1, none⟩ = some (.slice (some ⟨b6, p6, none⟩) 2 ct5) := by rw [cell_blk (X57.get BP.out)]; rfl
  have k2 : w7.cell? ⟨w6.heap.size, 0, none⟩ = some (.slice as6 1 cs6) := by rw [cell_blk (x7.get BQ.out)]; rfl
  replace q0 : w7.cell? ⟨b5, p5, none⟩ = some (.string ⟨#[97]⟩) := q0
  replace q1 : w7.cell? ⟨b5, p5 + 1, none⟩ = some (.string ⟨#[98]⟩) := q1
  replace q2 : w7.cell? ⟨b6, p6, none⟩ = some (.string ⟨#[98]⟩) := q2
  replace q3 : w7.cell? ⟨b7, p7, none⟩ = some (.string ⟨#[99]⟩) := q3
  have XX := Lib.hid (X3.out.trans (X4.out.trans (X45.out.trans X57)))
  clear o7 x7 X57
  go_wp2_with fail
  go_ret
  exact ⟨rfl, XX.out⟩
end Go.Proofs.Ytobdjfibaemmhaa
