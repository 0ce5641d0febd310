/- The document's example of graph. -/
import Derived.Test.YtobdjfibaemmhaaGn
namespace Go.Proofs.Ytobdjfibaemmhaa
open Go.RowKit Go.Maps Go.Lib

def nil6 : List Value := [.slice none 0 0, .slice none 0 0, .slice none 0 0, .slice none 0 0, .slice none 0 0, .slice none 0 0]
theorem unit_lit {w : World} {u : Un} (x0 x1 x2 x3 x4 x5 : Value) (h0 : SRow w x0 u.files) (h1 : SRow w x1 u.after) (h2 : SRow w x2 u.before) (h3 : SRow w x3 u.requires) (h4 : SRow w x4 u.wants) (h5 : SRow w x5 u.partOf) : UnitIs w (.agg #[.string (ba u.name), x0, x1, x2, x3, x4, x5, .int .i64 u.retry]) u := by
  refine ⟨[x0, x1, x2, x3, x4, x5], rfl, rfl, fun j hj => ?_⟩
  match j, hj with
  | 0, _ => exact ⟨_, _, rfl, rfl, h0⟩
  | 1, _ => exact ⟨_, _, rfl, rfl, h1⟩
  | 2, _ => exact ⟨_, _, rfl, rfl, h2⟩
  | 3, _ => exact ⟨_, _, rfl, rfl, h3⟩
  | 4, _ => exact ⟨_, _, rfl, rfl, h4⟩
  | 5, _ => exact ⟨_, _, rfl, rfl, h5⟩
theorem row_lit {w : World} {b : Nat} {x : Str} {t : TypeId} (h : w.heap[b]? = some (.cells #[.string (ba x)] t (0, 0))) : SRow w (.slice (some ⟨b, 0, none⟩) 1 1) [x] := by
  refine ⟨_, _, rfl, by simp, by simp, (fun h => by cases h), fun i hi => ?_⟩
  match i, hi with
  | 0, _ => exact ⟨_, _, rfl, by rw [cell_blk h]; rfl⟩
theorem in3 {W : World} {b0 b1 b2 b3 : Nat} (h0 : W.heap[b0]? = some (.cells #[.string (ba [98])] 9 (0, 0))) (h1 : W.heap[b1]? = some (.cells #[.string (ba [98])] 9 (0, 0))) (h2 : W.heap[b2]? = some (.cells #[.string (ba [97])] 9 (0, 0)))
    (h3 : W.heap[b3]? = some (.cells #[.string (ba [97]), .slice none 0 0, .slice none 0 0, .slice none 0 0, .slice (some ⟨b0, 0, none⟩) 1 1, .slice none 0 0, .slice none 0 0, .int .i64 0, .string (ba [98]), .slice none 0 0, .slice none 0 0, .slice none 0 0, .slice none 0 0, .slice none 0 0, .slice none 0 0, .int .i64 0,
      .string (ba [99]), .slice none 0 0, .slice none 0 0, .slice (some ⟨b1, 0, none⟩) 1 1, .slice none 0 0, .slice none 0 0, .slice (some ⟨b2, 0, none⟩) 1 1, .int .i64 0] 45 (0, 0))) : UnitsIn W (.slice (some ⟨b3, 0, none⟩) 3 3) us3 := by
  have n := SRow.nil W
  refine unitsIn_block (Rs := [[.string (ba [97]), .slice none 0 0, .slice none 0 0, .slice none 0 0, .slice (some ⟨b0, 0, none⟩) 1 1, .slice none 0 0, .slice none 0 0, .int .i64 0], [.string (ba [98]), .slice none 0 0, .slice none 0 0, .slice none 0 0, .slice none 0 0, .slice none 0 0, .slice none 0 0, .int .i64 0],
      [.string (ba [99]), .slice none 0 0, .slice none 0 0, .slice (some ⟨b1, 0, none⟩) 1 1, .slice none 0 0, .slice none 0 0, .slice (some ⟨b2, 0, none⟩) 1 1, .int .i64 0]]) h3 rfl (by simp) rfl rfl (by decide) (by decide) fun i hi => ?_
  match i, hi with
  | 0, _ => exact unit_lit (u := ua) _ _ _ _ _ _ n n n (row_lit h0) n n
  | 1, _ => exact unit_lit (u := ub) _ _ _ _ _ _ n n n n n n
  | 2, _ => exact unit_lit (u := uc) _ _ _ _ _ _ n n (row_lit h1) n n (row_lit h2)
theorem in2 {W : World} {b0 b1 b3 : Nat} (h0 : W.heap[b0]? = some (.cells #[.string (ba [98])] 9 (0, 0))) (h1 : W.heap[b1]? = some (.cells #[.string (ba [97])] 9 (0, 0)))
    (h3 : W.heap[b3]? = some (.cells #[.string (ba [97]), .slice none 0 0, .slice (some ⟨b0, 0, none⟩) 1 1, .slice none 0 0, .slice none 0 0, .slice none 0 0, .slice none 0 0, .int .i64 0, .string (ba [98]), .slice none 0 0, .slice (some ⟨b1, 0, none⟩) 1 1, .slice none 0 0, .slice none 0 0, .slice none 0 0, .slice none 0 0, .int .i64 0] 45 (0, 0))) :
    UnitsIn W (.slice (some ⟨b3, 0, none⟩) 2 2) us2 := by
  have n := SRow.nil W
  refine unitsIn_block (Rs := [[.string (ba [97]), .slice none 0 0, .slice (some ⟨b0, 0, none⟩) 1 1, .slice none 0 0, .slice none 0 0, .slice none 0 0, .slice none 0 0, .int .i64 0], [.string (ba [98]), .slice none 0 0, .slice (some ⟨b1, 0, none⟩) 1 1, .slice none 0 0, .slice none 0 0, .slice none 0 0, .slice none 0 0, .int .i64 0]]) h3 rfl (by simp) rfl rfl (by decide) (by decide) fun i hi => ?_
  match i, hi with
  | 0, _ => exact unit_lit (u := va) _ _ _ _ _ _ n (row_lit h0) n n n n
  | 1, _ => exact unit_lit (u := vb) _ _ _ _ _ _ n (row_lit h1) n n n n
theorem alloc_get (w : World) (o : Obj) {k : Nat} {p : Obj} (h : w.heap[k]? = some p) : (w.alloc o).heap[k]? = some p := ((Ext.refl w).alloc o).get h
theorem alloc_at (w : World) (o : Obj) {k : Nat} (h : k = w.heap.size) : (w.alloc o).heap[k]? = some o := by subst h; exact heap_alloc_new w o
theorem new_ok {w w' : World} {us : List Un} {e : Ending} (h : newPost w us e w') (hn : newErr us = none) : Ext w w' ∧ ∃ g ub nu bb nb ov, e = .returned (.tuple #[.pointer (some ⟨g, 0, none⟩), .int .i64 0, .string ⟨#[]⟩]) ∧ GraphAt w' g ub nu bb nb ov us (behP us) (orderOf us).1 := by
  unfold newPost at h
  rw [hn] at h
  exact h
theorem new_no {w w' : World} {us : List Un} {e : Ending} {c : Int} {n : Str} (h : newPost w us e w') (hn : newErr us = some (c, n)) : Ext w w' ∧ e = .returned (.tuple #[.pointer none, .int .i64 c, .string (ba n)]) := by
  unfold newPost at h
  rw [hn] at h
  exact h
theorem rows_lit {w : World} {b n cap : Nat} {cs : Array Value} {t : TypeId} {l : List Str} (h : w.heap[b]? = some (.cells cs t (0, 0))) (hcs : cs.toList = strVals l) (hn : n = l.length) (hcap : n ≤ cap) (hm : cap ≤ 9223372036854775807) : SRow w (.slice (some ⟨b, 0, none⟩) n cap) l := by
  subst hn
  refine ⟨_, _, rfl, hcap, hm, (fun h => by cases h), fun i hi => ⟨_, _, rfl, ?_⟩⟩
  rw [Nat.zero_add, cell_blk h, ← Array.getElem?_toList, hcs, strVals_get l i hi]
theorem short_of {l : List Str} (h : (l.all fun s => decide (s.length ≤ 60)) = true) : ShortAll l := fun x hx => by
  rw [List.all_eq_true] at h
  have := h x hx
  simp at this
  unfold maxLen
  omega
def newOk (w : World) (us : List Un) (e : Ending) (w' : World) : Prop := Ext w w' ∧ ∃ g ub nu bb nb ov, e = .returned (.tuple #[.pointer (some ⟨g, 0, none⟩), .int .i64 0, .string ⟨#[]⟩]) ∧ GraphAt w' g ub nu bb nb ov us (behP us) (orderOf us).1
theorem call3 (w : World) : Calls Try.prog 10 #[.slice (some ⟨w.heap.size + 1 + 1 + 1, 0, none⟩) 3 3] ((((w.alloc (.cells #[.string ⟨#[98]⟩] 9)).alloc (.cells #[.string ⟨#[98]⟩] 9)).alloc (.cells #[.string ⟨#[97]⟩] 9)).alloc (.cells #[.string ⟨#[97]⟩, .slice none 0 0, .slice none 0 0, .slice none 0 0, .slice (some ⟨w.heap.size, 0, none⟩) 1 1, .slice none 0 0, .slice none 0 0, .int .i64 0, .string ⟨#[98]⟩, .slice none 0 0, .slice none 0 0, .slice none 0 0, .slice none 0 0, .slice none 0 0, .slice none 0 0, .int .i64 0,
    .string ⟨#[99]⟩, .slice none 0 0, .slice none 0 0, .slice (some ⟨w.heap.size + 1, 0, none⟩) 1 1, .slice none 0 0, .slice none 0 0, .slice (some ⟨w.heap.size + 1 + 1, 0, none⟩) 1 1, .int .i64 0] 45)) (newOk w us3) := by
  have h0 := in3 (W := ((((w.alloc (.cells #[.string ⟨#[98]⟩] 9)).alloc (.cells #[.string ⟨#[98]⟩] 9)).alloc (.cells #[.string ⟨#[97]⟩] 9)).alloc (.cells #[.string ⟨#[97]⟩, .slice none 0 0, .slice none 0 0, .slice none 0 0, .slice (some ⟨w.heap.size, 0, none⟩) 1 1, .slice none 0 0, .slice none 0 0, .int .i64 0, .string ⟨#[98]⟩, .slice none 0 0, .slice none 0 0, .slice none 0 0, .slice none 0 0, .slice none 0 0, .slice none 0 0, .int .i64 0,
    .string ⟨#[99]⟩, .slice none 0 0, .slice none 0 0, .slice (some ⟨w.heap.size + 1, 0, none⟩) 1 1, .slice none 0 0, .slice none 0 0, .slice (some ⟨w.heap.size + 1 + 1, 0, none⟩) 1 1, .int .i64 0] 45))) (b0 := w.heap.size) (b1 := w.heap.size + 1) (b2 := w.heap.size + 1 + 1) (b3 := w.heap.size + 1 + 1 + 1) (alloc_get _ _ (alloc_get _ _ (alloc_get _ _ (alloc_at _ _ rfl)))) (alloc_get _ _ (alloc_get _ _ (alloc_at _ _ (by simp)))) (alloc_get _ _ (alloc_at _ _ (by simp))) (alloc_at _ _ (by simp))
  refine (New_any h0 small3).mono fun e w' h => ?_
  obtain ⟨x, g, ub, nu, bb, nb, ov, h1, h2⟩ := new_ok h new3
  exact ⟨((((Ext.refl w).alloc _).alloc _).alloc _ |>.alloc _).trans x, g, ub, nu, bb, nb, ov, h1, h2⟩
def newNo (w : World) (c : Int) (n : ByteArray) (e : Ending) (w' : World) : Prop := Ext w w' ∧ e = .returned (.tuple #[.pointer none, .int .i64 c, .string n])
theorem call2 (w : World) : Calls Try.prog 10 #[.slice (some ⟨w.heap.size + 1 + 1, 0, none⟩) 2 2] (((w.alloc (.cells #[.string ⟨#[98]⟩] 9)).alloc (.cells #[.string ⟨#[97]⟩] 9)).alloc (.cells #[.string ⟨#[97]⟩, .slice none 0 0, .slice (some ⟨w.heap.size, 0, none⟩) 1 1, .slice none 0 0, .slice none 0 0, .slice none 0 0, .slice none 0 0, .int .i64 0, .string ⟨#[98]⟩, .slice none 0 0, .slice (some ⟨w.heap.size + 1, 0, none⟩) 1 1, .slice none 0 0, .slice none 0 0, .slice none 0 0, .slice none 0 0, .int .i64 0] 45)) (newNo w 19 ⟨#[97]⟩) := by
  have h0 := in2 (W := (((w.alloc (.cells #[.string ⟨#[98]⟩] 9)).alloc (.cells #[.string ⟨#[97]⟩] 9)).alloc (.cells #[.string ⟨#[97]⟩, .slice none 0 0, .slice (some ⟨w.heap.size, 0, none⟩) 1 1, .slice none 0 0, .slice none 0 0, .slice none 0 0, .slice none 0 0, .int .i64 0, .string ⟨#[98]⟩, .slice none 0 0, .slice (some ⟨w.heap.size + 1, 0, none⟩) 1 1, .slice none 0 0, .slice none 0 0, .slice none 0 0, .slice none 0 0, .int .i64 0] 45))) (b0 := w.heap.size) (b1 := w.heap.size + 1) (b3 := w.heap.size + 1 + 1) (alloc_get _ _ (alloc_get _ _ (alloc_at _ _ rfl))) (alloc_get _ _ (alloc_at _ _ (by simp))) (alloc_at _ _ (by simp))
  refine (New_any h0 small2).mono fun e w' h => ?_
  obtain ⟨x, h1⟩ := new_no h new2
  exact ⟨(((Ext.refl w).alloc _).alloc _ |>.alloc _).trans x, h1⟩
theorem callO {w W : World} {g ub nu bb nb : Nat} {ov : Value} (h : GraphAt w g ub nu bb nb ov us3 (behP us3) (orderOf us3).1) (x : Ext w W) :
    Calls Try.prog 28 #[.pointer (some ⟨g, 0, none⟩), .slice (some ⟨W.heap.size, 0, none⟩) 4 4] (W.alloc (.cells #[.string ⟨#[97]⟩, .string ⟨#[98]⟩, .string ⟨#[99]⟩, .string ⟨#[120]⟩] 9)) fun e w' => ∃ v, e = .returned v ∧ OwnS w' W.heap.size v [[99], [98], [97]] ∧ Ext W w' := by
  rw [order3] at h
  have hn : SRow (W.alloc (.cells #[.string ⟨#[97]⟩, .string ⟨#[98]⟩, .string ⟨#[99]⟩, .string ⟨#[120]⟩] 9)) (.slice (some ⟨W.heap.size, 0, none⟩) 4 4) [[97], [98], [99], [120]] := rows_lit (heap_alloc_new _ _) rfl rfl (by decide) (by decide)
  refine (Order_any (h.ext (x.alloc _)) hn (short_of (by decide)) (by decide)).mono ?_
  rintro e w' ⟨v, rfl, o, x2⟩
  exact ⟨v, rfl, o.base (by simp), ((Ext.refl W).alloc _).trans x2⟩
theorem callL {w W : World} {g ub nu bb nb : Nat} {ov : Value} (h : GraphAt w g ub nu bb nb ov us3 (behP us3) (orderOf us3).1) (x : Ext w W) :
    Calls Try.prog 24 #[.pointer (some ⟨g, 0, none⟩), .slice (some ⟨W.heap.size, 0, none⟩) 1 1] (W.alloc (.cells #[.string ⟨#[98]⟩] 9)) fun e w' => ∃ v r, e = .returned v ∧ OwnS w' W.heap.size v r ∧ Ext W w' ∧ ListOf (LeanIn us3 [[98]]) r := by
  have hg := h.ext (x.alloc (.cells #[.string ⟨#[98]⟩] 9))
  have hn : SRow (W.alloc (.cells #[.string ⟨#[98]⟩] 9)) (.slice (some ⟨W.heap.size, 0, none⟩) 1 1) [[98]] := rows_lit (heap_alloc_new _ _) rfl rfl (by decide) (by decide)
  refine (Lean_any hg.cells hg.units small3 hn (by decide) (short_of (by decide))).mono ?_
  rintro e w' ⟨v, r, rfl, o, x2, l⟩
  exact ⟨v, r, rfl, o.base (by simp), ((Ext.refl W).alloc _).trans x2, l⟩
theorem callP {w W : World} {g ub nu bb nb : Nat} {ov : Value} (h : GraphAt w g ub nu bb nb ov us3 (behP us3) (orderOf us3).1) (x : Ext w W) :
    Calls Try.prog 25 #[.pointer (some ⟨g, 0, none⟩), .slice (some ⟨W.heap.size, 0, none⟩) 1 1] (W.alloc (.cells #[.string ⟨#[97]⟩] 9)) fun e w' => ∃ v r, e = .returned v ∧ OwnS w' W.heap.size v r ∧ Ext W w' ∧ ListOf (PullIn us3 [[97]]) r := by
  have hg := h.ext (x.alloc (.cells #[.string ⟨#[97]⟩] 9))
  have hn : SRow (W.alloc (.cells #[.string ⟨#[97]⟩] 9)) (.slice (some ⟨W.heap.size, 0, none⟩) 1 1) [[97]] := rows_lit (heap_alloc_new _ _) rfl rfl (by decide) (by decide)
  refine (Pull_any hg.cells hg.units small3 hn (by decide) (short_of (by decide))).mono ?_
  rintro e w' ⟨v, r, rfl, o, x2, l⟩
  exact ⟨v, r, rfl, o.base (by simp), ((Ext.refl W).alloc _).trans x2, l⟩
theorem callB {w W : World} {g ub nu bb nb : Nat} {ov : Value} (h : GraphAt w g ub nu bb nb ov us3 (behP us3) (orderOf us3).1) (x : Ext w W) :
    Calls Try.prog 29 #[.pointer (some ⟨g, 0, none⟩), .string ⟨#[97]⟩] W fun e w' => ∃ v, e = .returned v ∧ OwnS w' W.heap.size v [[98]] ∧ Ext W w' :=
  Behind_one (h.ext x) (n := [97]) (by decide) beh3
theorem callN {w W : World} {g ub nu bb nb : Nat} {ov : Value} (h : GraphAt w g ub nu bb nb ov us3 (behP us3) (orderOf us3).1) (x : Ext w W) :
    Calls Try.prog 21 #[.pointer (some ⟨g, 0, none⟩)] W fun e w' => ∃ v, e = .returned v ∧ OwnS w' W.heap.size v [[97], [98], [99]] ∧ Ext W w' := by
  have hg := h.ext x
  have := Names_any hg.cells hg.units (by decide) (by decide)
  rw [names3] at this
  exact this
set_option maxRecDepth 100000 in
set_option maxHeartbeats 4000000 in
theorem alive14 (w : World) : Calls Try.prog 23 #[] w fun e w' => e = .returned (.bool true) ∧ Ext w w' := by
  have HN1 := Lib.hid (call3 w)
  go_enter Try.func23, Try.ntmps23
  go_wp2_with fail
  refine HN1.out.mono ?_
  rintro e w3 ⟨x3, g, ub, nu, bb, nb, ov, rfl, hg3⟩
  have X3 := Lib.hid x3
  have G3 := Lib.hid hg3
  have HN2 := Lib.hid (call2 w3)
  clear x3 hg3
  go_wp2_with fail
  refine HN2.out.mono ?_
  rintro e w4 ⟨x4, rfl⟩
  have X4 := Lib.hid x4
  clear x4
  go_wp2_with fail
  have HO := Lib.hid (callO G3.out X4.out)
  refine HO.out.mono ?_
  rintro e w5 ⟨v5, rfl, o5, x5⟩
  have X5 := Lib.hid (X4.out.trans x5)
  obtain ⟨og, oo, oc, rfl⟩ := (OwnS.off o5).some_of (by simp)
  have q0 := (OwnS.off o5).cell 0 (by simp)
  have q1 := (OwnS.off o5).cell 1 (by simp)
  have q2 := (OwnS.off o5).cell 2 (by simp)
  have Q := Lib.hid (And.intro q0 (And.intro q1 q2))
  have HL := Lib.hid (callL G3.out X5.out)
  clear x5 o5 q0 q1 q2
  go_wp2_with fail
  refine HL.out.mono ?_
  rintro e w6 ⟨v6, r6, rfl, o6, x6, l6⟩
  have X6 := Lib.hid (X5.out.trans x6)
  obtain ⟨a6, c6, rfl, -⟩ := o6.row.form
  rw [lean3 l6]
  have q0 : w6.cell? ⟨og, oo, none⟩ = some (.string ⟨#[99]⟩) := x6.cell Q.out.1
  have q1 : w6.cell? ⟨og, oo + 1, none⟩ = some (.string ⟨#[98]⟩) := x6.cell Q.out.2.1
  have q2 : w6.cell? ⟨og, oo + 2, none⟩ = some (.string ⟨#[97]⟩) := x6.cell Q.out.2.2
  have HP := Lib.hid (callP G3.out X6.out)
  clear x6 o6 l6
  go_wp2_with fail
  refine HP.out.mono ?_
  rintro e w7 ⟨v7, r7, rfl, o7, x7, l7⟩
  have X7 := Lib.hid (X6.out.trans x7)
  obtain ⟨a7, c7, rfl, -⟩ := o7.row.form
  rw [pull3 l7]
  have HB := Lib.hid (callB G3.out X7.out)
  clear x7 o7 l7
  go_wp2_with fail
  refine HB.out.mono ?_
  rintro e w8 ⟨v8, rfl, o8, x8⟩
  have X8 := Lib.hid (X7.out.trans x8)
  obtain ⟨a8, c8, rfl, -⟩ := o8.row.form
  have HN := Lib.hid (callN G3.out X8.out)
  clear x8 o8
  go_wp2_with fail
  refine HN.out.mono ?_
  rintro e w9 ⟨v9, rfl, o9, x9⟩
  have X9 := Lib.hid (X8.out.trans x9)
  obtain ⟨a9, c9, rfl, -⟩ := o9.row.form
  clear x9 o9
  go_wp2_with fail
  go_ret
  exact ⟨rfl, X3.out.trans X9.out⟩
end Go.Proofs.Ytobdjfibaemmhaa
