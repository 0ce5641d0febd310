/- The document's example of package rec. -/
import Derived.Test.YtgkoblgpadpcjaaReader2
namespace Go.Proofs.Ytgkoblgpadpcjaa
open Go.RowKit

theorem Rows'.lit1 {W w0 : World} {g : Nat} {v : Value} {l : List UInt8} (hb : Bytes w0 v l) (hx : Ext w0 W) (hh : W.heap[g]? = some (.cells #[v] 32 (0, 0))) : Rows' W (.slice (some ⟨g, 0, none⟩) 1 1) [l] := by
  refine ⟨_, 1, rfl, by simp, fun i hi => ?_⟩
  match i, hi with
  | 0, _ => exact ⟨g, 0, v, rfl, by simp only [World.cell?, hh]; rfl, hb.ext hx⟩
theorem Rows'.lit2 {W w0 : World} {g : Nat} {v u : Value} {l m : List UInt8} (hb : Bytes w0 v l) (hm : Bytes w0 u m) (hx : Ext w0 W) (hh : W.heap[g]? = some (.cells #[v, u] 32 (0, 0))) : Rows' W (.slice (some ⟨g, 0, none⟩) 2 2) [l, m] := by
  refine ⟨_, 2, rfl, by simp, fun i hi => ?_⟩
  match i, hi with
  | 0, _ => exact ⟨g, 0, v, rfl, by simp only [World.cell?, hh]; rfl, hb.ext hx⟩
  | 1, _ => exact ⟨g, 0, u, rfl, by simp only [World.cell?, hh]; rfl, hm.ext hx⟩
theorem Rows'.lit3 {W w0 : World} {g : Nat} {v u t : Value} {l m n : List UInt8} (hb : Bytes w0 v l) (hm : Bytes w0 u m) (hn : Bytes w0 t n) (hx : Ext w0 W) (hh : W.heap[g]? = some (.cells #[v, u, t] 32 (0, 0))) : Rows' W (.slice (some ⟨g, 0, none⟩) 3 3) [l, m, n] := by
  refine ⟨_, 3, rfl, by simp, fun i hi => ?_⟩
  match i, hi with
  | 0, _ => exact ⟨g, 0, v, rfl, by simp only [World.cell?, hh]; rfl, hb.ext hx⟩
  | 1, _ => exact ⟨g, 0, u, rfl, by simp only [World.cell?, hh]; rfl, hm.ext hx⟩
  | 2, _ => exact ⟨g, 0, t, rfl, by simp only [World.cell?, hh]; rfl, hn.ext hx⟩
theorem heap_new (w : World) (o : Obj) : (w.alloc o).heap[w.heap.size]? = some o := by rw [alloc_get, if_pos rfl]

def all18 : List UInt8 := le4 258 ++ (le4 2 ++ [97, 98]) ++ (le4 4 ++ le4 1)
set_option maxRecDepth 100000 in
set_option maxHeartbeats 2000000 in
theorem recAlive_any (w : World) : Calls Try.prog 20 #[] w fun e w' => e = .returned (.bool true) ∧ Below w.heap.size w w' := by
  go_enter Try.func20, Try.ntmps20
  go_wp2_with fail
  refine (Num_any 258 _).mono ?_
  rintro e w1 ⟨v1, rfl, f1⟩
  have F1 := Lib.hid f1
  obtain ⟨a1, n1, c1, rfl⟩ : ∃ a n c, v1 = .slice a n c := by obtain ⟨x, y, rfl, _⟩ := f1.bytes; exact ⟨_, _, _, rfl⟩
  clear f1
  go_wp2_with fail
  refine (Text_any [97, 98] _ (by decide)).mono ?_
  rintro e w2 ⟨v2, rfl, f2⟩
  have F2 := Lib.hid f2
  obtain ⟨a2, n2, c2, rfl⟩ : ∃ a n c, v2 = .slice a n c := by obtain ⟨x, y, rfl, _⟩ := f2.bytes; exact ⟨_, _, _, rfl⟩
  clear f2
  go_wp2_with fail
  refine (Num_any 1 _).mono ?_
  rintro e w3 ⟨v3, rfl, f3⟩
  have F3 := Lib.hid f3
  obtain ⟨a3, n3, c3, rfl⟩ : ∃ a n c, v3 = .slice a n c := by obtain ⟨x, y, rfl, _⟩ := f3.bytes; exact ⟨_, _, _, rfl⟩
  clear f3
  go_wp2_with fail
  refine (List_any [le4 1] _ _ (Rows'.lit1 F3.out.bytes ((Ext.refl _).alloc _) (heap_new _ _)) (by decide)).mono ?_
  rintro e w4 ⟨v4, rfl, f4⟩
  have F4 := Lib.hid (f4.after ((Ext.refl _).alloc _))
  obtain ⟨a4, n4, c4, rfl⟩ : ∃ a n c, v4 = .slice a n c := by obtain ⟨x, y, rfl, _⟩ := f4.bytes; exact ⟨_, _, _, rfl⟩
  clear f4
  go_wp2_with fail
  refine (Pack_any [le4 258, le4 2 ++ [97, 98], le4 4 ++ le4 1] _ _ (Rows'.lit3 ((F1.out.before F2.out.1).before (F3.out.1.trans F4.out.1)).bytes (F2.out.before (F3.out.1.trans F4.out.1)).bytes F4.out.bytes ((Ext.refl _).alloc _) (heap_new _ _)) (by decide)).mono ?_
  rintro e w5 ⟨v5, rfl, f5⟩
  have F5 := Lib.hid (show Fresh w4 w5 v5 all18 from f5.after ((Ext.refl _).alloc _))
  obtain ⟨a5, c5, rfl⟩ : ∃ a c, v5 = .slice a 18 c := by obtain ⟨x, y, rfl, _⟩ := f5.bytes; exact ⟨_, _, rfl⟩
  clear f5
  go_wp2_with fail
  refine (Read_any all18 _ _ F5.out.bytes (by decide)).mono ?_
  rintro e w6 ⟨g, rfl, h6, x6, r6⟩
  have R6 := Lib.hid r6
  have X6 := Lib.hid x6
  clear r6 x6
  have X06 := Lib.hid ((((((F1.out.1.trans F2.out.1).trans F3.out.1).trans F4.out.1).trans F5.out.1).trans X6.out))
  have hg : w.heap.size ≤ g := by
    have := ((((F1.out.1.trans F2.out.1).trans F3.out.1).trans F4.out.1).trans F5.out.1).size
    omega
  have B6 := Lib.hid (F5.out.bytes.ext X6.out)
  clear F1 F2 F3 F4 F5 X6
  go_wp2_with fail
  refine (Num_all g all18 false 300 _ R6.out (by decide)).mono ?_
  rw [show numRes all18 false 300 = (258, (le4 2 ++ [97, 98]) ++ (le4 4 ++ le4 1), false) by decide]
  rintro e w7 ⟨rfl, o7, r7⟩
  have R7 := Lib.hid r7
  have B7 := Lib.hid (B6.out.only R6.out o7)
  have L7 := Lib.hid ((show Below w.heap.size w w6 from X06.out).trans (o7.below hg X06.out.size))
  clear o7 r7 B6 R6 X06
  go_wp2_with fail
  refine (TextR_any g _ false 9 _ R7.out (by decide) (by decide)).mono ?_
  rw [show rawRes ((le4 2 ++ [97, 98]) ++ (le4 4 ++ le4 1)) false 9 = ([97, 98], le4 4 ++ le4 1, false) by decide]
  rintro e w8 ⟨rfl, o8, r8⟩
  have R8 := Lib.hid r8
  have B8 := Lib.hid (B7.out.only R7.out o8)
  have L8 := Lib.hid (L7.out.trans (o8.below hg L7.out.size))
  clear o8 r8 B7 R7 L7
  go_wp2_with fail
  refine (ListR_any g _ false _ R8.out (by decide)).mono ?_
  rw [show rawRes (le4 4 ++ le4 1) false 16777216 = (le4 1, [], false) by decide]
  rintro e w9 ⟨g', rfl, hg9, o9, r9, r9'⟩
  have R9 := Lib.hid r9
  have R9' := Lib.hid r9'
  have B9 := B8.out.only R8.out o9
  have L9 := Lib.hid (L8.out.trans (o9.below hg L8.out.size))
  have hg' : w.heap.size ≤ g' := by have := L8.out.size; omega
  have hgg : g ≠ g' := by have := R8.out.lt; omega
  obtain ⟨b0, o0, rfl, d0⟩ := B9.at 0 (by decide)
  obtain ⟨_, _, e1, d1⟩ := B9.at 1 (by decide)
  cases e1
  have d0' : w9.cell? ⟨b0, o0, none⟩ = some (.int .u8 2) := d0
  have d1' : w9.cell? ⟨b0, o0 + 1, none⟩ = some (.int .u8 1) := d1
  clear o9 r9 r9' B9 B8 R8 L8 d0 d1
  go_wp2_with fail
  refine (Truth_any g' _ false _ R9'.out).mono ?_
  rw [show numRes (le4 1) false 1 = (1, [], false) by decide]
  rintro e w10 ⟨rfl, o10, r10⟩
  have R10' := Lib.hid r10
  have R10 := Lib.hid (R9'.out.other R9.out hgg o10)
  have L10 := Lib.hid (L9.out.trans (o10.below hg' L9.out.size))
  clear o10 r10 R9 R9' L9 d0' d1'
  go_wp2_with fail
  refine (Done_any g' _ _ _ R10'.out).mono ?_
  rintro e w' ⟨rfl, rfl⟩
  go_wp2_with fail
  refine (Done_any g _ _ _ R10.out).mono ?_
  rintro e w' ⟨rfl, rfl⟩
  go_wp2_with fail
  refine (Err_any g _ _ _ R10.out).mono ?_
  rw [show errNo [] false = 0 by decide]
  rintro e w' ⟨rfl, rfl⟩
  go_wp2_with fail
  refine (More_any g _ _ _ R10.out).mono ?_
  rintro e w' ⟨rfl, rfl⟩
  have B11 := Lib.hid (Bytes.lit w10 #[.int .u8 1] [1] 5 rfl 1 (by decide) (by decide) 1 rfl (0, 0))
  go_wp2_with fail
  refine (Read_any [1] _ _ B11.out (by decide)).mono ?_
  rintro e w12 ⟨g2, rfl, h12, x12, r12⟩
  have R12 := Lib.hid r12
  have L12 := Lib.hid ((L10.out.alloc L10.out.size _).trans (Below.mono x12 (by have := L10.out.size; simp; omega)))
  clear r12 x12 B11
  go_wp2_with fail
  refine (Err_any g2 _ _ _ R12.out).mono ?_
  rw [show errNo [1] false = 4 by decide]
  rintro e w' ⟨rfl, rfl⟩
  go_wp2_with fail
  go_ret
  exact ⟨rfl, L12.out⟩
end Go.Proofs.Ytgkoblgpadpcjaa
