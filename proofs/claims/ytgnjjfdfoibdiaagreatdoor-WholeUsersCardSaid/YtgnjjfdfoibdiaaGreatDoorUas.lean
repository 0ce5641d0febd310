/- A part of the proof of WholeUsers. -/
import Derived.Test.YtgnjjfdfoibdiaaGreatDoorUaq
set_option linter.all false
namespace Go.Proofs.YtgnjjfdfoibdiaaGreatDoor
section
open Go.RowKit Go.Maps Go.Sort Go.Lib
set_option maxRecDepth 100000
def GraphE (w : World) (g : Nat) : Prop := ∃ um bm : Nat, w.heap[g]? = some (.cells #[.map (some um), .map (some bm), .slice none 0 0] 323 (0, 0)) ∧ MapK strK w um 0 (fun _ => none)
section
variable {w w' : World} {g : Nat}
theorem GraphE.ext (h : GraphE w g) (x : Ext w w') : GraphE w' g := by
 obtain ⟨um, bm, h1, h2⟩ := h;exact ⟨um, bm, x.get h1, h2.ext x⟩
theorem GraphE.mut {B : Nat} {S : List Nat} (h : GraphE w g) (x : Mut B S w w') (h0 : 0 ∉ S := by decide) (h1 : 325 ∉ S := by decide) : GraphE w' g := by
 obtain ⟨um, bm, g1, g2⟩ := h;exact ⟨um, bm, x.get g1 h1, g2.mut x (.inr h0)⟩
theorem GraphE.lt (h : GraphE w g) : g < w.heap.size := by
 obtain ⟨um, bm, h1, -⟩ := h;exact (Array.getElem?_eq_some_iff.1 h1).1
end
def zJd (w : World) (e : Ending) (w' : World) : Prop := ∃ a c, e = .returned (.slice a 0 c) ∧ Ext w w'
theorem zH4 {w : World} {v : Value} {base : Nat} (h : OwnS w base v (zCx [])) : ∃ a c, v = .slice a 0 c := by
 obtain ⟨a, c, rfl⟩ := zAj h;exact ⟨a, c, by simp [zCx]⟩
theorem gNames_e {w : World} {g : Nat} (h : GraphE w g) : Calls Tryz.prog 221 #[.pointer (some ⟨g, 0, none⟩)] w (zJd w) := by
 obtain ⟨um, bm, h1, h2⟩ := h;have HK : Hid (Calls Tryz.prog 30 #[.func (.func 311) #[] #[.pointer (some ⟨w.heap.size, 0, none⟩)]] (w.alloc (.cells #[.map (some um)] 320)) (zDi w [])) := sortedK_273 h2 (by simp) (fun x => by simp) (by simp);obtain ⟨q0, q1, q2, qf⟩ := zA2 h1;clear h1 h2;go_enter Tryz.func221, Tryz.ntmps221
 go_wp2_with (first
  | (go_at_call 273; refine (keysK_273 _ _).mono ?_; rintro e w3 ⟨rfl, rfl⟩)
  | (go_at_call 30; refine HK.out.mono ?_; rintro e w4 ⟨v, rfl, o4, x4⟩; have X4 := zh x4; (obtain ⟨a4, c4, rfl⟩ := zH4 o4); clear o4 x4))
 go_ret
 exact ⟨_, _, rfl, X4.out⟩
def sortRel (w : World) (v : Value) (v0 : Value) (wr : World) : Prop := v = v0 ∧ wr = w
theorem gsort_e {w : World} {g : Nat} (h : GraphE w g) : Calls Tryz.prog 224 #[.pointer (some ⟨g, 0, none⟩)] w fun e w' => e = .returned (.string ⟨#[]⟩) ∧ Ext w w' := by
 have HN := zh (gNames_e (h.ext ((xr w).alloc (.cells #[.pointer (some ⟨g, 0, none⟩)] 64))));clear h;go_enter Tryz.func224, Tryz.ntmps224
 go_wp2_with (go_at_call 221; refine HN.out.mono ?_; rintro e w2 ⟨a2, c2, rfl, x2⟩; have X2 := zh x2; clear x2)
 go_loopw [3] (fun v wr => sortRel w2 v (.slice a2 0 c2) wr) (fun _ _ => 0)
 case atStart => exact ⟨rfl, rfl⟩
 case round =>
  obtain ⟨rfl, rfl⟩ := hrel
  go_wp2_with fail
  go_ret
  exact ⟨rfl, ((xr w).alloc _).trans X2.out⟩
def gnewPost (w : World) (e : Ending) (w' : World) : Prop := ∃ g, e = .returned (.tuple #[.pointer (some ⟨g, 0, none⟩), .int .i64 0, .string ⟨#[]⟩]) ∧ GraphE w' g ∧ w.heap.size ≤ g ∧ Ext w w'
theorem zNp : Tryz.f142.results = #[.tmp 2, .tmp 3, .tmp 4] := by kernel_rfl
theorem gNew_e (w : World) : Calls Tryz.prog 142 #[.slice none 0 0] w (gnewPost w) := by
 have hmm := @run_makeMap Tryz.prog
 obtain ⟨W, hW⟩ : ∃ W, W = ((w.alloc (.map #[] 0)).alloc (.map #[] 0)).alloc (.cells #[.map (some w.heap.size), .map (some (w.heap.size + 1)), .slice none 0 0] 323) := ⟨_, rfl⟩
 have XW := zh (show Ext w W by rw [hW]; exact (((xr w).alloc _).alloc _).alloc _)
 have G0 := zh (show GraphE W (w.heap.size + 2) from by
  refine ⟨w.heap.size, w.heap.size + 1, ?_, ?_⟩
  ·have := heap_alloc_new ((w.alloc (.map #[] 0)).alloc (.map #[] 0)) (.cells #[.map (some w.heap.size), .map (some (w.heap.size + 1)), .slice none 0 0] 323);rw [World.size_alloc, World.size_alloc] at this;rw [hW]; exact this
  ·rw [hW]; exact (MapK.made strK w).ext (((xr _).alloc _).alloc _))
 have HN := zh (fun V x => gNames_e (G0.out.ext (w' := V) x));have HS := zh (fun V x => gsort_e (G0.out.ext (w' := V) x));go_enter Tryz.func142, Tryz.ntmps142
 go_wp2_with fail
 go_loopw [31] (fun i wr => zBo W i wr) (fun _ _ => 0)
 case atStart => exact ⟨rfl, hW.symm⟩
 case round =>
  obtain ⟨rfl, rfl⟩ := hrel
  obtain ⟨wo, rfl⟩ : ∃ x : World, x = wr := ⟨_, rfl⟩
  clear hW
  go_wp2_with (go_at_call 221; refine (HN.out _ (xr _)).mono ?_; rintro e w2 ⟨a2, c2, rfl, x2⟩; have X2 := zh x2; clear x2)
  go_loopw [60] (fun i wy => zBo w2 i wy) (fun _ _ => 0)
  case atStart => exact ⟨rfl, rfl⟩
  case round =>
   obtain ⟨rfl, rfl⟩ := hrel
   go_wp2_with (go_at_call 221; refine (HN.out _ X2.out).mono ?_; rintro e w3 ⟨a3, c3, rfl, x3⟩; have X3 := zh (X2.out.trans x3); clear x3)
   go_loopw [102] (fun i wy => zBo w3 i wy) (fun _ _ => 0)
   case atStart => exact ⟨rfl, rfl⟩
   case round =>
    obtain ⟨rfl, rfl⟩ := hrel
    go_wp2_with (go_at_call 224; refine (HS.out _ X3.out).mono ?_; rintro e w4 ⟨rfl, x4⟩; have X4 := zh (X3.out.trans x4); clear x4)
    exact bodyPost_ret (v := .tuple #[.pointer (some ⟨w.heap.size + 2, 0, none⟩), .int .i64 0, .string ⟨#[]⟩]) (by simp [results, zNp, go_sem]) rfl ⟨_, rfl, G0.out.ext X4.out, by omega, XW.out.trans X4.out⟩
theorem IFunc_empty (a : Option Addr) (c : Nat) (f : Value) (w : World) : Calls Tryz.prog 146 #[.slice a 0 c, f] w fun e w' => e = .returned (.int .i64 (-1)) ∧ w = w' :=
 (zBr (α := Str) a c f w).mono fun _ _ ⟨h1, h2⟩ => ⟨h1, h2.symm⟩
theorem zN3 (a : Option Addr) (c : Nat) (f : Value) (hf : ∃ g p q, f = .func g p q) (w : World) : Calls Tryz.prog 177 #[.slice a 0 c, f] w fun e w' => e = .returned (.slice a 0 c) ∧ w = w' := by
 obtain ⟨g, p, q, rfl⟩ := hf;go_enter Tryz.func177, Tryz.ntmps177
 go_wp2_with (go_at_call 146; refine (IFunc_empty _ _ _ _).mono ?_; rintro e w2 ⟨rfl, rfl⟩)
 go_ret
 exact ⟨rfl, rfl⟩
theorem Clone_e (a : Option Addr) (c : Nat) (hc : a = none → c = 0) (hm : c ≤ maxLen) (w : World) : Calls Tryz.prog 96 #[.slice a 0 c] w (zJd w) := by
 refine (clone_any (l := []) ⟨a, c, rfl, Nat.zero_le _, hm, hc, fun i hi => absurd hi (by simp)⟩ (by simp)).mono ?_;rintro e w' ⟨v, rfl, o, x⟩;obtain ⟨a', c', rfl⟩ := zAj o;exact ⟨a', c', rfl, x⟩
theorem zPv {w : World} {g : Nat} (h : GraphE w g) (a : Option Addr) (n c : Nat) : Calls Tryz.prog 182 #[.pointer (some ⟨g, 0, none⟩), .slice a n c] w fun e w' => e = .returned (.slice none 0 0) ∧ Ext w w' := by
 obtain ⟨um, bm, h1, h2⟩ := h;obtain ⟨q0, q1, q2, qf⟩ := zA2 (((xr w).alloc (.cells #[.slice a n c] 33)).get h1);clear h1 h2;go_enter Tryz.func182, Tryz.ntmps182
 go_wp2_with (first
  | (go_at_call 96; refine (zCp _).mono ?_; rintro e w2 ⟨rfl, rfl⟩)
  | (go_at_call 177; refine (zN3 _ _ _ ⟨_, _, _, rfl⟩ _).mono ?_; rintro e w3 ⟨rfl, rfl⟩))
 go_ret
 exact ⟨rfl, (xr w).alloc _⟩
theorem gPull_e (w : World) {g : Nat} (a : Option Addr) (c : Nat) (hc : a = none → c = 0) (hm : c ≤ maxLen) : Calls Tryz.prog 183 #[.pointer (some ⟨g, 0, none⟩), .slice a 0 c] w (zJd w) := by
 have hmm := @run_makeMap Tryz.prog;have HC := zh (fun V => Clone_e a c hc hm V);have HK : Hid (∀ V, Ext (w.alloc (.map #[] 0)) V → Calls Tryz.prog 30 #[.func (.func 295) #[] #[.pointer (some ⟨V.heap.size, 0, none⟩)]] (V.alloc (.cells #[.map (some w.heap.size)] 350)) (zDi V [])) := fun V x => zMj ((MapK.made strK w).ext x) (by simp) (fun y => by simp) (by simp)
 clear hc hm;go_enter Tryz.func183, Tryz.ntmps183
 go_wp2_with (go_at_call 96; refine (HC.out _).mono ?_; rintro e w2 ⟨a2, c2, rfl, x2⟩; have X2 := zh x2; clear x2)
 go_loopw [6] (fun v wr => sortRel w2 v (.slice a2 0 c2) wr) (fun _ _ => 0)
 case atStart => exact ⟨rfl, rfl⟩
 case round =>
  obtain ⟨rfl, rfl⟩ := hrel
  go_wp2_with (first
   | (go_at_call 255; refine (keysK_255 _ _).mono ?_; rintro e w3 ⟨rfl, rfl⟩)
   | (go_at_call 30; refine (HK.out _ X2.out).mono ?_; rintro e w4 ⟨v, rfl, o4, x4⟩; have X4 := zh x4; (obtain ⟨a4, c4, rfl⟩ := zH4 o4); clear o4 x4))
  go_ret
  exact ⟨_, _, rfl, (((xr w).alloc _).trans X2.out).trans X4.out⟩
theorem zIs : Tryz.prog.underlying 320 = some (.map 9 248) := by kernel_rfl
def gl2 (W1 : World) (b : Value) (wr : World) : Prop := (b = .bool true ∧ wr = W1) ∨ (b = .bool false ∧ Hid (Ext W1 wr))
theorem gLean_e {w : World} {g : Nat} (h : GraphE w g) (a : Option Addr) (c : Nat) : Calls Tryz.prog 251 #[.pointer (some ⟨g, 0, none⟩), .slice a 0 c] w (zJd w) := by
 have hmm := @run_makeMap Tryz.prog;obtain ⟨um, bm, h1, h2⟩ := h;have HK : Hid (∀ V, Ext (w.alloc (.map #[] 0)) V → Calls Tryz.prog 30 #[.func (.func 295) #[] #[.pointer (some ⟨V.heap.size, 0, none⟩)]] (V.alloc (.cells #[.map (some w.heap.size)] 350)) (zDi V [])) := fun V x => zMj ((MapK.made strK w).ext x) (by simp) (fun y => by simp) (by simp)
 obtain ⟨W, hW⟩ : ∃ W, W = (w.alloc (.map #[] 0)).alloc (.cells #[.map (some w.heap.size)] 350) := ⟨_, rfl⟩
 have XW := zh (show Ext w W by rw [hW]; exact ((xr w).alloc _).alloc _);have XM := zh (show Ext (w.alloc (.map #[] 0)) W by rw [hW]; exact (xr _).alloc _);have KG : Hid (∀ V, Ext W V → _) := fun V x => zA2 ((XW.out.trans x).get h1)
 have HM : Hid (∀ V, Ext W V → MapK strK V um 0 _) := fun V x => h2.ext (XW.out.trans x)
 have hb : W.heap[w.heap.size + 1]? = some (.cells #[.map (some w.heap.size)] 350 (0, 0)) := by
  have := heap_alloc_new (w.alloc (.map #[] 0)) (.cells #[.map (some w.heap.size)] 350);rw [World.size_alloc] at this;rw [hW]; exact this
 have K5 : Hid (∀ V, Ext W V → V.cell? ⟨w.heap.size + 1, 0, none⟩ = some (.map (some w.heap.size))) := fun V x => by rw [zAb (x.get hb)]; rfl
 clear h1 h2 hb;go_enter Tryz.func251, Tryz.ntmps251
 go_wp2_with fail
 go_loopw [16] (fun i wr => zBo W i wr) (fun _ _ => 0)
 case atStart => exact ⟨rfl, hW.symm⟩
 case round =>
  obtain ⟨rfl, rfl⟩ := hrel
  obtain ⟨wo, rfl⟩ : ∃ x : World, x = wr := ⟨_, rfl⟩
  clear hW
  go_wp2_with fail
  go_loopw [10] (fun b wy => gl2 wo b wy) (fun b _ => match b with | .bool true => 1 | _ => 0)
  case atStart => exact .inl ⟨rfl, rfl⟩
  case round =>
   rcases hrel with ⟨rfl, rfl⟩ | ⟨rfl, HX⟩
   ·obtain ⟨q0, q1, q2, qf⟩ := KG.out _ (xr _)
    go_wp2_with (refine zCq _ rfl _ 320 rfl 248 zIs strK um 0 _ rfl (HM.out _ (xr _)) ?_; intro w2 cnt0 r2 x2 z2; have R2 := zh r2; have X2 := zh x2; have Z2 := zh z2; clear r2 x2 z2)
    go_frame
    obtain ⟨wp, rfl⟩ : ∃ x : World, x = wr := ⟨_, rfl⟩
    go_loopw [10] (fun b wy => b = .bool false ∧ wy = w2) (fun _ _ => 0)
    case atStart => exact ⟨rfl, rfl⟩
    case round =>
     obtain ⟨rfl, rfl⟩ := hrel
     go_wp2_with (refine zG8 _ rfl _ rfl um wp.heap.size 0 _ _ cnt0 rfl R2.out ?_ ?_)
     exact ⟨.inr ⟨rfl, X2⟩, by simp⟩
   ·have q5 := K5.out _ HX.out
    go_wp2_with (first
     | (go_at_call 255; refine (keysK_255 _ _).mono ?_; rintro e w3 ⟨rfl, rfl⟩)
     | (go_at_call 30; refine (HK.out _ (XM.out.trans HX.out)).mono ?_; rintro e w4 ⟨v, rfl, o4, x4⟩; have X4 := zh x4; (obtain ⟨a4, c4, rfl⟩ := zH4 o4); clear o4 x4))
    go_ret
    exact ⟨_, _, rfl, (XW.out.trans HX.out).trans X4.out⟩
def zMn (w : World) (e : Ending) (w' : World) : Prop := e = .returned (.agg #[.slice none 0 0, .slice none 0 0]) ∧ Ext w w'
theorem zNo : Tryz.f180.results = #[.cell 8 278] := by kernel_rfl
theorem zAu {V : World} {b : Nat} {v0 v1 : Value} {t : TypeId} (h : V.heap[b]? = some (.cells #[v0, v1] t (0, 0))) :
  V.cell? ⟨b, 0, none⟩ = some v0 ∧ V.cell? ⟨b, 1, none⟩ = some v1 ∧ ∀ i, V.frozen? ⟨b, i, none⟩ = false :=
 ⟨by rw [zAb h]; rfl, by rw [zAb h]; rfl, zAl h⟩
theorem Reverse_nil (w : World) : Calls Tryz.prog 253 #[.slice none 0 0] w fun e w' => e = .returned (.tuple #[]) ∧ w = w' :=
 (Tryz.slices_Reverse_string_empty none 0 w).mono fun _ _ ⟨h1, h2⟩ => ⟨h1, h2.symm⟩
theorem Restart_e {w : World} {g1 g2 : Nat} (h1 : GraphE w g1) (h2 : GraphE w g2) (a b : Option Addr) (c d : Nat) :
  Calls Tryz.prog 180 #[.pointer (some ⟨g1, 0, none⟩), .pointer (some ⟨g2, 0, none⟩), .slice a 0 c, .slice b 0 d] w (zMn w) := by
 obtain ⟨W, hW⟩ : ∃ W, W = (w.alloc (.cells #[.slice a 0 c] 33)).alloc (.cells #[.slice none 0 0, .slice none 0 0] 278) := ⟨_, rfl⟩
 have XW := zh (show Ext w W by rw [hW]; exact ((xr w).alloc _).alloc _)
 have HB := zh (show W.heap[w.heap.size + 1]? = some (.cells #[.slice none 0 0, .slice none 0 0] 278 (0, 0)) by
  have := heap_alloc_new (w.alloc (.cells #[.slice a 0 c] 33)) (.cells #[.slice none 0 0, .slice none 0 0] 278);rw [World.size_alloc] at this
  rw [hW]; exact this)
 have HL := zh (gLean_e (h1.ext XW.out) b d);have HO1 : Hid (∀ V, Ext W V → ∀ a n c, Calls Tryz.prog 182 #[.pointer (some ⟨g1, 0, none⟩), .slice a n c] V _) := fun V x a n c => zPv (h1.ext (XW.out.trans x)) a n c
 have HO2 : Hid (∀ V, Ext W V → ∀ a n c, Calls Tryz.prog 182 #[.pointer (some ⟨g2, 0, none⟩), .slice a n c] V _) := fun V x a n c => zPv (h2.ext (XW.out.trans x)) a n c
 clear h1 h2;go_enter Tryz.func180, Tryz.ntmps180
 go_wp2_with fail
 rw [← hW];clear hW
 go_at_call 251
 refine HL.out.mono ?_;rintro e w2 ⟨a2, c2, rfl, x2⟩;have X2 := zh x2;clear x2
 go_wp2_with (go_at_call 177; refine (zN3 _ _ _ ⟨_, _, _, rfl⟩ _).mono ?_; rintro e w3 ⟨rfl, rfl⟩)
 go_at_call 182
 refine (HO1.out _ X2.out _ _ _).mono ?_;rintro e w4 ⟨rfl, x4⟩;have X4 := zh (X2.out.trans x4);clear x4
 go_wp2_with (go_at_call 253; refine (Reverse_nil _).mono ?_; rintro e w5 ⟨rfl, rfl⟩)
 go_at_call 182
 refine (HO2.out _ X4.out _ _ _).mono ?_;rintro e w6 ⟨rfl, x6⟩;have X6 := zh (X4.out.trans x6);obtain ⟨q0, q1, qf⟩ := zAu (X6.out.get HB.out);clear x6
 go_wp2_with fail
 refine bodyPost_ret (v := .agg #[.slice none 0 0, .slice none 0 0]) (by simp [results, zNo, q0, q1, go_sem, World.cell?_setCell_far]) rfl ?_;exact ⟨rfl, ((XW.out.trans X6.out).setCell (show w.heap.size ≤ w.heap.size + 1 by omega) _).setCell (show w.heap.size ≤ w.heap.size + 1 by omega) _⟩
theorem Sort_nil (w : World) : Calls Tryz.prog 57 #[.slice none 0 0] w fun e w' => e = .returned (.tuple #[]) ∧ w = w' :=
 (Tryz.slices_Sort_string_none none 0 w).mono fun _ _ ⟨h1, h2⟩ => ⟨h1, h2.symm⟩
theorem Gone_e (w : World) (g : Value) (hg : ∃ a, g = .pointer a) (a : Option Addr) (c : Nat) : Calls Tryz.prog 241 #[g, .slice a 0 c] w fun e w' => e = .returned (.slice none 0 0) ∧ Ext w w' := by
 obtain ⟨p, rfl⟩ := hg;go_enter Tryz.func241, Tryz.ntmps241
 go_wp2_with fail
 go_loopw [5, 12] (fun v i wr => zB6 w v i wr) (fun _ _ _ => 0)
 case atStart => exact ⟨rfl, rfl, rfl⟩
 case round =>
  obtain ⟨rfl, rfl, rfl⟩ := hrel
  go_wp2_with (go_at_call 57; refine (Sort_nil _).mono ?_; rintro e w2 ⟨rfl, rfl⟩)
  go_ret
  exact ⟨rfl, xr _⟩
def MgrE (w : World) (m g : Nat) : Prop := ∃ t lm : Nat, w.heap[m]? = some (.cells #[.pointer (some ⟨t, 0, none⟩), .pointer (some ⟨g, 0, none⟩), .map (some lm), .slice none 0 0] 123 (0, 0)) ∧ MapK strK w lm 0 (fun _ => none) ∧ GraphE w g
theorem MgrE.ext {w w' : World} {m g : Nat} (h : MgrE w m g) (x : Ext w w') : MgrE w' m g := by
 obtain ⟨t, lm, h1, h2, h3⟩ := h;exact ⟨t, lm, x.get h1, h2.ext x, h3.ext x⟩
theorem MgrE.mut {w w' : World} {m g B : Nat} {S : List Nat} (h : MgrE w m g) (x : Mut B S w w') (hs : ∀ t ∈ S, t ∉ [0, 125, 325]) : MgrE w' m g := by
 obtain ⟨t, lm, h1, h2, h3⟩ := h;exact ⟨t, lm, x.get h1 (fun e => hs _ e (by simp)), h2.mut x (.inr (fun e => hs _ e (by simp))), h3.mut x (fun e => hs _ e (by simp)) (fun e => hs _ e (by simp))⟩
theorem zK9 {V : World} {b : Nat} {v0 v1 v2 v3 : Value} {t : TypeId} (h : V.heap[b]? = some (.cells #[v0, v1, v2, v3] t (0, 0))) :
  V.cell? ⟨b, 0, none⟩ = some v0 ∧ V.cell? ⟨b, 1, none⟩ = some v1 ∧ V.cell? ⟨b, 2, none⟩ = some v2 ∧ V.cell? ⟨b, 3, none⟩ = some v3 ∧ ∀ i, V.frozen? ⟨b, i, none⟩ = false :=
 ⟨by rw [zAb h]; rfl, by rw [zAb h]; rfl, by rw [zAb h]; rfl, by rw [zAb h]; rfl, zAl h⟩
def procPost (w : World) (e : Ending) (w' : World) : Prop := ∃ t : Nat, e = .returned (.pointer (some ⟨t, 0, none⟩)) ∧ Ext w w'
theorem ProcNew_any (w : World) (v : Value) (hv : ∃ t x, v = .iface t x) : Calls Tryz.prog 62 #[v] w (procPost w) := by
 obtain ⟨t, x, rfl⟩ := hv;have hmm := @run_makeMap Tryz.prog;go_enter Tryz.func62, Tryz.ntmps62
 go_wp2_with fail
 go_ret
 exact ⟨_, rfl, ((xr w).alloc _).alloc _⟩
def mnewPost (w : World) (e : Ending) (w' : World) : Prop := ∃ m g, e = .returned (.pointer (some ⟨m, 0, none⟩)) ∧ MgrE w' m g ∧ w.heap.size ≤ m ∧ Ext w w'
theorem MgrNew_any (w : World) (t : Nat) : Calls Tryz.prog 61 #[.pointer (some ⟨t, 0, none⟩)] w (mnewPost w) := by
 have hmm := @run_makeMap Tryz.prog;go_enter Tryz.func61, Tryz.ntmps61
 go_wp2_with (go_at_call 142; refine (gNew_e _).mono ?_; rintro e w2 ⟨g, rfl, g2, hg, x2⟩; have G2 := zh g2; have X2 := zh x2; clear g2 x2)
 go_ret
 have h := heap_alloc_new (w2.alloc (.map #[] 0)) (.cells #[.pointer (some ⟨t, 0, none⟩), .pointer (some ⟨g, 0, none⟩), .map (some w2.heap.size), .slice none 0 0] 123);rw [World.size_alloc] at h;have hsz := X2.out.sz;exact ⟨_, g, rfl, ⟨t, w2.heap.size, h, (MapK.made strK w2).ext ((xr _).alloc _), G2.out.ext (((xr w2).alloc _).alloc _)⟩, by omega, (X2.out.alloc _).alloc _⟩
theorem zKu {w : World} {m g : Nat} (h : MgrE w m g) : Calls Tryz.prog 103 #[.pointer (some ⟨m, 0, none⟩)] w fun e w' => e = .returned (.pointer (some ⟨g, 0, none⟩)) ∧ w = w' := by
 obtain ⟨t, lm, h1, -, -⟩ := h;obtain ⟨q0, q1, q2, q3, qf⟩ := zK9 h1;clear h1;go_enter Tryz.func103, Tryz.ntmps103
 go_wp2_with fail
 go_ret
 exact ⟨rfl, rfl⟩
def msetPost (w : World) (B m g : Nat) (e : Ending) (w' : World) : Prop := e = .returned (.tuple #[]) ∧ MgrE w' m g ∧ Mut B [125] w w'
theorem MSet_any {w : World} {B m g g' : Nat} (h : MgrE w m g) (hg : GraphE w g') (hB : B ≤ m) : Calls Tryz.prog 141 #[.pointer (some ⟨m, 0, none⟩), .pointer (some ⟨g', 0, none⟩)] w (msetPost w B m g') := by
 obtain ⟨t, lm, h1, h2, h3⟩ := h;have H1 := zh h1;have H2 := zh h2;have HG := zh hg;obtain ⟨q0, q1, q2, q3, qf⟩ := zK9 h1;clear h1 h2 h3 hg;go_enter Tryz.func141, Tryz.ntmps141
 go_wp2_with fail
 go_end0
 have m1 := zAi (B := B) (T := [125]) (i := 1) w H1.out (.pointer (some ⟨g', 0, none⟩)) (by simp) hB;refine ⟨rfl, ⟨t, lm, ?_, H2.out.mut m1 (.inr (by simp)), HG.out.mut m1 (by simp) (by simp)⟩, m1⟩;rw [zAd w m 1 _ _ _ _ H1.out]; rfl
def zIo (w : World) (e : Ending) (w' : World) : Prop := e = .returned (.slice none 0 0) ∧ Ext w w'
theorem In_e {w : World} {m g : Nat} (h : MgrE w m g) (v : Value) (hv : ∃ a n c, v = .slice a n c) : Calls Tryz.prog 19 #[.pointer (some ⟨m, 0, none⟩), v] w (zIo w) := by
 obtain ⟨a, n, c, rfl⟩ := hv;obtain ⟨t, lm, h1, h2, -⟩ := h;have HK : Hid (Calls Tryz.prog 30 #[.func (.func 109) #[] #[.pointer (some ⟨w.heap.size, 0, none⟩)]] (w.alloc (.cells #[.map (some lm)] 118)) (zDi w [])) := sortedK_41 h2 (by simp) (fun x => by simp) (by simp);obtain ⟨q0, q1, q2, q3, qf⟩ := zK9 h1;clear h1 h2;go_enter Tryz.func19, Tryz.ntmps19
 go_wp2_with (first
  | (go_at_call 41; refine (keysK_41 _ _).mono ?_; rintro e w3 ⟨rfl, rfl⟩)
  | (go_at_call 30; refine HK.out.mono ?_; rintro e w4 ⟨v, rfl, o4, x4⟩; have X4 := zh x4; (obtain ⟨a4, c4, rfl⟩ := zH4 o4); clear o4 x4))
 go_loopw [5, 15] (fun v i wr => zB6 w4 v i wr) (fun _ _ _ => 0)
 case atStart => exact ⟨rfl, rfl, rfl⟩
 case round =>
  obtain ⟨rfl, rfl, rfl⟩ := hrel
  go_wp2_with fail
  go_ret
  exact ⟨rfl, X4.out⟩
theorem Hit_e {w : World} {m g : Nat} (h : MgrE w m g) (v : Value) (hv : ∃ a, v = .pointer a) : Calls Tryz.prog 178 #[v, .pointer (some ⟨m, 0, none⟩)] w (zIo w) := by
 obtain ⟨a, rfl⟩ := hv;have HI : Hid (∀ V, Ext w V → ∀ u, (∃ a n c, u = .slice a n c) → Calls Tryz.prog 19 #[.pointer (some ⟨m, 0, none⟩), u] V (zIo V)) := fun V x u hu => In_e (h.ext x) u hu
 clear h;go_enter Tryz.func178, Tryz.ntmps178
 go_wp2_with (go_at_call 19; refine (HI.out _ ((xr w).alloc _) _ ⟨_, _, _, rfl⟩).mono ?_; rintro e w2 ⟨rfl, x2⟩; have X2 := zh x2; clear x2)
 go_loopw [5, 12] (fun v i wr => zB6 w2 v i wr) (fun _ _ _ => 0)
 case atStart => exact ⟨rfl, rfl, rfl⟩
 case round =>
  obtain ⟨rfl, rfl, rfl⟩ := hrel
  go_wp2_with fail
  go_ret
  exact ⟨rfl, ((xr w).alloc _).trans X2.out⟩
end
end Go.Proofs.YtgnjjfdfoibdiaaGreatDoor
