/- A part of the proof of WholeUsers. -/
import Derived.Test.YtgnjjfdfoibdiaaGreatDoorUao
set_option linter.all false
namespace Go.Proofs.YtgnjjfdfoibdiaaGreatDoor
section
open Go.RowKit Go.Maps Go.Sort Go.Lib
set_option maxRecDepth 100000
theorem ORow.setCell {R : RT} {w : World} {base : Nat} {v : Value} {rs : List (List Value)} {a : Addr} (h : ORow R w base v rs) (ha : a.block < base) (u : Value) : ORow R (w.setCell a u) base v rs := by
 refine ⟨⟨h.own.1, h.own.2.imp id ?_⟩, h.len, h.one⟩;rintro ⟨g, cap, cur, rfl, h1, h2, h3⟩;exact ⟨g, cap, cur, rfl, h1, (Below.heap_setCell w a u g (by omega)).trans h2, h3⟩
def GotE (o : Option En) (n v : ByteArray) (fs : List Bf) : Prop := ∀ e, o = some e → n = ba nmA ∧ v = ba e.ver ∧ fs = e.fs
def zKe (w : World) (o : Option En) (e : Ending) (w' : World) : Prop := ∃ n v fv fs, e = .returned (.tuple #[.agg #[.string n, .string v, .slice none 0 0, .slice none 0 0, fv, .slice none 0 0], .bool o.isSome]) ∧ FilesV w' fv fs ∧ GotE o n v fs ∧ Ext w w'
theorem zFc (w : World) : (zeroValue 103).run Tryz.prog w = .ok (.agg #[.string ⟨#[]⟩, .string ⟨#[]⟩, .slice none 0 0, .slice none 0 0, .slice none 0 0, .slice none 0 0]) w := by
 have h : (Tryz.prog.info? 103).map (fun i => i.zero) = some (some (.agg #[.string ⟨#[]⟩, .string ⟨#[]⟩, .slice none 0 0, .slice none 0 0, .slice none 0 0, .slice none 0 0])) := by kernel_rfl
 obtain ⟨i, hi, hz⟩ : ∃ i, Tryz.prog.info? 103 = some i ∧ i.zero = some (.agg #[.string ⟨#[]⟩, .string ⟨#[]⟩, .slice none 0 0, .slice none 0 0, .slice none 0 0, .slice none 0 0]) := by
  cases hq : Tryz.prog.info? 103 with
  | none => rw [hq] at h; cases h
  | some i => rw [hq] at h; exact ⟨i, rfl, Option.some.inj h⟩
 simp [zeroValue, typeInfo, hi, hz]
theorem BaseM.entry {w : World} {b : Nat} {o : Option En} (h : BaseM w b o) : ∃ n v fa fc fs, FilesV w (.slice fa fs.length fc) fs ∧ GotE o n v fs ∧
  (∀ W, Ext w W → (Instr.lookup 50 (.map (some b)) (.string (ba nmA)) true).run Tryz.prog W = .ok (.tuple #[.agg #[.string n, .string v, .slice none 0 0, .slice none 0 0, .slice fa fs.length fc, .slice none 0 0], .bool o.isSome]) W) ∧
  ∀ W, Ext w W → (Instr.lookup 50 (.map (some b)) (.string (ba nmA)) false).run Tryz.prog W = .ok (.agg #[.string n, .string v, .slice none 0 0, .slice none 0 0, .slice fa fs.length fc, .slice none 0 0]) W := by
 obtain ⟨n, vo, hn, hm, he⟩ := h
 cases o with
 | none =>
   obtain rfl : vo = none := by cases vo <;> first | rfl | exact he.elim
   refine ⟨⟨#[]⟩, ⟨#[]⟩, none, 0, [], ⟨ORow.nil _ _ _, by simp⟩, (fun e h => by cases h), fun W x => ?_, fun W x => ?_⟩
   ·have := (hm.ext x).look_ok zA0 (zFc W) zEs;simpa [zIn, zL8] using this
   ·have := (hm.ext x).look zA0 (zFc W) zEs;simpa [zIn, zL8] using this
 | some e =>
   cases vo with
   | none => exact he.elim
   | some val =>
     obtain ⟨fv, rfl, hfv⟩ := he;obtain ⟨fa, fc, rfl⟩ := hfv.form;refine ⟨ba nmA, ba e.ver, fa, fc, e.fs, hfv, (fun e' h => by cases h; exact ⟨rfl, rfl, rfl⟩), fun W x => ?_, fun W x => ?_⟩
     ·have := (hm.ext x).look_ok zA0 (zFc W) zEs;simpa [zIn, zL8, zBn] using this
     ·have := (hm.ext x).look zA0 (zFc W) zEs;simpa [zIn, zL8, zBn] using this
set_option maxHeartbeats 4000000 in
theorem zNz {w : World} {b : Nat} {o : Option En} (h : BaseM w b o) : Calls Tryz.prog 150 #[.agg #[.map (some b)], .string (ba nmA)] w (zKe w o) := by
 obtain ⟨n, v, fa, fc, fs, hfv, hg, hlk, -⟩ := h.entry;have FV := zh hfv;have HG := zh hg;have hlw := hlk ((w.alloc (.cells #[.map (some b)] 52)).alloc (.cells #[.string ⟨#[]⟩, .string ⟨#[]⟩, .slice none 0 0, .slice none 0 0, .slice none 0 0, .slice none 0 0] 103)) (((xr w).alloc _).alloc _)
 obtain ⟨W, hW⟩ : ∃ W, W = (((w.alloc (.cells #[.map (some b)] 52)).alloc (.cells #[.string ⟨#[]⟩, .string ⟨#[]⟩, .slice none 0 0, .slice none 0 0, .slice none 0 0, .slice none 0 0] 103)).alloc (.cells #[.string n, .string v, .slice none 0 0, .slice none 0 0, .slice fa fs.length fc, .slice none 0 0] 103)) := ⟨_, rfl⟩
 have XW := zh (show Ext w W by rw [hW]; exact (((xr w).alloc _).alloc _).alloc _);have HCL : Hid (∀ V, Ext w V → Calls Tryz.prog 227 #[.slice fa fs.length fc] V (zF1 rBFile V (fs.map zEz))) := fun V x => Clone_227 (hfv.mut x.mut (B := 0) (S := []) (by simp)).1 (by rw [List.length_map]; have := hfv.2; omega)
 have hb2 : W.heap[w.heap.size + 1 + 1]? = some (.cells #[.string n, .string v, .slice none 0 0, .slice none 0 0, .slice fa fs.length fc, .slice none 0 0] 103 (0, 0)) := by
  have := heap_alloc_new ((w.alloc (.cells #[.map (some b)] 52)).alloc (.cells #[.string ⟨#[]⟩, .string ⟨#[]⟩, .slice none 0 0, .slice none 0 0, .slice none 0 0, .slice none 0 0] 103)) (.cells #[.string n, .string v, .slice none 0 0, .slice none 0 0, .slice fa fs.length fc, .slice none 0 0] 103);rw [World.size_alloc, World.size_alloc] at this;rw [hW]; exact this
 have hb1 : W.heap[w.heap.size + 1]? = some (.cells #[.string ⟨#[]⟩, .string ⟨#[]⟩, .slice none 0 0, .slice none 0 0, .slice none 0 0, .slice none 0 0] 103 (0, 0)) := by
  have := heap_alloc_new (w.alloc (.cells #[.map (some b)] 52)) (.cells #[.string ⟨#[]⟩, .string ⟨#[]⟩, .slice none 0 0, .slice none 0 0, .slice none 0 0, .slice none 0 0] 103);rw [World.size_alloc] at this;rw [hW]; exact ((xr _).alloc _).get this
 have KT : Hid (∀ V, Ext W.drew V → _) := fun V x => (fun (h : V.heap[w.heap.size + 1 + 1]? = _) => And.intro h (cells6 h)) (x.get hb2)
 have KR : Hid (∀ V, Ext W.drew V → _) := fun V x => (x.get hb1)
 have HSZ : Hid (w.heap.size + 1 + 1 < W.drew.heap.size) := (Array.getElem?_eq_some_iff.1 hb2).1;obtain ⟨q0, q1, q2, q3, q4, q5, qf⟩ := cells6 hb2;clear h hg hlk hfv hb1 hb2;go_enter Tryz.func150, Tryz.ntmps150
 go_upto_region 2 with fail
 rw [← hW];clear hW hlw;refine zBc (S := (fun V => V.cell? ⟨w.heap.size + 1 + 1, 2, none⟩ = some (.slice none 0 0) ∧ V.cell? ⟨w.heap.size + 1 + 1, 3, none⟩ = some (.slice none 0 0) ∧ V.cell? ⟨w.heap.size + 1 + 1, 4, none⟩ = some (.slice fa fs.length fc) ∧ V.cell? ⟨w.heap.size + 1 + 1, 5, none⟩ = some (.slice none 0 0))) 13 (by kernel_rfl) (by kernel_rfl) (by simp [*]) fun _ => ?_
 simp only [List.take_succ_cons, List.take_zero];refine tk 0 ?_;refine tk 3 ?_;refine tk 6 ?_;refine tk 9 ?_;refine tk 1 ?_;refine tk 4 ?_;refine tk 7 ?_;refine tk 10 ?_;refine rd 2 fun K hK => ?_
 go_simp
 (go_at_call 163; refine (zGt _).mono ?_; rintro e ww ⟨rfl, rfl⟩)
 go_wp2_with fail
 refine hK.out _ _ ?_ fun _ => ?_
 ·simp [*]
 clear hK K;refine tk 12 ?_;refine rd 5 fun K hK => ?_
 go_simp
 (go_at_call 96; refine (zCp _).mono ?_; rintro e ww ⟨rfl, rfl⟩)
 go_wp2_with fail
 refine hK.out _ _ ?_ fun _ => ?_
 ·simp [*]
 clear hK K
 try simp only [nf]
 refine rd 8 fun K hK => ?_
 go_simp
 (go_at_call 227; refine (HCL.out _ XW.out.drew).mono ?_; rintro e ww ⟨v7, rfl, o7, x7⟩; (obtain ⟨a7, c7, rfl⟩ := o7.form); (obtain ⟨hb7, d0, d1, d2, d3, d4, d5, f7⟩ := KT.out _ x7); have HB7 := zh hb7; clear hb7; have XX : Hid (Ext w ww) := XW.out.drew.trans x7; (have hbr := KR.out _ x7); have HBR := zh hbr; (obtain ⟨r0, r1, r2, r3, r4, r5, fr⟩ := cells6 hbr); clear hbr; (rw [List.length_map] at o7 ⊢); have O7 := zh o7; clear o7 x7)
 go_wp2_with fail
 refine hK.out _ _ ?_ fun _ => ?_
 ·simp [*]
 clear hK K
 try simp only [nf]
 refine rd 11 fun K hK => ?_
 go_simp
 (go_at_call 96; refine (zCp _).mono ?_; rintro e ww ⟨rfl, rfl⟩)
 go_wp2_with fail
 refine hK.out _ _ ?_ fun _ => ?_
 ·simp [*]
 clear hK K
 try simp only [nf]
 refine wpAnyH_done (by kernel_rfl) ?_ _;simp only [zLp, List.drop_succ_cons, List.drop_zero]
 go_wp2_with fail
 refine bodyPost_ret (v := .tuple #[.agg #[.string n, .string v, .slice none 0 0, .slice none 0 0, .slice a7 fs.length c7, .slice none 0 0], .bool o.isSome]) (by simp [results, Tryz.results150, r0, r1, r2, r3, r4, r5, d0, d1, d2, d3, d4, d5, go_sem, World.cell?_setCell_far]) rfl ?_;have h2 : ∀ k, w.heap.size ≤ (⟨w.heap.size + 1 + 1, k, none⟩ : Addr).block := fun _ => Nat.le_trans (Nat.le_succ _) (Nat.le_succ _)
 have h1 : ∀ k, w.heap.size ≤ (⟨w.heap.size + 1, k, none⟩ : Addr).block := fun _ => Nat.le_succ _
 have x10 := (((((((((XX.out.setCell (h2 2) (.slice none 0 0)).setCell (h2 3) (.slice none 0 0)).setCell (h2 4) (.slice a7 fs.length c7)).setCell (h2 5) (.slice none 0 0)).setCell (h1 0) (.string n)).setCell (h1 1) (.string v)).setCell (h1 2) (.slice none 0 0)).setCell (h1 3) (.slice none 0 0)).setCell (h1 4) (.slice a7 fs.length c7)).setCell (h1 5) (.slice none 0 0);have hsz : w.heap.size + 1 + 1 < W.drew.heap.size := HSZ.out;have b2 : ∀ k, (⟨w.heap.size + 1 + 1, k, none⟩ : Addr).block < W.drew.heap.size := fun _ => hsz
 have b1 : ∀ k, (⟨w.heap.size + 1, k, none⟩ : Addr).block < W.drew.heap.size := fun _ => Nat.lt_trans (Nat.lt_succ_self _) hsz
 have o10 := (((((((((O7.out.setCell (b2 2) (.slice none 0 0)).setCell (b2 3) (.slice none 0 0)).setCell (b2 4) (.slice a7 fs.length c7)).setCell (b2 5) (.slice none 0 0)).setCell (b1 0) (.string n)).setCell (b1 1) (.string v)).setCell (b1 2) (.slice none 0 0)).setCell (b1 3) (.slice none 0 0)).setCell (b1 4) (.slice a7 fs.length c7)).setCell (b1 5) (.slice none 0 0);exact ⟨n, v, _, fs, rfl, ⟨o10.le (Nat.zero_le _), FV.out.2⟩, HG.out, x10⟩
def bfZero : Bf := ⟨[], false, 0⟩
def zIq (fs : List Bf) (p : Str) : Option Bf := fs.find? fun f => decide (f.path = p)
def zIm (o : Option En) (p : Str) : Option Bf := o.bind fun e => zIq e.fs p
def zDz (r : Option Bf) : Value := .tuple #[.string (if r.isSome then ba nmA else ⟨#[]⟩), .agg #[.string (ba (r.getD bfZero).path), .bool (r.getD bfZero).cfg, .int .u32 ((r.getD bfZero).sum : Int)], .bool r.isSome]
def zFt (w : World) (o : Option En) (p : Str) (e : Ending) (w' : World) : Prop := e = .returned (zDz (zIm o p)) ∧ Ext w w'
theorem findF_succ {fs : List Bf} {p : Str} {k : Nat} (hk : k < fs.length) : zIq (fs.take (k + 1)) p = (zIq (fs.take k) p).or (if fs[k].path = p then some fs[k] else none) := by
 unfold zIq;rw [List.take_succ_eq_append_getElem hk, List.find?_append];simp only [List.find?_cons, List.find?_nil]
 by_cases h : fs[k].path = p <;> simp [h]
theorem findF_app {fs : List Bf} {p : Str} {k : Nat} (h : (zIq (fs.take k) p).isSome = true) : zIq fs p = zIq (fs.take k) p := by
 unfold zIq at *
 conv => lhs; rw [← List.take_append_drop k fs, List.find?_append]
 obtain ⟨f, hf⟩ := Option.isSome_iff_exists.1 h;rw [hf]; rfl
def owner1Rel (w : World) (i : Value) (wr : World) : Prop := i = .int .i64 0 ∧ Hid (Ext w wr)
def ownerRel (w : World) (fs : List Bf) (p : Str) (i : Value) (wr : World) : Prop := Hid (Ext w wr) ∧ (i = .int .i64 0 ∨ i = .int .i64 1 ∧ zIq fs p = none)
def ownerRel2 (w : World) (fs : List Bf) (p : Str) (i : Value) (wr : World) : Prop := ∃ k : Nat, k ≤ fs.length ∧ i = .int .i64 k ∧ Hid (Ext w wr) ∧ Hid (zIq (fs.take k) p = none)
theorem FilesV.at {w : World} {a : Option Addr} {n c : Nat} {fs : List Bf} (h : FilesV w (.slice a n c) fs) (k : Nat) (hk : k < fs.length) :
  ∃ b, a = some ⟨b, 0, none⟩ ∧ w.cell? ⟨b, k * 3, none⟩ = some (.string (ba fs[k].path)) ∧ w.cell? ⟨b, k * 3 + 1, none⟩ = some (.bool fs[k].cfg) ∧ w.cell? ⟨b, k * 3 + 2, none⟩ = some (.int .u32 (fs[k].sum : Int)) := by
 obtain ⟨b, e, hc⟩ := h.1.at k (by simpa using hk);have h0 := hc 0 (by decide);have h1 := hc 1 (by decide);have h2 := hc 2 (by decide);simp only [List.getElem_map] at h0 h1 h2;exact ⟨b, e, h0, h1, h2⟩
theorem zP8 {w : World} {base c : Nat} {a : Option Addr} {n : Nat} {s : Str} {l : List Str} (h : OwnS w base (.slice a n c) (s :: l)) : ∃ b o, a = some ⟨b, o, none⟩ ∧ w.cell? ⟨b, o, none⟩ = some (.string (ba s)) := by
 obtain ⟨a', cap, e, _, _, _, hc⟩ := h.row;cases e;obtain ⟨b', o', e, h⟩ := hc 0 (by simp);exact ⟨b', o', e, h⟩
theorem zNv (a b c d e f : Value) (W : World) : (Instr.field 103 (.agg #[a, b, c, d, e, f]) 4).run Tryz.prog W = .ok e W := by kernel_rfl
theorem zA2 {V : World} {b : Nat} {v0 v1 v2 : Value} {t : TypeId} (h : V.heap[b]? = some (.cells #[v0, v1, v2] t (0, 0))) :
  V.cell? ⟨b, 0, none⟩ = some v0 ∧ V.cell? ⟨b, 1, none⟩ = some v1 ∧ V.cell? ⟨b, 2, none⟩ = some v2 ∧ ∀ i, V.frozen? ⟨b, i, none⟩ = false :=
 ⟨by rw [zAb h]; rfl, by rw [zAb h]; rfl, by rw [zAb h]; rfl, zAl h⟩
theorem zH2 {w V : World} {o : Option En} {p : Str} {r : Option Bf} (hr : zIm o p = r) (x : Ext w V) (u0 u1 u2 : Value) : zFt w o p (.returned (zDz r)) (((V.setCell ⟨w.heap.size + 1, 0, none⟩ u0).setCell ⟨w.heap.size + 1, 1, none⟩ u1).setCell ⟨w.heap.size + 1, 2, none⟩ u2) := by
 have h1 : ∀ k, w.heap.size ≤ (⟨w.heap.size + 1, k, none⟩ : Addr).block := fun _ => Nat.le_succ _
 exact ⟨by rw [hr], ((x.setCell (h1 0) u0).setCell (h1 1) u1).setCell (h1 2) u2⟩
theorem owner_done' {w V : World} {o : Option En} {p : Str} {r : Option Bf} (hr : zIm o p = r) (x : Ext w V) (u0 u1 u2 : Value) : zFt w o p (.returned (zDz r)) (((V.setCell ⟨w.heap.size + 1, 0, none⟩ u0).setCell ⟨w.heap.size + 1, 1, none⟩ u1).setCell ⟨w.heap.size + 1, 2, none⟩ u2).drew :=
 ⟨(zH2 hr x u0 u1 u2).1, (zH2 hr x u0 u1 u2).2.drew⟩
theorem Owner_none {w : World} {b : Nat} {p : Str} (h : BaseM w b none) : Calls Tryz.prog 160 #[.agg #[.map (some b)], .string (ba p)] w (zFt w none p) := by
 obtain ⟨W, hW⟩ : ∃ W, W = (w.alloc (.cells #[.map (some b)] 52)).alloc (.cells #[.string ⟨#[]⟩, .bool false, .int .u32 0] 258) := ⟨_, rfl⟩
 have XW := zh (show Ext w W by rw [hW]; exact ((xr w).alloc _).alloc _);have HN := zh (zE4 (h.ext XW.out))
 have hb1 : W.heap[w.heap.size + 1]? = some (.cells #[.string ⟨#[]⟩, .bool false, .int .u32 0] 258 (0, 0)) := by
  have := heap_alloc_new (w.alloc (.cells #[.map (some b)] 52)) (.cells #[.string ⟨#[]⟩, .bool false, .int .u32 0] 258);rw [World.size_alloc] at this;rw [hW]; exact this
 have hb0 : W.heap[w.heap.size]? = some (.cells #[.map (some b)] 52 (0, 0)) := by
  rw [hW]; exact ((xr _).alloc _).get (heap_alloc_new w _)
 have KR : Hid (∀ V, Ext W V → _) := fun V x => zA2 (x.get hb1)
 have KB : Hid (∀ V, Ext W V → V.cell? ⟨w.heap.size, 0, none⟩ = some (.map (some b))) := fun V x => by rw [zAb (x.get hb0)]; rfl
 clear h hb1 hb0;go_enter Tryz.func160, Tryz.ntmps160
 go_wp2_with (rw [← hW]; go_at_call 13; refine HN.out.mono ?_; rintro e w2 ⟨v, rfl, o2, x2⟩; (obtain ⟨a2, c2, hv2, -⟩ := o2.row.form); simp only [zCy] at hv2; subst hv2; have X2 := zh x2; clear o2 x2)
 clear hW
 go_loopw [14] (fun i wr => owner1Rel W i wr) (fun _ _ => 0)
 case atStart => exact ⟨rfl, X2⟩
 case round =>
  obtain ⟨rfl, XR⟩ := hrel;obtain ⟨q0, q1, q2, qf⟩ := KR.out _ XR.out
  go_wp2_with fail
  refine bodyPost_ret (v := zDz none) (by simp [results, Tryz.results160, zDz, bfZero, ba, q0, q1, q2, go_sem, World.cell?_setCell_far]) rfl ?_;exact zH2 rfl (XW.out.trans XR.out) _ _ _
theorem Owner_some {w : World} {b : Nat} {p : Str} {e : En} (h : BaseM w b (some e)) : Calls Tryz.prog 160 #[.agg #[.map (some b)], .string (ba p)] w (zFt w (some e) p) := by
 obtain ⟨W, hW⟩ : ∃ W, W = (w.alloc (.cells #[.map (some b)] 52)).alloc (.cells #[.string ⟨#[]⟩, .bool false, .int .u32 0] 258) := ⟨_, rfl⟩
 have XW := zh (show Ext w W by rw [hW]; exact ((xr w).alloc _).alloc _);have HN := zh (zE4 (h.ext XW.out))
 have hb1 : W.heap[w.heap.size + 1]? = some (.cells #[.string ⟨#[]⟩, .bool false, .int .u32 0] 258 (0, 0)) := by
  have := heap_alloc_new (w.alloc (.cells #[.map (some b)] 52)) (.cells #[.string ⟨#[]⟩, .bool false, .int .u32 0] 258);rw [World.size_alloc] at this;rw [hW]; exact this
 have hb0 : W.heap[w.heap.size]? = some (.cells #[.map (some b)] 52 (0, 0)) := by
  rw [hW]; exact ((xr _).alloc _).get (heap_alloc_new w _)
 have KR : Hid (∀ V, Ext W V → _) := fun V x => zA2 (x.get hb1)
 have KB : Hid (∀ V, Ext W V → V.cell? ⟨w.heap.size, 0, none⟩ = some (.map (some b))) := fun V x => by rw [zAb (x.get hb0)]; rfl
 obtain ⟨n, v, fa, fc, fs, hfv, hg, -, hlk⟩ := h.entry;obtain ⟨rfl, rfl, rfl⟩ := hg e rfl;have FV := zh hfv;have HLK : Hid (∀ V, Ext W V → _) := fun V x => hlk V (XW.out.trans x)
 clear h hb1 hb0 hfv hg hlk;go_enter Tryz.func160, Tryz.ntmps160
 go_wp2_with (rw [← hW]; go_at_call 13; refine HN.out.mono ?_; rintro e w2 ⟨v, rfl, o2, x2⟩; (obtain ⟨a2, c2, hv2, -⟩ := o2.row.form); simp only [zCy] at hv2; subst hv2; have X2 := zh x2; have O2 := zh o2; clear o2 x2)
 clear hW
 obtain ⟨bn, on, rfl, hcn⟩ : ∃ bn on, a2 = some ⟨bn, on, none⟩ ∧ w2.cell? ⟨bn, on, none⟩ = some (.string (ba nmA)) := by
  exact zP8 O2.out
 have HCN : Hid (∀ V, Ext w2 V → V.cell? ⟨bn, on, none⟩ = some (.string (ba nmA))) := fun V x => x.cell hcn
 have FS := zh FV.out.2;clear hcn O2
 go_loopw [14] (fun i wr => ownerRel w2 e.fs p i wr) (fun i _ => 1 - (intOf i).toNat)
 case atStart => exact ⟨zh (xr _), .inl rfl⟩
 case round =>
  obtain ⟨wq, rfl⟩ : ∃ x : World, x = wr := ⟨_, rfl⟩
  obtain ⟨XR, hcase⟩ := hrel
  rcases hcase with rfl | ⟨rfl, hno⟩
  ·have XQ := zh (X2.out.trans XR.out);have hlk := HLK.out _ XQ.out;have hcb := KB.out _ XQ.out;have hcn := HCN.out _ XR.out;have hfl : e.fs.length ≤ 1000 := FS.out;have hfd := zNv (.string (ba nmA)) (.string (ba e.ver)) (.slice none 0 0) (.slice none 0 0) (.slice fa e.fs.length fc) (.slice none 0 0)
   go_wp2_with fail
   go_loopw [24] (fun i wz => ownerRel2 w2 e.fs p i wz) (fun i _ => e.fs.length - (intOf i).toNat)
   case atStart => exact ⟨0, Nat.zero_le _, rfl, XR, zh (by simp [zIq])⟩
   case round =>
    obtain ⟨wy, rfl⟩ : ∃ x : World, x = wr := ⟨_, rfl⟩
    obtain ⟨k, hk, rfl, XZ, HF⟩ := hrel
    by_cases hlt : k < e.fs.length
    ·obtain ⟨b', hb', hc0, hc1, hc2⟩ := (FV.out.mut (XW.out.trans (X2.out.trans XZ.out)).mut (B := 0) (S := []) (by simp)).at k hlt;subst hb';have HS := zh (findF_succ (p := p) hlt);have HAP := zh (fun h => findF_app (fs := e.fs) (p := p) (k := k + 1) h);generalize hf : e.fs[k] = f at *;obtain ⟨q0, q1, q2, qf⟩ := KR.out _ (X2.out.trans XZ.out)
     by_cases hp : f.path = p
     ·subst hp
      have HR := zh (show zIm (some e) f.path = some f by
       have h1 : (zIq (e.fs.take (k + 1)) f.path) = some f := by rw [HS.out, HF.out]; simp
       exact (HAP.out (by rw [h1]; rfl)).trans h1)
      have hne : wy.heap.size ≠ w.heap.size + 1 := by have := World.block_lt_of_cell? _ _ q0; simp at this; omega
      go_upto_region 8 with fail
      obtain ⟨V, hV⟩ : ∃ V, V = wy.alloc (.cells #[.string (ba f.path), .bool f.cfg, .int .u32 (f.sum : Int)] 258) := ⟨_, rfl⟩
      have XV := zh (show Ext wy V by rw [hV]; exact (xr wy).alloc _);obtain ⟨t0, t1, t2, tf⟩ := KR.out _ ((X2.out.trans XZ.out).trans XV.out);obtain ⟨s0, s1, s2, sf⟩ := zA2 (show V.heap[wy.heap.size]? = some (.cells #[.string (ba f.path), .bool f.cfg, .int .u32 (f.sum : Int)] 258 (0, 0)) by rw [hV]; exact heap_alloc_new wy _);rw [← hV];clear hV q0 q1 q2 qf hc0 hc1 hc2
      go_region
      go_wp2_with fail
      refine bodyPost_ret (v := zDz (some f)) (by simp [results, Tryz.results160, zDz, t0, t1, t2, go_sem, World.cell?_setCell_far]) rfl ?_;exact owner_done' HR.out (XW.out.trans ((X2.out.trans XZ.out).trans XV.out)) _ _ _
     ·have hpb : (f.path == p) = false := by simpa using hp
      go_wp2_with fail
      go_roundw
      case rel => exact ⟨k + 1, hlt, by go_num, zh (XZ.out.alloc _), zh (by rw [HS.out, HF.out, if_neg hp]; rfl)⟩
      case measure => simp [intOf]; omega
    ·have hkl : k = e.fs.length := by omega
     have HNO := zh (show zIq e.fs p = none by have := HF.out; rw [hkl, List.take_length] at this; exact this);subst hkl
     go_wp2_with fail
     go_roundw
     case rel => exact ⟨XZ, .inr ⟨rfl, HNO.out⟩⟩
     case measure => simp [intOf]
  ·obtain ⟨q0, q1, q2, qf⟩ := KR.out _ (X2.out.trans XR.out);have HNO : Hid (zIm (some e) p = none) := hno;clear hno
   go_wp2_with fail
   refine bodyPost_ret (v := zDz none) (by simp [results, Tryz.results160, zDz, bfZero, ba, q0, q1, q2, go_sem, World.cell?_setCell_far]) rfl ?_;exact zH2 HNO.out (XW.out.trans (X2.out.trans XR.out)) _ _ _
theorem zC2 {w : World} {b : Nat} {p : Str} {o : Option En} (h : BaseM w b o) : Calls Tryz.prog 160 #[.agg #[.map (some b)], .string (ba p)] w (zFt w o p) := by
 cases o with
 | none => exact Owner_none h
 | some e => exact Owner_some h
theorem zHz {w : World} {b : Nat} {s : Str} {t : TypeId} {fz : Nat × Nat} (h : w.heap[b]? = some (.cells #[.string (ba s)] t fz)) : SRow w (.slice (some ⟨b, 0, none⟩) 1 1) [s] :=
 ⟨_, 1, rfl, by simp, by simp, (fun h => by cases h), fun i hi => ⟨b, 0, rfl, by
  have : i = 0 := by simpa using hi
  subst this
  rw [zAb h]; rfl⟩⟩
def zDh (o : Option En) : List Str := (o.map fun e => e.fs.map (·.path)).getD []
def zAn (o : Option En) : List Str := Lib.compact (zCx (zDh o))
def filesPost (w : World) (o : Option En) (e : Ending) (w' : World) : Prop := ∃ v, e = .returned v ∧ OwnS w' w.heap.size v (zAn o) ∧ Ext w w'
def filesRel (w : World) (B2 b r n : Nat) (vo : Option Value) (o : Option En) (v : Value) (wr : World) : Prop :=
 ∃ (left : Str → Bool) (c : Nat) (l : List Str), Hid (RngK strK wr b r n (zIn vo) left c) ∧ Hid (Ext w wr) ∧ Hid (OwnS wr B2 v l) ∧ B2 ≤ wr.heap.size ∧ l.length ≤ 1000 ∧ ((left nmA = true → v = .slice none 0 0) ∧ (left nmA = false → l = zDh o)) ∧ ∀ x, left x = true → x = nmA
def filesRel2 (w w3 : World) (B2 b r n c : Nat) (vo : Option Value) (left : Str → Bool) (e : En) (v i : Value) (wr : World) : Prop :=
 ∃ k : Nat, k ≤ e.fs.length ∧ i = .int .i64 k ∧ Hid (Ext w wr) ∧ Hid (RngK strK wr b r n (zIn vo) left c) ∧ Hid (OwnS wr B2 v ((e.fs.take k).map (·.path))) ∧ B2 ≤ wr.heap.size ∧ w3.heap.size ≤ wr.heap.size
theorem zJx {w : World} {b : Nat} {o : Option En} (h : BaseM w b o) : Calls Tryz.prog 157 #[.agg #[.map (some b)]] w (filesPost w o) := by
 have hsh := h;obtain ⟨n, vo, hn, hm, he⟩ := h
 obtain ⟨W1, hW1⟩ : ∃ W1, W1 = w.alloc (.cells #[.map (some b)] 52) := ⟨_, rfl⟩
 have XW := zh (show Ext w W1 by rw [hW1]; exact (xr w).alloc _);have HSZ := zh (show W1.heap.size = w.heap.size + 1 by rw [hW1]; simp);have HB := zh (hm.ext XW.out);have HE := zh he;have hbl := hm.lt
 have hpl : (zDh o).length ≤ 1000 := by
  cases o with
  | none => simp [zDh]
  | some e =>
    cases vo with
    | none => exact he.elim
    | some v => obtain ⟨fv, _, hf⟩ := he; simpa [zDh] using hf.2
 clear hsh hm he;go_enter Tryz.func157, Tryz.ntmps157
 go_wp2_with (rw [← hW1]; refine zCq W1 (by rfl) _ 50 (by rfl) 103 zA0 strK b n _ (by rfl) HB.out ?_; intro w2 cnt0 r2 x2 z2; have R2 := zh r2; have X2 := zh x2; have Z2 := zh z2; clear r2 x2 z2)
 clear hW1;have HW2 : w.heap.size ≤ w2.heap.size := Nat.le_trans XW.out.sz X2.out.sz
 go_frame
 go_loopw [3] (fun v wr => filesRel w w2.heap.size b W1.heap.size n vo o v wr) (fun _ wr => wr.rangeLeft b W1.heap.size)
 case atStart =>
  refine ⟨_, cnt0, [], R2, zh (XW.out.trans X2.out), zh (OwnS.nil _ _), Nat.le_refl _, by simp, ⟨fun _ => rfl, fun h0 => ?_⟩, fun x hx => ?_⟩
  ·unfold zIn at h0;simp only [if_pos] at h0
   cases vo <;> cases o <;> first | exact HE.out.elim | (simp at h0; done) | simp [zDh]
  ·unfold zIn at hx
   split at hx
   ·assumption
   ·cases hx
 case round =>
  obtain ⟨wq, rfl⟩ : ∃ x : World, x = wr := ⟨_, rfl⟩
  obtain ⟨left, c, l, HR, HX, HO, hrl, hll, hleq, hlf⟩ := hrel;have HLE := zh hleq;have HLF := zh hlf;clear hleq hlf;obtain ⟨a3, c3, rfl, -⟩ := HO.out.row.form
  go_wp2_with (refine zG8 _ rfl _ rfl b W1.heap.size n _ left c rfl HR.out ?_ ?_)
  ·intro hdone;have HL2 : Hid (l = zDh o) := HLE.out.2 (hdone _);clear hdone
   go_wp2_with (first
    | (go_at_call 57; refine (sort_any HO.out (by omega)).mono ?_; rintro e w5 ⟨rfl, o5, g5⟩; have O5 := zh o5; have G5 := zh g5; clear o5 g5)
    | (go_at_call 237; refine (compact_any O5.out).mono ?_; rintro e w6 ⟨v6, rfl, o6, g6⟩; have O6 := zh o6; have G6 := zh g6; clear o6 g6))
   go_ret
   refine ⟨v6, rfl, by have := O6.out; rw [HL2.out] at this; exact this.base HW2, (HX.out.grow G5.out fun k hk => Nat.le_trans HW2 (HO.out.lt k hk).1).grow G6.out fun k hk => Nat.le_trans HW2 (HO.out.lt k hk).1⟩
  ·intro x v w3 c3' hok hl hx r3 hlt0 g3 s3 hen;obtain rfl := HLF.out x hl;have hv0 := HLE.out.1 hl;have hl0 : l.length = 0 := (Value.slice.inj hv0).2.1;obtain rfl : l = [] := List.eq_nil_of_length_eq_zero hl0;cases hv0;simp only [zIn, if_pos] at hx;subst hx
   obtain ⟨e, rfl⟩ : ∃ e, o = some e := by
    cases o with
    | none => exact HE.out.elim
    | some e => exact ⟨e, rfl⟩
   obtain ⟨fv, hv, hfv⟩ := HE.out;obtain ⟨fa, fc, rfl⟩ := hfv.form;simp only [zBn] at hv;subst hv;have HR3 := zh r3;have G3 := zh g3;have S3 := zh s3;have FV := zh hfv;have X3 := zh (HX.out.grow G3.out fun k hk => by cases hk; exact XW.out.sz);have O3 : Hid (OwnS w3 w.heap.size (.slice none 0 0) []) := OwnS.nil _ _;have hfl : e.fs.length ≤ 1000 := FV.out.2;have hs3 : w2.heap.size ≤ w3.heap.size := Nat.le_trans hrl G3.out.size
   go_wp2_with fail
   go_loopw [3, 18] (fun v i wz => filesRel2 w w3 w2.heap.size b W1.heap.size n c3' (some (.agg #[.string (ba nmA), .string (ba e.ver), .slice none 0 0, .slice none 0 0, .slice fa e.fs.length fc, .slice none 0 0])) (fun z => left z && !decide (z = nmA)) e v i wz) (fun _ i _ => e.fs.length - (intOf i).toNat)
   case atStart => exact ⟨0, Nat.zero_le _, rfl, zh (X3.out.alloc _), zh (HR3.out.ext ((xr w3).alloc _)), zh (OwnS.nil _ _), by simp; omega, by simp⟩
   case round =>
    obtain ⟨wy, rfl⟩ : ∃ x : World, x = wr := ⟨_, rfl⟩
    obtain ⟨k, hk, rfl, XY, RY, OY, hsy, hsy3⟩ := hrel;obtain ⟨a4, c4, hv4, -⟩ := OY.out.row.form;rw [List.length_map, List.length_take, Nat.min_eq_left hk] at hv4;subst hv4
    by_cases hlt : k < e.fs.length
    ·obtain ⟨b', hb', hc0, hc1, hc2⟩ := (FV.out.mut XY.out.mut (B := 0) (S := []) (by simp)).at k hlt;subst hb';have HTK := zh (List.take_succ_eq_append_getElem hlt);generalize e.fs[k] = f at *
     obtain ⟨W8, hW8⟩ : ∃ W8, W8 = (wy.alloc (.cells #[.string (ba f.path), .bool f.cfg, .int .u32 (f.sum : Int)] 258)).alloc (.cells #[.string (ba f.path)] 9) := ⟨_, rfl⟩
     have X8 := zh (show Ext wy W8 by rw [hW8]; exact ((xr wy).alloc _).alloc _);have HAP := zh (OY.out.ext X8.out)
     have HSR := zh (show SRow W8 (.slice (some ⟨wy.heap.size + 1, 0, none⟩) 1 1) [f.path] by
      have := zHz (heap_alloc_new (wy.alloc (.cells #[.string (ba f.path), .bool f.cfg, .int .u32 (f.sum : Int)] 258)) (.cells #[.string (ba f.path)] 9));rw [World.size_alloc] at this
      rw [hW8]; exact this)
     have HB8 : Hid (w2.heap.size ≤ W8.heap.size) := Nat.le_trans hsy X8.out.sz;have hszy := XY.out.sz;have hlk : ((e.fs.take k).map (·.path)).length = k := by rw [List.length_map, List.length_take, Nat.min_eq_left hk]
     have HLK := zh hlk;clear hlk
     go_wp2_with (at_builtin; rw [← hW8]; refine zBt W8 (by rfl) (.tmp 22) (.tmp 25) 33 (by rfl) Tryz.underlying33 w2.heap.size (.slice a4 k c4) (.slice (some ⟨wy.heap.size + 1, 0, none⟩) 1 1) (by rfl) (by rfl) ((e.fs.take k).map (·.path)) [f.path] HAP.out HSR.out (by rw [HLK.out]; simp; omega) HB8.out ?_; intro v8 w8 o8 g8 n8; have O8 := zh o8; have G8 := zh g8; clear o8 g8 n8)
     go_roundw
     case rel =>
      have hlt8 := HAP.out.lt;refine ⟨k + 1, hlt, by go_num, zh ((XY.out.trans X8.out).grow G8.out fun q hq => Nat.le_trans HW2 (hlt8 q hq).1), zh ?_, zh ?_, ?_, ?_⟩
      ·exact (RY.out.ext X8.out).kept G8.out (fun e => by have := (hlt8 _ e.symm).1; omega) (fun e => by have := (hlt8 _ e.symm).1; have := R2.out.lt; omega)
      ·rw [HTK.out, List.map_append];exact O8.out
      ·have := X8.out.sz; have := G8.out.size; omega
      ·have := X8.out.sz; have := G8.out.size; omega
     case measure => simp [intOf]; omega
    ·have hkl : k = e.fs.length := by omega
     subst hkl;have HO2 := zh (show OwnS wy w2.heap.size (.slice a4 e.fs.length c4) (e.fs.map (·.path)) by have := OY.out; rw [List.take_length] at this; exact this)
     go_wp2_with fail
     go_roundw
     case rel =>
      refine ⟨_, _, e.fs.map (·.path), RY, XY, HO2, hsy, by rw [List.length_map]; exact hfl, ⟨fun h => by simp at h, fun _ => by simp [zDh]⟩, fun x hx => ?_⟩;simp at hx;exact HLF.out x hx.1
     case measure =>
      rw [HR.out.left_eq, RY.out.left_eq];exact hlt0
structure Af where
 path : Str
 cfg : Bool
 data : List UInt8
def zCb (x : Af × Value) : List Value := [.string (ba x.1.path), .bool x.1.cfg, x.2]
structure ArcFs (w : World) (fv : Value) (fs : List (Af × Value)) : Prop where
 row : ORow rFile w 0 fv (fs.map zCb)
 data : ∀ x ∈ fs, DataIs w x.2 x.1.data
 len : fs.length ≤ 1000
def zA5 (ver : Str) (fv : Value) : Array Value := #[.string (ba nmA), .string (ba ver), .slice none 0 0, .slice none 0 0, fv, .slice none 0 0]
def ofF (f : Af) : Bf := ⟨f.path, f.cfg, zA3 f.data⟩
section
variable {w w' : World} {fv : Value} {fs : List (Af × Value)}
theorem ArcFs.ext (h : ArcFs w fv fs) (x : Ext w w') : ArcFs w' fv fs := ⟨h.row.ext x, fun y hy => (h.data y hy).ext x, h.len⟩
theorem ArcFs.mut {B : Nat} {S : List Nat} (h : ArcFs w fv fs) (x : Mut B S w w') (h1 : 32 ∉ S := by decide) (h2 : 7 ∉ S := by decide) : ArcFs w' fv fs := ⟨h.row.mut x h1, fun y hy => (h.data y hy).mut x h2, h.len⟩
theorem ArcFs.form (h : ArcFs w fv fs) : ∃ a c, fv = .slice a fs.length c := by
 obtain ⟨a, c, e⟩ := h.row.form;rw [List.length_map] at e;exact ⟨a, c, e⟩
theorem ArcFs.at {a : Option Addr} {n c : Nat} (h : ArcFs w (.slice a n c) fs) (k : Nat) (hk : k < fs.length) :
  ∃ b, a = some ⟨b, 0, none⟩ ∧ w.cell? ⟨b, k * 3, none⟩ = some (.string (ba fs[k].1.path)) ∧ w.cell? ⟨b, k * 3 + 1, none⟩ = some (.bool fs[k].1.cfg) ∧ w.cell? ⟨b, k * 3 + 2, none⟩ = some fs[k].2 := by
 obtain ⟨b, e, hc⟩ := h.row.at k (by simpa using hk);have h0 := hc 0 (by decide);have h1 := hc 1 (by decide);have h2 := hc 2 (by decide);simp only [List.getElem_map] at h0 h1 h2;exact ⟨b, e, h0, h1, h2⟩
end
theorem zD1 {V0 V : World} {b : Nat} {cs : Array Value} {t : TypeId} (m : Mut b [t + 2] V0 V ∧ ∃ cs, V.heap[b]? = some (.cells cs t (0, 0))) (i : Nat) (u : Value) :
  Mut b [t + 2] V0 (V.setCell ⟨b, i, none⟩ u) ∧ ∃ cs, (V.setCell ⟨b, i, none⟩ u).heap[b]? = some (.cells cs t (0, 0)) := by
 obtain ⟨m, cs, h⟩ := m;exact ⟨m.set h u (by simp) (Nat.le_refl _), _, heap_setCell_same V b i cs t u h⟩
theorem set6 {V : World} {b : Nat} (u0 u1 u2 u3 u4 u5 : Value) {cs : Array Value} {t : TypeId} (h : V.heap[b]? = some (.cells cs t (0, 0))) :
  Mut b [t + 2] V ((((((V.setCell ⟨b, 0, none⟩ u0).setCell ⟨b, 1, none⟩ u1).setCell ⟨b, 2, none⟩ u2).setCell ⟨b, 3, none⟩ u3).setCell ⟨b, 4, none⟩ u4).setCell ⟨b, 5, none⟩ u5) :=
 (zD1 (cs := cs) (zD1 (cs := cs) (zD1 (cs := cs) (zD1 (cs := cs) (zD1 (cs := cs) (zD1 (cs := cs) ⟨Mut.refl _ _ _, _, h⟩ 0 u0) 1 u1) 2 u2) 3 u3) 4 u4) 5 u5).1
def ofPost (w : World) (ver : Str) (fs : List (Af × Value)) (e : Ending) (w' : World) : Prop := ∃ fv, e = .returned (.agg (zBn ver fv)) ∧ FilesV w' fv (fs.map fun x => ofF x.1) ∧ Ext w w'
def ofRel (w : World) (ver : Str) (fs : List (Af × Value)) (i : Value) (wr : World) : Prop :=
 ∃ (k : Nat) (a : Option Addr) (c : Nat), k ≤ fs.length ∧ i = .int .i64 k ∧ Hid (Ext w wr) ∧ Hid (wr.heap[w.heap.size + 1]? = some (.cells #[.string ⟨#[]⟩, .string ⟨#[]⟩, .slice none 0 0, .slice none 0 0, .slice none 0 0, .slice none 0 0] 103 (0, 0))) ∧
  Hid (wr.heap[w.heap.size + 1 + 1]? = some (.cells #[.string (ba nmA), .string (ba ver), .slice none 0 0, .slice none 0 0, .slice a k c, .slice none 0 0] 103 (0, 0))) ∧ Hid (ORow rBFile wr (w.heap.size + 1 + 1 + 1) (.slice a k c) ((fs.take k).map fun x => zEz (ofF x.1)))
set_option maxHeartbeats 4000000 in
theorem Of_any {w : World} {ver : Str} {fv : Value} {fs : List (Af × Value)} (h : ArcFs w fv fs) (hd : ∀ x ∈ fs, x.1.data.length ≤ 16777216) : Calls Tryz.prog 98 #[.agg (zA5 ver fv)] w (ofPost w ver fs) := by
 obtain ⟨fa, fc, rfl⟩ := h.form;have HF := zh h;have HD := zh hd;have hfl : fs.length ≤ 1000 := h.len;clear h hd;simp only [zA5];go_enter Tryz.func98, Tryz.ntmps98
 go_upto_region 1 with fail
 obtain ⟨W, hW⟩ : ∃ W, W = (w.alloc (.cells #[.string (ba nmA), .string (ba ver), .slice none 0 0, .slice none 0 0, .slice fa fs.length fc, .slice none 0 0] 35)).alloc (.cells #[.string ⟨#[]⟩, .string ⟨#[]⟩, .slice none 0 0, .slice none 0 0, .slice none 0 0, .slice none 0 0] 103) := ⟨_, rfl⟩
 have XW := zh (show Ext w W by rw [hW]; exact ((xr w).alloc _).alloc _)
 have hb0 : W.heap[w.heap.size]? = some (.cells #[.string (ba nmA), .string (ba ver), .slice none 0 0, .slice none 0 0, .slice fa fs.length fc, .slice none 0 0] 35 (0, 0)) := by
  rw [hW]; exact ((xr _).alloc _).get (heap_alloc_new w _)
 have hb1 : W.heap[w.heap.size + 1]? = some (.cells #[.string ⟨#[]⟩, .string ⟨#[]⟩, .slice none 0 0, .slice none 0 0, .slice none 0 0, .slice none 0 0] 103 (0, 0)) := by
  have := heap_alloc_new (w.alloc (.cells #[.string (ba nmA), .string (ba ver), .slice none 0 0, .slice none 0 0, .slice fa fs.length fc, .slice none 0 0] 35)) (.cells #[.string ⟨#[]⟩, .string ⟨#[]⟩, .slice none 0 0, .slice none 0 0, .slice none 0 0, .slice none 0 0] 103);rw [World.size_alloc] at this;rw [hW]; exact this
 have HSZ := zh (show W.heap.size = w.heap.size + 1 + 1 by rw [hW]; simp);obtain ⟨p0, p1, p2, p3, p4, p5, pf⟩ := cells6 hb0;have HB0 := zh hb0;have HB1 := zh hb1;rw [← hW];clear hW hb0 hb1
 go_cut [3] from 6 to 19 (fun p wc => p = .pointer (some ⟨w.heap.size + 1 + 1, 0, none⟩) ∧ Ext W wc ∧ wc.heap[w.heap.size + 1 + 1]? = some (.cells #[.string (ba nmA), .string (ba ver), .slice none 0 0, .slice none 0 0, .slice none 0 0, .slice none 0 0] 103 (0, 0)) ∧ wc.heap.size = w.heap.size + 1 + 1 + 1)
 case first =>
  go_region_held3 (fun V => V.cell? ⟨w.heap.size, 0, none⟩ = some (.string (ba nmA)) ∧ V.cell? ⟨w.heap.size, 1, none⟩ = some (.string (ba ver)) ∧ V.cell? ⟨w.heap.size, 2, none⟩ = some (.slice none 0 0) ∧ V.cell? ⟨w.heap.size, 3, none⟩ = some (.slice none 0 0) ∧ V.cell? ⟨w.heap.size, 5, none⟩ = some (.slice none 0 0)) (go_keep)
   (first
    | (go_at_call 163; refine (zGt _).mono ?_; rintro e ww ⟨rfl, rfl⟩)
    | (go_at_call 96; refine (zCp _).mono ?_; rintro e ww ⟨rfl, rfl⟩))
  all_goals
   go_wp2_with fail
   go_meet;refine ⟨by rw [HSZ.out], ?_, ?_, ?_⟩
   ·first | exact (xr W).drew.alloc _ | exact ((xr W).alloc _).drew
   ·rw [← HSZ.out]; exact heap_alloc_new W _
   ·rw [← HSZ.out]; first | exact alloc_size _ _ | simp
 case rest =>
 obtain ⟨rfl, xc, hb2, hsc⟩ := hcut
 obtain ⟨wa, rfl⟩ : ∃ x : World, x = wc := ⟨_, rfl⟩
 have XA := zh xc;have HB2 := zh hb2;have HSA := zh hsc;have q4 := XA.out.cell p4;clear p0 p1 p2 p3 p4 p5 pf xc hb2 hsc
 go_wp2_with fail
 go_loopw [23] (fun i wr => ofRel w ver fs i wr) (fun i _ => fs.length - (intOf i).toNat)
 case atStart =>
  refine ⟨0, none, 0, Nat.zero_le _, rfl, zh (XW.out.trans XA.out), zh (XA.out.get HB1.out), HB2, zh (ORow.nil _ _ _)⟩
 case round =>
  obtain ⟨wq, rfl⟩ : ∃ x : World, x = wr := ⟨_, rfl⟩
  obtain ⟨k, a, c, hk, rfl, XQ, BR, BE, RW⟩ := hrel
  by_cases hlt : k < fs.length
  ·obtain ⟨b', hb', hc0, hc1, hc2⟩ := (HF.out.ext XQ.out).at k hlt;subst hb';have hmem := List.getElem_mem hlt;have HDA := zh ((HF.out.ext XQ.out).data _ hmem);have HTK := zh (List.take_succ_eq_append_getElem hlt);clear hmem;generalize hx : fs[k] = x at *;obtain ⟨f, dv⟩ := x;obtain ⟨da, dc, hdv⟩ := HDA.out.form;simp only at hdv hc0 hc1 hc2;subst hdv
   obtain ⟨W1, hW1⟩ : ∃ W1, W1 = wq.alloc (.cells #[.string (ba f.path), .bool f.cfg, .slice da f.data.length dc] 30) := ⟨_, rfl⟩
   have X1 := zh (show Ext wq W1 by rw [hW1]; exact (xr wq).alloc _);have HS1 := zh (show W1.heap.size = wq.heap.size + 1 by rw [hW1]; simp);have BN := zh (show W1.heap[wq.heap.size]? = some (.cells #[.string (ba f.path), .bool f.cfg, .slice da f.data.length dc] 30 (0, 0)) by rw [hW1]; exact heap_alloc_new wq _);have hs3 : w.heap.size + 1 + 1 + 1 ≤ wq.heap.size := by have := (Array.getElem?_eq_some_iff.1 BE.out).1; omega
   have HBS : Hid (w.heap.size + 1 + 1 + 1 ≤ W1.heap.size) := Nat.le_trans hs3 X1.out.sz
   have KS : Hid (∀ V, Ext W1 V → V.cell? ⟨w.heap.size + 1 + 1, 4, none⟩ = some (.slice a k c) ∧ V.cell? ⟨wq.heap.size, 0, none⟩ = some (.string (ba f.path)) ∧ V.cell? ⟨wq.heap.size, 1, none⟩ = some (.bool f.cfg) ∧ V.cell? ⟨wq.heap.size, 2, none⟩ = some (.slice da f.data.length dc)) := fun V x => by
    have h1 := (zA2 (x.get BN.out))
    exact ⟨(cells6 ((X1.out.trans x).get BE.out)).2.2.2.2.1, h1.1, h1.2.1, h1.2.2.1⟩
   have KS2 : Hid (∀ V V', Ext W1 V → Mut (w.heap.size + 1 + 1 + 1) [rBFile.et + 2] V V' → V'.cell? ⟨w.heap.size + 1 + 1, 4, none⟩ = some (.slice a k c) ∧ V'.cell? ⟨wq.heap.size, 0, none⟩ = some (.string (ba f.path)) ∧ V'.cell? ⟨wq.heap.size, 1, none⟩ = some (.bool f.cfg) ∧ V'.cell? ⟨wq.heap.size, 2, none⟩ = some (.slice da f.data.length dc)) := fun V V' x m => by
    have h1 := (zA2 (m.get (x.get BN.out)))
    exact ⟨(cells6 (m.get ((X1.out.trans x).get BE.out))).2.2.2.2.1, h1.1, h1.2.1, h1.2.2.1⟩
   have HCR : Hid (∀ V, Ext W1 V → V.heap[W1.heap.size]? = some (.cells #[.slice da f.data.length dc] 23 (0, 0)) → Calls Tryz.prog 37 #[.slice (some ⟨W1.heap.size, 0, none⟩) 1 1] V (fun e w' => e = .returned (.int .u32 (zA3 f.data : Nat)) ∧ V = w')) := fun V x hb => by
    have := zIr (RowsN.one HDA.out.bytes (X1.out.trans x) hb) (by omega);simpa using this
   have HRW : Hid (∀ V, Ext W1 V → ORow rBFile V (w.heap.size + 1 + 1 + 1) (.slice a k c) ((fs.take k).map fun x => zEz (ofF x.1))) := fun V x => RW.out.ext (X1.out.trans x)
   have HLN := zh (show ((fs.take k).map fun x => zEz (ofF x.1)).length = k by rw [List.length_map, List.length_take, Nat.min_eq_left hk]);have HB4 : Hid (∀ V V', Ext W1 V → Mut (w.heap.size + 1 + 1 + 1) [rBFile.et + 2] V V' → ∀ i, V'.frozen? ⟨w.heap.size + 1 + 1, i, none⟩ = false) := fun V V' x m => zAl (m.get ((X1.out.trans x).get BE.out))
   clear q4
   go_upto_region 5 with fail
   rw [← hW1];clear hW1 hc0 hc1 hc2;refine zBc (S := (fun V => V.cell? ⟨w.heap.size + 1 + 1, 4, none⟩ = some (.slice a k c) ∧ V.cell? ⟨wq.heap.size, 0, none⟩ = some (.string (ba f.path)) ∧ V.cell? ⟨wq.heap.size, 1, none⟩ = some (.bool f.cfg) ∧ V.cell? ⟨wq.heap.size, 2, none⟩ = some (.slice da f.data.length dc))) 14 (by kernel_rfl) (by kernel_rfl) (by (first | exact KS.out _ (xr _).drew | exact KS.out _ (((xr _).drew).alloc _) | exact KS.out _ ((((xr _).drew).alloc _).alloc _) | exact KS2.out _ _ ((((xr _).alloc _).alloc _).drew) M12.out)) fun _ => ?_
   simp only [List.take_succ_cons, List.take_zero];refine tk 0 ?_;refine tk 2 ?_;refine tk 4 ?_;refine tk 6 ?_;refine tk 1 ?_;refine tk 3 ?_;refine tk 5 ?_;refine tk 7 ?_;refine rd 8 fun K hK => ?_
   go_simp
   skip
   go_wp2_with fail
   refine hK.out _ _ ?_ fun _ => ?_
   ·(first | exact KS.out _ (xr _).drew | exact KS.out _ (((xr _).drew).alloc _) | exact KS.out _ ((((xr _).drew).alloc _).alloc _) | exact KS2.out _ _ ((((xr _).alloc _).alloc _).drew) M12.out)
   clear hK K
   try simp only [nf]
   refine rd 9 fun K hK => ?_
   go_simp
   (go_at_call 37; refine (HCR.out _ (((xr _).drew).alloc _) (heap_alloc_new _ _)).mono ?_; rintro e ww ⟨rfl, rfl⟩)
   go_wp2_with fail
   refine hK.out _ _ ?_ fun _ => ?_
   ·(first | exact KS.out _ (xr _).drew | exact KS.out _ (((xr _).drew).alloc _) | exact KS.out _ ((((xr _).drew).alloc _).alloc _) | exact KS2.out _ _ ((((xr _).alloc _).alloc _).drew) M12.out)
   clear hK K;refine tk 10 ?_;refine rd 11 fun K hK => ?_
   go_simp
   skip
   go_wp2_with fail
   refine hK.out _ _ ?_ fun _ => ?_
   ·(first | exact KS.out _ (xr _).drew | exact KS.out _ (((xr _).drew).alloc _) | exact KS.out _ ((((xr _).drew).alloc _).alloc _) | exact KS2.out _ _ ((((xr _).alloc _).alloc _).drew) M12.out)
   clear hK K
   try simp only [nf]
   refine rd 12 fun K hK => ?_
   (refine zA9 (by rfl) (.tmp 28) (.tmp 38) rBFile (by rfl) (w.heap.size + 1 + 1 + 1) (.slice a k c) (.slice (some ⟨W1.heap.size + 1, 0, none⟩) 1 1) ((fs.take k).map fun x => zEz (ofF x.1)) [zEz (ofF f)] (by rfl) (by rfl) (HRW.out _ ((((xr _).alloc _).alloc _).drew)) (zBi (by have h := heap_alloc_new (W1.alloc (.cells #[.slice da f.data.length dc] 23)) (.cells #[.string (ba f.path), .bool f.cfg, .int .u32 (zA3 f.data : Nat)] 258); rw [World.size_alloc] at h; exact h)) (by simp [zEz, rBFile]) (by simp [zEz, Value.oneCell']) (by rw [HLN.out]; simp; omega) (by have := HBS.out; simp; omega) ?_; intro v8 w8 r8 g8 m8 n8; (obtain ⟨a8, c8, hv8⟩ := r8.form); (rw [List.length_append, HLN.out] at hv8); simp only [List.length_singleton] at hv8; subst hv8; have R8 := zh r8; have M12 := zh m8; clear r8 g8 m8 n8)
   refine hK.out _ _ ?_ fun _ => ?_
   ·(first | exact KS.out _ (xr _).drew | exact KS.out _ (((xr _).drew).alloc _) | exact KS.out _ ((((xr _).drew).alloc _).alloc _) | exact KS2.out _ _ ((((xr _).alloc _).alloc _).drew) M12.out)
   clear hK K;refine tk 13 ?_;refine wpAnyH_done (by kernel_rfl) ?_ _;simp only [zLp, List.drop_succ_cons, List.drop_zero];have hf8 := HB4.out _ _ ((((xr _).alloc _).alloc _).drew) M12.out
   go_wp2_with fail
   go_roundw
   case rel =>
    have hx9 : Ext wq _ := X1.out.trans ((((xr W1).alloc (.cells #[.slice da f.data.length dc] 23)).alloc (.cells #[.string (ba f.path), .bool f.cfg, .int .u32 (zA3 f.data : Nat)] 258)).drew);refine ⟨k + 1, a8, c8, hlt, by go_num, zh (((XQ.out.trans hx9).then_mut M12.out (by omega)).setCell (show w.heap.size ≤ w.heap.size + 1 + 1 by omega) _), zh ?_, zh ?_, zh ?_⟩
    ·exact (Below.heap_setCell _ _ _ _ (show w.heap.size + 1 ≠ w.heap.size + 1 + 1 by omega)).trans (M12.out.get (hx9.get BR.out))
    ·exact heap_setCell_same _ _ _ _ _ _ (M12.out.get (hx9.get BE.out))
    ·have := R8.out.setCell (a := ⟨w.heap.size + 1 + 1, 4, none⟩) (show w.heap.size + 1 + 1 < w.heap.size + 1 + 1 + 1 by omega) (.slice a8 (k + 1) c8);rw [HTK.out, List.map_append];exact this
   case measure => simp [intOf]; omega
  ·have hkl : k = fs.length := by omega
   have HRF : Hid (FilesV wq (.slice a k c) (fs.map fun x => ofF x.1)) := ⟨by
    have := RW.out;rw [hkl, List.take_length, ← hkl] at this;rw [List.map_map]
    exact this.le (Nat.zero_le _), by rw [List.length_map]; exact hfl⟩
   clear hkl;obtain ⟨e0, e1, e2, e3, e4, e5, ef⟩ := cells6 BE.out;obtain ⟨r0, r1, r2, r3, r4, r5, rf⟩ := cells6 BR.out
   go_wp2_with fail
   refine bodyPost_ret (v := .agg #[.string (ba nmA), .string (ba ver), .slice none 0 0, .slice none 0 0, .slice a k c, .slice none 0 0]) (by simp [results, Tryz.results98, r0, r1, r2, r3, r4, r5, go_sem, World.cell?_setCell_far]) rfl ?_;have h1 : ∀ k, w.heap.size ≤ (⟨w.heap.size + 1, k, none⟩ : Addr).block := fun _ => Nat.le_succ _
   have x6 := (((((XQ.out.setCell (h1 0) (.string (ba nmA))).setCell (h1 1) (.string (ba ver))).setCell (h1 2) (.slice none 0 0)).setCell (h1 3) (.slice none 0 0)).setCell (h1 4) (.slice a k c)).setCell (h1 5) (.slice none 0 0);have m6 := set6 (.string (ba nmA)) (.string (ba ver)) (.slice none 0 0) (.slice none 0 0) (.slice a k c) (.slice none 0 0) BR.out;exact ⟨_, rfl, HRF.out.mut m6, x6⟩
def zCz (ls : List (List UInt8)) : List UInt8 := le4 ls.flatten.length ++ ls.flatten
theorem zDw {ls : List (List UInt8)} {v : Value} {w : World} (hr : Rows' w v ls) (hl : ls.flatten.length ≤ 16777216) : Calls Tryz.prog 77 #[v] w (zAy w (zCz ls)) := List_any ls v w hr hl
def zCo (f : Bf) : List (List UInt8) := [zBk f.path, zE9 (if f.cfg then 1 else 0), zE9 (f.sum : Int)]
def zEl (ver : Str) (fs : List Bf) : List (List UInt8) := [zBk nmA, zBk ver, zCz [], zCz [], zCz (fs.flatMap zCo), zCz []]
def partsPost (w : World) (ls : List (List UInt8)) (e : Ending) (w' : World) : Prop := ∃ v, e = .returned v ∧ PartRow w' w.heap.size v ls ∧ Ext w w'
theorem zNb (l : List Bf) : (l.flatMap zCo).length = 3 * l.length := by
 induction l with
 | nil => rfl
 | cons x r ih => rw [List.flatMap_cons, List.length_append, ih]; simp [zCo]; omega
theorem zGm : ∀ (l : List Bf) (_ : ∀ f ∈ l, f.path.length ≤ 1000), (l.flatMap zCo).flatten.length ≤ 1012 * l.length
 | [], _ => by simp
 | f :: r, h => by
   have ih := zGm r fun x hx => h x (by simp [hx])
   have h1 := h f (by simp);rw [List.flatMap_cons, List.flatten_append, List.length_append];simp only [zCo, List.flatten_cons, List.flatten_nil, List.append_nil, List.length_append, zBk, zE9, zBa, List.length_cons];omega
def zB6 (w : World) (v i : Value) (wr : World) : Prop := v = .slice none 0 0 ∧ i = .int .i64 0 ∧ wr = w
def partsRel (w : World) (fs : List Bf) (v i : Value) (wr : World) : Prop :=
 ∃ (k : Nat) (a : Option Addr) (c : Nat), k ≤ fs.length ∧ v = .slice a (3 * k) c ∧ i = .int .i64 k ∧ Hid (Ext w wr) ∧ Hid (PartRow wr w.heap.size v ((fs.take k).flatMap zCo))
set_option maxHeartbeats 4000000 in
theorem parts_any {w : World} {ver : Str} {fv : Value} {fs : List Bf} (h : FilesV w fv fs) (hp : ∀ f ∈ fs, f.path.length ≤ 1000) (hs : ∀ f ∈ fs, f.sum < 4294967296) (hv : ver.length ≤ 1000) : Calls Tryz.prog 164 #[.agg (zBn ver fv)] w (partsPost w (zEl ver fs)) := by
 obtain ⟨fa, fc, rfl⟩ := h.form;have HF := zh h;have HP := zh hp;have HSU := zh hs;have hfl : fs.length ≤ 1000 := h.2;clear h hp hs;simp only [zBn]
 obtain ⟨W, hW⟩ : ∃ W, W = w.alloc (.cells #[.string (ba nmA), .string (ba ver), .slice none 0 0, .slice none 0 0, .slice fa fs.length fc, .slice none 0 0] 103) := ⟨_, rfl⟩
 have XW := zh (show Ext w W by rw [hW]; exact (xr w).alloc _);have HB0 := zh (show W.heap[w.heap.size]? = some (.cells #[.string (ba nmA), .string (ba ver), .slice none 0 0, .slice none 0 0, .slice fa fs.length fc, .slice none 0 0] 103 (0, 0)) by rw [hW]; exact heap_alloc_new w _);go_enter Tryz.func164, Tryz.ntmps164
 go_upto_region 2 with fail
 rw [← hW];clear hW;obtain ⟨p0, p1, p2, p3, p4, p5, pf⟩ := cells6 HB0.out
 go_wp2_with fail
 go_loopw [3, 19] (fun v i wr => zB6 W v i wr) (fun _ _ _ => 0)
 case atStart => exact ⟨rfl, rfl, rfl⟩
 case round =>
  obtain ⟨rfl, rfl, rfl⟩ := hrel
  go_wp2_with fail
  go_loopw [4, 39] (fun v i wy => zB6 wr v i wy) (fun _ _ _ => 0)
  case atStart => exact ⟨rfl, rfl, rfl⟩
  case round =>
   obtain ⟨rfl, rfl, rfl⟩ := hrel
   obtain ⟨W, hW⟩ : ∃ W : World, W = wr := ⟨_, rfl⟩
   subst hW
   go_wp2_with fail
   go_loopw [5, 52] (fun v i wr => partsRel W fs v i wr) (fun _ i _ => fs.length - (intOf i).toNat)
   case atStart => exact ⟨0, none, 0, Nat.zero_le _, rfl, rfl, zh (xr _), zh (PartRow.nil _ _)⟩
   case round =>
    obtain ⟨wq, rfl⟩ : ∃ x : World, x = wr := ⟨_, rfl⟩
    obtain ⟨k, a, c, hk, rfl, rfl, XQ, PR⟩ := hrel
    by_cases hlt : k < fs.length
    ·obtain ⟨b', hb', hc0, hc1, hc2⟩ := (HF.out.mut (XW.out.trans XQ.out).mut (B := 0) (S := []) (by simp)).at k hlt;subst hb';have HPk := zh (HP.out _ (List.getElem_mem hlt));have hsu := HSU.out _ (List.getElem_mem hlt);have HTK := zh (List.take_succ_eq_append_getElem hlt);generalize hf : fs[k] = f at *;clear hf
     obtain ⟨W1, hW1⟩ : ∃ W1, W1 = wq.alloc (.cells #[.string (ba f.path), .bool f.cfg, .int .u32 (f.sum : Int)] 258) := ⟨_, rfl⟩
     have X1 := zh (show Ext wq W1 by rw [hW1]; exact (xr wq).alloc _);have BN := zh (show W1.heap[wq.heap.size]? = some (.cells #[.string (ba f.path), .bool f.cfg, .int .u32 (f.sum : Int)] 258 (0, 0)) by rw [hW1]; exact heap_alloc_new wq _);have hsz : W.heap.size ≤ W1.heap.size := Nat.le_trans XQ.out.sz X1.out.sz;have HT := zh (fun V => zBw f.path V (by have := HPk.out; omega));have HRR : Hid (∀ V, Ext W1 V → PartRow V W.heap.size (.slice a (3 * k) c) ((fs.take k).flatMap zCo)) := fun V x => PR.out.ext (X1.out.trans x)
     have HPL := zh (show ((fs.take k).flatMap zCo).length = 3 * k by rw [zNb, List.length_take, Nat.min_eq_left hk])
     have KS : Hid (∀ V, Ext W1 V → V.cell? ⟨wq.heap.size, 0, none⟩ = some (.string (ba f.path)) ∧ V.cell? ⟨wq.heap.size, 2, none⟩ = some (.int .u32 (f.sum : Int))) := fun V x => ⟨(zA2 (x.get BN.out)).1, (zA2 (x.get BN.out)).2.2.1⟩
     have KS2 : Hid (∀ V V', Ext W1 V → Mut W.heap.size [110] V V' → V'.cell? ⟨wq.heap.size, 0, none⟩ = some (.string (ba f.path)) ∧ V'.cell? ⟨wq.heap.size, 2, none⟩ = some (.int .u32 (f.sum : Int))) := fun V V' x m => ⟨(zA2 (m.get (x.get BN.out) (by simp))).1, (zA2 (m.get (x.get BN.out) (by simp))).2.2.1⟩
     have hcc : ∀ V, Ext W1 V → V.cell? ⟨wq.heap.size, 1, none⟩ = some (.bool f.cfg) := fun V x => (zA2 (x.get BN.out)).2.1
     have hcc1 := hcc W1 (xr _);have HCC := zh hcc1;clear hcc hcc1
     go_upto_region 15 with fail
     rw [← hW1];clear hW1 hc0 hc1 hc2;have hwr : IntKind.i64.wrap (f.sum : Int) = f.sum := IntWalk.i64_in _ (by omega);have HS7 := zh (fun V => zD2 (f.sum : Int) V);cases hcf : f.cfg
     all_goals
      rw [hcf] at HCC;have hcc := HCC.out;have HBF := zh (show zCo f = [zBk f.path, zE9 _, zE9 (f.sum : Int)] by rw [zCo, hcf])
      go_upto_region 18 with fail
      clear hcc
      go_region_held3 (fun V => V.cell? ⟨wq.heap.size, 0, none⟩ = some (.string (ba f.path)) ∧ V.cell? ⟨wq.heap.size, 2, none⟩ = some (.int .u32 (f.sum : Int)))
       (first
        | exact KS.out _ (xr _)
        | exact KS.out _ (xr _).drew
        | exact KS.out _ X5.out
        | exact KS.out _ X6.out
        | exact KS.out _ X7.out
        | exact KS.out _ (X7.out.alloc _)
        | exact KS2.out _ _ (X7.out.alloc _) M9.out)
       (first
        | (go_at_call 74; refine (HT.out _).mono ?_; rintro e w5 ⟨v5, rfl, f5⟩; (obtain ⟨a5, n5, rfl⟩ := zAj f5.2); have X5 := zh ((xr W1).drew.trans f5.1); have F5 := zh f5.own0; clear f5)
        | (go_at_call 36; refine (HS7.out _).mono ?_; rintro e w7 ⟨v7, rfl, f7⟩; (obtain ⟨a7, n7, rfl⟩ := zAj f7.2); have X7 := zh (X6.out.trans f7.1); have PBx : Hid (PB w7 [_, _, _] [_, _, _]) := ⟨f7.1.own Y5.out, f7.1.own F6.out, f7.own0, trivial⟩; clear f7)
        | (go_at_call 36; refine (zD2 _ _).mono ?_; rintro e w6 ⟨v6, rfl, f6⟩; (obtain ⟨a6, n6, rfl⟩ := zAj f6.2); have X6 := zh (X5.out.trans f6.1); have F6 := zh f6.own0; have Y5 := zh (f6.1.own F5.out); clear f6)
        | (refine zCr (by rfl) (.tmp 58) (.tmp 68) (by rfl) W.heap.size (.slice a (3 * k) c) ((fs.take k).flatMap zCo) _ _ w7.heap.size 3 (by rfl) (by rfl) ((HRR.out _ X7.out).ext ((xr w7).alloc _)) (heap_alloc_new w7 _) (PBx.out.imp fun u m ho => ((xr w7).alloc _).own ho) (by rw [HPL.out]; simp; omega) (by have := X7.out.sz; simp; omega) ?_; intro v9 w9 r9 g9 m9; (obtain ⟨a9, n9, hv9⟩ := r9.form); (rw [List.length_append, HPL.out] at hv9); simp only [List.length_cons, List.length_nil] at hv9; subst hv9; have R9 := zh r9; have M9 := zh m9; clear r9 g9 m9))
     all_goals
      go_wp2_with fail
      go_roundw
      case rel =>
       refine ⟨k + 1, a9, n9, hlt, rfl, by go_num, zh ((XQ.out.trans (X1.out.trans (X7.out.alloc _))).then_mut M9.out (Nat.le_refl _)), zh ?_⟩;rw [HTK.out, List.flatMap_append];have := R9.out;simpa [HBF.out] using this
      case measure => simp [intOf]; omega
    ·have hkl : k = fs.length := by omega
     have HPR := zh (show PartRow wq W.heap.size (.slice a (3 * k) c) (fs.flatMap zCo) by have := PR.out; rw [hkl, List.take_length, ← hkl] at this; exact this);have hln : (fs.flatMap zCo).length ≤ 1000000 := by rw [zNb]; omega
     clear hkl;have hpa := HP.out
     have KS : Hid (∀ V, Ext wq V → V.cell? ⟨w.heap.size, 0, none⟩ = some (.string (ba nmA)) ∧ V.cell? ⟨w.heap.size, 1, none⟩ = some (.string (ba ver))) := fun V x => ⟨(cells6 ((XQ.out.trans x).get HB0.out)).1, (cells6 ((XQ.out.trans x).get HB0.out)).2.1⟩
     have q5 : wq.cell? ⟨w.heap.size, 5, none⟩ = some (.slice none 0 0) := (cells6 (XQ.out.get HB0.out)).2.2.2.2.2.1
     go_wp2_with fail
     go_loopw [6, 74] (fun v i wy => zB6 wq v i wy) (fun _ _ _ => 0)
     case atStart => exact ⟨rfl, rfl, rfl⟩
     case round =>
      obtain ⟨rfl, rfl, rfl⟩ := hrel
      go_upto_region 25 with fail
      have HL5 : Hid (∀ V, Ext wr V → Calls Tryz.prog 74 #[.string (ba nmA)] V (zAy V (zBk nmA))) := fun V _ => zBw nmA V (by decide)
      have HL6 : Hid (∀ V, Ext wr V → Calls Tryz.prog 74 #[.string (ba ver)] V (zAy V (zBk ver))) := fun V _ => zBw ver V (by omega)
      have HL7 : Hid (∀ V, Ext wr V → Calls Tryz.prog 77 #[.slice none 0 0] V (zAy V (zCz []))) := fun V _ => zDw ((PartRow.nil V 0).rows (by simp)) (by simp)
      have HL8 := HL7;have HL10 := HL7;have HL9 : Hid (∀ V, Ext wr V → Calls Tryz.prog 77 #[.slice a (3 * k) c] V (zAy V (zCz (fs.flatMap zCo)))) := fun V x => zDw ((HPR.out.ext x).rows hln) (Nat.le_trans (zGm fs hpa) (by omega))
      go_region_held3 (fun V => V.cell? ⟨w.heap.size, 0, none⟩ = some (.string (ba nmA)) ∧ V.cell? ⟨w.heap.size, 1, none⟩ = some (.string (ba ver)))
       (first
        | exact KS.out _ (xr _)
        | exact KS.out _ (xr _).drew
        | exact KS.out _ X5.out
        | exact KS.out _ X6.out
        | exact KS.out _ X7.out
        | exact KS.out _ X8.out
        | exact KS.out _ X9.out
        | exact KS.out _ X10.out
        | exact KS.out _ (X10.out.alloc _))
       (first
        | (go_at_call 77; refine (HL10.out _ X9.out).mono ?_; rintro e w10 ⟨v10, rfl, f10⟩; (obtain ⟨a10, n10, rfl⟩ := zAj f10.2); have X10 := zh (X9.out.trans f10.1); have F10 := zh f10.own0; have E10 := zh f10.1; clear f10)
        | (go_at_call 77; refine (HL9.out _ X8.out).mono ?_; rintro e w9 ⟨v9, rfl, f9⟩; (obtain ⟨a9, n9, rfl⟩ := zAj f9.2); have X9 := zh (X8.out.trans f9.1); have F9 := zh f9.own0; have E9 := zh f9.1; clear f9)
        | (go_at_call 77; refine (HL8.out _ X7.out).mono ?_; rintro e w8 ⟨v8, rfl, f8⟩; (obtain ⟨a8, n8, rfl⟩ := zAj f8.2); have X8 := zh (X7.out.trans f8.1); have F8 := zh f8.own0; have E8 := zh f8.1; clear f8)
        | (go_at_call 77; refine (HL7.out _ X6.out).mono ?_; rintro e w7 ⟨v7, rfl, f7⟩; (obtain ⟨a7, n7, rfl⟩ := zAj f7.2); have X7 := zh (X6.out.trans f7.1); have F7 := zh f7.own0; have E7 := zh f7.1; clear f7)
        | (go_at_call 74; refine (HL6.out _ X5.out).mono ?_; rintro e w6 ⟨v6, rfl, f6⟩; (obtain ⟨a6, n6, rfl⟩ := zAj f6.2); have X6 := zh (X5.out.trans f6.1); have F6 := zh f6.own0; have E6 := zh f6.1; clear f6)
        | (go_at_call 74; refine (HL5.out _ (xr _).drew).mono ?_; rintro e w5 ⟨v5, rfl, f5⟩; (obtain ⟨a5, n5, rfl⟩ := zAj f5.2); have X5 := zh ((xr wr).drew.trans f5.1); have F5 := zh f5.own0; clear f5))
      go_wp2_with fail
      go_ret
      have x0 := (xr w10).alloc (.cells #[.slice a5 (zBk nmA).length n5, .slice a6 (zBk ver).length n6, .slice a7 (zCz []).length n7, .slice a8 (zCz []).length n8, .slice a9 (zCz (fs.flatMap zCo)).length n9, .slice a10 (zCz []).length n10] 108);have y5 := x0.own (E10.out.own (E9.out.own (E8.out.own (E7.out.own (E6.out.own F5.out)))));have y6 := x0.own (E10.out.own (E9.out.own (E8.out.own (E7.out.own F6.out))));have y7 := x0.own (E10.out.own (E9.out.own (E8.out.own F7.out)));have y8 := x0.own (E10.out.own (E9.out.own F8.out));have y9 := x0.own (E10.out.own F9.out);have y10 := x0.own F10.out;have xw : Ext w w10 := XW.out.trans (XQ.out.trans X10.out);exact ⟨_, rfl, ⟨_, World.ownsRow_lit w10 _ 6 xw.sz (by decide) rfl, y5, y6, y7, y8, y9, y10, trivial⟩, xw.alloc _⟩
end
end Go.Proofs.YtgnjjfdfoibdiaaGreatDoor
