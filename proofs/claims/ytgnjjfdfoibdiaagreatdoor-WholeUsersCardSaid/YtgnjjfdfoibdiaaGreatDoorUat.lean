/- A part of the proof of WholeUsers. -/
import Derived.Test.YtgnjjfdfoibdiaaGreatDoorUar
import Derived.Test.YtgnjjfdfoibdiaaGreatDoorUas
set_option linter.all false
namespace Go.Proofs.YtgnjjfdfoibdiaaGreatDoor
section
open Go.RowKit Go.Maps Go.Sort Go.Lib
set_option maxRecDepth 100000
def zC1 : Value := .agg #[.int .i64 0, .string ⟨#[]⟩, .string ⟨#[]⟩]
structure EnOk (e : En) : Prop where
 few : e.fs.length ≤ 12
 path : ∀ f ∈ e.fs, SplitOk f.path (names f.path)
 apart : ∀ f ∈ e.fs, ∀ g ∈ e.fs, zB0 (names f.path) (names g.path) = false
theorem Inner_any (w : World) {s t : Str} {l u : List Str} (hs : SplitOk s l) (ht : SplitOk t u) {b : Nat} (hb : w.cell? ⟨b, 0, none⟩ = some (.string (ba s))) {mx : Int} (hmx : w.cell? ⟨0, 0, none⟩ = some (.int .i64 mx)) :
  Calls Tryz.prog 282 #[.string (ba t), .pointer (some ⟨b, 0, none⟩)] w fun e w' => e = .returned (.bool (zB0 l u)) ∧ Ext w w' := by
 have HW : Hid (Calls Tryz.prog 26 #[.string (ba s), .string (ba t)] w (fun e w' => e = .returned (.bool (zB0 l u)) ∧ Ext w w')) := zH6 mx w hs ht hmx;clear hs ht hmx;generalize zB0 l u = r at *;go_enter Tryz.func282, Tryz.ntmps282
 go_wp2_with (go_at_call 26; refine HW.out.mono ?_; rintro e w2 ⟨rfl, x2⟩; have X2 := zh x2; clear x2)
 go_ret
 exact ⟨rfl, X2.out⟩
theorem Index_strs (w : World) {v : Value} {l : List Str} (hv : SRow w v l) (hl : l.length ≤ 1000000) {b : Nat} (hp : ∀ s ∈ l, ∀ W, Ext w W → Calls Tryz.prog 282 #[.string (ba s), .pointer (some ⟨b, 0, none⟩)] W fun e w' => e = .returned (.bool false) ∧ Ext W w') :
  Calls Tryz.prog 146 #[v, .func (.func 282) #[] #[.pointer (some ⟨b, 0, none⟩)]] w fun e w' => e = .returned (.int .i64 (-1)) ∧ Ext w w' := by
 have HV := zh hv;have HP := zh hp;obtain ⟨a, c, rfl, -⟩ := hv.form;clear hp hv;go_enter Tryz.func146, Tryz.ntmps146
 go_wp2_with fail
 go_loopw [8] (fun i wr => zO4 w l.length i wr) (fun i _ => l.length - (intOf i).toNat)
 case atStart => exact ⟨0, Nat.zero_le _, rfl, zh (xr w)⟩
 case round =>
  obtain ⟨wq, rfl⟩ : ∃ x : World, x = wr := ⟨_, rfl⟩
  obtain ⟨k, hk, rfl, HX⟩ := hrel
  by_cases hlt : k < l.length
  ·obtain ⟨b', o', rfl, hc⟩ := (HV.out.ext HX.out).at k hlt;have HPk := zh (fun W x => HP.out _ (List.getElem_mem hlt) W (HX.out.trans x));generalize l[k] = s at *
   go_wp2_with (go_at_call 282; refine (HPk.out _ (xr _)).mono ?_; rintro e w2 ⟨rfl, x2⟩; have X2 := zh x2; clear x2)
   go_roundw
   case rel => exact ⟨k + 1, hlt, by go_num, zh (HX.out.trans X2.out)⟩
   case measure => simp [intOf]; omega
  ·go_wp2_with fail
   go_ret
   exact ⟨rfl, HX.out⟩
theorem zQc (w : World) {v : Value} {l : List Str} (hv : SRow w v l) (hl : l.length ≤ 1000000) {b : Nat} (hp : ∀ s ∈ l, ∀ W, Ext w W → Calls Tryz.prog 282 #[.string (ba s), .pointer (some ⟨b, 0, none⟩)] W fun e w' => e = .returned (.bool false) ∧ Ext W w') :
  Calls Tryz.prog 68 #[v, .func (.func 282) #[] #[.pointer (some ⟨b, 0, none⟩)]] w fun e w' => e = .returned (.bool false) ∧ Ext w w' := by
 have HI := zh (Index_strs w hv hl hp);obtain ⟨a, c, rfl, -⟩ := hv.form;clear hp hv;go_enter Tryz.func68, Tryz.ntmps68
 go_wp2_with (go_at_call 146; refine HI.out.mono ?_; rintro e w2 ⟨rfl, x2⟩; have X2 := zh x2; clear x2)
 go_ret
 exact ⟨rfl, X2.out⟩
def zJc (w : World) (e : Ending) (w' : World) : Prop := e = .returned zC1 ∧ Ext w w'
theorem zHn : Tryz.f235.results = #[.cell 4 38] := by kernel_rfl
theorem mem_compact {zs : List Str} {x : Str} (h : x ∈ Lib.compact zs) : x ∈ zs := by
 unfold Lib.compact Lib.compactUpTo at h;obtain ⟨j, hj, rfl⟩ := List.mem_map.1 h;have h1 := List.mem_range.1 (List.mem_filter.1 hj).1;rw [getElem!_pos _ j (by simpa using h1)];simp
theorem filesOf_mem {o : Option En} {s : Str} (h : s ∈ zAn o) : ∃ e, o = some e ∧ ∃ f ∈ e.fs, f.path = s := by
 have h2 := mem_compact h
 have h3 : s ∈ zDh o := by
  unfold zCx at h2;simpa using h2
 cases o with
 | none => simp [zDh] at h3
 | some e =>
   simp only [zDh, Option.map_some, Option.getD_some, List.mem_map] at h3;obtain ⟨f, hf, rfl⟩ := h3;exact ⟨e, rfl, f, hf, rfl⟩
theorem filesOf_len (o : Option En) : (zAn o).length ≤ (zDh o).length := by
 unfold zAn Lib.compact Lib.compactUpTo;rw [List.length_map];refine Nat.le_trans (List.length_filter_le _ _) ?_;rw [List.length_range];unfold zCx;rw [List.length_mergeSort];exact Nat.le_refl _
theorem DFiles_none (w : World) {b : Nat} (h : BaseM w b none) (a : Option Addr) (c : Nat) : Calls Tryz.prog 235 #[.agg #[.map (some b)], .slice a 0 c] w (zJc w) := by
 obtain ⟨W, hW⟩ : ∃ W, W = (w.alloc (.cells #[.map (some b)] 52)).alloc (.cells #[.int .i64 0, .string ⟨#[]⟩, .string ⟨#[]⟩] 38) := ⟨_, rfl⟩
 have XW := zh (show Ext w W by rw [hW]; exact ((xr w).alloc _).alloc _);have HF := zh (zJx (h.ext XW.out))
 have hb1 : W.heap[w.heap.size + 1]? = some (.cells #[.int .i64 0, .string ⟨#[]⟩, .string ⟨#[]⟩] 38 (0, 0)) := by
  have := heap_alloc_new (w.alloc (.cells #[.map (some b)] 52)) (.cells #[.int .i64 0, .string ⟨#[]⟩, .string ⟨#[]⟩] 38);rw [World.size_alloc] at this;rw [hW]; exact this
 have KR : Hid (∀ V, Ext W V → _) := fun V x => zA2 (x.get hb1)
 clear h hb1;go_enter Tryz.func235, Tryz.ntmps235
 go_wp2_with (rw [← hW]; go_at_call 157; refine HF.out.mono ?_; rintro e w2 ⟨v, rfl, o2, x2⟩; (obtain ⟨a2, c2, rfl⟩ := zAj o2); have X2 := zh x2; clear x2 o2)
 clear hW
 go_loopw [19] (fun i wr => zBo w2 i wr) (fun _ _ => 0)
 case atStart => exact ⟨rfl, rfl⟩
 case round =>
  obtain ⟨rfl, rfl⟩ := hrel;obtain ⟨q0, q1, q2, qf⟩ := KR.out _ X2.out
  go_wp2_with fail
  refine bodyPost_ret (v := zC1) (by simp [results, zHn, zC1, q0, q1, q2, go_sem, World.cell?_setCell_far]) rfl ?_;have h1 : ∀ k, w.heap.size ≤ (⟨w.heap.size + 1, k, none⟩ : Addr).block := fun _ => Nat.le_succ _
  exact ⟨rfl, (((XW.out.trans X2.out).setCell (h1 0) _).setCell (h1 1) _).setCell (h1 2) _⟩
theorem own_mem {e : En} {f : Bf} (h : f ∈ e.fs) : ∃ g, zIm (some e) f.path = some g := by
 have : (zIq e.fs f.path).isSome = true := by
  unfold zIq;rw [List.find?_isSome];exact ⟨f, h, by simp⟩
 exact Option.isSome_iff_exists.1 this
def dfRel (w : World) (i : Value) (wr : World) : Prop := (i = .int .i64 0 ∨ i = .int .i64 1) ∧ Hid (Ext w wr)
set_option maxHeartbeats 1000000 in
theorem DFiles_some (w : World) {b : Nat} {e : En} (h : BaseM w b (some e)) (he : EnOk e) {g c : Nat} (hg : w.cell? ⟨g, 0, none⟩ = some (.string (ba nmA))) {mx : Int} (hmx : w.cell? ⟨0, 0, none⟩ = some (.int .i64 mx)) :
  Calls Tryz.prog 235 #[.agg #[.map (some b)], .slice (some ⟨g, 0, none⟩) 1 c] w (zJc w) := by
 obtain ⟨W, hW⟩ : ∃ W, W = (w.alloc (.cells #[.map (some b)] 52)).alloc (.cells #[.int .i64 0, .string ⟨#[]⟩, .string ⟨#[]⟩] 38) := ⟨_, rfl⟩
 have XW := zh (show Ext w W by rw [hW]; exact ((xr w).alloc _).alloc _);have HF := zh (zJx (h.ext XW.out));have HB := zh h;have HE := zh he;have HMX := zh hmx;have HG := zh hg
 have hb1 : W.heap[w.heap.size + 1]? = some (.cells #[.int .i64 0, .string ⟨#[]⟩, .string ⟨#[]⟩] 38 (0, 0)) := by
  have := heap_alloc_new (w.alloc (.cells #[.map (some b)] 52)) (.cells #[.int .i64 0, .string ⟨#[]⟩, .string ⟨#[]⟩] 38);rw [World.size_alloc] at this;rw [hW]; exact this
 have hb0 : W.heap[w.heap.size]? = some (.cells #[.map (some b)] 52 (0, 0)) := by rw [hW]; exact ((xr _).alloc _).get (heap_alloc_new w _)
 have KR : Hid (∀ V, Ext W V → _) := fun V x => zA2 (x.get hb1)
 have KB : Hid (∀ V, Ext W V → V.cell? ⟨w.heap.size, 0, none⟩ = some (.map (some b))) := fun V x => by rw [zAb (x.get hb0)]; rfl
 have hfew := he.few;clear h he hmx hg hb0 hb1;go_enter Tryz.func235, Tryz.ntmps235
 go_wp2_with (rw [← hW]; go_at_call 157; refine HF.out.mono ?_; rintro e w2 ⟨v, rfl, o2, x2⟩; have O2 := zh o2; (obtain ⟨a2, c2, rfl⟩ := zAj o2); have X2 := zh x2; clear x2 o2)
 clear hW
 go_loopw [19] (fun i wr => dfRel w2 i wr) (fun i _ => 1 - (intOf i).toNat)
 case atStart => exact ⟨.inl rfl, zh (xr _)⟩
 case round =>
  obtain ⟨wo, rfl⟩ : ∃ x : World, x = wr := ⟨_, rfl⟩
  obtain ⟨hi, XR⟩ := hrel
  rcases hi with rfl | rfl
  ·have XQ := zh (X2.out.trans XR.out);have hcb := KB.out _ XQ.out;have hgc := (XW.out.trans XQ.out).cell HG.out;have HGT : Hid (∀ V, Ext wo V → Calls Tryz.prog 150 #[.agg #[.map (some b)], .string (ba nmA)] V (zKe V (some e))) := fun V x => zNz (HB.out.ext (XW.out.trans (XQ.out.trans x)))
   go_wp2_with (go_at_call 150; refine (HGT.out _ (xr _)).mono ?_; rintro e' w3 ⟨nn, vv, fv, fs, rfl, fvv, hge, x3⟩; (obtain ⟨rfl, rfl, rfl⟩ := hge e rfl); have FV := zh fvv; (obtain ⟨fa, fc, rfl⟩ := fvv.form); have X3 := zh x3; clear fvv hge x3)
   obtain ⟨W3, hW3⟩ : ∃ W3, W3 = w3.alloc (.cells #[.string (ba nmA), .string (ba e.ver), .slice none 0 0, .slice none 0 0, .slice fa e.fs.length fc, .slice none 0 0] 103) := ⟨_, rfl⟩
   have X33 := zh (show Ext w3 W3 by rw [hW3]; exact (xr w3).alloc _);have x3b : Ext W W3 := XQ.out.trans (X3.out.trans X33.out);have X3W := zh x3b;clear x3b;rw [← hW3];have XO3 := zh (XR.out.trans (X3.out.trans X33.out));clear hW3 hcb hgc
   go_loopw [32] (fun i wz => zO4 W3 e.fs.length i wz) (fun i _ => e.fs.length - (intOf i).toNat)
   case atStart => exact ⟨0, Nat.zero_le _, rfl, zh (xr _)⟩
   case round =>
    obtain ⟨wq, rfl⟩ : ∃ x : World, x = wr := ⟨_, rfl⟩
    obtain ⟨k, hk, rfl, HX⟩ := hrel
    by_cases hlt : k < e.fs.length
    ·have XQW := zh (X3W.out.trans HX.out);obtain ⟨b', hb', hc0, hc1, hc2⟩ := (FV.out.mut (X33.out.trans HX.out).mut (B := 0) (S := []) (by simp)).at k hlt;subst hb';have HMEM := zh (List.getElem_mem hlt);have hcb := KB.out _ XQW.out;generalize e.fs[k] = f at *;obtain ⟨f', hf'⟩ := own_mem HMEM.out
     have HOW : Hid (∀ V, Ext W V → Calls Tryz.prog 160 #[.agg #[.map (some b)], .string (ba f.path)] V (fun e' w' => e' = .returned (.tuple #[.string (ba nmA), .agg #[.string (ba f'.path), .bool f'.cfg, .int .u32 (f'.sum : Int)], .bool true]) ∧ Ext V w')) := fun V x => (zC2 (HB.out.ext (XW.out.trans x))).mono fun e' w' ⟨h1, h2⟩ => ⟨by rw [h1, hf']; rfl, h2⟩
     obtain ⟨W1, hW1⟩ : ∃ W1, W1 = wq.alloc (.cells #[.string (ba f.path), .bool f.cfg, .int .u32 (f.sum : Int)] 258) := ⟨_, rfl⟩
     have X1 := zh (show Ext wq W1 by rw [hW1]; exact (xr wq).alloc _);have BN := zh (show W1.heap[wq.heap.size]? = some (.cells #[.string (ba f.path), .bool f.cfg, .int .u32 (f.sum : Int)] 258 (0, 0)) by rw [hW1]; exact heap_alloc_new wq _);obtain ⟨r0, r1, r2, rf⟩ := zA2 BN.out;have hcb1 := KB.out _ (XQW.out.trans X1.out)
     have HCF : Hid (∀ V, Ext W1 V → Calls Tryz.prog 68 #[.slice a2 (zAn (some e)).length c2, .func (.func 282) #[] #[.pointer (some ⟨wq.heap.size, 0, none⟩)]] V (fun e w' => e = .returned (.bool false) ∧ Ext V w')) := fun V x =>
      zQc V ((O2.out.row.ext ((XO3.out.trans HX.out).trans (X1.out.trans x)))) (by
       have := (filesOf_len (some e))
       have : (zDh (some e)).length = e.fs.length := by simp [zDh]
       omega) (fun s hs U y => by
       obtain ⟨e2, he2, g2, hg2, rfl⟩ := filesOf_mem hs;cases he2;have := Inner_any U (HE.out.path _ HMEM.out) (HE.out.path _ hg2) (zA2 ((x.trans y).get BN.out)).1 ((XW.out.trans (XQW.out.trans (X1.out.trans (x.trans y)))).cell HMX.out);rw [HE.out.apart _ HMEM.out _ hg2] at this
       exact this)
     clear hf'
     go_upto_region 9 with fail
     rw [← hW1];clear hW1 hc0 hc1 hc2 hcb
     go_wp2_with (first
      | (go_at_call 160; refine (HOW.out _ (XQW.out.trans X1.out)).mono ?_; rintro e' w5 ⟨rfl, x5⟩; have X5 := zh x5; clear x5)
      | (go_at_call 68; refine (HCF.out _ (X5.out.alloc _)).mono ?_; rintro e' w6 ⟨rfl, x6⟩; have X6 := zh ((X5.out.alloc _).trans x6); clear x6))
     go_roundw
     case rel => exact ⟨k + 1, hlt, by go_num, zh (HX.out.trans (X1.out.trans X6.out))⟩
     case measure => simp [intOf]; omega
    ·go_wp2_with fail
     go_roundw
     case rel => exact ⟨.inr rfl, zh (XO3.out.trans HX.out)⟩
     case measure => simp [intOf]
  ·obtain ⟨q0, q1, q2, qf⟩ := KR.out _ (X2.out.trans XR.out)
   go_wp2_with fail
   refine bodyPost_ret (v := zC1) (by simp [results, zHn, zC1, q0, q1, q2, go_sem, World.cell?_setCell_far]) rfl ?_;have h1 : ∀ k, w.heap.size ≤ (⟨w.heap.size + 1, k, none⟩ : Addr).block := fun _ => Nat.le_succ _
   exact ⟨rfl, (((XW.out.trans (X2.out.trans XR.out)).setCell (h1 0) _).setCell (h1 1) _).setCell (h1 2) _⟩
theorem zHo : Tryz.f155.results = #[.cell 2 38] := by kernel_rfl
theorem OwnS.at0 {w : World} {base c : Nat} {a : Option Addr} {n : Nat} {s : Str} {l : List Str} (h : OwnS w base (.slice a n c) (s :: l)) : ∃ b, a = some ⟨b, 0, none⟩ ∧ w.cell? ⟨b, 0, none⟩ = some (.string (ba s)) := by
 obtain ⟨b, o, e, hc⟩ := zP8 h
 rcases h.2 with ⟨e2, h0⟩ | ⟨g, cap, cur, e2, _⟩
 ·cases e2; cases e
 ·cases e2; cases e; exact ⟨_, rfl, hc⟩
theorem Check_none (w : World) {b : Nat} (h : BaseM w b none) : Calls Tryz.prog 155 #[.agg #[.map (some b)]] w (zJc w) := by
 obtain ⟨W, hW⟩ : ∃ W, W = (w.alloc (.cells #[.map (some b)] 52)).alloc (.cells #[.int .i64 0, .string ⟨#[]⟩, .string ⟨#[]⟩] 38) := ⟨_, rfl⟩
 have XW := zh (show Ext w W by rw [hW]; exact ((xr w).alloc _).alloc _);have HN := zh (zE4 (h.ext XW.out));have HF : Hid (∀ V, Ext W V → ∀ a c, Calls Tryz.prog 235 #[.agg #[.map (some b)], .slice a 0 c] V (fun e w' => e = .returned (.agg #[.int .i64 0, .string ⟨#[]⟩, .string ⟨#[]⟩]) ∧ Ext V w')) := fun V x a c => DFiles_none V (h.ext (XW.out.trans x)) a c
 have hb1 : W.heap[w.heap.size + 1]? = some (.cells #[.int .i64 0, .string ⟨#[]⟩, .string ⟨#[]⟩] 38 (0, 0)) := by
  have := heap_alloc_new (w.alloc (.cells #[.map (some b)] 52)) (.cells #[.int .i64 0, .string ⟨#[]⟩, .string ⟨#[]⟩] 38);rw [World.size_alloc] at this;rw [hW]; exact this
 have hb0 : W.heap[w.heap.size]? = some (.cells #[.map (some b)] 52 (0, 0)) := by rw [hW]; exact ((xr _).alloc _).get (heap_alloc_new w _)
 have KR : Hid (∀ V, Ext W V → _) := fun V x => zA2 (x.get hb1)
 have KB : Hid (∀ V, Ext W V → V.cell? ⟨w.heap.size, 0, none⟩ = some (.map (some b))) := fun V x => by rw [zAb (x.get hb0)]; rfl
 clear h hb0 hb1;go_enter Tryz.func155, Tryz.ntmps155
 go_wp2_with (rw [← hW]; go_at_call 13; refine HN.out.mono ?_; rintro e w2 ⟨v, rfl, o2, x2⟩; (obtain ⟨a2, c2, hv2, -⟩ := o2.row.form); simp only [zCy] at hv2; subst hv2; have X2 := zh x2; clear o2 x2)
 clear hW
 go_loopw [24] (fun i wr => zBo w2 i wr) (fun _ _ => 0)
 case atStart => exact ⟨rfl, rfl⟩
 case round =>
  obtain ⟨rfl, rfl⟩ := hrel;have hcb := KB.out _ X2.out
  go_wp2_with (go_at_call 235; refine (HF.out _ X2.out _ _).mono ?_; rintro e w3 ⟨rfl, x3⟩; have X3 := zh (X2.out.trans x3); (obtain ⟨q0, q1, q2, qf⟩ := KR.out _ X3.out); clear x3)
  refine bodyPost_ret (v := zC1) (by simp [results, zHo, zC1, q0, q1, q2, go_sem, World.cell?_setCell_far]) rfl ?_;have h1 : ∀ k, w.heap.size ≤ (⟨w.heap.size + 1, k, none⟩ : Addr).block := fun _ => Nat.le_succ _
  exact ⟨rfl, (((XW.out.trans X3.out).setCell (h1 0) _).setCell (h1 1) _).setCell (h1 2) _⟩
set_option maxHeartbeats 1000000 in
theorem Check_some (w : World) {b : Nat} {e : En} (h : BaseM w b (some e)) (he : EnOk e) {mx : Int} (hmx : w.cell? ⟨0, 0, none⟩ = some (.int .i64 mx)) : Calls Tryz.prog 155 #[.agg #[.map (some b)]] w (zJc w) := by
 obtain ⟨W, hW⟩ : ∃ W, W = (w.alloc (.cells #[.map (some b)] 52)).alloc (.cells #[.int .i64 0, .string ⟨#[]⟩, .string ⟨#[]⟩] 38) := ⟨_, rfl⟩
 have XW := zh (show Ext w W by rw [hW]; exact ((xr w).alloc _).alloc _);have HN := zh (zE4 (h.ext XW.out));have HF : Hid (∀ V g c, Ext W V → V.cell? ⟨g, 0, none⟩ = some (.string (ba nmA)) → Calls Tryz.prog 235 #[.agg #[.map (some b)], .slice (some ⟨g, 0, none⟩) 1 c] V (fun e w' => e = .returned (.agg #[.int .i64 0, .string ⟨#[]⟩, .string ⟨#[]⟩]) ∧ Ext V w')) := fun V g c x hg => DFiles_some V (h.ext (XW.out.trans x)) he hg ((XW.out.trans x).cell hmx)
 have HGT : Hid (∀ V, Ext W V → Calls Tryz.prog 150 #[.agg #[.map (some b)], .string (ba nmA)] V (zKe V (some e))) := fun V x => zNz (h.ext (XW.out.trans x))
 have hb1 : W.heap[w.heap.size + 1]? = some (.cells #[.int .i64 0, .string ⟨#[]⟩, .string ⟨#[]⟩] 38 (0, 0)) := by
  have := heap_alloc_new (w.alloc (.cells #[.map (some b)] 52)) (.cells #[.int .i64 0, .string ⟨#[]⟩, .string ⟨#[]⟩] 38);rw [World.size_alloc] at this;rw [hW]; exact this
 have hb0 : W.heap[w.heap.size]? = some (.cells #[.map (some b)] 52 (0, 0)) := by rw [hW]; exact ((xr _).alloc _).get (heap_alloc_new w _)
 have KR : Hid (∀ V, Ext W V → _) := fun V x => zA2 (x.get hb1)
 have KB : Hid (∀ V, Ext W V → V.cell? ⟨w.heap.size, 0, none⟩ = some (.map (some b))) := fun V x => by rw [zAb (x.get hb0)]; rfl
 clear h he hb0 hb1 hmx;go_enter Tryz.func155, Tryz.ntmps155
 go_wp2_with (rw [← hW]; go_at_call 13; refine HN.out.mono ?_; rintro e w2 ⟨v, rfl, o2, x2⟩; (obtain ⟨a2, c2, hv2, -⟩ := o2.row.form); simp only [zCy] at hv2; subst hv2; have X2 := zh x2; have O2 := zh o2; clear o2 x2)
 clear hW;obtain ⟨bn, rfl, hcn⟩ : ∃ bn, a2 = some ⟨bn, 0, none⟩ ∧ w2.cell? ⟨bn, 0, none⟩ = some (.string (ba nmA)) := OwnS.at0 O2.out;have HCN : Hid (∀ V, Ext w2 V → V.cell? ⟨bn, 0, none⟩ = some (.string (ba nmA))) := fun V x => x.cell hcn
 clear hcn O2
 go_loopw [24] (fun i wr => dfRel w2 i wr) (fun i _ => 1 - (intOf i).toNat)
 case atStart => exact ⟨.inl rfl, zh (xr _)⟩
 case round =>
  obtain ⟨wo, rfl⟩ : ∃ x : World, x = wr := ⟨_, rfl⟩
  obtain ⟨hi, XR⟩ := hrel;have XQ := zh (X2.out.trans XR.out)
  rcases hi with rfl | rfl
  ·have hcb := KB.out _ XQ.out;have hcn := HCN.out _ XR.out
   go_wp2_with (go_at_call 150; refine (HGT.out _ XQ.out).mono ?_; rintro e' w3 ⟨nn, vv, fv, fs, rfl, fvv, hge, x3⟩; (obtain ⟨rfl, rfl, rfl⟩ := hge e rfl); (obtain ⟨fa, fc, rfl⟩ := fvv.form); have X3 := zh x3; clear fvv hge x3)
   obtain ⟨W3, hW3⟩ : ∃ W3, W3 = w3.alloc (.cells #[.string (ba nmA), .string (ba e.ver), .slice none 0 0, .slice none 0 0, .slice fa e.fs.length fc, .slice none 0 0] 103) := ⟨_, rfl⟩
   have X33 := zh (show Ext w3 W3 by rw [hW3]; exact (xr w3).alloc _);have B3 := zh (show W3.heap[w3.heap.size]? = some (.cells #[.string (ba nmA), .string (ba e.ver), .slice none 0 0, .slice none 0 0, .slice fa e.fs.length fc, .slice none 0 0] 103 (0, 0)) by rw [hW3]; exact heap_alloc_new w3 _);rw [← hW3];clear hW3 hcb hcn
   go_loopw [37] (fun i wz => zBo W3 i wz) (fun _ _ => 0)
   case atStart => exact ⟨rfl, rfl⟩
   case round =>
    obtain ⟨rfl, rfl⟩ := hrel
    obtain ⟨wi, rfl⟩ : ∃ x : World, x = wr := ⟨_, rfl⟩
    obtain ⟨r0, r1, r2, r3, r4, r5, rf⟩ := cells6 B3.out
    go_wp2_with fail
    go_loopw [68] (fun i wz => zBo wi i wz) (fun _ _ => 0)
    case atStart => exact ⟨rfl, rfl⟩
    case round =>
     obtain ⟨rfl, rfl⟩ := hrel
     go_wp2_with fail
     go_roundw
     case rel => exact ⟨.inr rfl, zh (XR.out.trans (X3.out.trans X33.out))⟩
     case measure => simp [intOf]
  ·have hcb := KB.out _ XQ.out
   go_wp2_with (go_at_call 235; refine (HF.out _ _ _ XQ.out (HCN.out _ XR.out)).mono ?_; rintro e' w3 ⟨rfl, x3⟩; have X3 := zh (XQ.out.trans x3); (obtain ⟨q0, q1, q2, qf⟩ := KR.out _ X3.out); clear x3)
   refine bodyPost_ret (v := zC1) (by simp [results, zHo, zC1, q0, q1, q2, go_sem, World.cell?_setCell_far]) rfl ?_;have h1 : ∀ k, w.heap.size ≤ (⟨w.heap.size + 1, k, none⟩ : Addr).block := fun _ => Nat.le_succ _
   exact ⟨rfl, (((XW.out.trans X3.out).setCell (h1 0) _).setCell (h1 1) _).setCell (h1 2) _⟩
def zCg (d : Nat) (fs : List Af) : En := ⟨dig d, fs.map ofF⟩
structure ComeAt (w : World) (g d : Nat) (fv : Value) (fs : List (Af × Value)) : Prop where
 row : ∃ gc, ORow rPkg w 0 (.slice (some ⟨g, 0, none⟩) 1 gc) [(zA5 (dig d) fv).toList]
 files : ArcFs w fv fs
theorem ComeAt.ext {w w' : World} {g d : Nat} {fv : Value} {fs : List (Af × Value)} (h : ComeAt w g d fv fs) (x : Ext w w') : ComeAt w' g d fv fs := by
 obtain ⟨gc, r⟩ := h.row;exact ⟨⟨gc, r.ext x⟩, h.files.ext x⟩
theorem ComeAt.cells6 {w : World} {g d : Nat} {fv : Value} {fs : List (Af × Value)} (h : ComeAt w g d fv fs) :
  w.cell? ⟨g, 0, none⟩ = some (.string (ba nmA)) ∧ w.cell? ⟨g, 1, none⟩ = some (.string (ba (dig d))) ∧ w.cell? ⟨g, 2, none⟩ = some (.slice none 0 0) ∧ w.cell? ⟨g, 3, none⟩ = some (.slice none 0 0) ∧ w.cell? ⟨g, 4, none⟩ = some fv ∧ w.cell? ⟨g, 5, none⟩ = some (.slice none 0 0) ∧ ∀ i, w.frozen? ⟨g, i, none⟩ = false := by
 obtain ⟨gc, r⟩ := h.row;obtain ⟨b, e, hc⟩ := r.at 0 (by simp);cases e;exact ⟨hc 0 (by decide), hc 1 (by decide), hc 2 (by decide), hc 3 (by decide), hc 4 (by decide), hc 5 (by decide), fun i => World.ownsRow.frozenAt r.own i⟩
def zNc (w : World) (o : Option En) (e : Ending) (w' : World) : Prop := ∃ nb, e = .returned (.tuple #[.agg #[.map (some nb)], zC1]) ∧ BaseM w' nb o ∧ w.heap.size ≤ nb ∧ Ext w w'
theorem zHw (w : World) (s : Str) : Calls Tryz.prog 151 #[.slice none 0 0, .string (ba s)] w fun e w' => e = .returned (.bool false) ∧ w = w' :=
 (contains_any (SRow.nil w) s).mono fun e w' ⟨h1, h2⟩ => ⟨by rw [h1]; simp, h2⟩
theorem zDl {V : World} {b : Nat} {v0 : Value} {t : TypeId} (h : V.heap[b]? = some (.cells #[v0] t (0, 0))) : V.cell? ⟨b, 0, none⟩ = some v0 ∧ ∀ i, V.frozen? ⟨b, i, none⟩ = false :=
 ⟨by rw [zAb h]; rfl, zAl h⟩
theorem zCe : Tryz.prog.underlying 33 = some (.slice 9) := by kernel_rfl
theorem zIi : Tryz.f93.results = #[.cell 4 52, .cell 5 38] := by kernel_rfl
theorem set3 {V : World} {b : Nat} (u0 u1 u2 : Value) {cs : Array Value} {t : TypeId} (h : V.heap[b]? = some (.cells cs t (0, 0))) :
  Mut b [t + 2] V (((V.setCell ⟨b, 0, none⟩ u0).setCell ⟨b, 1, none⟩ u1).setCell ⟨b, 2, none⟩ u2) :=
 (zD1 (cs := cs) (zD1 (cs := cs) (zD1 (cs := cs) ⟨Mut.refl _ _ _, _, h⟩ 0 u0) 1 u1) 2 u2).1
def NewerB (o : Option En) (d : Nat) : Prop := ∀ e, o = some e → ∃ d0, d0 < d ∧ e.ver = dig d0
def aft1 (w : World) (v i : Value) (wr : World) : Prop := ((i = .int .i64 0 ∧ v = .slice none 0 0) ∨ i = .int .i64 1) ∧ Hid (Ext w wr)
def aft3 (W w : World) (ob : Nat) (o : Option En) (en : En) (i : Value) (wr : World) : Prop := ∃ d, Hid (wr.heap[ob]? = some (.cells #[.map (some d)] 52 (0, 0))) ∧ W.heap.size ≤ d ∧ ((i = .int .i64 0 ∧ Hid (BaseM wr d o)) ∨ (i = .int .i64 1 ∧ Hid (BaseM wr d (some en)))) ∧ Hid (Ext W wr) ∧ w = w
set_option maxHeartbeats 4000000 in
theorem After_come (w : World) {b g gc d : Nat} {o : Option En} {fv : Value} {fs : List (Af × Value)} (h : BaseM w b o) (hc : ComeAt w g d fv fs) (hp : PkgOk d (fs.map Prod.fst)) (he : EnOk (zCg d (fs.map Prod.fst))) (hn : NewerB o d) {mx : Int} (hmx : w.cell? ⟨0, 0, none⟩ = some (.int .i64 mx)) :
  Calls Tryz.prog 93 #[.agg #[.map (some b)], .agg #[.slice (some ⟨g, 0, none⟩) 1 gc, .slice none 0 0]] w (zNc w (some (zCg d (fs.map Prod.fst)))) := by
 obtain ⟨fa, fc, rfl⟩ := hc.files.form
 obtain ⟨W, hW⟩ : ∃ W, W = (((w.alloc (.cells #[.map (some b)] 52)).alloc (.cells #[.slice (some ⟨g, 0, none⟩) 1 gc, .slice none 0 0] 42)).alloc (.cells #[.map none] 52)).alloc (.cells #[.int .i64 0, .string ⟨#[]⟩, .string ⟨#[]⟩] 38) := ⟨_, rfl⟩
 have x1 : Ext w (w.alloc (.cells #[.map (some b)] 52)) := (xr w).alloc _;have hb0 : W.heap[w.heap.size]? = some (.cells #[.map (some b)] 52 (0, 0)) := by rw [hW]; exact (((xr _).alloc _).alloc _ |>.alloc _).get (heap_alloc_new w _)
 have hb1 : W.heap[w.heap.size + 1]? = some (.cells #[.slice (some ⟨g, 0, none⟩) 1 gc, .slice none 0 0] 42 (0, 0)) := by
  have := heap_alloc_new (w.alloc (.cells #[.map (some b)] 52)) (.cells #[.slice (some ⟨g, 0, none⟩) 1 gc, .slice none 0 0] 42);rw [World.size_alloc] at this;rw [hW]; exact (((xr _).alloc _).alloc _).get this
 have hb2 : W.heap[w.heap.size + 1 + 1]? = some (.cells #[.map none] 52 (0, 0)) := by
  have := heap_alloc_new ((w.alloc (.cells #[.map (some b)] 52)).alloc (.cells #[.slice (some ⟨g, 0, none⟩) 1 gc, .slice none 0 0] 42)) (.cells #[.map none] 52);rw [World.size_alloc, World.size_alloc] at this;rw [hW]; exact ((xr _).alloc _).get this
 have hb3 : W.heap[w.heap.size + 1 + 1 + 1]? = some (.cells #[.int .i64 0, .string ⟨#[]⟩, .string ⟨#[]⟩] 38 (0, 0)) := by
  have := heap_alloc_new (((w.alloc (.cells #[.map (some b)] 52)).alloc (.cells #[.slice (some ⟨g, 0, none⟩) 1 gc, .slice none 0 0] 42)).alloc (.cells #[.map none] 52)) (.cells #[.int .i64 0, .string ⟨#[]⟩, .string ⟨#[]⟩] 38);rw [World.size_alloc, World.size_alloc, World.size_alloc] at this;rw [hW]; exact this
 have XW := zh (show Ext w W by rw [hW]; exact (((xr w).alloc _).alloc _ |>.alloc _).alloc _);have HZ := zh (show W.heap.size = w.heap.size + 1 + 1 + 1 + 1 by rw [hW]; simp);have HB := zh h;have HC := zh hc;have HP := zh hp;have HE := zh he;have HN := zh hn;have HMX := zh hmx;have B0 := zh hb0;have B1 := zh hb1;have B2 := zh hb2;have B3 := zh hb3;obtain ⟨c0, c1, cf⟩ := zAu hb1;clear h hc hp he hn hmx x1 hb0 hb1 hb2 hb3;go_enter Tryz.func93, Tryz.ntmps93
 go_upto_region 1 with fail
 rw [← hW];clear hW
 go_wp2_with fail
 go_loopw [6, 32] (fun v i wr => aft1 W v i wr) (fun _ i _ => 1 - (intOf i).toNat)
 case atStart => exact ⟨.inl ⟨rfl, rfl⟩, zh (xr _)⟩
 case round =>
  obtain ⟨wq, rfl⟩ : ∃ x : World, x = wr := ⟨_, rfl⟩
  obtain ⟨hi, XR⟩ := hrel
  rcases hi with ⟨rfl, rfl⟩ | rfl
  ·have XQ := zh (XW.out.trans XR.out);obtain ⟨r0, r1, r2, r3, r4, r5, rf⟩ := (HC.out.ext XQ.out).cells6
   obtain ⟨W1, hW1⟩ : ∃ W1, W1 = wq.alloc (.cells #[.string (ba nmA), .string (ba (dig d)), .slice none 0 0, .slice none 0 0, .slice fa fs.length fc, .slice none 0 0] 35) := ⟨_, rfl⟩
   have X1 := zh (show Ext wq W1 by rw [hW1]; exact (xr wq).alloc _);have P1 := zh (show W1.heap[wq.heap.size]? = some (.cells #[.string (ba nmA), .string (ba (dig d)), .slice none 0 0, .slice none 0 0, .slice fa fs.length fc, .slice none 0 0] 35 (0, 0)) by rw [hW1]; exact heap_alloc_new wq _);have KP : Hid (∀ V, Ext W1 V → _) := fun V x => cells6 (x.get P1.out)
   have k0 : ∀ V, Ext W V → V.cell? ⟨w.heap.size, 0, none⟩ = some (.map (some b)) := fun V x => by rw [zAb (x.get B0.out)]; rfl
   have hk0 := k0 W1 (XR.out.trans X1.out);have HGT : Hid (∀ V, Ext W1 V → Calls Tryz.prog 150 #[.agg #[.map (some b)], .string (ba nmA)] V (zKe V o)) := fun V x => zNz (HB.out.ext (XQ.out.trans (X1.out.trans x)))
   have HPR : Hid (∀ V, Ext W1 V → Calls Tryz.prog 34 #[.agg (zA5 (dig d) (.slice fa fs.length fc))] V (fun e w' => e = .returned (.bool true) ∧ Ext V w')) := fun V x => zKt V (HC.out.files.ext (XQ.out.trans (X1.out.trans x))).weak HP.out ((XQ.out.trans (X1.out.trans x)).cell HMX.out)
   have HCM : Hid (∀ V d0, d0 < d → Ext W1 V → Calls Tryz.prog 152 #[.string (ba (dig d)), .string (ba (dig d0))] V (fun e w' => e = .returned (.int .i64 1) ∧ Ext V w')) := fun V d0 hd x => Compare_dig V HP.out.dig hd ((XQ.out.trans (X1.out.trans x)).cell HMX.out)
   simp only [zA5] at HPR;obtain ⟨p0, p1, p2, p3, p4, p5, pf⟩ := KP.out _ (xr W1);clear k0
   go_upto_region 7 with fail
   rw [← hW1];clear hW1 r0 r1 r2 r3 r4 r5 rf
   go_wp2_with fail
   go_at_call 150
   refine (HGT.out _ (xr _)).mono ?_;rintro e' w3 ⟨nn, vv, fv2, fs2, rfl, fvv, hge, x3⟩;have HGE := zh hge;obtain ⟨fa2, fc2, rfl⟩ := fvv.form;have X3 := zh x3;clear fvv hge x3 p0 p1 p2 p3 p4 p5 pf hk0
   obtain ⟨W4, hW4⟩ : ∃ W4, W4 = w3.alloc (.cells #[.string nn, .string vv, .slice none 0 0, .slice none 0 0, .slice fa2 fs2.length fc2, .slice none 0 0] 103) := ⟨_, rfl⟩
   have X4 := zh (show Ext W1 W4 by rw [hW4]; exact X3.out.alloc _);have P4 := zh (show W4.heap[w3.heap.size]? = some (.cells #[.string nn, .string vv, .slice none 0 0, .slice none 0 0, .slice fa2 fs2.length fc2, .slice none 0 0] 103 (0, 0)) by rw [hW4]; exact heap_alloc_new w3 _)
   go_upto_region 8 with fail
   rw [← hW4];clear hW4;obtain ⟨p0, p1, p2, p3, p4, p5, pf⟩ := KP.out _ X4.out
   go_wp2_with fail
   go_at_call 34
   refine (HPR.out _ X4.out).mono ?_;rintro e' w5 ⟨rfl, x5⟩;have X5 := zh (X4.out.trans x5);have P5 := zh (x5.get P4.out);clear x5 p0 p1 p2 p3 p4 p5 pf;obtain ⟨p0, p1, p2, p3, p4, p5, pf⟩ := KP.out _ X5.out
   rcases o with _ | e
   ·go_wp2_with (first
     | (go_at_call 151; refine (zHw _ _).mono ?_; rintro e' ww ⟨rfl, rfl⟩)
     | (at_builtin; refine zBt _ (by rfl) (.tmp 76) (.tmp 79) 33 (by rfl) zCe W.heap.size (.slice none 0 0) (.slice (some ⟨w5.heap.size, 0, none⟩) 1 1) (by rfl) (by rfl) [] [nmA] (OwnS.nil _ _) (zHz (heap_alloc_new w5 _)) (by simp [nmA]) ?hBw5 ?hKw5; (case hBw5 => exact Nat.le_trans XR.out.sz (Nat.le_trans X1.out.sz (Nat.le_trans X5.out.sz ((xr _).alloc _).sz))); intro v8 w8 o8 g8 n8; have X8 := zh (((XR.out.trans (X1.out.trans X5.out)).alloc (.cells #[.string (ba nmA)] 9)).grow g8 (fun k hk => by cases hk)); clear o8 g8 n8))
    go_roundw
    case rel => exact ⟨.inr rfl, X8⟩
    case measure => simp [intOf]
   ·obtain ⟨rfl, rfl, rfl⟩ := HGE.out e rfl;obtain ⟨d0, hd0, hv0⟩ := HN.out e rfl;obtain ⟨t0, t1, t2, t3, t4, t5, tf⟩ := cells6 P5.out;have HC2 := zh (HCM.out w5 d0 hd0 X5.out);rw [← hv0] at HC2;clear hv0
    go_wp2_with (first
     | (go_at_call 151; refine (zHw _ _).mono ?_; rintro e' ww ⟨rfl, rfl⟩)
     | (go_at_call 152; refine HC2.out.mono ?_; rintro e' w6 ⟨rfl, x6⟩; have X6 := zh (X5.out.trans x6); clear x6 p0 p1 p2 p3 p4 p5 pf t0 t1 t2 t3 t4 t5 tf; (obtain ⟨p0, p1, p2, p3, p4, p5, pf⟩ := KP.out _ X6.out))
     | (at_builtin; refine zBt _ (by rfl) (.tmp 76) (.tmp 79) 33 (by rfl) zCe W.heap.size (.slice none 0 0) (.slice (some ⟨w6.heap.size, 0, none⟩) 1 1) (by rfl) (by rfl) [] [nmA] (OwnS.nil _ _) (zHz (heap_alloc_new w6 _)) (by simp [nmA]) ?hBw6 ?hKw6; (case hBw6 => exact Nat.le_trans XR.out.sz (Nat.le_trans X1.out.sz (Nat.le_trans X6.out.sz ((xr _).alloc _).sz))); intro v8 w8 o8 g8 n8; have X8 := zh (((XR.out.trans (X1.out.trans X6.out)).alloc (.cells #[.string (ba nmA)] 9)).grow g8 (fun k hk => by cases hk)); clear o8 g8 n8))
    go_roundw
    case rel => exact ⟨.inr rfl, X8⟩
    case measure => simp [intOf]
  ·have XQ := zh (XW.out.trans XR.out);obtain ⟨c0, c1, cf⟩ := zAu (XR.out.get B1.out)
   go_wp2_with fail
   go_loopw [85] (fun i wz => zBo wq i wz) (fun _ _ => 0)
   case atStart => exact ⟨rfl, rfl⟩
   case round =>
    obtain ⟨rfl, rfl⟩ := hrel;have hk0 : wr.cell? ⟨w.heap.size, 0, none⟩ = some (.map (some b)) := by rw [zAb (XR.out.get B0.out)]; rfl
    have HWO := zh (Without_nil (HB.out.ext XQ.out))
    go_wp2_with (go_at_call 153; refine HWO.out.mono ?_; rintro e' w3 ⟨d3, rfl, bm3, hd3, x3⟩; have X3 := zh (XR.out.trans x3); have BM3 := zh bm3; have HD3 := zh (Nat.le_trans XR.out.sz hd3); (obtain ⟨c0, c1, cf⟩ := zAu (X3.out.get B1.out)); (have c0a := (zAu ((X3.out.alloc (.cells #[.map (some d3)] 52)).get B1.out)).1); clear bm3 hd3 x3)
    obtain ⟨W3, hW3⟩ : ∃ W3, W3 = w3.alloc (.cells #[.map (some d3)] 52) := ⟨_, rfl⟩
    have X33 := zh (show Ext w3 W3 by rw [hW3]; exact (xr w3).alloc _);have B33 := zh (show W3.heap[w3.heap.size]? = some (.cells #[.map (some d3)] 52 (0, 0)) by rw [hW3]; exact heap_alloc_new w3 _);have HOB : Hid (W.heap.size ≤ w3.heap.size) := X3.out.sz;rw [← hW3];clear hW3 hk0 c0a c0 c1 cf
    go_loopw [120] (fun i wz => aft3 W w w3.heap.size o (zCg d (fs.map Prod.fst)) i wz) (fun i _ => 1 - (intOf i).toNat)
    case atStart => exact ⟨d3, B33, HD3.out, .inl ⟨rfl, zh (BM3.out.ext X33.out)⟩, zh (X3.out.trans X33.out), rfl⟩
    case round =>
     obtain ⟨wy, rfl⟩ : ∃ x : World, x = wr := ⟨_, rfl⟩
     obtain ⟨d4, BO, hd4, hi, XY, -⟩ := hrel;have HD4 := zh hd4;clear hd4 c0 c1 cf;have hob := zAb BO.out 0
     rcases hi with ⟨rfl, BM⟩ | ⟨rfl, BM⟩
     ·have XYW := zh (XW.out.trans XY.out);obtain ⟨r0, r1, r2, r3, r4, r5, rf⟩ := (HC.out.ext XYW.out).cells6
      obtain ⟨W1, hW1⟩ : ∃ W1, W1 = wy.alloc (.cells #[.string (ba nmA), .string (ba (dig d)), .slice none 0 0, .slice none 0 0, .slice fa fs.length fc, .slice none 0 0] 35) := ⟨_, rfl⟩
      have X1 := zh (show Ext wy W1 by rw [hW1]; exact (xr wy).alloc _);have P1 := zh (show W1.heap[wy.heap.size]? = some (.cells #[.string (ba nmA), .string (ba (dig d)), .slice none 0 0, .slice none 0 0, .slice fa fs.length fc, .slice none 0 0] 35 (0, 0)) by rw [hW1]; exact heap_alloc_new wy _)
      have KS : Hid (∀ V, Ext W1 V → V.cell? ⟨w3.heap.size, 0, none⟩ = some (.map (some d4)) ∧ V.cell? ⟨wy.heap.size, 0, none⟩ = some (.string (ba nmA)) ∧ V.cell? ⟨wy.heap.size, 1, none⟩ = some (.string (ba (dig d))) ∧ V.cell? ⟨wy.heap.size, 2, none⟩ = some (.slice none 0 0) ∧ V.cell? ⟨wy.heap.size, 3, none⟩ = some (.slice none 0 0) ∧ V.cell? ⟨wy.heap.size, 4, none⟩ = some (.slice fa fs.length fc) ∧ V.cell? ⟨wy.heap.size, 5, none⟩ = some (.slice none 0 0)) := fun V x => by
       obtain ⟨a0, a1, a2, a3, a4, a5, _⟩ := cells6 (x.get P1.out);refine ⟨?_, a0, a1, a2, a3, a4, a5⟩;rw [zAb ((X1.out.trans x).get BO.out)]; rfl
      have HOF : Hid (∀ V, Ext W1 V → Calls Tryz.prog 98 #[.agg (zA5 (dig d) (.slice fa fs.length fc))] V (fun e w' => ∃ fv, e = .returned (.agg #[.string (ba nmA), .string (ba (dig d)), .slice none 0 0, .slice none 0 0, fv, .slice none 0 0]) ∧ FilesV w' fv (fs.map fun x => ofF x.1) ∧ Ext V w')) := fun V x => Of_any (HC.out.files.ext (XYW.out.trans (X1.out.trans x))) (fun y hy => by
       have := (HP.out.files y.1 (List.mem_map.2 ⟨y, hy, rfl⟩)).data
       omega)
      have HWI : Hid (∀ V fv gg, Ext W1 V → V.heap[gg]? = some (.cells (zBn (dig d) fv) 103 (0, 0)) → FilesV V fv (fs.map fun x => ofF x.1) → Calls Tryz.prog 154 #[.agg #[.map (some d4)], .slice (some ⟨gg, 0, none⟩) 1 1] V (zCc V (some (zCg d (fs.map Prod.fst))))) := fun V fv gg x hg hf => With_one (e := zCg d (fs.map Prod.fst)) (.inr ⟨d4, rfl, BM.out.ext (X1.out.trans x)⟩) hg (by simpa [zCg, List.map_map, Function.comp_def] using hf)
      simp only [zA5] at HOF;simp only [zBn] at HWI
      go_upto_region 30 with fail
      rw [← hW1];clear hW1 r0 r1 r2 r3 r4 r5 rf hob;refine zBc (S := (fun V => V.cell? ⟨w3.heap.size, 0, none⟩ = some (.map (some d4)) ∧ V.cell? ⟨wy.heap.size, 0, none⟩ = some (.string (ba nmA)) ∧ V.cell? ⟨wy.heap.size, 1, none⟩ = some (.string (ba (dig d))) ∧ V.cell? ⟨wy.heap.size, 2, none⟩ = some (.slice none 0 0) ∧ V.cell? ⟨wy.heap.size, 3, none⟩ = some (.slice none 0 0) ∧ V.cell? ⟨wy.heap.size, 4, none⟩ = some (.slice fa fs.length fc) ∧ V.cell? ⟨wy.heap.size, 5, none⟩ = some (.slice none 0 0))) 5 (by kernel_rfl) (by kernel_rfl) (by (first | exact KS.out _ (xr _).drew | exact KS.out _ X5.out | exact KS.out _ (X5.out.alloc _) | exact KS.out _ X6.out)) fun _ => ?_
      simp only [List.take_succ_cons, List.take_zero];refine tk 0 ?_;refine tk 1 ?_;refine rd 2 fun K hK => ?_
      go_simp
      (go_at_call 98; refine (HOF.out _ (xr _).drew).mono ?_; rintro e' w5 ⟨fv5, rfl, f5, x5⟩; (obtain ⟨a5, n5, hf5⟩ := f5.form); rw [List.length_map] at hf5; subst hf5; have X5 := zh ((xr W1).drew.trans x5); have F5 := zh f5; clear f5 x5)
      go_wp2_with fail
      refine hK.out _ _ ?_ fun _ => ?_
      ·(first | exact KS.out _ (xr _).drew | exact KS.out _ X5.out | exact KS.out _ (X5.out.alloc _) | exact KS.out _ X6.out)
      clear hK K
      try simp only [nf]
      refine rd 3 fun K hK => ?_
      go_simp
      go_wp2_with fail
      refine hK.out _ _ ?_ fun _ => ?_
      ·(first | exact KS.out _ (xr _).drew | exact KS.out _ X5.out | exact KS.out _ (X5.out.alloc _) | exact KS.out _ X6.out)
      clear hK K
      try simp only [nf]
      refine rd 4 fun K hK => ?_
      go_simp
      (go_at_call 154; refine (HWI.out _ _ _ (X5.out.alloc _) (heap_alloc_new w5 _) (F5.out.mut ((xr w5).alloc _).mut (B := 0) (S := []) (by simp))).mono ?_; rintro e' w6 ⟨d6, rfl, bm6, hd6, x6⟩; have X6 := zh ((X5.out.alloc _).trans x6); have BM6 := zh bm6; have HD6 : Hid (W.heap.size ≤ d6) := Nat.le_trans ((XY.out.trans X1.out).trans (X5.out.alloc _)).sz hd6; clear bm6 hd6 x6)
      go_wp2_with fail
      refine hK.out _ _ ?_ fun _ => ?_
      ·(first | exact KS.out _ (xr _).drew | exact KS.out _ X5.out | exact KS.out _ (X5.out.alloc _) | exact KS.out _ X6.out)
      clear hK K
      try simp only [nf]
      refine wpAnyH_done (by kernel_rfl) ?_ _;simp only [zLp, List.drop_succ_cons, List.drop_zero];have hbo6 := (X1.out.trans X6.out).get BO.out;have hf6 := zAl hbo6 0;have hc6 := zAb hbo6 0;have HBO6 := zh hbo6;clear hbo6
      go_wp2_with fail
      go_roundw
      case rel =>
       refine ⟨d6, zh ?_, HD6.out, .inr ⟨rfl, zh ?_⟩, zh ?_, rfl⟩
       ·rw [zAd _ _ _ _ _ _ _ HBO6.out]; rfl
       ·exact BM6.out.mut (zAi (B := 0) (T := [54]) w6 HBO6.out _ (by simp) (Nat.zero_le _)) (by simp) (by simp)
       ·exact ((XY.out.trans X1.out).trans X6.out).setCell (show W.heap.size ≤ w3.heap.size from HOB.out) _
      case measure => simp [intOf]
     ·have HCK : Hid (∀ V, Ext wy V → Calls Tryz.prog 155 #[.agg #[.map (some d4)]] V (fun e w' => e = .returned (.agg #[.int .i64 0, .string ⟨#[]⟩, .string ⟨#[]⟩]) ∧ Ext V w')) := fun V x => Check_some V (BM.out.ext x) HE.out ((XW.out.trans (XY.out.trans x)).cell HMX.out)
      have hob : wy.cell? ⟨w3.heap.size, 0, none⟩ = some (.map (some d4)) := by rw [zAb BO.out]; rfl
      go_wp2_with (go_at_call 155; refine (HCK.out _ (xr _)).mono ?_; rintro e' w7 ⟨rfl, x7⟩; have X7 := zh x7; (have x8 := x7.alloc (.cells #[.int .i64 0, .string ⟨#[]⟩, .string ⟨#[]⟩] 38)); (have ho7 := (zDl (x8.get BO.out)).1); (obtain ⟨q0, qf0⟩ := zDl ((XY.out.trans x8).get B2.out)); (obtain ⟨t0, t1, t2, tf⟩ := zA2 ((XY.out.trans x8).get B3.out)); clear x8; clear x7)
      have x8 := X7.out.alloc (.cells #[.int .i64 0, .string ⟨#[]⟩, .string ⟨#[]⟩] 38);refine bodyPost_ret (v := .tuple #[.agg #[.map (some d4)], .agg #[.int .i64 0, .string ⟨#[]⟩, .string ⟨#[]⟩]]) (by simp [results, zIi, q0, t0, t1, t2, go_sem, World.cell?_setCell_far]) rfl ?_;have e2 := (XY.out.trans x8).get B2.out;have e3 := (XY.out.trans x8).get B3.out
      have m1 := (zAi (B := w.heap.size + 1 + 1) (T := [54]) (i := 0) _ e2 (.map (some d4)) (by simp) (Nat.le_refl _))
      have e4 := (Below.heap_setCell _ ⟨w.heap.size + 1 + 1, 0, none⟩ (.map (some d4)) (w.heap.size + 1 + 1 + 1) (by show w.heap.size + 1 + 1 + 1 ≠ w.heap.size + 1 + 1; omega)).trans e3;have m2 := set3 (.int .i64 0) (.string ⟨#[]⟩) (.string ⟨#[]⟩) e4;have h2 : ∀ k, w.heap.size ≤ (⟨w.heap.size + 1 + 1, k, none⟩ : Addr).block := fun _ => by show w.heap.size ≤ w.heap.size + 1 + 1; omega
      have h3 : ∀ k, w.heap.size ≤ (⟨w.heap.size + 1 + 1 + 1, k, none⟩ : Addr).block := fun _ => by show w.heap.size ≤ w.heap.size + 1 + 1 + 1; omega
      have xf := ((((XW.out.trans (XY.out.trans x8)).setCell (h2 0) (.map (some d4))).setCell (h3 0) (.int .i64 0)).setCell (h3 1) (.string ⟨#[]⟩)).setCell (h3 2) (.string ⟨#[]⟩);exact ⟨d4, rfl, (((BM.out.ext x8).mut m1 (by simp) (by simp)).mut m2 (by simp) (by simp)), Nat.le_trans XW.out.sz HD4.out, xf⟩
def aftG (w : World) (v i : Value) (wr : World) : Prop := ((i = .int .i64 0 ∧ v = .slice none 0 0) ∨ i = .int .i64 1) ∧ Hid (Ext w wr)
set_option maxHeartbeats 4000000 in
theorem After_go (w : World) {b g gc : Nat} {e : En} (h : BaseM w b (some e)) (hg : w.cell? ⟨g, 0, none⟩ = some (.string (ba nmA))) {mx : Int} (hmx : w.cell? ⟨0, 0, none⟩ = some (.int .i64 mx)) :
  Calls Tryz.prog 93 #[.agg #[.map (some b)], .agg #[.slice none 0 0, .slice (some ⟨g, 0, none⟩) 1 gc]] w (zNc w none) := by
 obtain ⟨W, hW⟩ : ∃ W, W = (((w.alloc (.cells #[.map (some b)] 52)).alloc (.cells #[.slice none 0 0, .slice (some ⟨g, 0, none⟩) 1 gc] 42)).alloc (.cells #[.map none] 52)).alloc (.cells #[.int .i64 0, .string ⟨#[]⟩, .string ⟨#[]⟩] 38) := ⟨_, rfl⟩
 have x1 : Ext w (w.alloc (.cells #[.map (some b)] 52)) := (xr w).alloc _;have hb0 : W.heap[w.heap.size]? = some (.cells #[.map (some b)] 52 (0, 0)) := by rw [hW]; exact (((xr _).alloc _).alloc _ |>.alloc _).get (heap_alloc_new w _)
 have hb1 : W.heap[w.heap.size + 1]? = some (.cells #[.slice none 0 0, .slice (some ⟨g, 0, none⟩) 1 gc] 42 (0, 0)) := by
  have := heap_alloc_new (w.alloc (.cells #[.map (some b)] 52)) (.cells #[.slice none 0 0, .slice (some ⟨g, 0, none⟩) 1 gc] 42);rw [World.size_alloc] at this;rw [hW]; exact (((xr _).alloc _).alloc _).get this
 have hb2 : W.heap[w.heap.size + 1 + 1]? = some (.cells #[.map none] 52 (0, 0)) := by
  have := heap_alloc_new ((w.alloc (.cells #[.map (some b)] 52)).alloc (.cells #[.slice none 0 0, .slice (some ⟨g, 0, none⟩) 1 gc] 42)) (.cells #[.map none] 52);rw [World.size_alloc, World.size_alloc] at this;rw [hW]; exact ((xr _).alloc _).get this
 have hb3 : W.heap[w.heap.size + 1 + 1 + 1]? = some (.cells #[.int .i64 0, .string ⟨#[]⟩, .string ⟨#[]⟩] 38 (0, 0)) := by
  have := heap_alloc_new (((w.alloc (.cells #[.map (some b)] 52)).alloc (.cells #[.slice none 0 0, .slice (some ⟨g, 0, none⟩) 1 gc] 42)).alloc (.cells #[.map none] 52)) (.cells #[.int .i64 0, .string ⟨#[]⟩, .string ⟨#[]⟩] 38);rw [World.size_alloc, World.size_alloc, World.size_alloc] at this;rw [hW]; exact this
 have XW := zh (show Ext w W by rw [hW]; exact (((xr w).alloc _).alloc _ |>.alloc _).alloc _);have HZ := zh (show W.heap.size = w.heap.size + 1 + 1 + 1 + 1 by rw [hW]; simp);have HB := zh h;have HG := zh hg;have HMX := zh hmx;have B0 := zh hb0;have B1 := zh hb1;have B2 := zh hb2;have B3 := zh hb3;obtain ⟨c0, c1, cf⟩ := zAu hb1;clear h hg hmx x1 hb0 hb1 hb2 hb3;go_enter Tryz.func93, Tryz.ntmps93
 go_upto_region 1 with fail
 rw [← hW];clear hW
 go_wp2_with fail
 go_loopw [6, 32] (fun v i wr => zB6 W v i wr) (fun _ _ _ => 0)
 case atStart => exact ⟨rfl, rfl, rfl⟩
 case round =>
  obtain ⟨rfl, rfl, rfl⟩ := hrel
  obtain ⟨W, rfl⟩ : ∃ x : World, x = wr := ⟨_, rfl⟩
  go_wp2_with fail
  go_loopw [6, 85] (fun v i wz => aftG W v i wz) (fun _ i _ => 1 - (intOf i).toNat)
  case atStart => exact ⟨.inl ⟨rfl, rfl⟩, zh (xr _)⟩
  case round =>
   obtain ⟨wq, rfl⟩ : ∃ x : World, x = wr := ⟨_, rfl⟩
   obtain ⟨hi, XR⟩ := hrel;clear c0 c1 cf;have XQ := zh (XW.out.trans XR.out);have hgc := XQ.out.cell HG.out;have hk0 : wq.cell? ⟨w.heap.size, 0, none⟩ = some (.map (some b)) := (zDl (XR.out.get B0.out)).1
   rcases hi with ⟨rfl, rfl⟩ | rfl
   ·have HGT : Hid (Calls Tryz.prog 150 #[.agg #[.map (some b)], .string (ba nmA)] wq (zKe wq (some e))) := zNz (HB.out.ext XQ.out)
    go_wp2_with (go_at_call 150; refine HGT.out.mono ?_; rintro e' w3 ⟨nn, vv, fv2, fs2, rfl, fvv, hge, x3⟩; (obtain ⟨fa2, fc2, rfl⟩ := fvv.form); have X3 := zh x3; clear fvv hge x3)
    obtain ⟨W4, hW4⟩ : ∃ W4, W4 = w3.alloc (.cells #[.string nn, .string vv, .slice none 0 0, .slice none 0 0, .slice fa2 fs2.length fc2, .slice none 0 0] 103) := ⟨_, rfl⟩
    have X4 := zh (show Ext W W4 by rw [hW4]; exact (XR.out.trans X3.out).alloc _);rw [← hW4];clear hW4
    go_at_call 151
    refine (zHw _ _).mono ?_;rintro e' ww ⟨rfl, rfl⟩
    go_wp2_with (at_builtin; refine zBt _ (by rfl) (.tmp 108) (.tmp 110) 33 (by rfl) zCe W.heap.size (.slice none 0 0) (.slice (some ⟨W4.heap.size, 0, none⟩) 1 1) (by rfl) (by rfl) [] [nmA] (OwnS.nil _ _) (zHz (heap_alloc_new W4 _)) (by simp [nmA]) ?hB ?hK; (case hB => exact Nat.le_trans X4.out.sz ((xr _).alloc _).sz); intro v8 w8 o8 g8 n8; have X8 := zh ((X4.out.alloc (.cells #[.string (ba nmA)] 9)).grow g8 (fun k hk => by cases hk)); clear o8 g8 n8)
    go_roundw
    case rel => exact ⟨.inr rfl, X8⟩
    case measure => simp [intOf]
   ·have HWO := zh (Without_a (c := gc) (HB.out.ext XQ.out) (XQ.out.cell HG.out));obtain ⟨c0, c1, cf⟩ := zAu (XR.out.get B1.out)
    go_wp2_with (go_at_call 153; refine HWO.out.mono ?_; rintro e' w3 ⟨d3, rfl, bm3, hd3, x3⟩; have X3 := zh (XR.out.trans x3); have BM3 := zh bm3; have HD3 := zh (Nat.le_trans XR.out.sz hd3); (have c0a := (zAu ((X3.out.alloc (.cells #[.map (some d3)] 52)).get B1.out)).1); clear bm3 hd3 x3)
    obtain ⟨W3, hW3⟩ : ∃ W3, W3 = w3.alloc (.cells #[.map (some d3)] 52) := ⟨_, rfl⟩
    have X33 := zh (show Ext w3 W3 by rw [hW3]; exact (xr w3).alloc _);have B33 := zh (show W3.heap[w3.heap.size]? = some (.cells #[.map (some d3)] 52 (0, 0)) by rw [hW3]; exact heap_alloc_new w3 _);rw [← hW3];clear hW3 hk0 c0a c0 c1 cf
    go_loopw [120] (fun i wz => zBo W3 i wz) (fun _ _ => 0)
    case atStart => exact ⟨rfl, rfl⟩
    case round =>
     obtain ⟨rfl, rfl⟩ := hrel;have XY := zh (X3.out.trans X33.out);have HCK : Hid (Calls Tryz.prog 155 #[.agg #[.map (some d3)]] wr (fun e w' => e = .returned (.agg #[.int .i64 0, .string ⟨#[]⟩, .string ⟨#[]⟩]) ∧ Ext wr w')) := Check_none wr (BM3.out.ext X33.out);have hob := (zDl B33.out).1
     go_wp2_with (go_at_call 155; refine HCK.out.mono ?_; rintro e' w7 ⟨rfl, x7⟩; have X7 := zh x7; (have x8 := x7.alloc (.cells #[.int .i64 0, .string ⟨#[]⟩, .string ⟨#[]⟩] 38)); (have ho7 := (zDl (x8.get B33.out)).1); (obtain ⟨q0, qf0⟩ := zDl ((XY.out.trans x8).get B2.out)); (obtain ⟨t0, t1, t2, tf⟩ := zA2 ((XY.out.trans x8).get B3.out)); clear x8; clear x7)
     have x8 := X7.out.alloc (.cells #[.int .i64 0, .string ⟨#[]⟩, .string ⟨#[]⟩] 38);refine bodyPost_ret (v := .tuple #[.agg #[.map (some d3)], .agg #[.int .i64 0, .string ⟨#[]⟩, .string ⟨#[]⟩]]) (by simp [results, zIi, q0, t0, t1, t2, go_sem, World.cell?_setCell_far]) rfl ?_;have e2 := (XY.out.trans x8).get B2.out;have e3 := (XY.out.trans x8).get B3.out
     have m1 := (zAi (B := w.heap.size + 1 + 1) (T := [54]) (i := 0) _ e2 (.map (some d3)) (by simp) (Nat.le_refl _))
     have e4 := (Below.heap_setCell _ ⟨w.heap.size + 1 + 1, 0, none⟩ (.map (some d3)) (w.heap.size + 1 + 1 + 1) (by show w.heap.size + 1 + 1 + 1 ≠ w.heap.size + 1 + 1; omega)).trans e3;have m2 := set3 (.int .i64 0) (.string ⟨#[]⟩) (.string ⟨#[]⟩) e4;have h2 : ∀ k, w.heap.size ≤ (⟨w.heap.size + 1 + 1, k, none⟩ : Addr).block := fun _ => by show w.heap.size ≤ w.heap.size + 1 + 1; omega
     have h3 : ∀ k, w.heap.size ≤ (⟨w.heap.size + 1 + 1 + 1, k, none⟩ : Addr).block := fun _ => by show w.heap.size ≤ w.heap.size + 1 + 1 + 1; omega
     have xf := ((((XW.out.trans (XY.out.trans x8)).setCell (h2 0) (.map (some d3))).setCell (h3 0) (.int .i64 0)).setCell (h3 1) (.string ⟨#[]⟩)).setCell (h3 2) (.string ⟨#[]⟩);exact ⟨d3, rfl, (((BM3.out.ext (X33.out.trans x8)).mut m1 (by simp) (by simp)).mut m2 (by simp) (by simp)), Nat.le_trans XW.out.sz HD3.out, xf⟩
def unitsPost (w : World) (e : Ending) (w' : World) : Prop := ∃ g, e = .returned (.tuple #[.pointer (some ⟨g, 0, none⟩), zC1]) ∧ GraphE w' g ∧ w.heap.size ≤ g ∧ Ext w w'
theorem zIh : Tryz.f94.results = #[.tmp 2, .cell 3 38] := by kernel_rfl
def unRel (W : World) (v i : Value) (wr : World) : Prop := (i = .int .i64 0 ∨ i = .int .i64 1) ∧ v = .slice none 0 0 ∧ Hid (Ext W wr)
set_option maxHeartbeats 1000000 in
theorem Units_any (w : World) {b : Nat} {o : Option En} (h : BaseM w b o) : Calls Tryz.prog 94 #[.agg #[.map (some b)]] w (unitsPost w) := by
 obtain ⟨W, hW⟩ : ∃ W, W = (w.alloc (.cells #[.map (some b)] 52)).alloc (.cells #[.int .i64 0, .string ⟨#[]⟩, .string ⟨#[]⟩] 38) := ⟨_, rfl⟩
 have XW := zh (show Ext w W by rw [hW]; exact ((xr w).alloc _).alloc _);have HN := zh (zE4 (h.ext XW.out));have HB := zh h;have HG := zh (fun V => gNew_e V)
 have hb1 : W.heap[w.heap.size + 1]? = some (.cells #[.int .i64 0, .string ⟨#[]⟩, .string ⟨#[]⟩] 38 (0, 0)) := by
  have := heap_alloc_new (w.alloc (.cells #[.map (some b)] 52)) (.cells #[.int .i64 0, .string ⟨#[]⟩, .string ⟨#[]⟩] 38);rw [World.size_alloc] at this;rw [hW]; exact this
 have hb0 : W.heap[w.heap.size]? = some (.cells #[.map (some b)] 52 (0, 0)) := by rw [hW]; exact ((xr _).alloc _).get (heap_alloc_new w _)
 have KR : Hid (∀ V, Ext W V → _) := fun V x => zA2 (x.get hb1)
 have KB : Hid (∀ V, Ext W V → V.cell? ⟨w.heap.size, 0, none⟩ = some (.map (some b))) := fun V x => by rw [zAb (x.get hb0)]; rfl
 have HFIN : Hid (∀ V V', Ext W V → Ext V V' → ∀ g, GraphE V' g → V.heap.size ≤ g → ∀ u0 u1 u2, unitsPost w (.returned (.tuple #[.pointer (some ⟨g, 0, none⟩), zC1])) (((V'.setCell ⟨w.heap.size + 1, 0, none⟩ u0).setCell ⟨w.heap.size + 1, 1, none⟩ u1).setCell ⟨w.heap.size + 1, 2, none⟩ u2)) := fun V V' x x' g hg hl u0 u1 u2 => by
  have h1 : ∀ k, w.heap.size ≤ (⟨w.heap.size + 1, k, none⟩ : Addr).block := fun _ => Nat.le_succ _
  have hb := (x.trans x').get hb1;exact ⟨g, rfl, hg.mut (set3 u0 u1 u2 hb) (by simp) (by simp), Nat.le_trans (XW.out.trans x).sz hl, (((XW.out.trans (x.trans x')).setCell (h1 0) _).setCell (h1 1) _).setCell (h1 2) _⟩
 clear h hb0 hb1;go_enter Tryz.func94, Tryz.ntmps94
 cases o with
 | none =>
   go_wp2_with (rw [← hW]; go_at_call 13; refine HN.out.mono ?_; rintro e w2 ⟨v, rfl, o2, x2⟩; (obtain ⟨a2, c2, hv2, -⟩ := o2.row.form); simp only [zCy] at hv2; subst hv2; have X2 := zh x2; clear o2 x2)
   clear hW
   go_loopw [4, 20] (fun v i wr => zB6 w2 v i wr) (fun _ _ _ => 0)
   case atStart => exact ⟨rfl, rfl, rfl⟩
   case round =>
    obtain ⟨rfl, rfl, rfl⟩ := hrel
    go_wp2_with (go_at_call 142; refine (HG.out _).mono ?_; rintro e' w5 ⟨g, rfl, ge, hg, x5⟩; have GE := zh ge; have X5 := zh x5; have HGL := zh hg; (obtain ⟨q0, q1, q2, qf⟩ := KR.out _ (X2.out.trans x5)); clear ge x5 hg)
    refine bodyPost_ret (v := .tuple #[.pointer (some ⟨g, 0, none⟩), zC1]) (by simp [results, zIh, zC1, q0, q1, q2, go_sem, World.cell?_setCell_far]) rfl ?_;exact HFIN.out _ _ X2.out X5.out g GE.out HGL.out _ _ _
 | some e =>
   have HGT : Hid (∀ V, Ext W V → Calls Tryz.prog 150 #[.agg #[.map (some b)], .string (ba nmA)] V (zKe V (some e))) := fun V x => zNz (HB.out.ext (XW.out.trans x))
   go_wp2_with (rw [← hW]; go_at_call 13; refine HN.out.mono ?_; rintro e w2 ⟨v, rfl, o2, x2⟩; (obtain ⟨a2, c2, hv2, -⟩ := o2.row.form); simp only [zCy] at hv2; subst hv2; have X2 := zh x2; have O2 := zh o2; clear o2 x2)
   clear hW;obtain ⟨bn, rfl, hcn⟩ : ∃ bn, a2 = some ⟨bn, 0, none⟩ ∧ w2.cell? ⟨bn, 0, none⟩ = some (.string (ba nmA)) := OwnS.at0 O2.out;have HCN : Hid (∀ V, Ext w2 V → V.cell? ⟨bn, 0, none⟩ = some (.string (ba nmA))) := fun V x => x.cell hcn
   clear hcn O2
   go_loopw [4, 20] (fun v i wr => unRel w2 v i wr) (fun _ i _ => 1 - (intOf i).toNat)
   case atStart => exact ⟨.inl rfl, rfl, zh (xr _)⟩
   case round =>
    obtain ⟨wo, rfl⟩ : ∃ x : World, x = wr := ⟨_, rfl⟩
    obtain ⟨hi, rfl, XR⟩ := hrel;have XQ := zh (X2.out.trans XR.out)
    rcases hi with rfl | rfl
    ·have hcb := KB.out _ XQ.out;have hcn := HCN.out _ XR.out
     go_wp2_with (go_at_call 150; refine (HGT.out _ XQ.out).mono ?_; rintro e' w3 ⟨nn, vv, fv, fs, rfl, fvv, hge, x3⟩; (obtain ⟨rfl, rfl, rfl⟩ := hge e rfl); (obtain ⟨fa, fc, rfl⟩ := fvv.form); have X3 := zh x3; clear fvv hge x3)
     obtain ⟨W3, hW3⟩ : ∃ W3, W3 = w3.alloc (.cells #[.string (ba nmA), .string (ba e.ver), .slice none 0 0, .slice none 0 0, .slice fa e.fs.length fc, .slice none 0 0] 103) := ⟨_, rfl⟩
     have X33 := zh (show Ext w3 W3 by rw [hW3]; exact (xr w3).alloc _);rw [← hW3];clear hW3 hcb hcn
     go_loopw [4, 33] (fun v i wz => zB6 W3 v i wz) (fun _ _ _ => 0)
     case atStart => exact ⟨rfl, rfl, rfl⟩
     case round =>
      obtain ⟨rfl, rfl, rfl⟩ := hrel
      go_wp2_with fail
      go_roundw
      case rel => exact ⟨.inr rfl, rfl, zh (XR.out.trans (X3.out.trans X33.out))⟩
      case measure => simp [intOf]
    ·go_wp2_with (go_at_call 142; refine (HG.out _).mono ?_; rintro e' w5 ⟨g, rfl, ge, hg, x5⟩; have GE := zh ge; have X5 := zh x5; have HGL := zh hg; (obtain ⟨q0, q1, q2, qf⟩ := KR.out _ (XQ.out.trans x5)); clear ge x5 hg)
     refine bodyPost_ret (v := .tuple #[.pointer (some ⟨g, 0, none⟩), zC1]) (by simp [results, zIh, zC1, q0, q1, q2, go_sem, World.cell?_setCell_far]) rfl ?_;exact HFIN.out _ _ XQ.out X5.out g GE.out HGL.out _ _ _
end
end Go.Proofs.YtgnjjfdfoibdiaaGreatDoor
