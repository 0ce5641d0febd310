/- A part of the proof of WholeUsers. -/
import Derived.Test.YtgnjjfdfoibdiaaGreatDoorUay
set_option linter.all false
namespace Go.Proofs.YtgnjjfdfoibdiaaGreatDoor
section
open Go.RowKit Go.Maps Go.Sort Go.Lib
set_option maxRecDepth 100000
def jobsBox (w W1 : World) (p : Value) (wc : World) : Prop := ∃ b, p = .pointer (some ⟨b, 0, none⟩) ∧ Hid (wc.heap[b]? = some (.cells #[.slice none 0 0, .slice none 0 0] 278 (0, 0))) ∧ Hid (Ext W1 wc) ∧ w = w
theorem zB3 {w U : World} {b : Nat} (x : Ext w U) (hs : w.heap.size ≤ b) (h0 : U.heap[b]? = some (.cells #[.slice none 0 0, .slice none 0 0] 278 (0, 0))) : Ext w ((U.setCell ⟨b, 0, none⟩ (.slice none 0 0)).setCell ⟨b, 1, none⟩ (.slice none 0 0)) ∧ ((U.setCell ⟨b, 0, none⟩ (.slice none 0 0)).setCell ⟨b, 1, none⟩ (.slice none 0 0)).heap[b]? = some (.cells #[.slice none 0 0, .slice none 0 0] 278 (0, 0)) := by
 have m := mset1 (mset1 ⟨Mut.refl _ _ _, _, h0⟩ 0 (.slice none 0 0)) 1 (.slice none 0 0);refine ⟨x.then_mut m.1 hs, ?_⟩;have h1 := zAd _ _ 0 (.slice none 0 0) _ _ _ h0;exact zAd _ _ 1 (.slice none 0 0) _ _ _ h1
def planned (x : Ob) : Ob := { x with pl := true, stop := .slice none 0 0, start := .slice none 0 0, ran := .slice none 0 0, tried := .slice none 0 0 }
def oplanPost (w : World) (B o : Nat) (x : Ob) (e : Ending) (w' : World) : Prop := e = .returned (.tuple #[]) ∧ w'.heap[o]? = some (.cells (zAk (planned x)) 67 (0, 0)) ∧ Mut B [69] w w'
set_option maxHeartbeats 4000000 in
theorem OPlan_e {w : World} {B o g g1 g2 : Nat} {x : Ob} (ho : w.heap[o]? = some (.cells (zAk x) 67 (0, 0))) (hBo : B ≤ o) (hm : MgrE w x.mg g) (hw : x.was = .pointer (some ⟨g1, 0, none⟩)) (hn : x.now = .pointer (some ⟨g2, 0, none⟩)) (G1 : GraphE w g1) (G2 : GraphE w g2) :
  Calls Tryz.prog 171 #[.pointer (some ⟨o, 0, none⟩)] w (oplanPost w B o x) := by
 obtain ⟨W0, hW0⟩ : ∃ W0, W0 = w.setCell ⟨o, 12, none⟩ (.bool true) := ⟨_, rfl⟩
 have M0 := zh (show Mut B [69] w W0 by rw [hW0]; exact zAi w ho _ (by simp) hBo);have O0 := zh (show W0.heap[o]? = some (.cells (zAk { x with pl := true }) 67 (0, 0)) by rw [hW0, zAd _ _ _ _ _ _ _ ho]; rfl);have HM := zh (hm.mut M0.out (by decide));have HG1 := zh (G1.mut M0.out (by decide) (by decide));have HG2 := zh (G2.mut M0.out (by decide) (by decide))
 have KS : Hid (∀ U, Ext W0 U → U.cell? ⟨o, 1, none⟩ = some (.pointer (some ⟨x.v, 0, none⟩)) ∧ U.cell? ⟨o, 0, none⟩ = some (.pointer (some ⟨x.mg, 0, none⟩))) := fun U y => ⟨zAe (y.get O0.out) 1 _ rfl, zAe (y.get O0.out) 0 _ rfl⟩
 have KG : Hid (∀ U, Ext W0 U → U.cell? ⟨o, 6, none⟩ = some (.pointer (some ⟨g1, 0, none⟩)) ∧ U.cell? ⟨o, 7, none⟩ = some (.pointer (some ⟨g2, 0, none⟩))) := fun U y => ⟨zAe (y.get O0.out) 6 _ (by rw [← hw]; rfl), zAe (y.get O0.out) 7 _ (by rw [← hn]; rfl)⟩
 have HHIT : Hid (∀ U, Ext W0 U → Calls Tryz.prog 178 #[.pointer (some ⟨x.v, 0, none⟩), .pointer (some ⟨x.mg, 0, none⟩)] U (zIo U)) := fun U y => Hit_e (HM.out.ext y) _ ⟨_, rfl⟩
 have HDEL : Hid (∀ U, Calls Tryz.prog 177 #[.slice none 0 0, .func (.func 179) #[.pointer (some ⟨o, 0, none⟩)] #[]] U (fun e w' => e = .returned (.slice none 0 0) ∧ w' = U)) := fun U => DelFunc_nil U none 0 _ ⟨_, _, rfl⟩
 have HLV : Hid (∀ U, Ext W0 U → Calls Tryz.prog 181 #[.pointer (some ⟨o, 0, none⟩)] U (zIo U)) := fun U y => Live_e (x := { x with pl := true }) (y.get O0.out) (HM.out.ext y)
 have HGN := zh (fun U => Gone_e U (.pointer (some ⟨g2, 0, none⟩)) ⟨_, rfl⟩ none 0);have HRS : Hid (∀ U, Ext W0 U → Calls Tryz.prog 180 #[.pointer (some ⟨g1, 0, none⟩), .pointer (some ⟨g2, 0, none⟩), .slice none 0 0, .slice none 0 0] U (zMn U)) := fun U y => Restart_e (HG1.out.ext y) (HG2.out.ext y) none none 0 0
 have HPL := zh (fun U => gPull_e U (g := g2) none 0 (fun _ => rfl) (by decide));have HNOW := zh hn;have f0 := zAl ho;have c0 := zAe ho 12 (.bool x.pl) rfl;have HBO := zh hBo;clear ho hBo hm hw hn G1 G2;go_enter Tryz.func171, Tryz.ntmps171
 go_upto_region 1 with fail
 rw [← hW0];clear hW0 f0 c0;refine wp_region_held_drew (S := (fun U => U.cell? ⟨o, 1, none⟩ = some (.pointer (some ⟨x.v, 0, none⟩)) ∧ U.cell? ⟨o, 0, none⟩ = some (.pointer (some ⟨x.mg, 0, none⟩)))) (by kernel_rfl) (by (first | exact KS.out _ (xr _).drew | exact KS.out _ X2.out)) fun _ => ?_
 refine tk 0 ?_;refine tk 1 ?_;refine tk 2 ?_;refine tk 3 ?_;refine tk 4 ?_;refine tk 5 ?_;refine tk 6 ?_;refine tk 7 ?_;refine tk 9 ?_;refine tk 10 ?_;refine rd 8 fun K hK => ?_
 go_simp
 (go_at_call 178; refine (HHIT.out _ (xr _).drew).mono ?_; rintro e w1 ⟨rfl, x2⟩; have X2 := zh ((xr W0).drew.trans x2); clear x2)
 go_wp2_with fail
 refine hK.out _ _ ?_ fun _ => ?_
 ·(first | exact KS.out _ (xr _).drew | exact KS.out _ X2.out)
 clear hK K
 try simp only [nf]
 refine rd 11 fun K hK => ?_
 go_simp
 (go_at_call 177; refine (HDEL.out _).mono ?_; rintro e w2 ⟨rfl, rfl⟩)
 go_wp2_with fail
 refine hK.out _ _ ?_ fun _ => ?_
 ·(first | exact KS.out _ (xr _).drew | exact KS.out _ X2.out)
 clear hK K;refine tk 12 ?_;refine wpAnyH_done (by kernel_rfl) ?_ _;have XX2 := zh X2.out
 go_upto_region 2 with fail
 go_cut [3] from 19 to 39 (fun p wc => jobsBox w w2 p wc)
 case first =>
  refine wp_region_held_drew (S := (fun U => U.cell? ⟨o, 6, none⟩ = some (.pointer (some ⟨g1, 0, none⟩)) ∧ U.cell? ⟨o, 7, none⟩ = some (.pointer (some ⟨g2, 0, none⟩)))) (by kernel_rfl) (by exact KG.out _ (X2.out.trans ((xr w2).drew))) fun _ => ?_
  refine tk 0 ?_;refine tk 1 ?_;refine tk 2 ?_;refine tk 3 ?_;refine tk 4 ?_;refine tk 5 ?_;refine tk 6 ?_;refine tk 7 ?_;refine tk 8 ?_;refine tk 10 ?_;refine tk 11 ?_;refine tk 12 ?_;refine tk 13 ?_;refine tk 14 ?_;refine tk 15 ?_;refine wpAnyH_ready (rs := [9, 20]) (by kernel_rfl) (by simp) ?_;refine AllReadyH.cons rfl (fun K hK => ?_) ?_
  ·go_simp
   (go_at_call 181; refine (HLV.out _ (X2.out.trans ((xr w2).drew))).mono ?_; rintro e u20 ⟨rfl, xq⟩; have Y20 := zh (((xr w2).drew).trans xq); clear xq)
   go_wp2_with fail
   refine hK.out _ _ ?_ fun _ => ?_
   ·exact KG.out _ (X2.out.trans (Y20.out))
   clear hK K
   try simp only [nf]
   refine wpAnyH_ready (rs := [16, 20]) (by kernel_rfl) (by simp) ?_;refine AllReadyH.cons rfl (fun K hK => ?_) ?_
   ·go_simp
    (go_at_call 181; refine (HLV.out _ (X2.out.trans (Y20.out))).mono ?_; rintro e u21 ⟨rfl, xq⟩; have Y21 := zh ((Y20.out).trans xq); clear xq)
    go_wp2_with fail
    refine hK.out _ _ ?_ fun _ => ?_
    ·exact KG.out _ (X2.out.trans (Y21.out))
    clear hK K
    try simp only [nf]
    refine wpAnyH_ready (rs := [17, 20]) (by kernel_rfl) (by simp) ?_;refine AllReadyH.cons rfl (fun K hK => ?_) ?_
    ·go_simp
     (go_at_call 241; refine (HGN.out _).mono ?_; rintro e u22 ⟨rfl, xq⟩; have Y22 := zh ((Y21.out).trans xq); clear xq)
     go_wp2_with fail
     refine hK.out _ _ ?_ fun _ => ?_
     ·exact KG.out _ (X2.out.trans (Y22.out))
     clear hK K
     try simp only [nf]
     refine wpAnyH_ready (rs := [18, 20]) (by kernel_rfl) (by simp) ?_;refine AllReadyH.cons rfl (fun K hK => ?_) ?_
     ·go_simp
      go_wp2_with fail
      refine hK.out _ _ ?_ fun _ => ?_
      ·exact KG.out _ (X2.out.trans (Y22.out))
      clear hK K
      try simp only [nf]
      refine wpAnyH_ready (rs := [19, 20]) (by kernel_rfl) (by simp) ?_;refine AllReadyH.cons rfl (fun K hK => ?_) ?_
      ·go_simp
       (go_at_call 180; refine (HRS.out _ (X2.out.trans (Y22.out))).mono ?_; rintro e u23 ⟨rfl, xq⟩; have Y23 := zh ((Y22.out).trans xq); clear xq)
       go_wp2_with fail
       refine hK.out _ _ ?_ fun _ => ?_
       ·exact KG.out _ (X2.out.trans (Y23.out))
       clear hK K
       try simp only [nf]
       refine rd 20 fun K hK => ?_
       go_simp;have B24 := zh (heap_alloc_new u23 (.cells #[.slice none 0 0, .slice none 0 0] 278));have S24 : Hid (w2.heap.size ≤ u23.heap.size) := (Y23.out).sz
       go_wp2_with fail
       refine hK.out _ _ ?_ fun _ => ?_
       ·exact KG.out _ (X2.out.trans ((Y23.out).alloc (.cells #[.slice none 0 0, .slice none 0 0] 278)))
       clear hK K
       try simp only [nf]
       refine rd 21 fun K hK => ?_
       obtain ⟨bz0, bz1, bzf⟩ := zAu (B24.out);go_simp
       go_wp2_with fail
       refine hK.out _ _ ?_ fun _ => ?_
       ·exact KG.out _ (X2.out.trans ((Y23.out).alloc (.cells #[.slice none 0 0, .slice none 0 0] 278)))
       clear hK K
       try simp only [nf]
       refine wpAnyH_done (by kernel_rfl) ?_ _
       go_wp2_with fail
       go_meet;exact ⟨_, rfl, zh (B24.out), zh ((Y23.out).alloc (.cells #[.slice none 0 0, .slice none 0 0] 278)), rfl⟩
      refine AllReadyH.cons rfl (fun K hK => ?_) ?_
      ·go_simp;have B23 := zh (heap_alloc_new u22 (.cells #[.slice none 0 0, .slice none 0 0] 278));have S23 : Hid (w2.heap.size ≤ u22.heap.size) := (Y22.out).sz
       go_wp2_with fail
       refine hK.out _ _ ?_ fun _ => ?_
       ·exact KG.out _ (X2.out.trans ((Y22.out).alloc (.cells #[.slice none 0 0, .slice none 0 0] 278)))
       clear hK K
       try simp only [nf]
       refine rd 19 fun K hK => ?_
       go_simp
       (go_at_call 180; refine (HRS.out _ (X2.out.trans ((Y22.out).alloc (.cells #[.slice none 0 0, .slice none 0 0] 278)))).mono ?_; rintro e u24 ⟨rfl, xq⟩; have Y24 := zh (((Y22.out).alloc (.cells #[.slice none 0 0, .slice none 0 0] 278)).trans xq); have B24 := zh (xq.get (B23.out)); clear xq)
       go_wp2_with fail
       refine hK.out _ _ ?_ fun _ => ?_
       ·exact KG.out _ (X2.out.trans (Y24.out))
       clear hK K
       try simp only [nf]
       refine rd 21 fun K hK => ?_
       obtain ⟨bz0, bz1, bzf⟩ := zAu (B24.out);go_simp
       go_wp2_with fail
       refine hK.out _ _ ?_ fun _ => ?_
       ·exact KG.out _ (X2.out.trans ((zB3 (Y24.out) S23.out B24.out).1))
       clear hK K
       try simp only [nf]
       refine wpAnyH_done (by kernel_rfl) ?_ _
       go_wp2_with fail
       go_meet;exact ⟨_, rfl, zh ((zB3 (Y24.out) S23.out B24.out).2), zh ((zB3 (Y24.out) S23.out B24.out).1), rfl⟩
      exact AllReadyH.nil
     refine AllReadyH.cons rfl (fun K hK => ?_) ?_
     ·go_simp;have B23 := zh (heap_alloc_new u22 (.cells #[.slice none 0 0, .slice none 0 0] 278));have S23 : Hid (w2.heap.size ≤ u22.heap.size) := (Y22.out).sz
      go_wp2_with fail
      refine hK.out _ _ ?_ fun _ => ?_
      ·exact KG.out _ (X2.out.trans ((Y22.out).alloc (.cells #[.slice none 0 0, .slice none 0 0] 278)))
      clear hK K
      try simp only [nf]
      refine rd 18 fun K hK => ?_
      go_simp
      go_wp2_with fail
      refine hK.out _ _ ?_ fun _ => ?_
      ·exact KG.out _ (X2.out.trans ((Y22.out).alloc (.cells #[.slice none 0 0, .slice none 0 0] 278)))
      clear hK K
      try simp only [nf]
      refine rd 19 fun K hK => ?_
      go_simp
      (go_at_call 180; refine (HRS.out _ (X2.out.trans ((Y22.out).alloc (.cells #[.slice none 0 0, .slice none 0 0] 278)))).mono ?_; rintro e u24 ⟨rfl, xq⟩; have Y24 := zh (((Y22.out).alloc (.cells #[.slice none 0 0, .slice none 0 0] 278)).trans xq); have B24 := zh (xq.get (B23.out)); clear xq)
      go_wp2_with fail
      refine hK.out _ _ ?_ fun _ => ?_
      ·exact KG.out _ (X2.out.trans (Y24.out))
      clear hK K
      try simp only [nf]
      refine rd 21 fun K hK => ?_
      obtain ⟨bz0, bz1, bzf⟩ := zAu (B24.out);go_simp
      go_wp2_with fail
      refine hK.out _ _ ?_ fun _ => ?_
      ·exact KG.out _ (X2.out.trans ((zB3 (Y24.out) S23.out B24.out).1))
      clear hK K
      try simp only [nf]
      refine wpAnyH_done (by kernel_rfl) ?_ _
      go_wp2_with fail
      go_meet;exact ⟨_, rfl, zh ((zB3 (Y24.out) S23.out B24.out).2), zh ((zB3 (Y24.out) S23.out B24.out).1), rfl⟩
     exact AllReadyH.nil
    refine AllReadyH.cons rfl (fun K hK => ?_) ?_
    ·go_simp;have B22 := zh (heap_alloc_new u21 (.cells #[.slice none 0 0, .slice none 0 0] 278));have S22 : Hid (w2.heap.size ≤ u21.heap.size) := (Y21.out).sz
     go_wp2_with fail
     refine hK.out _ _ ?_ fun _ => ?_
     ·exact KG.out _ (X2.out.trans ((Y21.out).alloc (.cells #[.slice none 0 0, .slice none 0 0] 278)))
     clear hK K
     try simp only [nf]
     refine rd 17 fun K hK => ?_
     go_simp
     (go_at_call 241; refine (HGN.out _).mono ?_; rintro e u23 ⟨rfl, xq⟩; have Y23 := zh (((Y21.out).alloc (.cells #[.slice none 0 0, .slice none 0 0] 278)).trans xq); have B23 := zh (xq.get (B22.out)); clear xq)
     go_wp2_with fail
     refine hK.out _ _ ?_ fun _ => ?_
     ·exact KG.out _ (X2.out.trans (Y23.out))
     clear hK K
     try simp only [nf]
     refine rd 18 fun K hK => ?_
     go_simp
     go_wp2_with fail
     refine hK.out _ _ ?_ fun _ => ?_
     ·exact KG.out _ (X2.out.trans (Y23.out))
     clear hK K
     try simp only [nf]
     refine rd 19 fun K hK => ?_
     go_simp
     (go_at_call 180; refine (HRS.out _ (X2.out.trans (Y23.out))).mono ?_; rintro e u24 ⟨rfl, xq⟩; have Y24 := zh ((Y23.out).trans xq); have B24 := zh (xq.get (B23.out)); clear xq)
     go_wp2_with fail
     refine hK.out _ _ ?_ fun _ => ?_
     ·exact KG.out _ (X2.out.trans (Y24.out))
     clear hK K
     try simp only [nf]
     refine rd 21 fun K hK => ?_
     obtain ⟨bz0, bz1, bzf⟩ := zAu (B24.out);go_simp
     go_wp2_with fail
     refine hK.out _ _ ?_ fun _ => ?_
     ·exact KG.out _ (X2.out.trans ((zB3 (Y24.out) S22.out B24.out).1))
     clear hK K
     try simp only [nf]
     refine wpAnyH_done (by kernel_rfl) ?_ _
     go_wp2_with fail
     go_meet;exact ⟨_, rfl, zh ((zB3 (Y24.out) S22.out B24.out).2), zh ((zB3 (Y24.out) S22.out B24.out).1), rfl⟩
    exact AllReadyH.nil
   refine AllReadyH.cons rfl (fun K hK => ?_) ?_
   ·go_simp;have B21 := zh (heap_alloc_new u20 (.cells #[.slice none 0 0, .slice none 0 0] 278));have S21 : Hid (w2.heap.size ≤ u20.heap.size) := (Y20.out).sz
    go_wp2_with fail
    refine hK.out _ _ ?_ fun _ => ?_
    ·exact KG.out _ (X2.out.trans ((Y20.out).alloc (.cells #[.slice none 0 0, .slice none 0 0] 278)))
    clear hK K
    try simp only [nf]
    refine rd 16 fun K hK => ?_
    go_simp
    (go_at_call 181; refine (HLV.out _ (X2.out.trans ((Y20.out).alloc (.cells #[.slice none 0 0, .slice none 0 0] 278)))).mono ?_; rintro e u22 ⟨rfl, xq⟩; have Y22 := zh (((Y20.out).alloc (.cells #[.slice none 0 0, .slice none 0 0] 278)).trans xq); have B22 := zh (xq.get (B21.out)); clear xq)
    go_wp2_with fail
    refine hK.out _ _ ?_ fun _ => ?_
    ·exact KG.out _ (X2.out.trans (Y22.out))
    clear hK K
    try simp only [nf]
    refine rd 17 fun K hK => ?_
    go_simp
    (go_at_call 241; refine (HGN.out _).mono ?_; rintro e u23 ⟨rfl, xq⟩; have Y23 := zh ((Y22.out).trans xq); have B23 := zh (xq.get (B22.out)); clear xq)
    go_wp2_with fail
    refine hK.out _ _ ?_ fun _ => ?_
    ·exact KG.out _ (X2.out.trans (Y23.out))
    clear hK K
    try simp only [nf]
    refine rd 18 fun K hK => ?_
    go_simp
    go_wp2_with fail
    refine hK.out _ _ ?_ fun _ => ?_
    ·exact KG.out _ (X2.out.trans (Y23.out))
    clear hK K
    try simp only [nf]
    refine rd 19 fun K hK => ?_
    go_simp
    (go_at_call 180; refine (HRS.out _ (X2.out.trans (Y23.out))).mono ?_; rintro e u24 ⟨rfl, xq⟩; have Y24 := zh ((Y23.out).trans xq); have B24 := zh (xq.get (B23.out)); clear xq)
    go_wp2_with fail
    refine hK.out _ _ ?_ fun _ => ?_
    ·exact KG.out _ (X2.out.trans (Y24.out))
    clear hK K
    try simp only [nf]
    refine rd 21 fun K hK => ?_
    obtain ⟨bz0, bz1, bzf⟩ := zAu (B24.out);go_simp
    go_wp2_with fail
    refine hK.out _ _ ?_ fun _ => ?_
    ·exact KG.out _ (X2.out.trans ((zB3 (Y24.out) S21.out B24.out).1))
    clear hK K
    try simp only [nf]
    refine wpAnyH_done (by kernel_rfl) ?_ _
    go_wp2_with fail
    go_meet;exact ⟨_, rfl, zh ((zB3 (Y24.out) S21.out B24.out).2), zh ((zB3 (Y24.out) S21.out B24.out).1), rfl⟩
   exact AllReadyH.nil
  refine AllReadyH.cons rfl (fun K hK => ?_) ?_
  ·go_simp;have B20 := zh (heap_alloc_new w2 (.cells #[.slice none 0 0, .slice none 0 0] 278));have S20 : Hid (w2.heap.size ≤ w2.heap.size) := ((xr w2)).sz
   go_wp2_with fail
   refine hK.out _ _ ?_ fun _ => ?_
   ·exact KG.out _ (X2.out.trans (((xr w2).alloc (.cells #[.slice none 0 0, .slice none 0 0] 278)).drew))
   clear hK K
   try simp only [nf]
   refine rd 9 fun K hK => ?_
   go_simp
   (go_at_call 181; refine (HLV.out _ (X2.out.trans (((xr w2).alloc (.cells #[.slice none 0 0, .slice none 0 0] 278)).drew))).mono ?_; rintro e u21 ⟨rfl, xq⟩; have Y21 := zh ((((xr w2).alloc (.cells #[.slice none 0 0, .slice none 0 0] 278)).drew).trans xq); have B21 := zh (xq.get (B20.out)); clear xq)
   go_wp2_with fail
   refine hK.out _ _ ?_ fun _ => ?_
   ·exact KG.out _ (X2.out.trans (Y21.out))
   clear hK K
   try simp only [nf]
   refine rd 16 fun K hK => ?_
   go_simp
   (go_at_call 181; refine (HLV.out _ (X2.out.trans (Y21.out))).mono ?_; rintro e u22 ⟨rfl, xq⟩; have Y22 := zh ((Y21.out).trans xq); have B22 := zh (xq.get (B21.out)); clear xq)
   go_wp2_with fail
   refine hK.out _ _ ?_ fun _ => ?_
   ·exact KG.out _ (X2.out.trans (Y22.out))
   clear hK K
   try simp only [nf]
   refine rd 17 fun K hK => ?_
   go_simp
   (go_at_call 241; refine (HGN.out _).mono ?_; rintro e u23 ⟨rfl, xq⟩; have Y23 := zh ((Y22.out).trans xq); have B23 := zh (xq.get (B22.out)); clear xq)
   go_wp2_with fail
   refine hK.out _ _ ?_ fun _ => ?_
   ·exact KG.out _ (X2.out.trans (Y23.out))
   clear hK K
   try simp only [nf]
   refine rd 18 fun K hK => ?_
   go_simp
   go_wp2_with fail
   refine hK.out _ _ ?_ fun _ => ?_
   ·exact KG.out _ (X2.out.trans (Y23.out))
   clear hK K
   try simp only [nf]
   refine rd 19 fun K hK => ?_
   go_simp
   (go_at_call 180; refine (HRS.out _ (X2.out.trans (Y23.out))).mono ?_; rintro e u24 ⟨rfl, xq⟩; have Y24 := zh ((Y23.out).trans xq); have B24 := zh (xq.get (B23.out)); clear xq)
   go_wp2_with fail
   refine hK.out _ _ ?_ fun _ => ?_
   ·exact KG.out _ (X2.out.trans (Y24.out))
   clear hK K
   try simp only [nf]
   refine rd 21 fun K hK => ?_
   obtain ⟨bz0, bz1, bzf⟩ := zAu (B24.out);go_simp
   go_wp2_with fail
   refine hK.out _ _ ?_ fun _ => ?_
   ·exact KG.out _ (X2.out.trans ((zB3 (Y24.out) S20.out B24.out).1))
   clear hK K
   try simp only [nf]
   refine wpAnyH_done (by kernel_rfl) ?_ _
   go_wp2_with fail
   go_meet;exact ⟨_, rfl, zh ((zB3 (Y24.out) S20.out B24.out).2), zh ((zB3 (Y24.out) S20.out B24.out).1), rfl⟩
  exact AllReadyH.nil
 case rest =>
 obtain ⟨b3, rfl, HB3, HX3, -⟩ := hcut
 obtain ⟨w3, rfl⟩ : ∃ x : World, x = wc := ⟨_, rfl⟩
 go_upto_region 3 with fail
 have X3 := zh (X2.out.trans HX3.out);have O3 := zh (X3.out.get O0.out)
 have KB : Hid (∀ U, Ext w3 U → U.cell? ⟨b3, 0, none⟩ = some (.slice none 0 0) ∧ U.cell? ⟨b3, 1, none⟩ = some (.slice none 0 0)) := fun U y => ⟨(zAu (y.get HB3.out)).1, (zAu (y.get HB3.out)).2.1⟩
 have HCN := zh (fun U => Tryz.slices_Clone_string_nil 0 0 U);have f3 := zAl O3.out;have c38 := zAe O3.out 8 x.stop rfl;have c310 := zAe O3.out 10 x.ran rfl;have c311 := zAe O3.out 11 x.tried rfl;have q8 := zAd _ _ 8 (.slice none 0 0) _ _ _ O3.out;have q10 := zAd _ _ 10 (.slice none 0 0) _ _ _ q8;have q11 := zAd _ _ 11 (.slice none 0 0) _ _ _ q10;have M8 : Hid (Mut B [69] w3 (w3.setCell ⟨o, 8, none⟩ (.slice none 0 0))) := zAi (B := B) (T := [69]) (i := 8) w3 O3.out _ (by simp) HBO.out;have M10 := zh (M8.out.trans (zAi (B := B) (T := [69]) (i := 10) _ q8 (.slice none 0 0) (by simp) HBO.out));have M11 := zh (M10.out.trans (zAi (B := B) (T := [69]) (i := 11) _ q10 (.slice none 0 0) (by simp) HBO.out))
 obtain ⟨W4, hW4⟩ : ∃ W4, W4 = (((w3.setCell ⟨o, 8, none⟩ (.slice none 0 0)).setCell ⟨o, 10, none⟩ (.slice none 0 0)).setCell ⟨o, 11, none⟩ (.slice none 0 0)).drew := ⟨_, rfl⟩
 have M4 := zh (show Mut B [69] w3 W4 by rw [hW4]; exact M11.out.trans (xr _).drew.mut);have O4 := zh (show W4.heap[o]? = some (.cells (zAk { x with pl := true, stop := .slice none 0 0, ran := .slice none 0 0, tried := .slice none 0 0 }) 67 (0, 0)) by rw [hW4]; exact q11)
 have KB2 : Hid (∀ U, Mut B [69] w3 U → U.cell? ⟨b3, 0, none⟩ = some (.slice none 0 0) ∧ U.cell? ⟨b3, 1, none⟩ = some (.slice none 0 0)) := fun U y => ⟨(zAu (y.get HB3.out)).1, (zAu (y.get HB3.out)).2.1⟩
 clear q8 q10 q11;refine wp_region_held_drew (S := (fun U => U.cell? ⟨b3, 0, none⟩ = some (.slice none 0 0) ∧ U.cell? ⟨b3, 1, none⟩ = some (.slice none 0 0))) (by kernel_rfl) (by (first | exact KB.out _ (xr _).drew | exact KB2.out _ (M8.out.trans (xr _).drew.mut) | exact KB2.out _ (M10.out.trans (xr _).drew.mut) | exact KB2.out _ (M11.out.trans (xr _).drew.mut))) fun _ => ?_
 refine tk 0 ?_;refine tk 1 ?_;refine tk 2 ?_;refine tk 3 ?_;refine tk 4 ?_;refine tk 5 ?_;refine tk 6 ?_;refine rd 7 fun K hK => ?_
 go_simp
 (go_at_call 96; refine (HCN.out _).mono ?_; rintro e u ⟨rfl, rfl⟩)
 go_wp2_with fail
 refine hK.out _ _ ?_ fun _ => ?_
 ·(first | exact KB.out _ (xr _).drew | exact KB2.out _ (M8.out.trans (xr _).drew.mut) | exact KB2.out _ (M10.out.trans (xr _).drew.mut) | exact KB2.out _ (M11.out.trans (xr _).drew.mut))
 clear hK K;refine tk 8 ?_;refine tk 9 ?_;refine rd 10 fun K hK => ?_
 go_simp
 go_wp2_with fail
 refine hK.out _ _ ?_ fun _ => ?_
 ·(first | exact KB.out _ (xr _).drew | exact KB2.out _ (M8.out.trans (xr _).drew.mut) | exact KB2.out _ (M10.out.trans (xr _).drew.mut) | exact KB2.out _ (M11.out.trans (xr _).drew.mut))
 clear hK K;refine tk 11 ?_;refine tk 12 ?_;refine rd 13 fun K hK => ?_
 go_simp
 go_wp2_with fail
 refine hK.out _ _ ?_ fun _ => ?_
 ·(first | exact KB.out _ (xr _).drew | exact KB2.out _ (M8.out.trans (xr _).drew.mut) | exact KB2.out _ (M10.out.trans (xr _).drew.mut) | exact KB2.out _ (M11.out.trans (xr _).drew.mut))
 clear hK K;refine tk 14 ?_;refine tk 15 ?_;refine rd 16 fun K hK => ?_
 go_simp
 go_wp2_with fail
 refine hK.out _ _ ?_ fun _ => ?_
 ·(first | exact KB.out _ (xr _).drew | exact KB2.out _ (M8.out.trans (xr _).drew.mut) | exact KB2.out _ (M10.out.trans (xr _).drew.mut) | exact KB2.out _ (M11.out.trans (xr _).drew.mut))
 clear hK K
 try simp only [nf]
 refine wpAnyH_done (by kernel_rfl) ?_ _
 go_upto_region 4 with fail
 rw [← hW4];clear hW4 f3 c38 c310 c311
 have KC : Hid (∀ U, Ext W4 U → U.cell? ⟨o, 7, none⟩ = some (.pointer (some ⟨g2, 0, none⟩)) ∧ U.cell? ⟨b3, 1, none⟩ = some (.slice none 0 0)) := fun U y => ⟨zAe (y.get O4.out) 7 (.pointer (some ⟨g2, 0, none⟩)) (by rw [← HNOW.out]; rfl), (zAu (y.get (M4.out.get HB3.out))).2.1⟩
 have HOR : Hid (∀ U a c, Ext W4 U → Calls Tryz.prog 182 #[.pointer (some ⟨g2, 0, none⟩), .slice a 0 c] U (fun e w' => e = .returned (.slice none 0 0) ∧ Ext U w')) := fun U a c y => zPv (((HG2.out.ext X3.out).mut M4.out (by decide) (by decide)).ext y) a 0 c
 refine zBc (S := (fun U => U.cell? ⟨o, 7, none⟩ = some (.pointer (some ⟨g2, 0, none⟩)) ∧ U.cell? ⟨b3, 1, none⟩ = some (.slice none 0 0))) 13 (by kernel_rfl) (by kernel_rfl) (by (first | exact KC.out _ (xr _).drew | exact KC.out _ X5.out | exact KC.out _ X6.out)) fun _ => ?_
 simp only [List.take_succ_cons, List.take_zero];refine tk 0 ?_;refine tk 1 ?_;refine tk 2 ?_;refine tk 3 ?_;refine tk 4 ?_;refine tk 5 ?_;refine tk 6 ?_;refine tk 7 ?_;refine tk 8 ?_;refine tk 9 ?_;refine tk 10 ?_;refine rd 11 fun K hK => ?_
 go_simp
 (go_at_call 183; refine (HPL.out _).mono ?_; rintro e w5 ⟨a5, c5, rfl, x5⟩; have X5 := zh ((xr W4).drew.trans x5); clear x5)
 go_wp2_with fail
 refine hK.out _ _ ?_ fun _ => ?_
 ·(first | exact KC.out _ (xr _).drew | exact KC.out _ X5.out | exact KC.out _ X6.out)
 clear hK K
 try simp only [nf]
 refine rd 12 fun K hK => ?_
 go_simp
 (go_at_call 182; refine (HOR.out _ _ _ X5.out).mono ?_; rintro e w6 ⟨rfl, x6⟩; have X6 := zh (X5.out.trans x6); clear x6)
 go_wp2_with fail
 refine hK.out _ _ ?_ fun _ => ?_
 ·(first | exact KC.out _ (xr _).drew | exact KC.out _ X5.out | exact KC.out _ X6.out)
 clear hK K
 try simp only [nf]
 refine wpAnyH_done (by kernel_rfl) ?_ _;simp only [zLp, List.drop_succ_cons, List.drop_zero];have O6 := zh (X6.out.get O4.out);have f6 := zAl O6.out;have c69 := zAe O6.out 9 x.start rfl;have M7 := zh (zAi (B := B) (T := [69]) (i := 9) w6 O6.out (.slice none 0 0) (by simp) HBO.out)
 go_wp2_with fail
 go_end0
 refine ⟨rfl, ?_, (((M0.out.trans X3.out.mut).trans M4.out).trans X6.out.mut).trans M7.out⟩;rw [zAd _ _ _ _ _ _ _ O6.out]; rfl
theorem OpIs_any (w : World) (y : OpP) {a : Option Addr} {n c : Nat} {b : Nat} {s : Str} (h1 : w.cell? ⟨b, 1, none⟩ = some (.string (ba s))) (hlt : b < w.heap.size) :
  Calls Tryz.prog 248 #[.agg #[.int .i64 (y.kind : Nat), .string (ba y.path), .string (ba y.to), .slice a n c], .pointer (some ⟨b, 0, none⟩)] w fun e w' => e = .returned (.bool (decide (y.path = s))) ∧ Ext w w' := by
 have c1 := ((xr w).alloc (.cells #[.int .i64 (y.kind : Nat), .string (ba y.path), .string (ba y.to), .slice a n c] 96)).cell h1;clear h1;obtain ⟨k, p, q, d⟩ := y;simp only at *
 by_cases he : p = s
 ·subst he;go_enter Tryz.func248, Tryz.ntmps248
  go_wp2_with fail
  go_ret
  exact ⟨by simp, (xr w).alloc _⟩
 ·have hb : (p == s) = false := by simpa using he
  go_enter Tryz.func248, Tryz.ntmps248
  go_wp2_with fail
  go_ret
  exact ⟨by simp [he], (xr w).alloc _⟩
def opIdx (w : World) (l : List (OpP × Value)) (s : Str) (i : Value) (wr : World) : Prop :=
 ∃ k : Nat, k ≤ l.length ∧ i = .int .i64 k ∧ Hid (∀ x ∈ l.take k, x.1.path ≠ s) ∧ Hid (Ext w wr)
def opIdxPost (w : World) (l : List (OpP × Value)) (s : Str) (e : Ending) (w' : World) : Prop :=
 ∃ i : Int, e = .returned (.int .i64 i) ∧ decide (0 ≤ i) = l.any (fun x => decide (x.1.path = s)) ∧ Ext w w'
theorem IndexOp_any (w : World) {base : Nat} {v : Value} {l : List (OpP × Value)} (hv : OwnOps w base v l) (hl : l.length ≤ 1000) {s : Str} {b : Nat} (h1 : w.cell? ⟨b, 1, none⟩ = some (.string (ba s))) (hlt : b < w.heap.size) :
  Calls Tryz.prog 291 #[v, .func (.func 248) #[] #[.pointer (some ⟨b, 0, none⟩)]] w (opIdxPost w l s) := by
 have HV := zh hv;have HP : Hid (∀ (y : OpP) (a : Option Addr) (n c : Nat) (W : World), Ext w W → Calls Tryz.prog 248 #[.agg #[.int .i64 (y.kind : Nat), .string (ba y.path), .string (ba y.to), .slice a n c], .pointer (some ⟨b, 0, none⟩)] W (fun e w' => e = .returned (.bool (decide (y.path = s))) ∧ Ext W w')) := fun y a n c W x => OpIs_any W y (x.cell h1) (Nat.lt_of_lt_of_le hlt x.sz)
 obtain ⟨a, c, rfl, -, -⟩ := hv.form;clear hv h1 hlt;go_enter Tryz.func291, Tryz.ntmps291
 go_wp2_with fail
 go_loopw [8] (fun i wr => opIdx w l s i wr) (fun i _ => l.length - (intOf i).toNat)
 case atStart => exact ⟨0, Nat.zero_le _, rfl, zh (by simp), zh (xr w)⟩
 case round =>
  obtain ⟨wq, rfl⟩ : ∃ x : World, x = wr := ⟨_, rfl⟩
  obtain ⟨k, hk, rfl, HN, HX⟩ := hrel
  by_cases hlt : k < l.length
  ·obtain ⟨b', e, hc⟩ := (HV.out.ext HX.out).at k hlt;subst e;have HD := zh ((HV.out.ext HX.out).data _ (List.getElem_mem hlt));have HTK := zh (List.take_succ_eq_append_getElem hlt);have HMM := zh (List.getElem_mem hlt);have hc0 : wq.cell? ⟨b', k * 4, none⟩ = some (.int .i64 (l[k].1.kind : Nat)) := hc 0 (by omega);have hc1 : wq.cell? ⟨b', k * 4 + 1, none⟩ = some (.string (ba l[k].1.path)) := hc 1 (by omega);have hc2 : wq.cell? ⟨b', k * 4 + 2, none⟩ = some (.string (ba l[k].1.to)) := hc 2 (by omega);have hc3 : wq.cell? ⟨b', k * 4 + 3, none⟩ = some l[k].2 := hc 3 (by omega);clear hc;generalize l[k] = x at *;obtain ⟨y, yv⟩ := x;obtain ⟨ad, cd, hdv⟩ := HD.out.form;simp only at hdv hc0 hc1 hc2 hc3;subst hdv;have HPk := zh (HP.out y ad y.data.length cd wq HX.out);have HDY := zh (show (decide (y.path = s)) = true ∨ decide (y.path = s) = false by cases decide (y.path = s) <;> simp)
   rcases HDY.out with hd | hd
   ·rw [hd] at HPk
    go_wp2_with (go_at_call 248; refine HPk.out.mono ?_; rintro e w2 ⟨rfl, x2⟩; have X2 := zh x2; clear x2)
    go_ret
    refine ⟨k, rfl, ?_, HX.out.trans X2.out⟩;rw [List.any_eq_true.2 ⟨_, HMM.out, hd⟩];simp
   ·rw [hd] at HPk
    go_wp2_with (go_at_call 248; refine HPk.out.mono ?_; rintro e w2 ⟨rfl, x2⟩; have X2 := zh x2; clear x2)
    go_roundw
    case rel =>
     refine ⟨k + 1, hlt, by go_num, zh ?_, zh (HX.out.trans X2.out)⟩;rw [HTK.out];intro z hz
     rcases List.mem_append.1 hz with hz | hz
     ·exact HN.out z hz
     ·rw [List.mem_singleton] at hz;subst hz;simpa using hd
    case measure => simp [intOf]; omega
  ·go_wp2_with fail
   go_ret
   refine ⟨-1, rfl, ?_, HX.out⟩;have hkl : k = l.length := by omega
   subst hkl;have h := HN.out;rw [List.take_length] at h;rw [List.any_eq_false.2 (fun x hx => by simpa using h x hx)];decide
theorem HasOp_any (w : World) {base : Nat} {v : Value} {l : List (OpP × Value)} (hv : OwnOps w base v l) (hl : l.length ≤ 1000) {s : Str} {b : Nat} (h1 : w.cell? ⟨b, 1, none⟩ = some (.string (ba s))) (hlt : b < w.heap.size) :
  Calls Tryz.prog 247 #[v, .func (.func 248) #[] #[.pointer (some ⟨b, 0, none⟩)]] w fun e w' => e = .returned (.bool (l.any fun x => decide (x.1.path = s))) ∧ Ext w w' := by
 have HI := zh (IndexOp_any w hv hl h1 hlt);obtain ⟨a, c, rfl, -, -⟩ := hv.form;clear h1 hlt hv hl;generalize hr : l.any (fun x => decide (x.1.path = s)) = r;have HR := zh hr;clear hr;go_enter Tryz.func247, Tryz.ntmps247
 go_wp2_with (go_at_call 291; refine HI.out.mono ?_; rintro e w2 ⟨i, rfl, hi, x2⟩; have HII := zh hi; have X2 := zh x2; clear hi x2)
 go_ret
 exact ⟨by rw [← HR.out, ← HII.out]; rfl, X2.out⟩
def zGw (l : List (OpP × Value)) (x : OpP × Value) : List (OpP × Value) := if l.any (fun y => decide (y.1.path = x.1.path)) then l else l ++ [x]
def zC9 (l m : List (OpP × Value)) : List (OpP × Value) := m.foldl zGw l
theorem addNewL_next {l m : List (OpP × Value)} {k : Nat} (hk : k < m.length) : zC9 l (m.take (k + 1)) = zGw (zC9 l (m.take k)) m[k] := by
 unfold zC9;rw [List.take_succ_eq_append_getElem hk, List.foldl_append];rfl
theorem zNf : ∀ (m l : List (OpP × Value)), (zC9 l m).map Prod.fst = zLc (l.map Prod.fst) (m.map Prod.fst)
 | [], l => rfl
 | x :: r, l => by
   show (zC9 (zGw l x) r).map Prod.fst = _;rw [zNf r, List.map_cons, zLc];congr 1;unfold zGw;rw [List.any_map];have e : ((fun y : OpP => decide (y.path = x.1.path)) ∘ Prod.fst) = fun y : OpP × Value => decide (y.1.path = x.1.path) := rfl
   rw [e]
   by_cases h : l.any (fun y => decide (y.1.path = x.1.path)) = true
   ·rw [if_pos h, if_pos h]
   ·rw [if_neg h, if_neg h, List.map_append]; rfl
theorem zNe : ∀ (m l : List (OpP × Value)), (zC9 l m).length ≤ l.length + m.length
 | [], l => by simp [zC9]
 | x :: r, l => by
   show (zC9 (zGw l x) r).length ≤ _;have h1 := zNe r (zGw l x)
   have h2 : (zGw l x).length ≤ l.length + 1 := by unfold zGw; split <;> simp
   simp only [List.length_cons]; omega
def Apart (v u : Value) : Prop := u.ownBlock = none ∨ u.ownBlock ≠ v.ownBlock
theorem OwnOps.kept {w w' : World} {base : Nat} {v u : Value} {l : List (OpP × Value)} {S : List Nat} {B : Nat} (h : OwnOps w base u l) (g : w.grownBy w' v.ownBlock) (ha : Apart v u) (m : Mut B S w w') (h7 : 7 ∉ S) : OwnOps w' base u l :=
 ⟨World.ownsRow.kept h.row g ha, fun y hy => (h.data y hy).mut m h7⟩
theorem Apart.next {w : World} {v v' u : Value} {base n : Nat} {e : TypeId} {size : Nat} {xs : List Value} (h : Apart v u) (hn : zB8 w v v') (hu : w.ownsRow base e size u n xs) : Apart v' u := by
 rcases h with h | h
 ·exact .inl h
 ·rcases hn with hn | ⟨k, hk, hsz⟩
  ·exact .inr (by rw [hn]; exact h)
  ·by_cases hub : u.ownBlock = none
   ·exact .inl hub
   ·obtain ⟨b, hb⟩ := Option.ne_none_iff_exists'.1 hub;refine .inr (fun e => ?_);have h2 := (World.ownsRow.lt hu b hb).2;rw [hb, hk] at e;cases e;omega
def comRel (w : World) (B2 : Nat) (l2 l3 : List (OpP × Value)) (v3 : Value) (v i : Value) (wr : World) : Prop :=
 ∃ (k : Nat) (a : Option Addr) (c : Nat), k ≤ l3.length ∧ i = .int .i64 k ∧ v = .slice a (zC9 l2 (l3.take k)).length c ∧ Hid (OwnOps wr w.heap.size (.slice a (zC9 l2 (l3.take k)).length c) (zC9 l2 (l3.take k))) ∧ Hid (OwnOps wr B2 v3 l3) ∧ Hid (Apart (.slice a (zC9 l2 (l3.take k)).length c) v3) ∧ Hid (Ext w wr)
def zO9 (w : World) (B o c : Nat) (x : Ob) (V : List (Pth × Nd)) (sh : List Pth) (L : List (List Value)) (e : Ending) (w' : World) : Prop :=
 ∃ lg, e = .returned (.int .i64 0) ∧ w'.heap[o]? = some (.cells (zAk { x with bm := x.nx, tx := .pointer none, lg := lg }) 67 (0, 0)) ∧ VolAt w' B x.v V sh c ∧ ORow zCv w' B lg (L ++ [zCm 2 0 0]) ∧ Mut B (69 :: 98 :: 196 :: zBj) w w'
theorem dirs3_ok : ∀ d ∈ dirs3, SplitOk d (names d) := by
 intro d hd;simp only [dirs3, List.mem_cons, List.not_mem_nil, or_false] at hd
 rcases hd with rfl | rfl | rfl <;> exact zBl (by kernel_rfl)
theorem kids_len (V : List (Pth × Nd)) (d : Pth) : (zG1 V d).length ≤ V.length := List.length_filterMap_le _ _
theorem zK8 {ls : Str → List Str} (h : ∀ d ∈ dirs3, (ls d).length ≤ 10) : ∀ m, m ≤ 3 → (zBp ls m).length ≤ 30 := by
 have h1 := h zB5 (by simp [dirs3]);have h2 := h zJz (by simp [dirs3]);have h3 := h zIu (by simp [dirs3]);intro m hm;unfold zBp dirs3
 match m, hm with
 | 0, _ => simp
 | 1, _ => simp; omega
 | 2, _ => simp; omega
 | 3, _ => simp; omega
theorem TreeV.vnd {w : World} {t : Nat} {V : List (Pth × Nd)} {sh : List Pth} (h : TreeV w t V sh) : (V.map Prod.fst).Nodup := by
 obtain ⟨n, m, mb, pb, kb, dv, T, h1, h2, -⟩ := h;exact h2.vnd
theorem Clean_v {w : World} {tr : Nat} {V : List (Pth × Nd)} {sh : List Pth} (htr : TreeV w tr V sh) (hV : V.length ≤ 40) {ls : Str → List Str} (hls : LsOk V ls) (hs : SplitOk zCa zI6) {mx : Int} (hmx : w.cell? ⟨0, 0, none⟩ = some (.int .i64 mx)) :
  Calls Tryz.prog 246 #[.pointer (some ⟨tr, 0, none⟩)] w (zC7 w (zDk ls (look V zI6).isSome)) := by
 refine Clean_any htr ls (fun d hd W x => ?_) (fun d hd => ⟨by have := (hls.few d hd).1; omega, (hls.few d hd).2⟩) (fun m hm => by have := zK8 (fun d hd => (hls.few d hd).1) m hm; omega) hs hmx;have h := VList_any (htr.ext x) (dirs3_ok d hd) (x.cell hmx) (hls.dir d hd) (ks := zG1 V (names d)) (zO2 htr.vnd _) (fun y => kids_mem) (by have := kids_len V (names d); omega);refine h.mono ?_;rintro e w' ⟨v, rfl, h2, h3⟩;refine ⟨v, rfl, ?_, h3⟩;rw [hls.eq d hd];exact h2
theorem cleanOps_len {ls : Str → List Str} (h : ∀ d ∈ dirs3, (ls d).length ≤ 10) (b : Bool) : (zDk ls b).length ≤ 31 := by
 have := zK8 h 3 (Nat.le_refl _);unfold zDk;rw [List.length_append, List.length_map]
 cases b <;> simp <;> omega
def boxOp (w : World) (u0 u1 u2 u3 : Value) : World := w.alloc (.cells #[u0, u1, u2, u3] 96)
theorem boxOp_is (w : World) (u0 u1 u2 u3 : Value) : Ext w (boxOp w u0 u1 u2 u3) ∧ (boxOp w u0 u1 u2 u3).heap[w.heap.size]? = some (.cells #[u0, u1, u2, u3] 96 (0, 0)) := ⟨(xr w).alloc _, heap_alloc_new w _⟩
set_option maxHeartbeats 4000000 in
theorem Commit_o {w : World} {B o c q : Nat} {x : Ob} {V V' : List (Pth × Nd)} {sh sh' : List Pth} {t : Tx} {mv cv gv : Value} {L : List (List Value)} {nb : Nat} {ls : Str → List Str} (ho : w.heap[o]? = some (.cells (zAk x) 67 (0, 0))) (hv : VolAt w B x.v V sh c) (hBo : B ≤ o) (hB : B ≤ w.heap.size) (h0 : 0 < B) (hc : c < 110) (hV : V.length ≤ 40) (htx : x.tx = .pointer (some ⟨q, 0, none⟩)) (hnx : x.nx = .map (some nb)) (hq : w.heap[q]? = some (.cells (zBf mv cv gv t) 116 (0, 0))) (ht : TxV w mv cv gv t) (hok : TxOk t) (hL : ORow zCv w B x.lg L) (hLl : L.length ≤ 1000) (hs : SplitOk zCa zI6) (hls : LsOk V ls)
  (hd : DoOk V sh (zLc (zK7 t) (zDk ls (look V zI6).isSome)) V' sh') {mx : Int} (hmx : w.cell? ⟨0, 0, none⟩ = some (.int .i64 mx)) :
  Calls Tryz.prog 175 #[.pointer (some ⟨o, 0, none⟩)] w (zO9 w B o (c + 1) x V' sh' L) := by
 obtain ⟨tr, lg, hb, hvb, htr⟩ := hv.read (by omega) (by omega);have hpk := hok.pkgs;have HCM : Hid (∀ U, Ext w U → Calls Tryz.prog 245 #[cv, gv] U (zC7 U (zK7 t))) := fun U y => Commit_any U (OwnS.row ((ht.ext y).come)) (OwnS.row ((ht.ext y).gone)) ⟨by omega, by omega⟩ (fun s hm => by have := zEu (hok.name s hm); omega)
 have HCL : Hid (∀ U, Ext w U → Calls Tryz.prog 246 #[.pointer (some ⟨tr, 0, none⟩)] U (zC7 U (zDk ls (look V zI6).isSome))) := fun U y => Clean_v (htr.ext y) hV hls hs (y.cell hmx)
 have HDO : Hid (∀ U u lz, Ext w U → OwnOps U w.heap.size u lz → lz.map Prod.fst = zLc (zK7 t) (zDk ls (look V zI6).isSome) → Calls Tryz.prog 29 #[.pointer (some ⟨x.v, 0, none⟩), u] U (zIk U B x.v V' sh' (c + 1))) := fun U u lz y h4 h5 => doV (hv.ext y) (Nat.le_trans hB y.sz) hc hd (y.cell hmx) h4 h5
 have HCLN := zh (cleanOps_len (fun d hd => (hls.few d hd).1) (look V zI6).isSome);have HCMN := zh (show (zK7 t).length ≤ 24 by unfold zK7; simp; omega);obtain ⟨ma, n1, ca, n2, ga, n3, rfl, rfl, rfl⟩ := ht.form;obtain ⟨la, lc, hlg⟩ := hL.form;have HL := zh hL;rw [hlg] at HL;have HO := zh ho;have HQ := zh hq
 have KS : Hid (∀ U, Ext w U → U.cell? ⟨o, 4, none⟩ = some (.pointer (some ⟨q, 0, none⟩)) ∧ U.cell? ⟨q, 3, none⟩ = some (.slice ca t.come.length n2) ∧ U.cell? ⟨q, 4, none⟩ = some (.slice ga t.gone.length n3)) := fun U y => by
  obtain ⟨q0, q1, q2, q3, q4, -⟩ := zAw (y.get HQ.out);exact ⟨zAe (y.get HO.out) 4 _ (by rw [← htx]; rfl), q3, q4⟩
 have KO : Hid (∀ U, Ext w U → U.cell? ⟨o, 1, none⟩ = some (.pointer (some ⟨x.v, 0, none⟩))) := fun U y => zAe (y.get HO.out) 1 _ rfl
 have KV : Hid (∀ U, Ext w U → _) := fun U x => zAw (x.get hvb.blk)
 have HBO := zh hBo;have HB := zh hB;have HNX := zh hnx;have HLG := zh hlg;clear ho hv hBo hB hc hV htx hq ht hok hL hs hd hmx hvb htr hpk hls hnx hlg;generalize hn : L.length = n at *;have HN := zh hn;clear hn;go_enter Tryz.func175, Tryz.ntmps175
 go_upto_region 1 with fail
 go_region_held3 (fun U => U.cell? ⟨o, 4, none⟩ = some (.pointer (some ⟨q, 0, none⟩)) ∧ U.cell? ⟨q, 3, none⟩ = some (.slice ca t.come.length n2) ∧ U.cell? ⟨q, 4, none⟩ = some (.slice ga t.gone.length n3))
  (first | exact KS.out _ (xr _).drew | exact KS.out _ X2.out)
  (first | (go_at_call 245; refine (HCM.out _ (xr _).drew).mono ?_; rintro e w2 ⟨v2, l2, rfl, o2, hl2, x2⟩; (obtain ⟨a2, c2, rfl, -⟩ := o2.form); have O2 := zh o2; have L2 := zh hl2; have X2 := zh ((xr w).drew.trans x2); clear o2 hl2 x2))
 have k1 := KO.out _ X2.out;obtain ⟨v0, v1, v2, v3, v4, vf⟩ := KV.out _ X2.out;have HLN2 := zh (show l2.length ≤ 24 by have := HCMN.out; rw [← L2.out] at this; simpa using this)
 go_wp2_with (go_at_call 246; refine (HCL.out _ X2.out).mono ?_; rintro e w3 ⟨u3, l3, rfl, o3, hl3, x3⟩; (obtain ⟨a3, c3, rfl, -⟩ := o3.form); have O3 := zh o3; have L3 := zh hl3; have X3 := zh (X2.out.trans x3); have Y3 := zh x3; clear o3 hl3 x3)
 have HLN3 := zh (show l3.length ≤ 31 by have := HCLN.out; rw [← L3.out] at this; simpa using this);clear v0 v1 v2 v3 v4 vf k1
 go_loopw [3, 31] (fun v i wr => comRel w w2.heap.size l2 l3 (.slice a3 l3.length c3) v i wr) (fun _ i _ => l3.length - (intOf i).toNat)
 case atStart =>
  refine ⟨0, a2, c2, Nat.zero_le _, rfl, rfl, zh (O2.out.ext Y3.out), zh O3.out, zh ?_, zh X3.out⟩;show Apart (.slice a2 l2.length c2) _
  by_cases hub : (Value.slice a3 l3.length c3).ownBlock = none
  ·exact .inl hub
  ·obtain ⟨b, hb⟩ := Option.ne_none_iff_exists'.1 hub;refine .inr (fun e => ?_);have h2 := (World.ownsRow.lt O3.out.row b hb).1;rw [hb] at e;have h3 := (World.ownsRow.lt O2.out.row b e.symm).2;omega
 case round =>
  obtain ⟨wq, rfl⟩ : ∃ x : World, x = wr := ⟨_, rfl⟩
  obtain ⟨k, a, cc, hk, rfl, rfl, HR, HC3, HAP, HX⟩ := hrel;have hl31 : l3.length ≤ 31 := HLN3.out
  have HRL := zh (show (zC9 l2 (l3.take k)).length ≤ 60 by
   have h1 := zNe (l3.take k) l2;have h2 := HLN2.out;have h3 := HLN3.out;rw [List.length_take] at h1
   omega)
  by_cases hlt : k < l3.length
  ·obtain ⟨b', e, hcs⟩ := HC3.out.at k hlt;subst e;have HD := zh (HC3.out.data _ (List.getElem_mem hlt));have HNX2 := zh (addNewL_next (l := l2) hlt);have hc0 : wq.cell? ⟨b', k * 4, none⟩ = some (.int .i64 (l3[k].1.kind : Nat)) := hcs 0 (by omega);have hc1 : wq.cell? ⟨b', k * 4 + 1, none⟩ = some (.string (ba l3[k].1.path)) := hcs 1 (by omega);have hc2 : wq.cell? ⟨b', k * 4 + 2, none⟩ = some (.string (ba l3[k].1.to)) := hcs 2 (by omega);have hc3 : wq.cell? ⟨b', k * 4 + 3, none⟩ = some l3[k].2 := hcs 3 (by omega);clear hcs;generalize zC9 l2 (l3.take k) = rows at *;generalize l3[k] = y at *;obtain ⟨⟨yk, yp, yt, yd⟩, yv⟩ := y;obtain ⟨ad, cd, hdv⟩ := HD.out.form;simp only at hdv hc0 hc1 hc2 hc3;subst hdv
   obtain ⟨W, hW⟩ : ∃ W, W = boxOp wq (.int .i64 yk) (.string (ba yp)) (.string (ba yt)) (.slice ad yd.length cd) := ⟨_, rfl⟩
   have hbx := boxOp_is wq (.int .i64 yk) (.string (ba yp)) (.string (ba yt)) (.slice ad yd.length cd);rw [← hW] at hbx;have XW := zh hbx.1;have BW := zh hbx.2;clear hbx;have HHAS := zh (HasOp_any W (HR.out.ext XW.out) (by have := HRL.out; omega) (s := yp) (b := wq.heap.size) (by rw [zAb BW.out]; rfl) (Array.getElem?_eq_some_iff.1 BW.out).1);unfold boxOp at hW
   cases hany : rows.any (fun z => decide (z.1.path = yp)) with
   | true =>
     have HNX3 := zh (show zGw rows (⟨yk, yp, yt, yd⟩, .slice ad yd.length cd) = rows by unfold zGw; rw [if_pos hany]);rw [hany] at HHAS;clear hany
     go_upto_region 5 with fail
     rw [← hW];clear hW hc0 hc1 hc2 hc3
     go_wp2_with (go_at_call 247; refine HHAS.out.mono ?_; rintro e w5 ⟨rfl, x5⟩; have X5 := zh (XW.out.trans x5); clear x5)
     go_roundw
     case rel =>
      refine ⟨k + 1, a, cc, hlt, by go_num, ?_, ?_, ?_, ?_, zh (HX.out.trans X5.out)⟩
      ·rw [HNX2.out, HNX3.out]
      ·rw [HNX2.out, HNX3.out]; exact zh (HR.out.ext X5.out)
      ·exact zh (HC3.out.ext X5.out)
      ·rw [HNX2.out, HNX3.out]; exact zh HAP.out
     case measure => simp [intOf]; omega
   | false =>
     have HNX3 := zh (show zGw rows (⟨yk, yp, yt, yd⟩, .slice ad yd.length cd) = rows ++ [(⟨yk, yp, yt, yd⟩, .slice ad yd.length cd)] by unfold zGw; rw [if_neg (by rw [hany]; simp)]);rw [hany] at HHAS;clear hany
     go_upto_region 5 with fail
     rw [← hW];clear hW hc0 hc1 hc2 hc3
     go_upto_region 6 with (go_at_call 247; refine HHAS.out.mono ?_; rintro e w5 ⟨rfl, x5⟩; have X5 := zh (XW.out.trans x5); have B5 := zh (x5.get BW.out); clear x5)
     obtain ⟨q0, q1, q2, q3, qf⟩ := zK9 B5.out
     go_wp2_with (at_builtin; refine zAr (w5.alloc (.cells #[.int .i64 yk, .string (ba yp), .string (ba yt), .slice ad yd.length cd] 96)) (by rfl) (.tmp 39) (.tmp 41) rOp (by rfl) w.heap.size (.slice a rows.length cc) (.slice (some ⟨w5.heap.size, 0, none⟩) 1 1) (rows.map zAs) [zAs (⟨yk, yp, yt, yd⟩, .slice ad yd.length cd)] (by rfl) (by rfl) ((HR.out.ext X5.out).orow.ext ((xr _).alloc _)) (zBi (heap_alloc_new w5 _)) (by simp [zAs, rOp]) (by simp [zAs, Value.oneCell']) (by have := HRL.out; simp; omega) ?hB ?hK; (case hB => have := (HX.out.trans X5.out).sz; simp; omega); intro v8 w8 r8 g8 m8 n8; (obtain ⟨a8, c8, hv8⟩ := r8.form); simp only [List.length_map, List.length_append, List.length_cons, List.length_nil, Nat.zero_add] at hv8; subst hv8; have R8 := zh r8; have M8 := zh m8; have G8 := zh g8; have N8 := zh n8; clear r8 g8 m8 n8)
     go_roundw
     case rel =>
      have X5a := X5.out.alloc (.cells #[.int .i64 yk, .string (ba yp), .string (ba yt), .slice ad yd.length cd] 96);refine ⟨k + 1, a8, c8, hlt, by go_num, ?_, ?_, ?_, ?_, zh ((HX.out.trans X5a).then_mut M8.out (Nat.le_refl _))⟩
      ·rw [HNX2.out, HNX3.out, List.length_append]; rfl
      ·rw [HNX2.out, HNX3.out, List.length_append];refine zh (zDq (by rw [List.map_append]; exact R8.out) (fun z hz => ?_))
       rcases List.mem_append.1 hz with hz | hz
       ·exact ((HR.out.data z hz).ext X5a).mut M8.out (by decide)
       ·rw [List.mem_singleton] at hz;subst hz;exact (HD.out.ext X5a).mut M8.out (by decide)
      ·exact zh ((HC3.out.ext X5a).kept G8.out HAP.out M8.out (by decide))
      ·rw [HNX2.out, HNX3.out, List.length_append];exact zh (HAP.out.next N8.out (HC3.out.ext X5a).row)
     case measure => simp [intOf]; omega
  ·have hkl : k = l3.length := by omega
   subst hkl;generalize hrw : zC9 l2 (l3.take l3.length) = rows at *
   have HFS := zh (show rows.map Prod.fst = zLc (zK7 t) (zDk ls (look V zI6).isSome) by
    rw [← hrw, List.take_length, zNf, L2.out, L3.out])
   clear hrw;have k1 := KO.out _ HX.out
   go_upto_region 10 with (go_at_call 29; refine (HDO.out _ _ rows HX.out HR.out HFS.out).mono ?_; rintro e w9 ⟨rfl, hv9, m9⟩; have V9 := zh hv9; have M9 := zh m9; clear hv9 m9)
   have O9 := zh (M9.out.get (HX.out.get HO.out));have HL9 : Hid (ORow zCv w9 B (.slice la n lc) L) := (HL.out.ext HX.out).mut M9.out (by decide);have c93 := zAe O9.out 3 (.map (some nb)) (by rw [← HNX.out]; rfl);have f9 := zAl O9.out;have c92 := zAe O9.out 2 x.bm rfl;have c94 := zAe O9.out 4 x.tx rfl
   obtain ⟨W10, hW10⟩ : ∃ W10, W10 = (w9.setCell ⟨o, 2, none⟩ (.map (some nb))).setCell ⟨o, 4, none⟩ (.pointer none) := ⟨_, rfl⟩
   have M10 := zh (show Mut B [69] w9 W10 by
    rw [hW10]
    exact (zAi w9 O9.out _ (by simp) HBO.out).trans (zAi _ (zAd _ _ _ _ _ _ _ O9.out) _ (by simp) HBO.out))
   have O10 := zh (show W10.heap[o]? = some (.cells (zAk { x with bm := .map (some nb), tx := .pointer none }) 67 (0, 0)) by
    rw [hW10, zAd _ _ _ _ _ _ _ (zAd _ _ _ _ _ _ _ O9.out)]; rfl)
   have HL10 : Hid (ORow zCv W10 B (.slice la n lc) L) := HL9.out.mut M10.out (by decide);have HB10 : Hid (B ≤ W10.heap.size) := Nat.le_trans (Nat.le_trans HB.out HX.out.sz) (Nat.le_trans M9.out.size M10.out.size)
   go_upto_region 11 with fail
   rw [← hW10];clear hW10 f9 c93 k1 c92 c94;have c15 := zAe O10.out 15 (.slice la n lc) (by rw [← HLG.out]; rfl);have f10 := zAl O10.out
   go_wp2_with (at_builtin; refine zAr (W10.alloc (.cells #[.int .i64 2, .int .i64 0, .int .i64 0, .string ⟨#[]⟩] 194)) (by rfl) (.tmp 66) (.tmp 68) zCv (by rfl) B (.slice la n lc) (.slice (some ⟨W10.heap.size, 0, none⟩) 1 1) L [zCm 2 0 0] (by rfl) (by rfl) (HL10.out.ext ((xr _).alloc _)) (zBi (heap_alloc_new W10 _)) (by simp [zCm, zCv]) (by simp [zCm, Value.oneCell']) (by have := HN.out; simp; omega) ?hB2 ?hK2; (case hB2 => have := HB10.out; simp; omega); intro v12 w12 r12 g12 m12 n12; (obtain ⟨a12, c12, hv12⟩ := r12.form); (rw [List.length_append, HN.out] at hv12); simp only [List.length_singleton] at hv12; subst hv12; have R12 := zh r12; have M12 := zh m12; have O12 := zh (m12.get (((xr W10).alloc (.cells #[.int .i64 2, .int .i64 0, .int .i64 0, .string ⟨#[]⟩] 194)).get O10.out)); (have f12 := zAl O12.out); (have c12x := zAe O12.out 15 x.lg rfl); clear r12 g12 m12 n12)
   have M13 := zh (zAi (B := B) (T := [69]) (i := 15) w12 O12.out (.slice a12 (n + 1) c12) (by simp) HBO.out)
   go_ret
   have XE := (xr W10).alloc (.cells #[.int .i64 2, .int .i64 0, .int .i64 0, .string ⟨#[]⟩] 194);have MA : Hid (Mut B (69 :: 98 :: 196 :: zBj) w w12) := ((HX.out.mut.trans (M9.out.to (by decide))).trans ((M10.out.to (by decide)).trans XE.mut)).trans (M12.out.to (by decide));refine ⟨_, rfl, ?_, (((V9.out.mut M10.out (by decide)).ext XE).mut M12.out (by decide)).mut M13.out (by decide), R12.out.mut M13.out (by decide), MA.out.trans (M13.out.to (by decide))⟩;rw [zAd _ _ _ _ _ _ _ O12.out, HNX.out]; rfl
def ComeOf (w : World) (v : Value) (fs : List Af) : Prop := (fs = [] ∧ ∃ a c, v = .slice a 0 c) ∨ ∃ g gc d fv xs, v = .slice (some ⟨g, 0, none⟩) 1 gc ∧ ComeAt w g d fv xs ∧ xs.map Prod.fst = fs
theorem ComeAt.mut {w w' : World} {g d B : Nat} {S : List Nat} {fv : Value} {fs : List (Af × Value)} (h : ComeAt w g d fv fs) (x : Mut B S w w') (h1 : 37 ∉ S := by decide) (h2 : 32 ∉ S := by decide) (h3 : 7 ∉ S := by decide) : ComeAt w' g d fv fs := by
 obtain ⟨gc, r⟩ := h.row;exact ⟨⟨gc, r.mut x h1⟩, h.files.mut x h2 h3⟩
theorem ComeOf.mut {w w' : World} {B : Nat} {S : List Nat} {v : Value} {fs : List Af} (h : ComeOf w v fs) (x : Mut B S w w') (h1 : 37 ∉ S := by decide) (h2 : 32 ∉ S := by decide) (h3 : 7 ∉ S := by decide) : ComeOf w' v fs := by
 rcases h with h | ⟨g, gc, d, fv, xs, rfl, h, rfl⟩
 ·exact .inl h
 ·exact .inr ⟨g, gc, d, fv, xs, rfl, h.mut x h1 h2 h3, rfl⟩
theorem zM8 : ∀ (xs : List (Af × Value)) (s : Str), zJg (xs.map Prod.fst) s = ((zGk xs s).map (·.1.data)).getD []
 | [], s => rfl
 | x :: r, s => by
   have ih := zM8 r s;unfold zJg zGk at ih ⊢;rw [List.map_cons, List.find?_cons, List.find?_cons]
   by_cases h : x.1.path = s
   ·simp [h]
   ·have h2 : (x.1.path == s) = false := by simpa using h
    simp only [h, h2, decide_false];exact ih
theorem ComeOf.data {w : World} {v : Value} {fs : List Af} (h : ComeOf w v fs) (s : Str) : ∃ dv bb, DataIs w dv (zJg fs s) ∧ ∀ W, Ext w W → Calls Tryz.prog 158 #[v, .string (ba s)] W fun e w' => e = .returned (.tuple #[dv, .bool bb]) ∧ Ext W w' := by
 rcases h with ⟨rfl, a, c, rfl⟩ | ⟨g, gc, d, fv, xs, rfl, h, rfl⟩
 ·exact ⟨.slice none 0 0, false, .inr ⟨rfl, none, 0, rfl, by decide, fun _ => rfl⟩, fun W x => zPd W a c s⟩
 ·rw [zM8]
  cases hf : zGk xs s with
  | none =>
    refine ⟨.slice none 0 0, false, .inr ⟨rfl, none, 0, rfl, by decide, fun _ => rfl⟩, fun W x => ?_⟩;have := zKs (gc := gc) W (h.ext x) s;rw [hf] at this;exact this
  | some y =>
    refine ⟨y.2, true, h.files.data y (List.mem_of_find?_eq_some hf), fun W x => ?_⟩;have := zKs (gc := gc) W (h.ext x) s;rw [hf] at this;exact this
theorem aside_any (w : World) (i : Nat) (hi : i < 10) (m : Mv) {data : List UInt8} {dv : Value} (hd : DataIs w dv data) : Calls Tryz.prog 168 #[.int .i64 (i : Nat), .agg #[.int .i64 (m.kind : Nat), .string (ba m.path)], dv] w (zC7 w (zDm i m data)) := by
 obtain ⟨k, s⟩ := m
 by_cases hk : k = 1
 ·subst hk;exact Aside_put w i hi s hd
 ·obtain ⟨a, c, e⟩ := hd.form;exact Aside_other w i k hk s dv data ⟨_, _, _, e⟩
theorem do_any {w : World} {t : Nat} {V : List (Pth × Nd)} {sh : List Pth} (ht : TreeV w t V sh) (i : Nat) (hi : i < 10) (m : Mv) (hk : m.kind ≤ 2) (hs : SplitOk m.path (names m.path)) {mx : Int} (hmx : w.cell? ⟨0, 0, none⟩ = some (.int .i64 mx)) :
  Calls Tryz.prog 169 #[.pointer (some ⟨t, 0, none⟩), .int .i64 (i : Nat), .agg #[.int .i64 (m.kind : Nat), .string (ba m.path)]] w (zC7 w (zJf V i m)) := by
 obtain ⟨k, s⟩ := m;have h3 : k = 0 ∨ k = 1 ∨ k = 2 := by simp only at hk; omega
 rcases h3 with rfl | rfl | rfl
 ·exact Do_dir w t i s V
 ·exact Do_put ht i hi hs hmx
 ·exact Do_drop w t i hi s V
def zBd : List Nat := 69 :: 98 :: 125 :: 196 :: zBj
def moveTags : List Nat := 69 :: 98 :: 196 :: zBj
def zPr (w : World) (B o c : Nat) (x : Ob) (V : List (Pth × Nd)) (sh : List Pth) (t : Tx) (mv cv gv : Value) (pl : Bool) (L : List (List Value)) (e : Ending) (w' : World) : Prop :=
 ∃ q lg, e = .returned (.bool true) ∧ w'.heap[o]? = some (.cells (zAk { x with tx := .pointer (some ⟨q, 0, none⟩), pl := pl, lg := lg }) 67 (0, 0)) ∧ w'.heap[q]? = some (.cells (zBf mv cv gv t) 116 (0, 0)) ∧ VolAt w' B x.v V sh c ∧ ORow zCv w' B lg L ∧ Mut B moveTags w w'
set_option maxHeartbeats 2000000 in
theorem Move_turn {w : World} {B o c q : Nat} {x : Ob} {V V' : List (Pth × Nd)} {sh sh' : List Pth} {t : Tx} {mv cv gv : Value} {L : List (List Value)} (ho : w.heap[o]? = some (.cells (zAk x) 67 (0, 0))) (hv : VolAt w B x.v V sh c) (hBo : B ≤ o) (hB : B ≤ w.heap.size) (h0 : 0 < B) (hc : c < 110) (hV : V.length ≤ 40) (htx : x.tx = .pointer (some ⟨q, 0, none⟩)) (hq : w.heap[q]? = some (.cells (zBf mv cv gv t) 116 (0, 0))) (ht : TxV w mv cv gv t) (hok : TxOk t) (hL : ORow zCv w B x.lg L) (hLl : L.length ≤ 1000) (hs : SplitOk zCa zI6) (hph : t.phase ≤ 1) (hat : t.at_ = t.mv.length)
  (hd : DoOk V sh [zFn V { t with phase := t.phase + 1, at_ := 0 }] V' sh') {mx : Int} (hmx : w.cell? ⟨0, 0, none⟩ = some (.int .i64 mx)) :
  Calls Tryz.prog 104 #[.pointer (some ⟨o, 0, none⟩)] w (zPr w B o (c + 1) x V' sh' { t with phase := t.phase + 1, at_ := 0 } mv cv gv false (L ++ [zCm 1 (t.phase + 1) x.why])) := by
 obtain ⟨ph, at_, ml, cl, gl⟩ := t;simp only at hph hat;subst hat;have hp2 : ph = 0 ∨ ph = 1 := by omega
 have hok2 : TxOk ⟨ph + 1, 0, ml, cl, gl⟩ := ⟨by simp only; omega, by simp, hok.few, hok.pkgs, hok.kind, hok.path, hok.name⟩
 have HT0 : Hid (∀ U, Ext w U → _) := fun U y => Turn_any (p := ph + 1) (a := 0) (y.get ho) (hv.ext y) hBo (Nat.le_trans hB y.sz) h0 hc hV htx (y.get hq) (ht.ext y) hok2 (hL.ext y) hLl hs hd (y.cell hmx)
 obtain ⟨ma, n1, ca, n2, ga, n3, rfl, rfl, rfl⟩ := ht.form;have c4 := zAe ho 4 x.tx rfl;rw [htx] at c4;obtain ⟨q0, q1, q2, q3, q4, qf⟩ := zAw hq;clear ho hv hBo hB hc hV htx hq ht hok hok2 hL hs hd hmx;simp only at HT0 q0 q1 q2 q3 q4
 rcases hp2 with rfl | rfl
 ·have q0' : w.cell? ⟨q, 0, none⟩ = some (.int .i64 0) := q0
  obtain ⟨W, hW⟩ : ∃ W, W = w.alloc (.cells #[.int .i64 0, .int .i64 (ml.length : Nat), .slice ma ml.length n1, .slice ca cl.length n2, .slice ga gl.length n3] 116) := ⟨_, rfl⟩
  have XW := zh (show Ext w W by rw [hW]; exact (xr w).alloc _);obtain ⟨b0, b1, b2, b3, b4, bf⟩ := zAw (show W.heap[w.heap.size]? = some (.cells #[.int .i64 0, .int .i64 (ml.length : Nat), .slice ma ml.length n1, .slice ca cl.length n2, .slice ga gl.length n3] 116 (0, 0)) by rw [hW]; exact heap_alloc_new w _);have HT := zh (HT0.out W XW.out);clear q0;go_enter Tryz.func104, Tryz.ntmps104
  go_upto_region 2 with fail
  rw [← hW];clear hW c4 q0' q1 q2 q3 q4 qf
  go_wp2_with (go_at_call 107; refine HT.out.mono ?_; rintro e w2 ⟨q2, lg2, rfl, o2, r2, hv2, l2, m2⟩; have O2 := zh o2; have R2 := zh r2; have V2 := zh hv2; have L2 := zh l2; have M2 := zh m2; clear o2 r2 hv2 l2 m2)
  go_ret
  exact ⟨q2, lg2, rfl, O2.out, R2.out, V2.out, L2.out, XW.out.mut.trans (M2.out.to (by decide))⟩
 ·have q0' : w.cell? ⟨q, 0, none⟩ = some (.int .i64 1) := q0
  obtain ⟨W, hW⟩ : ∃ W, W = w.alloc (.cells #[.int .i64 1, .int .i64 (ml.length : Nat), .slice ma ml.length n1, .slice ca cl.length n2, .slice ga gl.length n3] 116) := ⟨_, rfl⟩
  have XW := zh (show Ext w W by rw [hW]; exact (xr w).alloc _);obtain ⟨b0, b1, b2, b3, b4, bf⟩ := zAw (show W.heap[w.heap.size]? = some (.cells #[.int .i64 1, .int .i64 (ml.length : Nat), .slice ma ml.length n1, .slice ca cl.length n2, .slice ga gl.length n3] 116 (0, 0)) by rw [hW]; exact heap_alloc_new w _);have HT := zh (HT0.out W XW.out);clear q0;go_enter Tryz.func104, Tryz.ntmps104
  go_upto_region 2 with fail
  rw [← hW];clear hW c4 q0' q1 q2 q3 q4 qf
  go_wp2_with (go_at_call 107; refine HT.out.mono ?_; rintro e w2 ⟨q2, lg2, rfl, o2, r2, hv2, l2, m2⟩; have O2 := zh o2; have R2 := zh r2; have V2 := zh hv2; have L2 := zh l2; have M2 := zh m2; clear o2 r2 hv2 l2 m2)
  go_ret
  exact ⟨q2, lg2, rfl, O2.out, R2.out, V2.out, L2.out, XW.out.mut.trans (M2.out.to (by decide))⟩
end
end Go.Proofs.YtgnjjfdfoibdiaaGreatDoor
