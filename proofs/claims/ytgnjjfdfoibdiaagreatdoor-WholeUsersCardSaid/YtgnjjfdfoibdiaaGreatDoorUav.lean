/- A part of the proof of WholeUsers. -/
import Derived.Test.YtgnjjfdfoibdiaaGreatDoorUat
import Derived.Test.YtgnjjfdfoibdiaaGreatDoorUau
set_option linter.all false
namespace Go.Proofs.YtgnjjfdfoibdiaaGreatDoor
section
open Go.RowKit Go.Maps Go.Sort Go.Lib
set_option maxRecDepth 100000
def zBe (m : Mv) : List Value := [.int .i64 (m.kind : Nat), .string (ba m.path)]
structure TxV (w : World) (mv cv gv : Value) (t : Tx) : Prop where
 mv : ORow zEi w 0 mv (t.mv.map zBe)
 come : OwnS w 0 cv t.come
 gone : OwnS w 0 gv t.gone
def zBf (mv cv gv : Value) (t : Tx) : Array Value := #[.int .i64 (t.phase : Nat), .int .i64 (t.at_ : Nat), mv, cv, gv]
section
variable {w w' : World} {mv cv gv : Value} {t : Tx}
theorem TxV.mut {B : Nat} {S : List Nat} (h : TxV w mv cv gv t) (x : Mut B S w w') (h1 : 264 ∉ S := by decide) (h2 : 11 ∉ S := by decide) : TxV w' mv cv gv t := ⟨h.mv.mut x h1, x.own h.come h2, x.own h.gone h2⟩
theorem TxV.ext (h : TxV w mv cv gv t) (x : Ext w w') : TxV w' mv cv gv t := h.mut (B := 0) (S := []) x.mut (by simp) (by simp)
theorem TxV.form (h : TxV w mv cv gv t) : ∃ a c a1 c1 a2 c2, mv = .slice a t.mv.length c ∧ cv = .slice a1 t.come.length c1 ∧ gv = .slice a2 t.gone.length c2 := by
 obtain ⟨a, c, e⟩ := h.mv.form;obtain ⟨a1, c1, e1⟩ := zAj h.come;obtain ⟨a2, c2, e2⟩ := zAj h.gone;rw [List.length_map] at e;exact ⟨a, c, a1, c1, a2, c2, e, e1, e2⟩
theorem mv_at {a : Option Addr} {n c : Nat} {l : List Mv} (h : ORow zEi w 0 (.slice a n c) (l.map zBe)) (k : Nat) (hk : k < l.length) : ∃ b, a = some ⟨b, 0, none⟩ ∧ w.cell? ⟨b, k * 2, none⟩ = some (.int .i64 (l[k].kind : Nat)) ∧ w.cell? ⟨b, k * 2 + 1, none⟩ = some (.string (ba l[k].path)) := by
 obtain ⟨b, e, hc⟩ := h.at k (by simpa using hk);have h0 := hc 0 (by decide);have h1 := hc 1 (by decide);simp only [List.getElem_map] at h0 h1;exact ⟨b, e, h0, h1⟩
theorem zAw {V : World} {b : Nat} {v0 v1 v2 v3 v4 : Value} {t : TypeId} (h : V.heap[b]? = some (.cells #[v0, v1, v2, v3, v4] t (0, 0))) :
  V.cell? ⟨b, 0, none⟩ = some v0 ∧ V.cell? ⟨b, 1, none⟩ = some v1 ∧ V.cell? ⟨b, 2, none⟩ = some v2 ∧ V.cell? ⟨b, 3, none⟩ = some v3 ∧ V.cell? ⟨b, 4, none⟩ = some v4 ∧ ∀ i, V.frozen? ⟨b, i, none⟩ = false :=
 ⟨by rw [zAb h]; rfl, by rw [zAb h]; rfl, by rw [zAb h]; rfl, by rw [zAb h]; rfl, by rw [zAb h]; rfl, zAl h⟩
end
theorem own_empty (w : World) : OwnS (w.alloc (.cells #[] 9)).drew w.heap.size (.slice (some ⟨w.heap.size, 0, none⟩) 0 0) [] :=
 World.ownsRow_lit (base := w.heap.size) (size := 1) (e := 9) w #[] 0 (Nat.le_refl _) (by decide) (by simp)
theorem zE1 : Tryz.prog.underlying 33 = some (.slice 9) := by kernel_rfl
theorem x5row {w w2 : World} {base : Nat} {a : Option Addr} {n c : Nat} {l : List Str} (h : OwnS w base (.slice a n c) l) (x : Ext w w2) : SRow w2 (.slice a n c) l := (OwnS.row h).ext x
structure TxOk (t : Tx) : Prop where
 phase : t.phase ≤ 4
 at_ : t.at_ ≤ t.mv.length
 few : t.mv.length ≤ 40
 pkgs : t.come.length + t.gone.length ≤ 24
 kind : ∀ m ∈ t.mv, m.kind ≤ 2
 path : ∀ m ∈ t.mv, SplitOk m.path (names m.path)
 name : ∀ n ∈ t.come ++ t.gone, zMu n = true
set_option maxHeartbeats 2000000 in
theorem TRight_any (w : World) {mv cv gv : Value} {t : Tx} (h : TxV w mv cv gv t) (ht : TxOk t) {mx : Int} (hmx : w.cell? ⟨0, 0, none⟩ = some (.int .i64 mx)) :
  Calls Tryz.prog 100 #[.agg (zBf mv cv gv t)] w fun e w' => e = .returned (.bool true) ∧ Ext w w' := by
 obtain ⟨a, c, a1, c1, a2, c2, rfl, rfl, rfl⟩ := h.form
 obtain ⟨W, hW⟩ : ∃ W, W = w.alloc (.cells #[.int .i64 (t.phase : Nat), .int .i64 (t.at_ : Nat), .slice a t.mv.length c, .slice a1 t.come.length c1, .slice a2 t.gone.length c2] 116) := ⟨_, rfl⟩
 have XW := zh (show Ext w W by rw [hW]; exact (xr w).alloc _);have hb0 : W.heap[w.heap.size]? = some (.cells #[.int .i64 (t.phase : Nat), .int .i64 (t.at_ : Nat), .slice a t.mv.length c, .slice a1 t.come.length c1, .slice a2 t.gone.length c2] 116 (0, 0)) := by rw [hW]; exact heap_alloc_new w _
 have H := zh h;have HT := zh ht;have HMX := zh hmx;have KB : Hid (∀ V, Ext W V → _) := fun V x => zAw (x.get hb0)
 have h1 : decide ((4 : Int) < (t.phase : Int)) = false := by rw [decide_eq_false_iff_not]; have := ht.phase; omega
 have h2 : decide ((t.phase : Int) < 0) = false := by rw [decide_eq_false_iff_not]; omega
 have h3 : decide ((t.at_ : Int) < 0) = false := by rw [decide_eq_false_iff_not]; omega
 have h4 : decide ((t.mv.length : Int) < (t.at_ : Int)) = false := by rw [decide_eq_false_iff_not]; have := ht.at_; omega
 have h4' : decide (t.mv.length < t.at_) = false := by rw [decide_eq_false_iff_not]; have := ht.at_; omega
 have h5 : decide ((40 : Int) < (t.mv.length : Int)) = false := by rw [decide_eq_false_iff_not]; have := ht.few; omega
 have h6 : decide ((24 : Int) < (t.come.length : Int) + (t.gone.length : Int)) = false := by rw [decide_eq_false_iff_not]; have := ht.pkgs; omega
 have h7 : (t.come.length : Int) + (t.gone.length : Int) ≤ 24 := by have := ht.pkgs; omega
 obtain ⟨p0, p1, p2, p3, p4, pf⟩ := KB.out _ (xr W);have hml := ht.few;clear h ht hmx hb0;simp only [zBf];go_enter Tryz.func100, Tryz.ntmps100
 go_upto_region 1 with fail
 rw [← hW];clear hW
 go_wp2_with fail
 clear h1 h2 h3 h4 h4' h5 h6 h7
 go_loopw [47] (fun i wr => zO4 W t.mv.length i wr) (fun i _ => t.mv.length - (intOf i).toNat)
 case atStart => exact ⟨0, Nat.zero_le _, rfl, zh (xr _)⟩
 case round =>
  obtain ⟨wq, rfl⟩ : ∃ x : World, x = wr := ⟨_, rfl⟩
  obtain ⟨k, hk, rfl, HX⟩ := hrel;clear p0 p1 p2 p3 p4 pf
  by_cases hlt : k < t.mv.length
  ·have XQ := zh (XW.out.trans HX.out);obtain ⟨b', rfl, hc0, hc1⟩ := mv_at (H.out.ext XQ.out).mv k hlt;have HRT : Hid (∀ V, Ext wq V → Calls Tryz.prog 147 #[.string (ba t.mv[k].path)] V (fun e w' => e = .returned (.bool true) ∧ Ext V w')) := fun V x => Right_any mx V (HT.out.path _ (List.getElem_mem hlt)) ((XQ.out.trans x).cell HMX.out)
   have hkd := HT.out.kind _ (List.getElem_mem hlt);generalize t.mv[k] = m at *;have k1 : decide ((m.kind : Int) < 0) = false := by rw [decide_eq_false_iff_not]; omega
   have k2 : decide ((2 : Int) < (m.kind : Int)) = false := by rw [decide_eq_false_iff_not]; omega
   obtain ⟨W1, hW1⟩ : ∃ W1, W1 = wq.alloc (.cells #[.int .i64 (m.kind : Nat), .string (ba m.path)] 262) := ⟨_, rfl⟩
   have X1 := zh (show Ext wq W1 by rw [hW1]; exact (xr wq).alloc _);have P1 := zh (show W1.heap[wq.heap.size]? = some (.cells #[.int .i64 (m.kind : Nat), .string (ba m.path)] 262 (0, 0)) by rw [hW1]; exact heap_alloc_new wq _);obtain ⟨r0, r1, rf⟩ := zAu P1.out
   go_upto_region 6 with fail
   rw [← hW1];clear hW1 hc0 hc1
   go_wp2_with (go_at_call 147; refine (HRT.out _ X1.out).mono ?_; rintro e w3 ⟨rfl, x3⟩; have X3 := zh (X1.out.trans x3); clear x3)
   clear k1 k2
   go_roundw
   case rel => exact ⟨k + 1, hlt, by go_num, zh (HX.out.trans X3.out)⟩
   case measure => simp [intOf]; omega
  ·have XQ := zh (XW.out.trans HX.out)
   have KC : Hid (∀ V, Ext wq V → V.cell? ⟨w.heap.size, 3, none⟩ = some (.slice a1 t.come.length c1) ∧ V.cell? ⟨w.heap.size, 4, none⟩ = some (.slice a2 t.gone.length c2)) := fun V x => ⟨(KB.out V (HX.out.trans x)).2.2.2.1, (KB.out V (HX.out.trans x)).2.2.2.2.1⟩
   have hpk := HT.out.pkgs
   obtain ⟨N, hN⟩ : ∃ N, N = (t.come ++ t.gone).length := ⟨_, rfl⟩
   have HNN := zh hN;have hN24 : N ≤ 24 := by rw [hN, List.length_append]; exact hpk
   clear hN
   go_upto_region 9 with fail
   refine wp_region_held_drew (S := (fun V => V.cell? ⟨w.heap.size, 3, none⟩ = some (.slice a1 t.come.length c1) ∧ V.cell? ⟨w.heap.size, 4, none⟩ = some (.slice a2 t.gone.length c2))) (by kernel_rfl) (by (first | exact KC.out _ (xr _).drew | exact KC.out _ ((xr _).alloc _).drew | exact KC.out _ X4.out | exact KC.out _ X5.out)) fun _ => ?_
   refine tk 1 ?_;refine tk 2 ?_;refine tk 4 ?_;refine tk 5 ?_;refine tk 8 ?_;refine rd 0 fun K hK => ?_
   go_simp
   go_wp2_with fail
   refine hK.out _ _ ?_ fun _ => ?_
   ·(first | exact KC.out _ (xr _).drew | exact KC.out _ ((xr _).alloc _).drew | exact KC.out _ X4.out | exact KC.out _ X5.out)
   clear hK K
   try simp only [nf]
   refine rd 3 fun K hK => ?_
   (refine zHc (by rfl) (.tmp 66) (.tmp 68) 33 (by rfl) zE1 wq.heap.size (.slice (some ⟨wq.heap.size, 0, none⟩) 0 0) (.slice a1 t.come.length c1) (by rfl) (by rfl) [] t.come (own_empty wq) ((H.out.ext (XQ.out.trans ((xr wq).alloc _).drew)).come.row) (by simp; omega) (by simp) ?_; intro v4 w4 o4 g4 n4; (obtain ⟨a4, k4, hv4⟩ := zAj o4); simp only [List.nil_append] at hv4 o4; subst hv4; have O4 := zh o4; have X4 := zh (((xr wq).alloc (.cells #[] 9)).drew.grow g4 (fun k hk => by cases hk; exact Nat.le_refl _)); clear o4 g4 n4)
   refine hK.out _ _ ?_ fun _ => ?_
   ·(first | exact KC.out _ (xr _).drew | exact KC.out _ ((xr _).alloc _).drew | exact KC.out _ X4.out | exact KC.out _ X5.out)
   clear hK K
   try simp only [nf]
   refine rd 6 fun K hK => ?_
   (refine zHc (by rfl) (.tmp 69) (.tmp 71) 33 (by rfl) zE1 wq.heap.size (.slice a4 t.come.length k4) (.slice a2 t.gone.length c2) (by rfl) (by rfl) t.come t.gone O4.out ((H.out.ext (XQ.out.trans X4.out)).gone.row) (by rw [← List.length_append, ← HNN.out]; omega) X4.out.sz ?_; intro v5 w5 o5 g5 n5; (obtain ⟨a5, k5, hv5⟩ := zAj o5); (rw [← HNN.out] at hv5); subst hv5; have O5 := zh o5; have X5 := zh (X4.out.grow g5 (fun k hk => (World.ownsRow.lt O4.out k hk).1)); clear o5 g5 n5)
   refine hK.out _ _ ?_ fun _ => ?_
   ·(first | exact KC.out _ (xr _).drew | exact KC.out _ ((xr _).alloc _).drew | exact KC.out _ X4.out | exact KC.out _ X5.out)
   clear hK K;refine tk 7 ?_;refine wpAnyH_done (by kernel_rfl) ?_ _
   go_wp2_with fail
   go_loopw [6, 74] (fun _ i wz => zO4 w5 (N) i wz) (fun _ i _ => N - (intOf i).toNat)
   case atStart => exact ⟨0, Nat.zero_le _, rfl, zh (xr _)⟩
   case round =>
    obtain ⟨wy, rfl⟩ : ∃ x : World, x = wr := ⟨_, rfl⟩
    obtain ⟨j, hj, rfl, HY⟩ := hrel
    by_cases hjl : j < N
    ·have hjl' : j < (t.come ++ t.gone).length := by rw [← HNN.out]; exact hjl
     obtain ⟨b2, o2, e2, hcj⟩ := (x5row O5.out HY.out).at j hjl';cases e2;have HNM := zh (fun V => zP9 V (HT.out.name _ (List.getElem_mem hjl')));generalize (t.come ++ t.gone)[j] = nm at *
     go_wp2_with (go_at_call 63; refine (HNM.out _).mono ?_; rintro e w7 ⟨rfl, x7⟩; have X7 := zh x7; clear x7)
     go_roundw
     case rel => exact ⟨j + 1, hjl, by go_num, zh (HY.out.trans X7.out)⟩
     case measure => simp [intOf]; omega
    ·go_wp2_with fail
     go_ret
     exact ⟨rfl, XQ.out.trans (X5.out.trans HY.out)⟩
theorem zMv (l : List Mv) : (l.flatMap zD8).length = 2 * l.length := by
 induction l with
 | nil => rfl
 | cons x r ih => rw [List.flatMap_cons, List.length_append, ih]; simp [zD8]; omega
theorem zGg : ∀ (l : List Mv) (_ : ∀ m ∈ l, m.path.length ≤ 40), (l.flatMap zD8).flatten.length ≤ 48 * l.length
 | [], _ => by simp
 | f :: r, h => by
   have ih := zGg r fun x hx => h x (by simp [hx])
   have h1 := h f (by simp);rw [List.flatMap_cons, List.flatten_append, List.length_append];simp only [zD8, List.flatten_cons, List.flatten_nil, List.append_nil, List.length_append, zBk, zE9, zBa, List.length_cons];omega
theorem zFr : ∀ (l : List Str) (_ : ∀ n ∈ l, n.length ≤ 12), (l.map zBk).flatten.length ≤ 16 * l.length
 | [], _ => by simp
 | f :: r, h => by
   have ih := zFr r fun x hx => h x (by simp [hx])
   have h1 := h f (by simp);rw [List.map_cons, List.flatten_cons, List.length_append];simp only [zBk, List.length_append, zBa, List.length_cons];omega
theorem zEu {n : Str} (h : zMu n = true) : n.length ≤ 12 := by
 unfold zMu at h;simp only [Bool.and_eq_true, decide_eq_true_eq] at h;omega
def tp1 (w : World) (l : List Mv) (v i : Value) (wr : World) : Prop :=
 ∃ (k : Nat) (a : Option Addr) (c : Nat), k ≤ l.length ∧ v = .slice a (2 * k) c ∧ i = .int .i64 k ∧ Hid (Ext w wr) ∧ Hid (PartRow wr w.heap.size v ((l.take k).flatMap zD8))
def tp2 (w : World) (l : List Str) (v i : Value) (wr : World) : Prop :=
 ∃ (k : Nat) (a : Option Addr) (c : Nat), k ≤ l.length ∧ v = .slice a k c ∧ i = .int .i64 k ∧ Hid (Ext w wr) ∧ Hid (PartRow wr w.heap.size v ((l.take k).map zBk))
set_option maxHeartbeats 4000000 in
theorem TxPack_any (w : World) {mv cv gv : Value} {t : Tx} (h : TxV w mv cv gv t) (ht : TxOk t) : Calls Tryz.prog 165 #[.agg (zBf mv cv gv t)] w (zAy w (txB t)) := by
 obtain ⟨a, c, a1, c1, a2, c2, rfl, rfl, rfl⟩ := h.form
 obtain ⟨W, hW⟩ : ∃ W, W = w.alloc (.cells #[.int .i64 (t.phase : Nat), .int .i64 (t.at_ : Nat), .slice a t.mv.length c, .slice a1 t.come.length c1, .slice a2 t.gone.length c2] 116) := ⟨_, rfl⟩
 have XW := zh (show Ext w W by rw [hW]; exact (xr w).alloc _);have hb0 : W.heap[w.heap.size]? = some (.cells #[.int .i64 (t.phase : Nat), .int .i64 (t.at_ : Nat), .slice a t.mv.length c, .slice a1 t.come.length c1, .slice a2 t.gone.length c2] 116 (0, 0)) := by rw [hW]; exact heap_alloc_new w _
 have H := zh h;have HT := zh ht;have KB : Hid (∀ V, Ext W V → _) := fun V x => zAw (x.get hb0)
 have hml := ht.few;have hpk := ht.pkgs;have HMB := zh (zGg t.mv fun m hm => (ht.path m hm).len);have HCB := zh (zFr t.come fun n hn => zEu (ht.name n (List.mem_append_left _ hn)));have HGB := zh (zFr t.gone fun n hn => zEu (ht.name n (List.mem_append_right _ hn)))
 have HLEN := zh (show (txB t).length ≤ 3000 by
  have h1 := HMB.out;have h2 := HCB.out;have h3 := HGB.out;simp only [txB, zJ2, zCz, zE9, List.flatten_cons, List.flatten_nil, List.append_nil, List.length_append, zBa]
  omega)
 obtain ⟨p0, p1, p2, p3, p4, pf⟩ := KB.out _ (xr W);clear h ht hb0;simp only [zBf];go_enter Tryz.func165, Tryz.ntmps165
 go_upto_region 1 with fail
 rw [← hW];clear hW
 go_wp2_with fail
 go_loopw [3, 15] (fun v i wr => tp1 W t.mv v i wr) (fun _ i _ => t.mv.length - (intOf i).toNat)
 case atStart => exact ⟨0, none, 0, Nat.zero_le _, rfl, rfl, zh (xr _), zh (PartRow.nil _ _)⟩
 case round =>
  obtain ⟨wq, rfl⟩ : ∃ x : World, x = wr := ⟨_, rfl⟩
  obtain ⟨k, ar, cr, hk, rfl, rfl, XQ, PR⟩ := hrel;clear p0 p1 p2 p3 p4 pf
  by_cases hlt : k < t.mv.length
  ·obtain ⟨b', rfl, hc0, hc1⟩ := mv_at (H.out.ext (XW.out.trans XQ.out)).mv k hlt;have HTK := zh (List.take_succ_eq_append_getElem hlt);have HPk := zh (HT.out.path _ (List.getElem_mem hlt)).len;have HKk := zh (HT.out.kind _ (List.getElem_mem hlt));generalize t.mv[k] = m at *
   obtain ⟨W1, hW1⟩ : ∃ W1, W1 = wq.alloc (.cells #[.int .i64 (m.kind : Nat), .string (ba m.path)] 262) := ⟨_, rfl⟩
   have X1 := zh (show Ext wq W1 by rw [hW1]; exact (xr wq).alloc _);have P1 := zh (show W1.heap[wq.heap.size]? = some (.cells #[.int .i64 (m.kind : Nat), .string (ba m.path)] 262 (0, 0)) by rw [hW1]; exact heap_alloc_new wq _);have hsz : W.heap.size ≤ W1.heap.size := Nat.le_trans XQ.out.sz X1.out.sz;have HTx := zh (fun V => zBw m.path V (by have := HPk.out; omega));have HRR : Hid (∀ V, Ext W1 V → PartRow V W.heap.size (.slice ar (2 * k) cr) ((t.mv.take k).flatMap zD8)) := fun V x => PR.out.ext (X1.out.trans x)
   have HPL := zh (show ((t.mv.take k).flatMap zD8).length = 2 * k by rw [zMv, List.length_take, Nat.min_eq_left hk])
   have KS : Hid (∀ V, Ext W1 V → V.cell? ⟨wq.heap.size, 0, none⟩ = some (.int .i64 (m.kind : Nat)) ∧ V.cell? ⟨wq.heap.size, 1, none⟩ = some (.string (ba m.path))) := fun V x => ⟨(zAu (x.get P1.out)).1, (zAu (x.get P1.out)).2.1⟩
   have KS2 : Hid (∀ V V', Ext W1 V → Mut W.heap.size [110] V V' → V'.cell? ⟨wq.heap.size, 0, none⟩ = some (.int .i64 (m.kind : Nat)) ∧ V'.cell? ⟨wq.heap.size, 1, none⟩ = some (.string (ba m.path))) := fun V V' x y => ⟨(zAu (y.get (x.get P1.out) (by simp))).1, (zAu (y.get (x.get P1.out) (by simp))).2.1⟩
   go_upto_region 5 with fail
   rw [← hW1];clear hW1 hc0 hc1
   go_region_held3 (fun V => V.cell? ⟨wq.heap.size, 0, none⟩ = some (.int .i64 (m.kind : Nat)) ∧ V.cell? ⟨wq.heap.size, 1, none⟩ = some (.string (ba m.path)))
    (first
     | exact KS.out _ (xr _)
     | exact KS.out _ (xr _).drew
     | exact KS.out _ X5.out
     | exact KS.out _ X6.out
     | exact KS.out _ (X6.out.alloc _)
     | exact KS2.out _ _ (X6.out.alloc _) M9.out)
    (first
     | (go_at_call 36; refine (zD2 _ _).mono ?_; rintro e w5 ⟨v5, rfl, f5⟩; (obtain ⟨a5, n5, rfl⟩ := zAj f5.2); have X5 := zh ((xr W1).drew.trans f5.1); have F5 := zh f5.own0; clear f5)
     | (go_at_call 74; refine (HTx.out _).mono ?_; rintro e w6 ⟨v6, rfl, f6⟩; (obtain ⟨a6, n6, rfl⟩ := zAj f6.2); have X6 := zh (X5.out.trans f6.1); have PBx : Hid (PB w6 [_, _] [_, _]) := ⟨f6.1.own F5.out, f6.own0, trivial⟩; clear f6)
     | (refine zCr (by rfl) (.tmp 19) (.tmp 26) (by rfl) W.heap.size (.slice ar (2 * k) cr) ((t.mv.take k).flatMap zD8) _ _ w6.heap.size 2 (by rfl) (by rfl) ((HRR.out _ X6.out).ext ((xr w6).alloc _)) (heap_alloc_new w6 _) (PBx.out.imp fun u m ho => ((xr w6).alloc _).own ho) (by rw [HPL.out]; simp; omega) (by have := X6.out.sz; simp; omega) ?_; intro v9 w9 r9 g9 m9; (obtain ⟨a9, n9, hv9⟩ := r9.form); (rw [List.length_append, HPL.out] at hv9); simp only [List.length_cons, List.length_nil] at hv9; subst hv9; have R9 := zh r9; have M9 := zh m9; clear r9 g9 m9))
   all_goals
    go_wp2_with fail
    go_roundw
    case rel =>
     refine ⟨k + 1, a9, n9, hlt, rfl, by go_num, zh ((XQ.out.trans (X1.out.trans (X6.out.alloc _))).then_mut M9.out (Nat.le_refl _)), zh ?_⟩;rw [HTK.out, List.flatMap_append];have := R9.out;simpa [zD8] using this
    case measure => simp [intOf]; omega
  ·have hkl : k = t.mv.length := by omega
   have HPR := zh (show PartRow wq W.heap.size (.slice ar (2 * t.mv.length) cr) (t.mv.flatMap zD8) by have := PR.out; rw [hkl, List.take_length] at this; exact this);subst hkl;clear PR;obtain ⟨p0, p1, p2, p3, p4, pf⟩ := KB.out _ XQ.out
   go_wp2_with fail
   go_loopw [4, 32] (fun v i wz => tp2 wq t.come v i wz) (fun _ i _ => t.come.length - (intOf i).toNat)
   case atStart => exact ⟨0, none, 0, Nat.zero_le _, rfl, rfl, zh (xr _), zh (PartRow.nil _ _)⟩
   case round =>
    obtain ⟨wy, rfl⟩ : ∃ x : World, x = wr := ⟨_, rfl⟩
    obtain ⟨k, as1, cs, hk, rfl, rfl, XY, PS⟩ := hrel;clear p0 p1 p2 p3 p4 pf
    by_cases hlt : k < t.come.length
    ·obtain ⟨b2, o2, e2, hcj⟩ := (x5row (H.out.ext (XW.out.trans XQ.out)).come XY.out).at k hlt;cases e2;have HTK := zh (List.take_succ_eq_append_getElem hlt);have HNk := zh (zEu (HT.out.name _ (List.mem_append_left _ (List.getElem_mem hlt))));have HPL := zh (show ((t.come.take k).map zBk).length = k by rw [List.length_map, List.length_take, Nat.min_eq_left hk]);generalize t.come[k] = nm at *;have HTx := zh (fun V => zBw nm V (by have := HNk.out; omega))
     go_wp2_with (first
      | (go_at_call 74; refine (HTx.out _).mono ?_; rintro e w6 ⟨v6, rfl, f6⟩; (obtain ⟨a6, n6, rfl⟩ := zAj f6.2); have X6 := zh f6.1; have F6 := zh f6.own0; clear f6)
      | (at_builtin; refine zEp (w6.alloc (.cells #[.slice a6 (zBk nm).length n6] 108)) (by rfl) (.tmp 36) (.tmp 39) (by rfl) wq.heap.size (.slice as1 k cs) ((t.come.take k).map zBk) [.slice a6 (zBk nm).length n6] [zBk nm] w6.heap.size 1 (by rfl) (by rfl) (PS.out.ext (X6.out.alloc _)) (heap_alloc_new w6 _) ⟨((xr w6).alloc _).own F6.out, trivial⟩ (by rw [HPL.out]; simp; omega) ?hB1 ?hK1; (case hB1 => exact Nat.le_trans XY.out.sz (X6.out.alloc _).sz); intro v9 w9 r9 g9 m9; (obtain ⟨a9, n9, hv9⟩ := r9.form); (rw [List.length_append, HPL.out] at hv9); simp only [List.length_cons, List.length_nil] at hv9; subst hv9; have R9 := zh r9; have M9 := zh m9; clear r9 g9 m9))
     go_roundw
     case rel =>
      refine ⟨k + 1, a9, n9, hlt, rfl, by go_num, zh ((XY.out.trans (X6.out.alloc _)).then_mut M9.out (Nat.le_refl _)), zh ?_⟩;rw [HTK.out, List.map_append];exact R9.out
     case measure => simp [intOf]; omega
    ·have hkl : k = t.come.length := by omega
     have HPS := zh (show PartRow wy wq.heap.size (.slice as1 t.come.length cs) (t.come.map zBk) by have := PS.out; rw [hkl, List.take_length] at this; exact this);subst hkl;clear PS;obtain ⟨p0, p1, p2, p3, p4, pf⟩ := KB.out _ (XQ.out.trans XY.out)
     go_wp2_with fail
     go_loopw [5, 45] (fun v i wz => tp2 wy t.gone v i wz) (fun _ i _ => t.gone.length - (intOf i).toNat)
     case atStart => exact ⟨0, none, 0, Nat.zero_le _, rfl, rfl, zh (xr _), zh (PartRow.nil _ _)⟩
     case round =>
      obtain ⟨wx, rfl⟩ : ∃ x : World, x = wr := ⟨_, rfl⟩
      obtain ⟨k, as2, cs2, hk, rfl, rfl, XX, PT⟩ := hrel;clear p0 p1 p2 p3 p4 pf
      by_cases hlt : k < t.gone.length
      ·obtain ⟨b2, o2, e2, hcj⟩ := (x5row (H.out.ext (XW.out.trans (XQ.out.trans XY.out))).gone XX.out).at k hlt;cases e2;have HTK := zh (List.take_succ_eq_append_getElem hlt);have HNk := zh (zEu (HT.out.name _ (List.mem_append_right _ (List.getElem_mem hlt))));have HPL := zh (show ((t.gone.take k).map zBk).length = k by rw [List.length_map, List.length_take, Nat.min_eq_left hk]);generalize t.gone[k] = nm at *;have HTx := zh (fun V => zBw nm V (by have := HNk.out; omega))
       go_wp2_with (first
        | (go_at_call 74; refine (HTx.out _).mono ?_; rintro e w6 ⟨v6, rfl, f6⟩; (obtain ⟨a6, n6, rfl⟩ := zAj f6.2); have X6 := zh f6.1; have F6 := zh f6.own0; clear f6)
        | (at_builtin; refine zEp (w6.alloc (.cells #[.slice a6 (zBk nm).length n6] 108)) (by rfl) (.tmp 49) (.tmp 52) (by rfl) wy.heap.size (.slice as2 k cs2) ((t.gone.take k).map zBk) [.slice a6 (zBk nm).length n6] [zBk nm] w6.heap.size 1 (by rfl) (by rfl) (PT.out.ext (X6.out.alloc _)) (heap_alloc_new w6 _) ⟨((xr w6).alloc _).own F6.out, trivial⟩ (by rw [HPL.out]; simp; omega) ?hB2 ?hK2; (case hB2 => exact Nat.le_trans XX.out.sz (X6.out.alloc _).sz); intro v9 w9 r9 g9 m9; (obtain ⟨a9, n9, hv9⟩ := r9.form); (rw [List.length_append, HPL.out] at hv9); simp only [List.length_cons, List.length_nil] at hv9; subst hv9; have R9 := zh r9; have M9 := zh m9; clear r9 g9 m9))
       go_roundw
       case rel =>
        refine ⟨k + 1, a9, n9, hlt, rfl, by go_num, zh ((XX.out.trans (X6.out.alloc _)).then_mut M9.out (Nat.le_refl _)), zh ?_⟩;rw [HTK.out, List.map_append];exact R9.out
       case measure => simp [intOf]; omega
      ·have hkl : k = t.gone.length := by omega
       have HPT := zh (show PartRow wx wy.heap.size (.slice as2 t.gone.length cs2) (t.gone.map zBk) by have := PT.out; rw [hkl, List.take_length] at this; exact this);subst hkl;clear PT
       have KS : Hid (∀ V, Ext wx V → V.cell? ⟨w.heap.size, 0, none⟩ = some (.int .i64 (t.phase : Nat)) ∧ V.cell? ⟨w.heap.size, 1, none⟩ = some (.int .i64 (t.at_ : Nat))) := fun V x => ⟨(KB.out V (XQ.out.trans (XY.out.trans (XX.out.trans x)))).1, (KB.out V (XQ.out.trans (XY.out.trans (XX.out.trans x)))).2.1⟩
       have HL7 : Hid (∀ V, Ext wx V → Calls Tryz.prog 77 #[.slice ar (2 * t.mv.length) cr] V (zAy V (zCz (t.mv.flatMap zD8)))) := fun V x => zDw ((HPR.out.ext (XY.out.trans (XX.out.trans x))).rows (by rw [zMv]; omega)) (Nat.le_trans HMB.out (by omega))
       have HL8 : Hid (∀ V, Ext wx V → Calls Tryz.prog 77 #[.slice as1 t.come.length cs] V (zAy V (zCz (t.come.map zBk)))) := fun V x => zDw ((HPS.out.ext (XX.out.trans x)).rows (by rw [List.length_map]; omega)) (Nat.le_trans HCB.out (by omega))
       have HL9 : Hid (∀ V, Ext wx V → Calls Tryz.prog 77 #[.slice as2 t.gone.length cs2] V (zAy V (zCz (t.gone.map zBk)))) := fun V x => zDw ((HPT.out.ext x).rows (by rw [List.length_map]; omega)) (Nat.le_trans HGB.out (by omega))
       have HN5 : Hid (∀ V, Calls Tryz.prog 36 #[.int .i64 (t.phase : Nat)] V (zAy V (zE9 (t.phase : Nat)))) := fun V => zD2 _ V
       have HN6 : Hid (∀ V, Calls Tryz.prog 36 #[.int .i64 (t.at_ : Nat)] V (zAy V (zE9 (t.at_ : Nat)))) := fun V => zD2 _ V
       have HPK : Hid (∀ V v, PartRow V 0 v (zJ2 t) → Calls Tryz.prog 76 #[v] V (zAy V (txB t))) := fun V v hr => zGp _ v V (hr.rows (by simp [zJ2])) (by have := HLEN.out; show (txB t).length ≤ _; omega)
       go_upto_region 17 with fail
       refine wp_region_held_drew (S := (fun V => V.cell? ⟨w.heap.size, 0, none⟩ = some (.int .i64 (t.phase : Nat)) ∧ V.cell? ⟨w.heap.size, 1, none⟩ = some (.int .i64 (t.at_ : Nat)))) (by kernel_rfl) (by (first | exact KS.out _ (xr _).drew | exact KS.out _ X5.out | exact KS.out _ X6.out | exact KS.out _ X7.out | exact KS.out _ X8.out | exact KS.out _ X9.out | exact KS.out _ (X9.out.alloc _) | exact KS.out _ ((X9.out.alloc _).trans X11.out))) fun _ => ?_
       refine tk 0 ?_;refine tk 1 ?_;refine tk 3 ?_;refine tk 4 ?_;refine tk 6 ?_;refine tk 8 ?_;refine tk 10 ?_;refine rd 2 fun K hK => ?_
       go_simp
       (go_at_call 36; refine (HN5.out _).mono ?_; rintro e w5 ⟨v5, rfl, f5⟩; (obtain ⟨a5, n5, rfl⟩ := zAj f5.2); have X5 := zh ((xr wx).drew.trans f5.1); have F5 := zh f5.own0; clear f5)
       go_wp2_with fail
       refine hK.out _ _ ?_ fun _ => ?_
       ·(first | exact KS.out _ (xr _).drew | exact KS.out _ X5.out | exact KS.out _ X6.out | exact KS.out _ X7.out | exact KS.out _ X8.out | exact KS.out _ X9.out | exact KS.out _ (X9.out.alloc _) | exact KS.out _ ((X9.out.alloc _).trans X11.out))
       clear hK K
       try simp only [nf]
       refine rd 5 fun K hK => ?_
       go_simp
       (go_at_call 36; refine (HN6.out _).mono ?_; rintro e w6 ⟨v6, rfl, f6⟩; (obtain ⟨a6, n6, rfl⟩ := zAj f6.2); have X6 := zh (X5.out.trans f6.1); have F6 := zh f6.own0; have E6 := zh f6.1; clear f6)
       go_wp2_with fail
       refine hK.out _ _ ?_ fun _ => ?_
       ·(first | exact KS.out _ (xr _).drew | exact KS.out _ X5.out | exact KS.out _ X6.out | exact KS.out _ X7.out | exact KS.out _ X8.out | exact KS.out _ X9.out | exact KS.out _ (X9.out.alloc _) | exact KS.out _ ((X9.out.alloc _).trans X11.out))
       clear hK K
       try simp only [nf]
       refine rd 7 fun K hK => ?_
       go_simp
       (go_at_call 77; refine (HL7.out _ X6.out).mono ?_; rintro e w7 ⟨v7, rfl, f7⟩; (obtain ⟨a7, n7, rfl⟩ := zAj f7.2); have X7 := zh (X6.out.trans f7.1); have F7 := zh f7.own0; have E7 := zh f7.1; clear f7)
       go_wp2_with fail
       refine hK.out _ _ ?_ fun _ => ?_
       ·(first | exact KS.out _ (xr _).drew | exact KS.out _ X5.out | exact KS.out _ X6.out | exact KS.out _ X7.out | exact KS.out _ X8.out | exact KS.out _ X9.out | exact KS.out _ (X9.out.alloc _) | exact KS.out _ ((X9.out.alloc _).trans X11.out))
       clear hK K
       try simp only [nf]
       refine rd 9 fun K hK => ?_
       go_simp
       (go_at_call 77; refine (HL8.out _ X7.out).mono ?_; rintro e w8 ⟨v8, rfl, f8⟩; (obtain ⟨a8, n8, rfl⟩ := zAj f8.2); have X8 := zh (X7.out.trans f8.1); have F8 := zh f8.own0; have E8 := zh f8.1; clear f8)
       go_wp2_with fail
       refine hK.out _ _ ?_ fun _ => ?_
       ·(first | exact KS.out _ (xr _).drew | exact KS.out _ X5.out | exact KS.out _ X6.out | exact KS.out _ X7.out | exact KS.out _ X8.out | exact KS.out _ X9.out | exact KS.out _ (X9.out.alloc _) | exact KS.out _ ((X9.out.alloc _).trans X11.out))
       clear hK K
       try simp only [nf]
       refine rd 11 fun K hK => ?_
       go_simp
       (go_at_call 77; refine (HL9.out _ X8.out).mono ?_; rintro e w9 ⟨v9, rfl, f9⟩; (obtain ⟨a9, n9, rfl⟩ := zAj f9.2); have X9 := zh (X8.out.trans f9.1); have F9 := zh f9.own0; have E9 := zh f9.1; clear f9)
       go_wp2_with fail
       refine hK.out _ _ ?_ fun _ => ?_
       ·(first | exact KS.out _ (xr _).drew | exact KS.out _ X5.out | exact KS.out _ X6.out | exact KS.out _ X7.out | exact KS.out _ X8.out | exact KS.out _ X9.out | exact KS.out _ (X9.out.alloc _) | exact KS.out _ ((X9.out.alloc _).trans X11.out))
       clear hK K
       try simp only [nf]
       refine rd 12 fun K hK => ?_
       go_simp
       go_wp2_with fail
       refine hK.out _ _ ?_ fun _ => ?_
       ·(first | exact KS.out _ (xr _).drew | exact KS.out _ X5.out | exact KS.out _ X6.out | exact KS.out _ X7.out | exact KS.out _ X8.out | exact KS.out _ X9.out | exact KS.out _ (X9.out.alloc _) | exact KS.out _ ((X9.out.alloc _).trans X11.out))
       clear hK K
       try simp only [nf]
       refine rd 13 fun K hK => ?_
       go_simp
       (go_at_call 76; refine (HPK.out _ _ ?hPR5).mono ?_; (case hPR5 => exact ⟨_, World.ownsRow_lit w9 _ 5 (Nat.zero_le _) (by decide) rfl, ((xr w9).alloc _).own (E9.out.own (E8.out.own (E7.out.own (E6.out.own F5.out)))), ((xr w9).alloc _).own (E9.out.own (E8.out.own (E7.out.own F6.out))), ((xr w9).alloc _).own (E9.out.own (E8.out.own F7.out)), ((xr w9).alloc _).own (E9.out.own F8.out), ((xr w9).alloc _).own F9.out, trivial⟩); rintro e w11 ⟨v11, rfl, f11⟩; (obtain ⟨a11, n11, rfl⟩ := zAj f11.2); have X11 := zh f11.1; have F11 := zh f11; clear f11)
       go_wp2_with fail
       refine hK.out _ _ ?_ fun _ => ?_
       ·(first | exact KS.out _ (xr _).drew | exact KS.out _ X5.out | exact KS.out _ X6.out | exact KS.out _ X7.out | exact KS.out _ X8.out | exact KS.out _ X9.out | exact KS.out _ (X9.out.alloc _) | exact KS.out _ ((X9.out.alloc _).trans X11.out))
       clear hK K;refine tk 14 ?_;refine wpAnyH_done (by kernel_rfl) ?_ _
       go_wp2_with fail
       go_ret
       exact ⟨.slice a11 (txB t).length n11, rfl, F11.out.after (XW.out.trans (XQ.out.trans (XY.out.trans (XX.out.trans (X9.out.alloc _)))))⟩
theorem TreeV.mut {w w' : World} {t B : Nat} {V : List (Pth × Nd)} {sh : List Pth} {S : List Nat} (h : TreeV w t V sh) (x : Mut B S w w') (hs : ∀ k ∈ S, k ∉ [0, 7, 87, 91]) : TreeV w' t V sh := by
 obtain ⟨n, m, mb, pb, kb, dv, T, h1, h2⟩ := h;exact ⟨n, m, mb, pb, kb, dv, T, h1.mut x (fun e => hs _ e (by simp)) (fun e => hs _ e (by simp)) (fun e => hs _ e (by simp)) (fun e => hs _ e (by simp)), h2⟩
structure PlanAt (w : World) (p t bw bn : Nat) (cv : Value) (V : List (Pth × Nd)) (sh : List Pth) (was : Option En) (mv : Value) : Prop where
 blk : w.heap[p]? = some (.cells #[.pointer (some ⟨t, 0, none⟩), .map (some bw), .map (some bn), cv, mv] 253 (0, 0))
 tree : TreeV w t V sh
 base : BaseM w bw was
theorem PlanAt.ext {w w' : World} {p t bw bn : Nat} {cv mv : Value} {V : List (Pth × Nd)} {sh : List Pth} {was : Option En} (h : PlanAt w p t bw bn cv V sh was mv) (x : Ext w w') : PlanAt w' p t bw bn cv V sh was mv :=
 ⟨x.get h.blk, h.tree.ext x, h.base.ext x⟩
def zFy (V : List (Pth × Nd)) (p : Pth) : Bool := match look V p with
 | some x => !x.dir
 | none => false
def zBv (o : Option En) (V : List (Pth × Nd)) (s : Str) : Bool := match zIm o s, look V (names s) with
 | some f, some x => !x.dir && (f.cfg && decide (zA3 x.data ≠ f.sum))
 | _, _ => false
section
variable {w : World} {p t bw bn : Nat} {cv mv : Value} {V : List (Pth × Nd)} {sh : List Pth} {was : Option En}
theorem There_any (h : PlanAt w p t bw bn cv V sh was mv) {s : Str} {ns : Pth} (hs : SplitOk s ns) {mx : Int} (hmx : w.cell? ⟨0, 0, none⟩ = some (.int .i64 mx)) :
  Calls Tryz.prog 161 #[.pointer (some ⟨p, 0, none⟩), .string (ba s)] w fun e w' => e = .returned (.bool (zFy V ns)) ∧ Ext w w' := by
 have HR := zh (zB7 h.tree hs hmx);obtain ⟨p0, -⟩ := zAw h.blk;clear h hs hmx;unfold zCh at HR
 cases hl : look V ns with
 | none =>
   have HF := zh (show zFy V ns = false by unfold zFy; rw [hl]);rw [hl] at HR;clear hl;simp only at HR;go_enter Tryz.func161, Tryz.ntmps161
   go_wp2_with (go_at_call 10; refine HR.out.mono ?_; rintro e w2 ⟨x2, rfl⟩; have X2 := zh x2; clear x2)
   go_ret
   exact ⟨by rw [HF.out]; rfl, X2.out⟩
 | some x =>
   obtain ⟨dr, dt⟩ := x;rw [hl] at HR
   cases dr with
   | true =>
     have HF := zh (show zFy V ns = false by unfold zFy; rw [hl]; rfl);clear hl;simp only [if_true] at HR;go_enter Tryz.func161, Tryz.ntmps161
     go_wp2_with (go_at_call 10; refine HR.out.mono ?_; rintro e w2 ⟨x2, rfl⟩; have X2 := zh x2; clear x2)
     go_ret
     exact ⟨by rw [HF.out]; rfl, X2.out⟩
   | false =>
     have HF := zh (show zFy V ns = true by unfold zFy; rw [hl]; rfl);clear hl;simp only [Bool.false_eq_true, if_false] at HR;go_enter Tryz.func161, Tryz.ntmps161
     go_wp2_with (go_at_call 10; refine HR.out.mono ?_; rintro e w2 ⟨x2, v, rfl, hv⟩; have X2 := zh x2; (obtain ⟨a, c, rfl⟩ := hv.form); clear x2 hv)
     go_ret
     exact ⟨by rw [HF.out]; rfl, X2.out⟩
end
section
variable {w : World} {p t bw bn : Nat} {cv mv : Value} {V : List (Pth × Nd)} {sh : List Pth} {was : Option En}
def readAny (w : World) (e : Ending) (w' : World) : Prop := ∃ a n c k, e = .returned (.tuple #[.slice a n c, .int .i64 k]) ∧ Ext w w'
theorem vread_any {x : Option Nd} {e : Ending} {w' : World} (h : zCh w x e w') : readAny w e w' := by
 obtain ⟨hx, h⟩ := h
 cases x with
 | none => exact ⟨_, _, _, _, h, hx⟩
 | some x =>
   simp only at h
   split at h
   ·exact ⟨_, _, _, _, h, hx⟩
   ·obtain ⟨v, e1, hv⟩ := h;obtain ⟨a, c, rfl⟩ := hv.form;exact ⟨_, _, _, _, e1, hx⟩
theorem Turned_none (h : PlanAt w p t bw bn cv V sh was mv) {s : Str} (hs : SplitOk s (names s)) (ho : zIm was s = none) {mx : Int} (hmx : w.cell? ⟨0, 0, none⟩ = some (.int .i64 mx)) :
  Calls Tryz.prog 162 #[.pointer (some ⟨p, 0, none⟩), .string (ba s)] w fun e w' => e = .returned (.bool false) ∧ Ext w w' := by
 have HR : Hid (∀ W, Ext w W → Calls Tryz.prog 10 #[.pointer (some ⟨t, 0, none⟩), .string (ba s)] W (readAny W)) := fun W x => (zB7 (h.tree.ext x) hs (x.cell hmx)).mono fun e w' hh => vread_any hh
 have HO : Hid (Calls Tryz.prog 160 #[.agg #[.map (some bw)], .string (ba s)] w (fun e w' => e = .returned (.tuple #[.string ⟨#[]⟩, .agg #[.string ⟨#[]⟩, .bool false, .int .u32 0], .bool false]) ∧ Ext w w')) := (zC2 h.base).mono fun e w' ⟨h1, h2⟩ => ⟨by rw [h1, ho]; rfl, h2⟩
 have KP : Hid (∀ W, Ext w W → _) := fun W x => zAw (x.get h.blk)
 obtain ⟨p0, p1, p2, p3, p4, pf⟩ := KP.out _ (xr w);clear h hs ho hmx;go_enter Tryz.func162, Tryz.ntmps162
 go_wp2_with (first
  | (go_at_call 160; refine HO.out.mono ?_; rintro e w2 ⟨rfl, x2⟩; have X2 := zh (x2.alloc (.cells #[.string ⟨#[]⟩, .bool false, .int .u32 0] 258)); (obtain ⟨q0, -⟩ := KP.out _ X2.out); clear x2)
  | (go_at_call 10; refine (HR.out _ X2.out).mono ?_; rintro e w3 ⟨ra, rn, rc, rk, rfl, x3⟩; have X3 := zh (X2.out.trans x3); clear x3))
 refine wp_region_held_drew (S := (fun _ => True)) (by kernel_rfl) (by trivial) fun _ => ?_
 refine tk 0 ?_;refine tk 1 ?_;refine tn 2 ?_;refine tn 3 ?_;refine tk 4 ?_;refine tk 5 ?_;refine tn 6 ?_;refine tn 7 ?_;refine tk 8 ?_;refine tk 9 ?_;refine tn 10 ?_;refine tn 11 ?_;refine tn 12 ?_;refine tn 13 ?_;refine tn 14 ?_;refine tn 15 ?_;refine tk 16 ?_;refine tk 17 ?_;refine wpAnyH_done (by kernel_rfl) ?_ _
 go_wp2_with fail
 go_ret
 exact ⟨rfl, X3.out.drew⟩
theorem zP4 (h : PlanAt w p t bw bn cv V sh was mv) {s : Str} (hs : SplitOk s (names s)) {f : Bf} (ho : zIm was s = some f) (hl : look V (names s) = none) {mx : Int} (hmx : w.cell? ⟨0, 0, none⟩ = some (.int .i64 mx)) :
  Calls Tryz.prog 162 #[.pointer (some ⟨p, 0, none⟩), .string (ba s)] w fun e w' => e = .returned (.bool false) ∧ Ext w w' := by
 have HR : Hid (∀ W, Ext w W → Calls Tryz.prog 10 #[.pointer (some ⟨t, 0, none⟩), .string (ba s)] W (fun e w' => e = .returned (.tuple #[.slice none 0 0, .int .i64 8]) ∧ Ext W w')) := fun W x => (zB7 (h.tree.ext x) hs (x.cell hmx)).mono fun e w' hh => by
  unfold zCh at hh;rw [hl] at hh;simpa [and_comm] using hh
 have HO : Hid (Calls Tryz.prog 160 #[.agg #[.map (some bw)], .string (ba s)] w (fun e w' => e = .returned (.tuple #[.string (ba nmA), .agg #[.string (ba f.path), .bool f.cfg, .int .u32 (f.sum : Int)], .bool true]) ∧ Ext w w')) := (zC2 h.base).mono fun e w' ⟨h1, h2⟩ => ⟨by rw [h1, ho]; rfl, h2⟩
 have KP : Hid (∀ W, Ext w W → _) := fun W x => zAw (x.get h.blk)
 obtain ⟨p0, p1, p2, p3, p4, pf⟩ := KP.out _ (xr w);clear h hs ho hmx hl;go_enter Tryz.func162, Tryz.ntmps162
 go_wp2_with (first
  | (go_at_call 160; refine HO.out.mono ?_; rintro e w2 ⟨rfl, x2⟩; have X2 := zh (x2.alloc (.cells #[.string (ba f.path), .bool f.cfg, .int .u32 (f.sum : Int)] 258)); have F2 := zh (heap_alloc_new w2 (.cells #[.string (ba f.path), .bool f.cfg, .int .u32 (f.sum : Int)] 258)); (obtain ⟨q0, -⟩ := KP.out _ X2.out); clear x2)
  | (go_at_call 10; refine (HR.out _ X2.out).mono ?_; rintro e w3 ⟨rfl, x3⟩; have X3 := zh (X2.out.trans x3); clear x3 F2))
 refine wp_region_held_drew (S := (fun _ => True)) (by kernel_rfl) (by trivial) fun _ => ?_
 refine tk 0 ?_;refine tk 1 ?_;refine tk 2 ?_;refine tk 3 ?_;refine tk 4 ?_;refine tk 5 ?_;refine tn 6 ?_;refine tn 7 ?_;refine tk 8 ?_;refine tk 9 ?_;refine tn 10 ?_;refine tn 11 ?_;refine tn 12 ?_;refine tn 13 ?_;refine tn 14 ?_;refine tn 15 ?_;refine tk 16 ?_;refine tk 17 ?_;refine wpAnyH_done (by kernel_rfl) ?_ _
 go_wp2_with fail
 go_ret
 exact ⟨rfl, X3.out.drew⟩
theorem Turned_dir (h : PlanAt w p t bw bn cv V sh was mv) {s : Str} (hs : SplitOk s (names s)) {f : Bf} (ho : zIm was s = some f) (hl : ∃ x, look V (names s) = some x ∧ x.dir = true) {mx : Int} (hmx : w.cell? ⟨0, 0, none⟩ = some (.int .i64 mx)) :
  Calls Tryz.prog 162 #[.pointer (some ⟨p, 0, none⟩), .string (ba s)] w fun e w' => e = .returned (.bool false) ∧ Ext w w' := by
 have HR : Hid (∀ W, Ext w W → Calls Tryz.prog 10 #[.pointer (some ⟨t, 0, none⟩), .string (ba s)] W (fun e w' => e = .returned (.tuple #[.slice none 0 0, .int .i64 10]) ∧ Ext W w')) := fun W x => (zB7 (h.tree.ext x) hs (x.cell hmx)).mono fun e w' hh => by
  unfold zCh at hh;obtain ⟨x, hx, hd⟩ := hl; rw [hx] at hh; simp only [hd, if_true] at hh;simpa [and_comm] using hh
 have HO : Hid (Calls Tryz.prog 160 #[.agg #[.map (some bw)], .string (ba s)] w (fun e w' => e = .returned (.tuple #[.string (ba nmA), .agg #[.string (ba f.path), .bool f.cfg, .int .u32 (f.sum : Int)], .bool true]) ∧ Ext w w')) := (zC2 h.base).mono fun e w' ⟨h1, h2⟩ => ⟨by rw [h1, ho]; rfl, h2⟩
 have KP : Hid (∀ W, Ext w W → _) := fun W x => zAw (x.get h.blk)
 obtain ⟨p0, p1, p2, p3, p4, pf⟩ := KP.out _ (xr w);clear h hs ho hmx hl;go_enter Tryz.func162, Tryz.ntmps162
 go_wp2_with (first
  | (go_at_call 160; refine HO.out.mono ?_; rintro e w2 ⟨rfl, x2⟩; have X2 := zh (x2.alloc (.cells #[.string (ba f.path), .bool f.cfg, .int .u32 (f.sum : Int)] 258)); have F2 := zh (heap_alloc_new w2 (.cells #[.string (ba f.path), .bool f.cfg, .int .u32 (f.sum : Int)] 258)); (obtain ⟨q0, -⟩ := KP.out _ X2.out); clear x2)
  | (go_at_call 10; refine (HR.out _ X2.out).mono ?_; rintro e w3 ⟨rfl, x3⟩; have X3 := zh (X2.out.trans x3); clear x3 F2))
 refine wp_region_held_drew (S := (fun _ => True)) (by kernel_rfl) (by trivial) fun _ => ?_
 refine tk 0 ?_;refine tk 1 ?_;refine tk 2 ?_;refine tk 3 ?_;refine tk 4 ?_;refine tk 5 ?_;refine tn 6 ?_;refine tn 7 ?_;refine tk 8 ?_;refine tk 9 ?_;refine tn 10 ?_;refine tn 11 ?_;refine tn 12 ?_;refine tn 13 ?_;refine tn 14 ?_;refine tn 15 ?_;refine tk 16 ?_;refine tk 17 ?_;refine wpAnyH_done (by kernel_rfl) ?_ _
 go_wp2_with fail
 go_ret
 exact ⟨rfl, X3.out.drew⟩
theorem Turned_plain (h : PlanAt w p t bw bn cv V sh was mv) {s : Str} (hs : SplitOk s (names s)) {f : Bf} (ho : zIm was s = some f) (hc : f.cfg = false) {data : List UInt8} (hl : look V (names s) = some ⟨false, data⟩) {mx : Int} (hmx : w.cell? ⟨0, 0, none⟩ = some (.int .i64 mx)) :
  Calls Tryz.prog 162 #[.pointer (some ⟨p, 0, none⟩), .string (ba s)] w fun e w' => e = .returned (.bool false) ∧ Ext w w' := by
 have HR : Hid (∀ W, Ext w W → Calls Tryz.prog 10 #[.pointer (some ⟨t, 0, none⟩), .string (ba s)] W (fun e w' => Ext W w' ∧ ∃ v, e = .returned (.tuple #[v, .int .i64 0]) ∧ DataIs w' v data)) := fun W x => (zB7 (h.tree.ext x) hs (x.cell hmx)).mono fun e w' hh => by
  unfold zCh at hh;rw [hl] at hh;simpa using hh
 have HO : Hid (Calls Tryz.prog 160 #[.agg #[.map (some bw)], .string (ba s)] w (fun e w' => e = .returned (.tuple #[.string (ba nmA), .agg #[.string (ba f.path), .bool f.cfg, .int .u32 (f.sum : Int)], .bool true]) ∧ Ext w w')) := (zC2 h.base).mono fun e w' ⟨h1, h2⟩ => ⟨by rw [h1, ho]; rfl, h2⟩
 have KP : Hid (∀ W, Ext w W → _) := fun W x => zAw (x.get h.blk)
 obtain ⟨p0, p1, p2, p3, p4, pf⟩ := KP.out _ (xr w);rw [hc] at HO;clear h hs ho hmx hl hc;go_enter Tryz.func162, Tryz.ntmps162
 go_wp2_with (first
  | (go_at_call 160; refine HO.out.mono ?_; rintro e w2 ⟨rfl, x2⟩; have X2 := zh (x2.alloc (.cells #[.string (ba f.path), .bool false, .int .u32 (f.sum : Int)] 258)); have F2 := zh (heap_alloc_new w2 (.cells #[.string (ba f.path), .bool false, .int .u32 (f.sum : Int)] 258)); (obtain ⟨q0, -⟩ := KP.out _ X2.out); clear x2)
  | (go_at_call 10; refine (HR.out _ X2.out).mono ?_; rintro e w3 ⟨x3, v3, rfl, d3⟩; (obtain ⟨a3, c3, rfl⟩ := d3.form); have X3 := zh (X2.out.trans x3); have KF : Hid (∀ U, Ext w3 U → U.cell? ⟨w2.heap.size, 1, none⟩ = some (.bool false)) := fun U y => (zA2 (y.get (x3.get F2.out))).2.1; clear x3 F2 d3))
 refine wp_region_held_drew (S := (fun U => U.cell? ⟨w2.heap.size, 1, none⟩ = some (.bool false))) (by kernel_rfl) (by exact KF.out _ (xr _).drew) fun _ => ?_
 refine tk 0 ?_;refine tk 1 ?_;refine tk 2 ?_;refine tk 3 ?_;refine tk 4 ?_;refine tk 5 ?_;refine tk 6 ?_;refine tk 7 ?_;refine tk 8 ?_;refine tk 9 ?_;refine tn 10 ?_;refine tn 11 ?_;refine tn 12 ?_;refine tn 13 ?_;refine tn 14 ?_;refine tn 15 ?_;refine tk 16 ?_;refine tk 17 ?_;refine wpAnyH_done (by kernel_rfl) ?_ _
 go_wp2_with fail
 go_ret
 exact ⟨rfl, X3.out.drew⟩
theorem zP3 (h : PlanAt w p t bw bn cv V sh was mv) {s : Str} (hs : SplitOk s (names s)) {f : Bf} (ho : zIm was s = some f) (hc : f.cfg = true) {data : List UInt8} (hl : look V (names s) = some ⟨false, data⟩) (hd : data.length ≤ 1000) {mx : Int} (hmx : w.cell? ⟨0, 0, none⟩ = some (.int .i64 mx)) :
  Calls Tryz.prog 162 #[.pointer (some ⟨p, 0, none⟩), .string (ba s)] w fun e w' => e = .returned (.bool (decide (zA3 data ≠ f.sum))) ∧ Ext w w' := by
 have HR : Hid (∀ W, Ext w W → Calls Tryz.prog 10 #[.pointer (some ⟨t, 0, none⟩), .string (ba s)] W (fun e w' => Ext W w' ∧ ∃ v, e = .returned (.tuple #[v, .int .i64 0]) ∧ DataIs w' v data)) := fun W x => (zB7 (h.tree.ext x) hs (x.cell hmx)).mono fun e w' hh => by
  unfold zCh at hh;rw [hl] at hh;simpa using hh
 have HO : Hid (Calls Tryz.prog 160 #[.agg #[.map (some bw)], .string (ba s)] w (fun e w' => e = .returned (.tuple #[.string (ba nmA), .agg #[.string (ba f.path), .bool f.cfg, .int .u32 (f.sum : Int)], .bool true]) ∧ Ext w w')) := (zC2 h.base).mono fun e w' ⟨h1, h2⟩ => ⟨by rw [h1, ho]; rfl, h2⟩
 have KP : Hid (∀ W, Ext w W → _) := fun W x => zAw (x.get h.blk)
 obtain ⟨p0, p1, p2, p3, p4, pf⟩ := KP.out _ (xr w);rw [hc] at HO;clear h hs ho hmx hl hc
 have hne : (((zA3 data : Nat) : Int) != (f.sum : Int)) = decide (zA3 data ≠ f.sum) := by
  rw [Bool.eq_iff_iff];simp only [bne_iff_ne, ne_eq, decide_eq_true_eq];omega
 have HNE := zh hne;clear hne;go_enter Tryz.func162, Tryz.ntmps162
 go_wp2_with (first
  | (go_at_call 160; refine HO.out.mono ?_; rintro e w2 ⟨rfl, x2⟩; have X2 := zh (x2.alloc (.cells #[.string (ba f.path), .bool true, .int .u32 (f.sum : Int)] 258)); have F2 := zh (heap_alloc_new w2 (.cells #[.string (ba f.path), .bool true, .int .u32 (f.sum : Int)] 258)); (obtain ⟨q0, -⟩ := KP.out _ X2.out); clear x2)
  | (go_at_call 10; refine (HR.out _ X2.out).mono ?_; rintro e w3 ⟨x3, v3, rfl, d3⟩; (obtain ⟨a3, c3, rfl⟩ := d3.form); have X3 := zh (X2.out.trans x3); have D3 := zh d3; have KF : Hid (∀ U, Ext w3 U → U.cell? ⟨w2.heap.size, 1, none⟩ = some (.bool true) ∧ U.cell? ⟨w2.heap.size, 2, none⟩ = some (.int .u32 (f.sum : Int))) := fun U y => ⟨(zA2 (y.get (x3.get F2.out))).2.1, (zA2 (y.get (x3.get F2.out))).2.2.1⟩; clear x3 F2 d3))
 have HCR : Hid (∀ U g, Ext w3 U → U.heap[g]? = some (.cells #[.slice a3 data.length c3] 23 (0, 0)) → Calls Tryz.prog 37 #[.slice (some ⟨g, 0, none⟩) 1 1] U (fun e w' => e = .returned (.int .u32 (zA3 data : Nat)) ∧ U = w')) := fun U g x hb => by
  have := zIr (RowsN.one D3.out.bytes x hb) (by omega);simpa using this
 refine wp_region_held_drew (S := (fun U => U.cell? ⟨w2.heap.size, 1, none⟩ = some (.bool true) ∧ U.cell? ⟨w2.heap.size, 2, none⟩ = some (.int .u32 (f.sum : Int)))) (by kernel_rfl) (by (first | exact KF.out _ (xr _).drew | exact KF.out _ ((xr _).alloc _).drew)) fun _ => ?_
 refine tk 0 ?_;refine tk 1 ?_;refine tk 2 ?_;refine tk 3 ?_;refine tk 4 ?_;refine tk 5 ?_;refine tk 6 ?_;refine tk 7 ?_;refine tk 8 ?_;refine tk 9 ?_;refine tk 10 ?_;refine tk 13 ?_;refine tk 14 ?_;refine rd 11 fun K hK => ?_
 go_simp
 go_wp2_with fail
 refine hK.out _ _ ?_ fun _ => ?_
 ·(first | exact KF.out _ (xr _).drew | exact KF.out _ ((xr _).alloc _).drew)
 clear hK K
 try simp only [nf]
 refine rd 12 fun K hK => ?_
 go_simp
 (go_at_call 37; refine (HCR.out _ _ ((xr w3).alloc _).drew (heap_alloc_new w3 _)).mono ?_; rintro e ww ⟨rfl, rfl⟩)
 go_wp2_with fail
 refine hK.out _ _ ?_ fun _ => ?_
 ·(first | exact KF.out _ (xr _).drew | exact KF.out _ ((xr _).alloc _).drew)
 clear hK K;refine tk 15 ?_;refine tk 16 ?_;refine tk 17 ?_;refine wpAnyH_done (by kernel_rfl) ?_ _
 go_wp2_with fail
 go_ret
 exact ⟨by rw [← HNE.out]; rfl, (X3.out.alloc _).drew⟩
end
def eqRel (w : World) (l m : List UInt8) (i : Value) (wr : World) : Prop := ∃ k : Nat, k ≤ l.length ∧ i = .int .i64 k ∧ Hid (Ext w wr) ∧ Hid (l.take k = m.take k)
theorem zN1 (w : World) {u v : Value} {l m : List UInt8} (hu : Bytes w u l) (hv : Bytes w v m) (hl : l.length ≤ 1000000000) (hm : m.length ≤ 1000000000) :
  Calls Tryz.prog 238 #[u, v] w fun e w' => e = .returned (.bool (decide (l = m))) ∧ Ext w w' := by
 have HU := zh hu;have HV := zh hv;obtain ⟨a, c, rfl, -⟩ := hu;obtain ⟨a2, c2, rfl, -⟩ := hv
 by_cases hlm : l.length = m.length
 ·have HLM := zh hlm;go_enter Tryz.func238, Tryz.ntmps238;rw [← hlm];clear hlm hm
  go_wp2_with fail
  go_loopw [13] (fun i wr => eqRel w l m i wr) (fun i _ => l.length - (intOf i).toNat)
  case atStart => exact ⟨0, Nat.zero_le _, rfl, zh (xr w), zh rfl⟩
  case round =>
   obtain ⟨wq, rfl⟩ : ∃ x : World, x = wr := ⟨_, rfl⟩
   obtain ⟨k, hk, rfl, HX, HE⟩ := hrel
   by_cases hlt : k < l.length
   ·have hltm : k < m.length := by rw [← HLM.out]; exact hlt
    obtain ⟨b, o, rfl, hc1⟩ := (HU.out.ext HX.out).at k hlt;obtain ⟨b2, o2, rfl, hc2⟩ := (HV.out.ext HX.out).at k hltm;have HL1 := zh (List.take_succ_eq_append_getElem hlt);have HL2 := zh (List.take_succ_eq_append_getElem hltm);have HNE : Hid (l[k] ≠ m[k] → l ≠ m) := fun h e => h (by subst e; rfl)
    generalize l[k] = x at *;generalize m[k] = y at *;clear hltm
    by_cases hxy : x = y
    ·subst hxy
     go_wp2_with fail
     go_quiet (fail)
     go_wp2_with fail
     go_roundw
     case rel => exact ⟨k + 1, hlt, by go_num, zh (HX.out.drewN _), zh (by rw [HL1.out, HL2.out, HE.out])⟩
     case measure => simp [intOf]; omega
    ·have hxy2 : ¬ ((x.toNat : Int) = y.toNat) := fun h => hxy (UInt8.toNat_inj.1 (by omega))
     go_wp2_with fail
     go_quiet (fail)
     go_wp2_with fail
     go_ret
     exact ⟨by rw [decide_eq_false (HNE.out hxy)]; rfl, HX.out.drewN _⟩
   ·have hke : k = l.length := by omega
    have HEQ := zh (show l = m by
     have h := HE.out;rw [hke, List.take_length, HLM.out, List.take_length] at h
     exact h)
    clear hke
    go_wp2_with fail
    go_ret
    exact ⟨by rw [decide_eq_true HEQ.out]; rfl, HX.out⟩
 ·have HNE : Hid (l ≠ m) := fun h => hlm (by rw [h])
  go_enter Tryz.func238, Tryz.ntmps238
  go_wp2_with fail
  go_ret
  exact ⟨by rw [decide_eq_false HNE.out]; rfl, xr w⟩
def zGk (fs : List (Af × Value)) (s : Str) : Option (Af × Value) := fs.find? fun x => x.1.path == s
def zM7 (o : Option (Af × Value)) : Value := match o with
 | some x => .tuple #[x.2, .bool true]
 | none => .tuple #[.slice none 0 0, .bool false]
theorem zPd (w : World) (a : Option Addr) (c : Nat) (s : Str) : Calls Tryz.prog 158 #[.slice a 0 c, .string (ba s)] w fun e w' => e = .returned (zM7 none) ∧ Ext w w' := by
 go_enter Tryz.func158, Tryz.ntmps158
 go_wp2_with fail
 go_loopw [12] (fun i wr => zBo w i wr) (fun _ _ => 0)
 case atStart => exact ⟨rfl, rfl⟩
 case round =>
  obtain ⟨rfl, rfl⟩ := hrel
  go_wp2_with fail
  go_ret2
  exact ⟨rfl, xr _⟩
def dat1 (w : World) (fs : List (Af × Value)) (s : Str) (i : Value) (wr : World) : Prop := (i = .int .i64 0 ∨ (i = .int .i64 1 ∧ Hid (zGk fs s = none))) ∧ Hid (Ext w wr)
def dat2 (w : World) (fs : List (Af × Value)) (s : Str) (i : Value) (wr : World) : Prop := ∃ k : Nat, k ≤ fs.length ∧ i = .int .i64 k ∧ Hid (zGk (fs.take k) s = none) ∧ Hid (Ext w wr)
theorem findA_next {fs : List (Af × Value)} {s : Str} {k : Nat} (hk : k < fs.length) (h : zGk (fs.take k) s = none) : zGk (fs.take (k + 1)) s = (if fs[k].1.path == s then some fs[k] else none) := by
 unfold zGk at *;rw [List.take_succ_eq_append_getElem hk, List.find?_append, h, List.find?_singleton];rfl
theorem findA_take {fs : List (Af × Value)} {s : Str} {k : Nat} {x : Af × Value} (h : zGk (fs.take k) s = some x) : zGk fs s = some x := by
 unfold zGk at *;rw [← List.take_append_drop k fs, List.find?_append, h];rfl
set_option maxHeartbeats 1000000 in
theorem zKs (w : World) {g gc d : Nat} {fv : Value} {fs : List (Af × Value)} (hc : ComeAt w g d fv fs) (s : Str) :
  Calls Tryz.prog 158 #[.slice (some ⟨g, 0, none⟩) 1 gc, .string (ba s)] w fun e w' => e = .returned (zM7 (zGk fs s)) ∧ Ext w w' := by
 obtain ⟨fa, fc, rfl⟩ := hc.files.form;have HC := zh hc;have hlen := hc.files.len;clear hc;go_enter Tryz.func158, Tryz.ntmps158
 go_wp2_with fail
 go_loopw [12] (fun i wr => dat1 w fs s i wr) (fun i _ => 1 - (intOf i).toNat)
 case atStart => exact ⟨.inl rfl, zh (xr w)⟩
 case round =>
  obtain ⟨wq, rfl⟩ : ∃ x : World, x = wr := ⟨_, rfl⟩
  obtain ⟨hi, XR⟩ := hrel
  rcases hi with rfl | ⟨rfl, HN⟩
  ·obtain ⟨r0, r1, r2, r3, r4, r5, rf⟩ := (HC.out.ext XR.out).cells6
   obtain ⟨W1, hW1⟩ : ∃ W1, W1 = wq.alloc (.cells #[.string (ba nmA), .string (ba (dig d)), .slice none 0 0, .slice none 0 0, .slice fa fs.length fc, .slice none 0 0] 35) := ⟨_, rfl⟩
   have X1 := zh (show Ext w W1 by rw [hW1]; exact XR.out.trans ((xr wq).alloc _))
   go_wp2_with fail
   rw [← hW1];clear hW1
   go_loopw [19] (fun i wr => dat2 W1 fs s i wr) (fun i _ => fs.length - (intOf i).toNat)
   case atStart => exact ⟨0, Nat.zero_le _, rfl, zh rfl, zh (xr _)⟩
   case round =>
    obtain ⟨wz, rfl⟩ : ∃ x : World, x = wr := ⟨_, rfl⟩
    obtain ⟨k, hk, rfl, HF, XZ⟩ := hrel
    by_cases hlt : k < fs.length
    ·obtain ⟨b, rfl, f0, f1, f2⟩ := (HC.out.files.ext (X1.out.trans XZ.out)).at k hlt;have HNX := zh (findA_next hlt HF.out);obtain ⟨xa, xcap, hxv⟩ := (HC.out.files.data _ (List.getElem_mem hlt)).form;have HTK := zh (fun x => findA_take (fs := fs) (s := s) (k := k + 1) (x := x));generalize fs[k] = x at *;obtain ⟨⟨xp, xc, xd⟩, xv⟩ := x;simp only at f0 f1 f2 hxv;subst hxv
     by_cases hxs : xp = s
     ·subst hxs;have HR := zh (HTK.out ⟨⟨xp, xc, xd⟩, .slice xa xd.length xcap⟩ (by rw [HNX.out]; simp))
      go_wp2_with fail
      go_ret2
      refine ⟨by rw [HR.out]; rfl, (X1.out.trans XZ.out).alloc _⟩
     ·have HR := zh (show zGk (fs.take (k + 1)) s = none by rw [HNX.out]; simp [hxs]);have hpb : (xp == s) = false := by simpa using hxs
      go_wp2_with fail
      go_roundw
      case rel => exact ⟨k + 1, hlt, by go_num, HR, zh (XZ.out.alloc _)⟩
      case measure => simp [intOf]; omega
    ·have HNN := zh (show zGk fs s = none by
      have h := HF.out
      rwa [List.take_of_length_le (by omega)] at h)
     go_wp2_with fail
     go_roundw
     case rel => exact ⟨.inr ⟨rfl, HNN⟩, zh (X1.out.trans XZ.out)⟩
     case measure => simp [intOf]
  ·go_wp2_with fail
   go_ret2
   exact ⟨by rw [HN.out]; rfl, XR.out⟩
theorem MvNe_any (w : World) {m x : Mv} {b : Nat} (hb : w.heap[b]? = some (.cells #[.int .i64 (m.kind : Nat), .string (ba m.path)] 262 (0, 0))) (hne : x ≠ m) :
  Calls Tryz.prog 287 #[.agg #[.int .i64 (x.kind : Nat), .string (ba x.path)], .pointer (some ⟨b, 0, none⟩)] w fun e w' => e = .returned (.bool false) ∧ Ext w w' := by
 obtain ⟨mk, mp⟩ := m;obtain ⟨xk, xp⟩ := x;simp only at *
 have hne2 : xk ≠ mk ∨ xp ≠ mp := by
  by_cases h : xk = mk
  ·right; rintro rfl; subst h; exact hne rfl
  ·exact .inl h
 have hq : (xk : Int) = mk → xp = mp → False := fun h h2 => hne2.elim (fun e => e (by omega)) (fun e => e h2)
 have hf := (zAu (((xr w).alloc (.cells #[.int .i64 (xk : Nat), .string (ba xp)] 262)).get hb))
 obtain ⟨f0, f1, ff⟩ := hf;have HQ := zh hq;clear hne hne2 hq hb;go_enter Tryz.func287, Tryz.ntmps287
 go_wp2_with fail
 all_goals go_ret
 all_goals refine ⟨?_, (xr w).alloc _⟩
 all_goals first
  | rfl
  | (exfalso; rename_i h1 h2; first | exact HQ.out h1 h2 | exact HQ.out h2 h1)
  | simp_all
theorem Index_mv (w : World) {base : Nat} {v : Value} {l : List Mv} (hv : ORow zEi w base v (l.map zBe)) (hl : l.length ≤ 1000) {m : Mv} {b : Nat} (hb : w.heap[b]? = some (.cells #[.int .i64 (m.kind : Nat), .string (ba m.path)] 262 (0, 0))) (hn : m ∉ l) :
  Calls Tryz.prog 316 #[v, .func (.func 287) #[] #[.pointer (some ⟨b, 0, none⟩)]] w fun e w' => e = .returned (.int .i64 (-1)) ∧ Ext w w' := by
 have HV := zh (hv.based (Nat.zero_le _));have HP : Hid (∀ x ∈ l, ∀ W, Ext w W → Calls Tryz.prog 287 #[.agg #[.int .i64 (x.kind : Nat), .string (ba x.path)], .pointer (some ⟨b, 0, none⟩)] W fun e w' => e = .returned (.bool false) ∧ Ext W w') := fun x hx W y => MvNe_any W (y.get hb) (fun e => hn (e ▸ hx))
 obtain ⟨a, c, rfl⟩ := hv.form;rw [List.length_map] at *;clear hb hn hv;go_enter Tryz.func316, Tryz.ntmps316
 go_wp2_with fail
 go_loopw [8] (fun i wr => zO4 w l.length i wr) (fun i _ => l.length - (intOf i).toNat)
 case atStart => exact ⟨0, Nat.zero_le _, rfl, zh (xr w)⟩
 case round =>
  obtain ⟨wq, rfl⟩ : ∃ x : World, x = wr := ⟨_, rfl⟩
  obtain ⟨k, hk, rfl, HX⟩ := hrel
  by_cases hlt : k < l.length
  ·obtain ⟨b', rfl, h0, h1⟩ := mv_at (HV.out.ext HX.out) k hlt;have HPk := zh (fun W x => HP.out _ (List.getElem_mem hlt) W (HX.out.trans x));generalize l[k] = x at *
   go_wp2_with (go_at_call 287; refine (HPk.out _ (xr _)).mono ?_; rintro e w2 ⟨rfl, x2⟩; have X2 := zh x2; clear x2)
   go_roundw
   case rel => exact ⟨k + 1, hlt, by go_num, zh (HX.out.trans X2.out)⟩
   case measure => simp [intOf]; omega
  ·go_wp2_with fail
   go_ret
   exact ⟨rfl, HX.out⟩
theorem Contains_mv (w : World) {base : Nat} {v : Value} {l : List Mv} (hv : ORow zEi w base v (l.map zBe)) (hl : l.length ≤ 1000) {m : Mv} {b : Nat} (hb : w.heap[b]? = some (.cells #[.int .i64 (m.kind : Nat), .string (ba m.path)] 262 (0, 0))) (hn : m ∉ l) :
  Calls Tryz.prog 286 #[v, .func (.func 287) #[] #[.pointer (some ⟨b, 0, none⟩)]] w fun e w' => e = .returned (.bool false) ∧ Ext w w' := by
 have HI := zh (Index_mv w hv hl hb hn);obtain ⟨a, c, rfl⟩ := hv.form;rw [List.length_map] at *;clear hb hn hv hl;generalize l.length = n at *;go_enter Tryz.func286, Tryz.ntmps286
 go_wp2_with (go_at_call 316; refine HI.out.mono ?_; rintro e w2 ⟨rfl, x2⟩; have X2 := zh x2; clear x2)
 go_ret
 exact ⟨rfl, X2.out⟩
def PlanR (w : World) (base p t bw bn : Nat) (cv : Value) (V : List (Pth × Nd)) (sh : List Pth) (was : Option En) (l : List Mv) : Prop := ∃ mv, PlanAt w p t bw bn cv V sh was mv ∧ ORow zEi w base mv (l.map zBe) ∧ base ≤ p
section
variable {w w' : World} {base p t bw bn : Nat} {cv mv : Value} {V : List (Pth × Nd)} {sh : List Pth} {was : Option En} {l : List Mv}
theorem PlanR.ext (h : PlanR w base p t bw bn cv V sh was l) (x : Ext w w') : PlanR w' base p t bw bn cv V sh was l := by
 obtain ⟨mv, h1, h2, h3⟩ := h;exact ⟨mv, h1.ext x, h2.ext x, h3⟩
theorem PlanAt.mut {B : Nat} {S : List Nat} (h : PlanAt w p t bw bn cv V sh was mv) (x : Mut B S w w') (hs : ∀ k ∈ S, k ∉ [0, 7, 87, 91, 260, 255]) : PlanAt w' p t bw bn cv V sh was mv :=
 ⟨x.get h.blk (fun e => hs _ e (by simp)), h.tree.mut x (fun k e h => hs k e (by
  simp only [List.mem_cons, List.not_mem_nil, or_false] at h ⊢
  omega)), h.base.mut x (fun e => hs _ e (by simp)) (fun e => hs _ e (by simp))⟩
theorem PlanR.push {mv' : Value} {m : Mv} (h : PlanAt w p t bw bn cv V sh was mv) (hb : base ≤ p) (x : Mut base [264] w w') (r : ORow zEi w' base mv' (l.map zBe ++ [zBe m])) :
  PlanR (w'.setCell ⟨p, 4, none⟩ mv') base p t bw bn cv V sh was (l ++ [m]) ∧ Mut base [255, 264] w (w'.setCell ⟨p, 4, none⟩ mv') := by
 have h1 := h.mut x (by simp);have x2 : Mut base [255] w' (w'.setCell ⟨p, 4, none⟩ mv') := zAi w' h1.blk mv' (by simp) hb;refine ⟨⟨mv', ⟨?_, h1.tree.mut x2 (by simp), h1.base.mut x2 (by simp) (by simp)⟩, ?_, hb⟩, (x.weak (Nat.le_refl _) (by simp)).trans (x2.weak (Nat.le_refl _) (by simp))⟩
 ·rw [zAd _ _ _ _ _ _ _ h1.blk]; rfl
 ·rw [List.map_append];exact r.mut x2 (by simp [zEi])
def zDj (w : World) (base p t bw bn : Nat) (cv : Value) (V : List (Pth × Nd)) (sh : List Pth) (was : Option En) (l : List Mv) (e : Ending) (w' : World) : Prop :=
 e = .returned (.bool true) ∧ PlanR w' base p t bw bn cv V sh was l ∧ Mut base [255, 264] w w'
theorem Dirs_one (h : PlanR w base p t bw bn cv V sh was l) {s x : Str} (hs : SplitOk s [x]) {mx : Int} (hmx : w.cell? ⟨0, 0, none⟩ = some (.int .i64 mx)) :
  Calls Tryz.prog 239 #[.pointer (some ⟨p, 0, none⟩), .string (ba s)] w (zDj w base p t bw bn cv V sh was l) := by
 have HS := zh (zE3 mx w hs hmx);have H := zh h;clear h hs hmx;go_enter Tryz.func239, Tryz.ntmps239
 go_wp2_with (go_at_call 49; refine HS.out.mono ?_; rintro e w2 ⟨v, rfl, o2, x2⟩; have X2 := zh x2; (obtain ⟨a, c, rfl, -⟩ := o2.row.form); clear o2 x2)
 go_loopw [7] (fun i wr => i = .int .i64 1 ∧ wr = w2) (fun _ _ => 0)
 case atStart => exact ⟨rfl, rfl⟩
 case round =>
  obtain ⟨rfl, rfl⟩ := hrel
  go_wp2_with fail
  go_ret
  exact ⟨rfl, H.out.ext X2.out, X2.out.mut⟩
def zK6 (x : Str) : Mv := ⟨0, 47 :: x⟩
def dirsRel (w w2 : World) (base p t bw bn : Nat) (cv : Value) (V : List (Pth × Nd)) (sh : List Pth) (was : Option En) (l l' : List Mv) (i : Value) (wr : World) : Prop :=
 (i = .int .i64 1 ∧ Hid (Ext w2 wr)) ∨ (i = .int .i64 2 ∧ Hid (PlanR wr base p t bw bn cv V sh was l') ∧ Hid (Mut base [255, 264] w wr))
end
end
end Go.Proofs.YtgnjjfdfoibdiaaGreatDoor
