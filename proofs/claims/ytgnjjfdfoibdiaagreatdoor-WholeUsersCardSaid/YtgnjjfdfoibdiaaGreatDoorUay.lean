/- A part of the proof of WholeUsers. -/
import Derived.Test.YtgnjjfdfoibdiaaGreatDoorUax
set_option linter.all false
namespace Go.Proofs.YtgnjjfdfoibdiaaGreatDoor
section
open Go.RowKit Go.Maps Go.Sort Go.Lib
set_option maxRecDepth 100000
structure Ob where
 mg : Nat
 v : Nat
 bm : Value
 nx : Value
 tx : Value
 come : Value
 was : Value
 now : Value
 stop : Value
 start : Value
 ran : Value
 tried : Value
 pl : Bool
 why : Int
 bad : Value
 lg : Value
def zAk (x : Ob) : Array Value := #[.pointer (some ⟨x.mg, 0, none⟩), .pointer (some ⟨x.v, 0, none⟩), x.bm, x.nx, x.tx, x.come, x.was, x.now, x.stop, x.start, x.ran, x.tried, .bool x.pl, .int .i64 x.why, x.bad, x.lg]
section
variable {w : World} {o : Nat} {x : Ob}
theorem zAe (h : w.heap[o]? = some (.cells (zAk x) 67 (0, 0))) (i : Nat) (v : Value) (hv : (zAk x)[i]? = some v) : w.cell? ⟨o, i, none⟩ = some v := by
 rw [zAb h];exact hv
theorem zPe (h : w.heap[o]? = some (.cells (zAk x) 67 (0, 0))) (ht : x.tx = .pointer none) :
  Calls Tryz.prog 17 #[.pointer (some ⟨o, 0, none⟩)] w fun e w' => e = .returned (.tuple #[.int .i64 0, .bool false]) ∧ w = w' := by
 have c4 := zAe h 4 x.tx rfl;have hf := zAl h;rw [ht] at c4;clear h ht;go_enter Tryz.func17, Tryz.ntmps17
 go_wp2_with fail
 go_ret2
 exact ⟨rfl, rfl⟩
theorem Phase_some (h : w.heap[o]? = some (.cells (zAk x) 67 (0, 0))) {q : Nat} (ht : x.tx = .pointer (some ⟨q, 0, none⟩)) {mv cv gv : Value} {t : Tx} (hq : w.heap[q]? = some (.cells (zBf mv cv gv t) 116 (0, 0))) :
  Calls Tryz.prog 17 #[.pointer (some ⟨o, 0, none⟩)] w fun e w' => e = .returned (.tuple #[.int .i64 (t.phase : Nat), .bool true]) ∧ w = w' := by
 have c4 := zAe h 4 x.tx rfl;have hf := zAl h;obtain ⟨q0, q1, q2, q3, q4, qf⟩ := zAw hq;rw [ht] at c4;clear h ht hq;go_enter Tryz.func17, Tryz.ntmps17
 go_wp2_with fail
 go_ret2
 exact ⟨rfl, rfl⟩
theorem zOh : Tryz.f12.results = #[.cell 2 52] := by kernel_rfl
theorem OBase_any (h : w.heap[o]? = some (.cells (zAk x) 67 (0, 0))) {b : Nat} (hb : x.bm = .map (some b)) :
  Calls Tryz.prog 12 #[.pointer (some ⟨o, 0, none⟩)] w fun e w' => e = .returned (.agg #[.map (some b)]) ∧ Ext w w' := by
 have c2 := zAe (((xr w).alloc (.cells #[.map none] 52)).get h) 2 x.bm rfl;have hf := zAl (((xr w).alloc (.cells #[.map none] 52)).get h);rw [hb] at c2;clear h hb;go_enter Tryz.func12, Tryz.ntmps12
 go_wp2_with fail
 refine bodyPost_ret (v := .agg #[.map (some b)]) (by simp [results, zOh, go_sem]) rfl ?_;exact ⟨rfl, (xr w).alloc _⟩
end
theorem zNq : Tryz.f139.results = #[.cell 4 52, .tmp 5] := by kernel_rfl
set_option maxHeartbeats 1000000 in
theorem Load_nil {w : World} {B v c : Nat} {V : List (Pth × Nd)} {sh : List Pth} (h : VolAt w B v V sh c) (hc : c ≤ 1000) (hV : V.length ≤ 1000) {d : Str} {ns : Pth} (hs : SplitOk d ns) (hd : zGl V ns = true) (hk : ∀ x, look V (ns ++ [x]) = none) {mx : Int} (hmx : w.cell? ⟨0, 0, none⟩ = some (.int .i64 mx)) :
  Calls Tryz.prog 139 #[.pointer (some ⟨v, 0, none⟩), .string (ba d)] w (zOl w) := by
 obtain ⟨t, l, hb, hv, ht⟩ := h.read hc hV;have XW : Hid (Ext w (w.alloc (.cells #[.map none] 52))) := (xr w).alloc _;obtain ⟨c0, -⟩ := zAw (XW.out.get hv.blk);have hf := zAl (XW.out.get hv.blk);have B4 := zh (heap_alloc_new w (.cells #[.map none] 52))
 have HL : Hid (∀ U, Ext w U → Calls Tryz.prog 217 #[.pointer (some ⟨t, 0, none⟩), .string (ba d)] U (fun e w' => ∃ a c, e = .returned (.tuple #[.slice a 0 c, .int .i64 0]) ∧ Ext U w')) := fun U x => (VList_any (ht.ext x) hs (x.cell hmx) hd (ks := []) List.nodup_nil (fun y => by simp [hk y]) (by simp)).mono fun e w' hh => by
  obtain ⟨u, e1, o1, x1⟩ := hh;obtain ⟨a, c, rfl⟩ := zAj o1;exact ⟨a, c, by simpa [zCx] using e1, x1⟩
 have HU := zh Unpack_nil;clear h hc hV hv ht hs hd hk hmx;go_enter Tryz.func139, Tryz.ntmps139
 go_wp2_with (go_at_call 217; refine (HL.out _ XW.out).mono ?_; rintro e w2 ⟨a2, c2, rfl, x2⟩; have X2 := zh (XW.out.trans x2); have Y2 := zh x2; clear x2)
 go_loopw [6, 26] (fun v i wr => v = .slice none 0 0 ∧ i = .int .i64 0 ∧ wr = w2) (fun _ _ _ => 0)
 case atStart => exact ⟨rfl, rfl, rfl⟩
 case round =>
  obtain ⟨rfl, rfl, rfl⟩ := hrel
  go_wp2_with (go_at_call 218; refine (HU.out _).mono ?_; rintro e w3 ⟨bd, rfl, b3, s3, x3⟩; have X3 := zh x3; have BM := zh b3; have S3 := zh s3; have e4 := (x3.alloc (.cells #[.map (some bd)] 52)).get (Y2.out.get B4.out); have E4 := zh e4; (obtain ⟨q0, qf⟩ := zDl e4); have F3 := heap_alloc_new w3 (.cells #[.map (some bd)] 52); (obtain ⟨r0, rf⟩ := zDl F3); clear x3 b3 s3 e4 F3)
  have m4 := zAi (B := w.heap.size) (T := [54]) (i := 0) (w3.alloc (.cells #[.map (some bd)] 52)) E4.out (.map (some bd)) (by simp) (Nat.le_refl _);have hx : Ext w (w3.alloc (.cells #[.map (some bd)] 52)) := X2.out.trans (X3.out.alloc _);refine bodyPost_ret (v := .tuple #[.agg #[.map (some bd)], .int .i64 0]) (by simp [results, zNq, go_sem, q0]) rfl ?_;exact ⟨bd, rfl, (BM.out.ext ((xr w3).alloc _)).mut m4 (by simp) (by simp), Nat.le_trans X2.out.sz S3.out, hx.then_mut m4 (Nat.le_refl _)⟩
theorem Recover_none {w : World} {B o c : Nat} {x : Ob} {V : List (Pth × Nd)} {sh : List Pth} (ho : w.heap[o]? = some (.cells (zAk x) 67 (0, 0))) (h : VolAt w B x.v V sh c) (hc : c ≤ 1000) (hV : V.length ≤ 1000) (hs : SplitOk zCa zI6) (hl : look V zI6 = none) {mx : Int} (hmx : w.cell? ⟨0, 0, none⟩ = some (.int .i64 mx)) :
  Calls Tryz.prog 140 #[.pointer (some ⟨o, 0, none⟩)] w fun e w' => e = .returned (.int .i64 0) ∧ Ext w w' := by
 obtain ⟨t, l, hb, hv, ht⟩ := h.read hc hV;obtain ⟨c0, -⟩ := zAw hv.blk;have c1 := zAe ho 1 (.pointer (some ⟨x.v, 0, none⟩)) rfl
 have HR : Hid (Calls Tryz.prog 10 #[.pointer (some ⟨t, 0, none⟩), .string (ba zCa)] w (fun e w' => e = .returned (.tuple #[.slice none 0 0, .int .i64 8]) ∧ Ext w w')) := (zB7 ht hs hmx).mono fun e w' hh => by
  unfold zCh at hh;rw [hl] at hh;simpa [and_comm] using hh
 clear ho h hc hV hv ht hs hl hmx;go_enter Tryz.func140, Tryz.ntmps140
 go_wp2_with (go_at_call 10; refine HR.out.mono ?_; rintro e w2 ⟨rfl, x2⟩; have X2 := zh x2; clear x2)
 go_ret
 exact ⟨rfl, X2.out⟩
def nDb : Pth := [[118, 97, 114], [100, 98]]
def ob0 (m v b : Nat) : Ob := ⟨m, v, .map (some b), .map none, .pointer none, .slice none 0 0, .pointer none, .pointer none, .slice none 0 0, .slice none 0 0, .slice none 0 0, .slice none 0 0, false, 0, .slice none 0 0, .slice none 0 0⟩
def obZ (m v : Nat) : Ob := { ob0 m v 0 with bm := .map none }
def orchOpen (w : World) (B v m c : Nat) (V : List (Pth × Nd)) (sh : List Pth) (e : Ending) (w' : World) : Prop :=
 ∃ o b g, e = .returned (.tuple #[.pointer (some ⟨o, 0, none⟩), .int .i64 0]) ∧ w'.heap[o]? = some (.cells (zAk (ob0 m v b)) 67 (0, 0)) ∧ VolAt w' B v V sh c ∧ MgrE w' m g ∧ BaseM w' b none ∧ w.heap.size ≤ o ∧ Mut B (69 :: 125 :: zBj) w w'
theorem doVW {w : World} {B v c : Nat} {V V' : List (Pth × Nd)} {sh sh' : List Pth} (h : VolAt w B v V sh c) (hB : B ≤ w.heap.size) (hc : c < 110) {ops : List OpP} (hd : DoOk V sh ops V' sh') {mx : Int} (hmx : w.cell? ⟨0, 0, none⟩ = some (.int .i64 mx)) {ov : Value} {l : List (OpP × Value)} {base : Nat} (ho : OpsW w base ov l) (hl : l.map Prod.fst = ops) :
  Calls Tryz.prog 29 #[.pointer (some ⟨v, 0, none⟩), ov] w (zIk w B v V' sh' (c + 1)) := by
 subst hl;refine VDo_any h hB hc ho (fun x hx => hd.ok _ (List.mem_map_of_mem hx)) hd.step ?_ hd.len hmx;have := hd.few
 rwa [List.length_map] at this
theorem doV {w : World} {B v c : Nat} {V V' : List (Pth × Nd)} {sh sh' : List Pth} (h : VolAt w B v V sh c) (hB : B ≤ w.heap.size) (hc : c < 110) {ops : List OpP} (hd : DoOk V sh ops V' sh') {mx : Int} (hmx : w.cell? ⟨0, 0, none⟩ = some (.int .i64 mx)) {ov : Value} {l : List (OpP × Value)} {base : Nat} (ho : OwnOps w base ov l) (hl : l.map Prod.fst = ops) :
  Calls Tryz.prog 29 #[.pointer (some ⟨v, 0, none⟩), ov] w (zIk w B v V' sh' (c + 1)) := doVW h hB hc hd hmx ho.weak hl
theorem Open_new {w : World} {B v m g0 c : Nat} {V V' : List (Pth × Nd)} {sh sh' : List Pth} (h : VolAt w B v V sh c) (hB : B ≤ w.heap.size) (h0 : 0 < B) (hBm : B ≤ m) (hc : c < 110) (hV : V.length ≤ 40) (hV' : V'.length ≤ 40) (hm : MgrE w m g0) (hs : SplitOk pDb nDb) (hst : SplitOk zCa zI6) (hd0 : zGl V nDb = false) (hdo : DoOk V sh layOps V' sh') (hd1 : zGl V' nDb = true) (hk : ∀ x, look V' (nDb ++ [x]) = none) (hl : look V' zI6 = none) {mx : Int} (hmx : w.cell? ⟨0, 0, none⟩ = some (.int .i64 mx)) :
  Calls Tryz.prog 60 #[.pointer (some ⟨v, 0, none⟩), .pointer (some ⟨m, 0, none⟩)] w (orchOpen w B v m (c + 1) V' sh') := by
 obtain ⟨W, hW⟩ : ∃ W, W = w.alloc (.cells (zAk (obZ m v)) 67) := ⟨_, rfl⟩
 have XW := zh (show Ext w W by rw [hW]; exact (xr w).alloc _);have BW := zh (show W.heap[w.heap.size]? = some (.cells (zAk (obZ m v)) 67 (0, 0)) by rw [hW]; exact heap_alloc_new w _);obtain ⟨t, l, hb, hv, ht⟩ := h.read (by omega) (by omega)
 have HD0 : Hid (∀ U, Ext w U → Calls Tryz.prog 137 #[.pointer (some ⟨t, 0, none⟩), .string (ba pDb)] U (fun e w' => e = .returned (.bool false) ∧ Ext U w')) := fun U x => by
  have := VDir_any (ht.ext x) hs (x.cell hmx)
  rwa [hd0] at this
 have KV : Hid (∀ U, Ext w U → _) := fun U x => zAw (x.get hv.blk)
 obtain ⟨v0, v1, v2, v3, v4, vf⟩ := KV.out _ XW.out;have HDO : Hid (∀ U ov l base, Ext w U → OwnOps U base ov l → l.map Prod.fst = layOps → Calls Tryz.prog 29 #[.pointer (some ⟨v, 0, none⟩), ov] U (zIk U B v V' sh' (c + 1))) := fun U ov l base x ho hl => doV (h.mut x.mut (B' := 0) (S := []) (by simp)) (Nat.le_trans hB x.sz) hc hdo (x.cell hmx) ho hl
 have HM := zh hm;have HBB := zh hB;have HMX := zh hmx;clear h hB hm hdo hd0 hv ht hmx;go_enter Tryz.func60, Tryz.ntmps60
 go_upto_region 2 with fail
 have e2 : w.alloc (.cells #[.pointer (some ⟨m, 0, none⟩), .pointer (some ⟨v, 0, none⟩), .map none, .map none, .pointer none, .slice none 0 0, .pointer none, .pointer none, .slice none 0 0, .slice none 0 0, .slice none 0 0, .slice none 0 0, .bool false, .int .i64 0, .slice none 0 0, .slice none 0 0] 67) = W := hW.symm;rw [e2];clear e2 hW
 go_upto_region 7 with (first
  | (go_at_call 137; refine (HD0.out _ XW.out).mono ?_; rintro e w2 ⟨rfl, x2⟩; have X2 := zh (XW.out.trans x2); have Y2 := zh x2; clear x2)
  | (go_at_call 138; refine (Layout_any _).mono ?_; rintro e w3 ⟨v3, l3, rfl, o3, hl3, x3⟩; have X3 := zh (X2.out.trans x3); have Y3 := zh (Y2.out.trans x3); have O3 := zh o3; have L3 := zh hl3; (obtain ⟨a3, c3, hv3, -⟩ := o3.form); subst hv3; clear o3 hl3 x3)
  | (go_at_call 29; refine (HDO.out _ _ _ _ X3.out O3.out L3.out).mono ?_; rintro e w4 ⟨rfl, hv4, m4⟩; have V4 := zh hv4; have M4 := zh m4; clear hv4 m4))
 have HB3 := zh (Nat.le_trans HBB.out X3.out.sz);have B4 := zh (M4.out.get (Y3.out.get BW.out));have hmx4 : w4.cell? ⟨0, 0, none⟩ = some (.int .i64 mx) := ((M4.out.below HB3.out).cell h0).trans (X3.out.cell HMX.out);have HLD := zh (Load_nil V4.out (by omega) (by omega) hs hd1 hk hmx4)
 have HRC : Hid (∀ U, VolAt U B v V' sh' (c + 1) → ∀ x : Ob, x.v = v → U.heap[w.heap.size]? = some (.cells (zAk x) 67 (0, 0)) → U.cell? ⟨0, 0, none⟩ = some (.int .i64 mx) → Calls Tryz.prog 140 #[.pointer (some ⟨w.heap.size, 0, none⟩)] U (fun e w' => e = .returned (.int .i64 0) ∧ Ext U w')) := fun U hU x hx hb hm => by
  subst hx;exact Recover_none hb hU (by omega) (by omega) hst hl hm
 clear hs hst hd1 hk hl
 go_upto_region 10 with (go_at_call 139; refine HLD.out.mono ?_; rintro e w5 ⟨b5, rfl, bm5, s5, x5⟩; have X5 := zh x5; have BM5 := zh bm5; have B5 := zh (x5.get B4.out); have S5 := zh s5; (have hf5 := zAl (x5.get B4.out)); (have hc5 := zAe (x5.get B4.out) 2 (.map none) rfl); clear bm5 s5 x5)
 obtain ⟨W6, hW6⟩ : ∃ W6, W6 = w5.setCell ⟨w.heap.size, 2, none⟩ (.map (some b5)) := ⟨_, rfl⟩
 have M6 := zh (show Mut B [69] w5 W6 by rw [hW6]; exact zAi w5 B5.out _ (by simp) HBB.out)
 have B6 := zh (show W6.heap[w.heap.size]? = some (.cells (zAk (ob0 m v b5)) 67 (0, 0)) by
  rw [hW6, zAd _ _ _ _ _ _ _ B5.out]; rfl)
 have V6 := zh ((V4.out.mut X5.out.mut (B' := 0) (S := []) (by simp)).mut M6.out (by decide));have BM6 := zh (BM5.out.mut M6.out (by simp) (by simp));have hmx6 : W6.cell? ⟨0, 0, none⟩ = some (.int .i64 mx) := ((M6.out.below (Nat.le_trans HB3.out (Nat.le_trans M4.out.size X5.out.sz))).cell h0).trans (X5.out.cell hmx4);have HR6 := zh (HRC.out W6 V6.out (ob0 m v b5) rfl B6.out hmx6);rw [← hW6];clear HRC hmx6 hmx4 hc5 hf5 v0 v1 v2 v3 v4 vf hW6
 go_upto_region 13 with (go_at_call 140; refine HR6.out.mono ?_; rintro e w7 ⟨rfl, x7⟩; have X7 := zh x7; (have hc7 := zAe (x7.get B6.out) 2 (.map (some b5)) rfl); (have hf7 := zAl (x7.get B6.out)); clear x7)
 have HUN : Hid (Calls Tryz.prog 94 #[.agg #[.map (some b5)]] w7 (fun e w' => ∃ g, e = .returned (.tuple #[.pointer (some ⟨g, 0, none⟩), .agg #[.int .i64 0, .string ⟨#[]⟩, .string ⟨#[]⟩]]) ∧ GraphE w' g ∧ w7.heap.size ≤ g ∧ Ext w7 w')) := Units_any w7 (BM6.out.ext X7.out);have HM7 := zh (((((HM.out.ext X3.out).mut M4.out (by decide)).ext X5.out).mut M6.out (by decide)).ext X7.out);have HBM := zh hBm
 go_wp2_with (first
  | (go_at_call 94; refine HUN.out.mono ?_; rintro e w8 ⟨g8, rfl, gr8, s8, x8⟩; have X8 := zh (x8.alloc (.cells #[.int .i64 0, .string ⟨#[]⟩, .string ⟨#[]⟩] 38)); have G8 := zh (gr8.ext ((xr w8).alloc (.cells #[.int .i64 0, .string ⟨#[]⟩, .string ⟨#[]⟩] 38))); clear gr8 s8 x8)
  | (go_at_call 141; refine (MSet_any (HM7.out.ext X8.out) G8.out HBM.out).mono ?_; rintro e w9 ⟨rfl, hm9, m9⟩; have HM9 := zh hm9; have M9 := zh m9; clear hm9 m9))
 go_ret2
 refine ⟨w.heap.size, b5, g8, rfl, M9.out.get (X8.out.get (X7.out.get B6.out)), ((V6.out.mut X7.out.mut (B' := 0) (S := []) (by simp)).mut X8.out.mut (B' := 0) (S := []) (by simp)).mut M9.out (by decide), HM9.out, ((BM6.out.ext X7.out).ext X8.out).mut M9.out (by simp) (by simp), Nat.le_refl _, ?_⟩;have q4 := M4.out.weak (T' := 69 :: 125 :: zBj) (Nat.le_refl B) (fun t ht => by simp [ht]);have q6 := M6.out.weak (T' := 69 :: 125 :: zBj) (Nat.le_refl B) (fun t ht => by simp at ht; simp [ht]);have q9 := M9.out.weak (T' := 69 :: 125 :: zBj) (Nat.le_refl B) (fun t ht => by simp at ht; simp [ht]);exact (((((X3.out.mut.trans q4).trans X5.out.mut).trans q6).trans X7.out.mut).trans X8.out.mut).trans q9
theorem mset1 {V0 V : World} {b : Nat} {t : TypeId} (m : Mut b [t + 2] V0 V ∧ ∃ cs, V.heap[b]? = some (.cells cs t (0, 0))) (i : Nat) (u : Value) : Mut b [t + 2] V0 (V.setCell ⟨b, i, none⟩ u) ∧ ∃ cs, (V.setCell ⟨b, i, none⟩ u).heap[b]? = some (.cells cs t (0, 0)) := zD1 (cs := #[]) m i u
theorem Mut.to {B : Nat} {T T' : List Nat} {a b : World} (h : Mut B T a b) (hs : T.all (fun t => T'.contains t) = true) : Mut B T' a b :=
 h.weak (Nat.le_refl _) (fun t ht => by have := List.all_eq_true.1 hs t ht; simpa using this)
theorem VIs.shrink {T : Tr} {V : List (Pth × Nd)} {sh sh' : List Pth} (h : VIs T V sh) (hs : ∀ p ∈ sh, p ∉ sh' → look V p = none) : VIs T V sh' := by
 refine ⟨h.wf, h.val, h.vnd, fun p q i hp h1 h2 => ?_⟩
 by_cases hm : p ∈ sh
 ·have := h.absent (hs p hm hp);rw [this] at h1; cases h1
 ·exact h.uniq p q i hm h1 h2
theorem VolAt.shrink {w : World} {B v c : Nat} {V : List (Pth × Nd)} {sh sh' : List Pth} (h : VolAt w B v V sh c) (hs : ∀ p ∈ sh, p ∉ sh' → look V p = none) : VolAt w B v V sh' c := by
 obtain ⟨hb, t, l, hb', g, kb, lv, D, L, h1, h2, h3, n, m, mb, pb, kb2, dv, T, h4, h5, h6⟩ := h;exact ⟨hb, t, l, hb', g, kb, lv, D, L, h1, h2, h3, n, m, mb, pb, kb2, dv, T, h4, h5.shrink hs, h6⟩
def okB (o : OpP) : Bool := pathB o.path && (!(o.kind == 4 || o.kind == 5) || pathB o.to) && decide (o.to.length ≤ 1000)
theorem OpOk.of {o : OpP} (h : okB o = true) (hd : o.data.length ≤ 500) : OpOk o := by
 unfold okB at h;simp only [Bool.and_eq_true, decide_eq_true_eq, Bool.or_eq_true, Bool.not_eq_true', Bool.or_eq_false_iff, beq_eq_false_iff_ne] at h;exact ⟨PathOk.of h.1.1, fun hk => PathOk.of (h.1.2.resolve_left fun hn => hk.elim hn.1 hn.2), hd, h.2⟩
def opSz (o : OpP) : Nat := 16 + o.path.length + o.to.length + o.data.length
theorem zMp : ∀ l : List OpP, (zC6 l).length = (l.map opSz).sum
 | [] => rfl
 | o :: r => by
   have ih := zMp r;unfold zC6 at ih ⊢;rw [List.flatMap_cons, List.flatten_append, List.length_append, ih];simp [zEt, zBk, zE9, zBa, opSz]; omega
theorem DoOk.of {V : List (Pth × Nd)} {sh : List Pth} {ops : List OpP} {V' : List (Pth × Nd)} {sh' : List Pth} (os : List OpP) (he : ops = os) (h1 : os.all okB = true) (h2 : ∀ o ∈ os, o.data.length ≤ 500) (h3 : opsV V sh os = some (V', sh')) (h4 : decide (V.length + os.length ≤ 40) = true) (h5 : (os.map opSz).sum ≤ 799) : DoOk V sh ops V' sh' := by
 subst he;refine ⟨fun o ho => OpOk.of (List.all_eq_true.1 h1 o ho) (h2 o ho), h3, by simpa using h4, ?_⟩;rw [zMp]; exact h5
theorem txB_len {t : Tx} (h : TxOk t) (hp : ∀ m ∈ t.mv, m.path.length ≤ 40) : (txB t).length ≤ 20 + 48 * t.mv.length + 16 * (t.come.length + t.gone.length) := by
 have h1 := zGg t.mv hp;have h2 := zFr t.come fun n hn => zEu (h.name n (by simp [hn]))
 have h3 := zFr t.gone fun n hn => zEu (h.name n (by simp [hn]))
 simp only [txB, zJ2, zCz, zE9, List.flatten_cons, List.flatten_nil, List.append_nil, List.length_append, zBa];omega
def zG1 (V : List (Pth × Nd)) (d : Pth) : List Str := V.filterMap fun e => if e.1 = [] then none else if e.1.dropLast = d then some (e.1.getLastD []) else none
theorem kids_mem {V : List (Pth × Nd)} {d : Pth} {x : Str} : x ∈ zG1 V d ↔ (look V (d ++ [x])).isSome = true := by
 rw [← mem_keys];unfold zG1;simp only [List.mem_filterMap, List.mem_map];constructor
 ·rintro ⟨e, he, h⟩
  by_cases h1 : e.1 = []
  ·rw [if_pos h1] at h; cases h
  ·rw [if_neg h1] at h
   by_cases h2 : e.1.dropLast = d
   ·rw [if_pos h2] at h;refine ⟨e, he, ?_⟩;rw [← h2];have h3 := List.dropLast_concat_getLast h1
    have h4 : e.1.getLastD [] = e.1.getLast h1 := by
     rw [List.getLastD_eq_getLast?, List.getLast?_eq_some_getLast h1]; rfl
    rw [h4] at h;cases h;exact h3.symm
   ·rw [if_neg h2] at h; cases h
 ·rintro ⟨e, he, h⟩;refine ⟨e, he, ?_⟩;rw [h];simp
theorem zO2 : ∀ {V : List (Pth × Nd)} (_ : (V.map Prod.fst).Nodup) (d : Pth), (zG1 V d).Nodup
 | [], _, d => by simp [zG1]
 | e :: r, h, d => by
   rw [List.map_cons, List.nodup_cons] at h;have ih := zO2 h.2 d;unfold zG1 at ih ⊢;rw [List.filterMap_cons]
   by_cases h1 : e.1 = []
   ·rw [if_pos h1]; exact ih
   ·rw [if_neg h1]
    by_cases h2 : e.1.dropLast = d
    ·rw [if_pos h2];refine List.nodup_cons.2 ⟨fun hm => h.1 ?_, ih⟩;have hm2 : e.1.getLastD [] ∈ zG1 r d := hm;rw [kids_mem, ← mem_keys] at hm2
     have h4 : e.1.getLastD [] = e.1.getLast h1 := by
      rw [List.getLastD_eq_getLast?, List.getLast?_eq_some_getLast h1]; rfl
     rw [h4, ← h2, List.dropLast_concat_getLast h1] at hm2;exact hm2
    ·rw [if_neg h2]; exact ih
theorem zL1 {l : List Str} (h : l.Pairwise fun a b => leS a b = true) : zCx l = l := zIz (zJ6 l) (zHe l) h
def lsV (V : List (Pth × Nd)) (d : Str) : List Str := zCx (zG1 V (names d))
theorem lsV_of {V : List (Pth × Nd)} {d : Str} {l : List Str} (h : zG1 V (names d) = l) (hs : l.Pairwise fun a b => leS a b = true) : l = lsV V d := by
 unfold lsV; rw [h, zL1 hs]
def zK7 (t : Tx) : List OpP := (t.come.map fun s => ⟨5, sub zIu s, sub pDb s, []⟩) ++ t.gone.map fun s => ⟨6, sub pDb s, [], []⟩
def zLc : List OpP → List OpP → List OpP
 | ops, [] => ops
 | ops, x :: r => zLc (if ops.any (fun y => decide (y.path = x.path)) then ops else ops ++ [x]) r
structure LsOk (V : List (Pth × Nd)) (ls : Str → List Str) : Prop where
 eq : ∀ d ∈ dirs3, ls d = lsV V d
 dir : ∀ d ∈ dirs3, zGl V (names d) = true
 few : ∀ d ∈ dirs3, (ls d).length ≤ 10 ∧ ∀ s ∈ ls d, s.length ≤ 100
inductive Runs (fs : List Af) : List (Pth × Nd) → List Pth → Tx → List (Pth × Nd) → List Pth → Nat → Prop
 | stage {V sh t V1 sh1 V' sh' n} : t.phase = 0 → (h : t.at_ < t.mv.length) → DoOk V sh (zDm t.at_ t.mv[t.at_] (zJg fs t.mv[t.at_].path) ++ [zFn V { t with at_ := t.at_ + 1 }]) V1 sh1 → Runs fs V1 sh1 { t with at_ := t.at_ + 1 } V' sh' n → Runs fs V sh t V' sh' (n + 1)
 | swap {V sh t V1 sh1 V' sh' n} : t.phase = 1 → (h : t.at_ < t.mv.length) → DoOk V sh (zJf V t.at_ t.mv[t.at_] ++ [zFn V { t with at_ := t.at_ + 1 }]) V1 sh1 → Runs fs V1 sh1 { t with at_ := t.at_ + 1 } V' sh' n → Runs fs V sh t V' sh' (n + 1)
 | turn {V sh t V1 sh1 V' sh' n} : t.phase ≤ 1 → t.at_ = t.mv.length → DoOk V sh [zFn V { t with phase := t.phase + 1, at_ := 0 }] V1 sh1 → Runs fs V1 sh1 { t with phase := t.phase + 1, at_ := 0 } V' sh' n → Runs fs V sh t V' sh' (n + 1)
 | done {V sh t V' sh'} (ls : Str → List Str) : t.phase = 2 → LsOk V ls → DoOk V sh (zLc (zK7 t) (zDk ls (look V zI6).isSome)) V' sh' → Runs fs V sh t V' sh' 1
def zL6 (w : World) (B o c : Nat) (x : Ob) (V : List (Pth × Nd)) (sh : List Pth) (t : Tx) (mv cv gv : Value) (e : Ending) (w' : World) : Prop :=
 ∃ q, e = .returned (.int .i64 0) ∧ w'.heap[o]? = some (.cells (zAk { x with tx := .pointer (some ⟨q, 0, none⟩) }) 67 (0, 0)) ∧ w'.heap[q]? = some (.cells (zBf mv cv gv t) 116 (0, 0)) ∧ VolAt w' B x.v V sh c ∧ w.heap.size ≤ q ∧ Mut B (69 :: 98 :: zBj) w w'
def keepS (o b : Nat) (x : Ob) (mv cv gv : Value) (t : Tx) (U : World) : Prop := U.cell? ⟨o, 1, none⟩ = some (.pointer (some ⟨x.v, 0, none⟩)) ∧ U.cell? ⟨b, 0, none⟩ = some (.int .i64 (t.phase : Nat)) ∧ U.cell? ⟨b, 1, none⟩ = some (.int .i64 (t.at_ : Nat)) ∧ U.cell? ⟨b, 2, none⟩ = some mv ∧ U.cell? ⟨b, 3, none⟩ = some cv ∧ U.cell? ⟨b, 4, none⟩ = some gv
theorem zPu {o b : Nat} {x : Ob} {mv cv gv : Value} {t : Tx} {U : World} (h1 : U.heap[o]? = some (.cells (zAk x) 67 (0, 0))) (h2 : U.heap[b]? = some (.cells (zBf mv cv gv t) 116 (0, 0))) : keepS o b x mv cv gv t U := by
 obtain ⟨q0, q1, q2, q3, q4, -⟩ := zAw h2;exact ⟨zAe h1 1 _ rfl, q0, q1, q2, q3, q4⟩
theorem keep_data {w w3 w10 : World} {base : Nat} {ov v3 : Value} {l : List (OpP × Value)} {b : List UInt8} {k : Nat} {p : Str} (h : OwnOps w base ov l) (x : Ext w w3) (f : OwnBytes w3 0 v3 b) (m : Mut base [98] w3 w10) : ∀ y ∈ l ++ [(⟨k, p, [], b⟩, v3)], DataIs w10 y.2 y.1.data := by
 intro y hy
 rcases List.mem_append.1 hy with hy | hy
 ·exact ((h.data y hy).ext x).mut m (by decide)
 ·rw [List.mem_singleton] at hy;subst hy;exact .inl (m.own f)
set_option maxHeartbeats 2000000 in
theorem zMa {w : World} {B o c base : Nat} {x : Ob} {V V' : List (Pth × Nd)} {sh sh' : List Pth} {t : Tx} {mv cv gv ov : Value} {l : List (OpP × Value)} {ops : List OpP} (ho : w.heap[o]? = some (.cells (zAk x) 67 (0, 0))) (hv : VolAt w B x.v V sh c) (hBo : B ≤ o) (hB : B ≤ w.heap.size) (h0 : 0 < B) (hbase : B ≤ base) (hbase2 : base ≤ w.heap.size) (hc : c < 110) (hV : V.length ≤ 40) (ht : TxV w mv cv gv t) (hok : TxOk t) (hops : OwnOps w base ov l) (hl : l.map Prod.fst = ops) (hll : l.length ≤ 40) (hs : SplitOk zCa zI6)
  (hd : DoOk V sh (ops ++ [zFn V t]) V' sh') {mx : Int} (hmx : w.cell? ⟨0, 0, none⟩ = some (.int .i64 mx)) :
  Calls Tryz.prog 101 #[.pointer (some ⟨o, 0, none⟩), .agg (zBf mv cv gv t), ov] w (zL6 w B o (c + 1) x V' sh' t mv cv gv) := by
 obtain ⟨tr, lg, hb, hvb, htr⟩ := hv.read (by omega) (by omega);have HTT := zh ht;obtain ⟨a, n1, a1, n2, a2, n3, rfl, rfl, rfl⟩ := ht.form;have HOO := zh hops;obtain ⟨oa, oc, rfl, -⟩ := hops.form
 obtain ⟨W, hW⟩ : ∃ W, W = w.alloc (.cells (zBf (.slice a t.mv.length n1) (.slice a1 t.come.length n2) (.slice a2 t.gone.length n3) t) 116) := ⟨_, rfl⟩
 have XW := zh (show Ext w W by rw [hW]; exact (xr w).alloc _);have BW := zh (show W.heap[w.heap.size]? = some (.cells (zBf (.slice a t.mv.length n1) (.slice a1 t.come.length n2) (.slice a2 t.gone.length n3) t) 116 (0, 0)) by rw [hW]; exact heap_alloc_new w _);have HO := zh ho;have c1 := zAe (XW.out.get ho) 1 (.pointer (some ⟨x.v, 0, none⟩)) rfl;have KV : Hid (∀ U, Ext w U → _) := fun U x => zAw (x.get hvb.blk)
 obtain ⟨v0, v1, v2, v3, v4, vf⟩ := KV.out _ XW.out;have HF := zh (zJl (htr.ext XW.out) hs (XW.out.cell hmx));have HVV := zh hv;have HMX := zh hmx;have HB := zh hB;have HBO := zh hBo;have HPK : Hid (∀ U, Ext w U → Calls Tryz.prog 165 #[.agg (zBf (.slice a t.mv.length n1) (.slice a1 t.come.length n2) (.slice a2 t.gone.length n3) t)] U (zAy U (txB t))) := fun U x => TxPack_any U (HTT.out.ext x) hok
 have HDO : Hid (∀ U u lz, VolAt U B x.v V sh c → w.heap.size ≤ U.heap.size → U.cell? ⟨0, 0, none⟩ = some (.int .i64 mx) → OwnOps U base u lz → lz.map Prod.fst = ops ++ [zFn V t] → Calls Tryz.prog 29 #[.pointer (some ⟨x.v, 0, none⟩), u] U (zIk U B x.v V' sh' (c + 1))) := fun U u lz h1 h2 h3 h4 h5 => doV h1 (Nat.le_trans hB h2) hc hd h3 h4 h5
 have KS : Hid (∀ U, Ext W U → keepS o w.heap.size x (.slice a t.mv.length n1) (.slice a1 t.come.length n2) (.slice a2 t.gone.length n3) t U) := fun U y => zPu (y.get (XW.out.get ho)) (y.get BW.out)
 have KM : Hid (∀ U U', Ext W U → Mut base [98] U U' → keepS o w.heap.size x (.slice a t.mv.length n1) (.slice a1 t.come.length n2) (.slice a2 t.gone.length n3) t U') := fun U U' y m => zPu (m.get (y.get (XW.out.get ho))) (m.get (y.get BW.out))
 have KD : Hid (∀ U U' U2, Ext W U → Mut base [98] U U' → Mut B zBj U' U2 → keepS o w.heap.size x (.slice a t.mv.length n1) (.slice a1 t.come.length n2) (.slice a2 t.gone.length n3) t U2) := fun U U' U2 y m m2 => zPu (m2.get (m.get (y.get (XW.out.get ho)))) (m2.get (m.get (y.get BW.out)))
 have HLL := zh hl;have HLN := zh hll;have HB2 := zh hbase2;have HBS := zh hbase;clear ho hv ht hops hs hd hmx hvb htr hl hll hB hBo hbase2 hbase hok
 cases hlk : (look V zI6).isSome with
 | true =>
   rw [hlk] at HF;have HOP := zh (show zFn V t = ⟨3, zCa, [], txB t⟩ by unfold zFn; simp [hlk]);clear hlk;go_enter Tryz.func101, Tryz.ntmps101
   go_upto_region 2 with fail
   rw [← hW];clear hW
   go_upto_region 5 with (go_at_call 27; refine HF.out.mono ?_; rintro e w2 ⟨fi, rfl, x2⟩; have X2 := zh x2; clear x2)
   clear c1 v0 v1 v2 v3 v4 vf;refine wp_region_held_drew (S := (fun U => U.cell? ⟨o, 1, none⟩ = some (.pointer (some ⟨x.v, 0, none⟩)) ∧ U.cell? ⟨w.heap.size, 0, none⟩ = some (.int .i64 (t.phase : Nat)) ∧ U.cell? ⟨w.heap.size, 1, none⟩ = some (.int .i64 (t.at_ : Nat)) ∧ U.cell? ⟨w.heap.size, 2, none⟩ = some (.slice a t.mv.length n1) ∧ U.cell? ⟨w.heap.size, 3, none⟩ = some (.slice a1 t.come.length n2) ∧ U.cell? ⟨w.heap.size, 4, none⟩ = some (.slice a2 t.gone.length n3))) (by kernel_rfl) (by (first | exact KS.out _ X2.out.drew | exact KS.out _ X3.out | exact KS.out _ (X3.out.alloc _) | exact KM.out _ _ (X3.out.alloc _) M10.out | exact KD.out _ _ _ (X3.out.alloc _) M10.out M11.out)) fun _ => ?_
   refine tk 0 ?_;refine tk 1 ?_;refine tk 2 ?_;refine tk 3 ?_;refine tk 4 ?_;refine tk 5 ?_;refine tk 6 ?_;refine rd 7 fun K hK => ?_
   go_simp
   (go_at_call 165; refine (HPK.out _ (XW.out.trans X2.out.drew)).mono ?_; rintro e w3 ⟨v3, rfl, f3⟩; (obtain ⟨a3, c3, rfl⟩ := zAj f3.2); have X3 := zh (X2.out.drew.trans f3.1); have F3 := zh f3.own0; clear f3)
   go_wp2_with fail
   refine hK.out _ _ ?_ fun _ => ?_
   ·(first | exact KS.out _ X2.out.drew | exact KS.out _ X3.out | exact KS.out _ (X3.out.alloc _) | exact KM.out _ _ (X3.out.alloc _) M10.out | exact KD.out _ _ _ (X3.out.alloc _) M10.out M11.out)
   clear hK K;refine tk 8 ?_;refine rd 9 fun K hK => ?_
   go_simp
   go_wp2_with fail
   refine hK.out _ _ ?_ fun _ => ?_
   ·(first | exact KS.out _ X2.out.drew | exact KS.out _ X3.out | exact KS.out _ (X3.out.alloc _) | exact KM.out _ _ (X3.out.alloc _) M10.out | exact KD.out _ _ _ (X3.out.alloc _) M10.out M11.out)
   clear hK K
   try simp only [nf]
   refine rd 10 fun K hK => ?_
   (refine zA9 (by rfl) (.tmp 28) (.tmp 33) rOp (by rfl) base (.slice oa l.length oc) (.slice (some ⟨w3.heap.size, 0, none⟩) 1 1) (l.map zAs) [zAs (⟨3, zCa, [], txB t⟩, .slice a3 (txB t).length c3)] (by rfl) (by rfl) (HOO.out.orow.ext ((XW.out.trans X3.out).alloc _)) (zBi (heap_alloc_new w3 _)) (by simp [zAs, rOp]) (by simp [zAs, Value.oneCell']) (by have := HLN.out; simp; omega) (by have := (XW.out.trans X3.out).sz; have := HB2.out; simp; omega) ?_; intro v10 w10 r10 g10 m10 n10; (obtain ⟨a10, c10, hv10⟩ := r10.form); simp only [List.length_map, List.length_append, List.length_cons, List.length_nil, Nat.zero_add] at hv10; subst hv10; have R10 := zh r10; have M10 := zh m10; clear r10 g10 m10 n10)
   refine hK.out _ _ ?_ fun _ => ?_
   ·(first | exact KS.out _ X2.out.drew | exact KS.out _ X3.out | exact KS.out _ (X3.out.alloc _) | exact KM.out _ _ (X3.out.alloc _) M10.out | exact KD.out _ _ _ (X3.out.alloc _) M10.out M11.out)
   clear hK K
   try simp only [nf]
   refine rd 11 fun K hK => ?_
   go_simp
   (go_at_call 29; refine (HDO.out _ _ (l ++ [(⟨3, zCa, [], txB t⟩, .slice a3 (txB t).length c3)]) (HVV.out.mut (((XW.out.trans X3.out).alloc _).mut.trans M10.out) (by decide)) ?hsz ?hmx ?hops ?hfst).mono ?_; (case hsz => exact Nat.le_trans ((XW.out.trans X3.out).alloc _).sz M10.out.size); (case hmx => exact ((M10.out.weak HBS.out (fun _ h => h)).below (Nat.le_trans HB.out ((XW.out.trans X3.out).alloc _).sz)).cell h0 |>.trans (((XW.out.trans X3.out).alloc _).cell HMX.out)); (case hops => exact zDq (by rw [List.map_append]; exact R10.out) (keep_data HOO.out ((XW.out.trans X3.out).alloc _) (((xr w3).alloc _).own F3.out) M10.out)); (case hfst => rw [List.map_append, HLL.out, HOP.out]; rfl); rintro e w11 ⟨rfl, hv11, m11⟩; have V11 := zh hv11; have M11 := zh m11; clear hv11 m11)
   go_wp2_with fail
   refine hK.out _ _ ?_ fun _ => ?_
   ·(first | exact KS.out _ X2.out.drew | exact KS.out _ X3.out | exact KS.out _ (X3.out.alloc _) | exact KM.out _ _ (X3.out.alloc _) M10.out | exact KD.out _ _ _ (X3.out.alloc _) M10.out M11.out)
   clear hK K;refine tk 12 ?_;refine wpAnyH_done (by kernel_rfl) ?_ _;have HM : Hid (Mut B (69 :: 98 :: zBj) w w11) := (((XW.out.trans X3.out).alloc _).mut.trans (M10.out.weak HBS.out (fun t h => by rw [List.mem_singleton] at h; subst h; decide))).trans (M11.out.weak (Nat.le_refl _) (fun t h => by simp [h]));have hO11 := M11.out.get (M10.out.get (((XW.out.trans X3.out).alloc (.cells #[.int .i64 3, .string (ba zCa), .string ⟨#[]⟩, .slice a3 (txB t).length c3] 96)).get HO.out));have hQ11 := M11.out.get (M10.out.get ((X3.out.alloc (.cells #[.int .i64 3, .string (ba zCa), .string ⟨#[]⟩, .slice a3 (txB t).length c3] 96)).get BW.out));have f11 := zAl hO11;have c11 := zAe hO11 4 x.tx rfl;have M12 := zh (zAi (B := B) (T := [69]) (i := 4) w11 hO11 (.pointer (some ⟨w.heap.size, 0, none⟩)) (by simp) HBO.out);have HO11 := zh hO11;have HQ11 := zh hQ11;clear hO11 hQ11
   go_wp2_with fail
   go_ret
   refine ⟨w.heap.size, rfl, ?_, M12.out.get HQ11.out, V11.out.mut M12.out (by decide), Nat.le_refl _, HM.out.trans (M12.out.weak (Nat.le_refl _) (fun t h => by rw [List.mem_singleton] at h; subst h; decide))⟩;rw [zAd _ _ _ _ _ _ _ HO11.out]; rfl
 | false =>
   rw [hlk] at HF;have HOP := zh (show zFn V t = ⟨2, zCa, [], txB t⟩ by unfold zFn; simp [hlk]);clear hlk;go_enter Tryz.func101, Tryz.ntmps101
   go_upto_region 2 with fail
   rw [← hW];clear hW
   go_upto_region 5 with (go_at_call 27; refine HF.out.mono ?_; rintro e w2 ⟨fi, rfl, x2⟩; have X2 := zh x2; clear x2)
   clear c1 v0 v1 v2 v3 v4 vf;refine wp_region_held_drew (S := (fun U => U.cell? ⟨o, 1, none⟩ = some (.pointer (some ⟨x.v, 0, none⟩)) ∧ U.cell? ⟨w.heap.size, 0, none⟩ = some (.int .i64 (t.phase : Nat)) ∧ U.cell? ⟨w.heap.size, 1, none⟩ = some (.int .i64 (t.at_ : Nat)) ∧ U.cell? ⟨w.heap.size, 2, none⟩ = some (.slice a t.mv.length n1) ∧ U.cell? ⟨w.heap.size, 3, none⟩ = some (.slice a1 t.come.length n2) ∧ U.cell? ⟨w.heap.size, 4, none⟩ = some (.slice a2 t.gone.length n3))) (by kernel_rfl) (by (first | exact KS.out _ X2.out.drew | exact KS.out _ X3.out | exact KS.out _ (X3.out.alloc _) | exact KM.out _ _ (X3.out.alloc _) M10.out | exact KD.out _ _ _ (X3.out.alloc _) M10.out M11.out)) fun _ => ?_
   refine tk 0 ?_;refine tk 1 ?_;refine tk 2 ?_;refine tk 3 ?_;refine tk 4 ?_;refine tk 5 ?_;refine tk 6 ?_;refine rd 7 fun K hK => ?_
   go_simp
   (go_at_call 165; refine (HPK.out _ (XW.out.trans X2.out.drew)).mono ?_; rintro e w3 ⟨v3, rfl, f3⟩; (obtain ⟨a3, c3, rfl⟩ := zAj f3.2); have X3 := zh (X2.out.drew.trans f3.1); have F3 := zh f3.own0; clear f3)
   go_wp2_with fail
   refine hK.out _ _ ?_ fun _ => ?_
   ·(first | exact KS.out _ X2.out.drew | exact KS.out _ X3.out | exact KS.out _ (X3.out.alloc _) | exact KM.out _ _ (X3.out.alloc _) M10.out | exact KD.out _ _ _ (X3.out.alloc _) M10.out M11.out)
   clear hK K;refine tk 8 ?_;refine rd 9 fun K hK => ?_
   go_simp
   go_wp2_with fail
   refine hK.out _ _ ?_ fun _ => ?_
   ·(first | exact KS.out _ X2.out.drew | exact KS.out _ X3.out | exact KS.out _ (X3.out.alloc _) | exact KM.out _ _ (X3.out.alloc _) M10.out | exact KD.out _ _ _ (X3.out.alloc _) M10.out M11.out)
   clear hK K
   try simp only [nf]
   refine rd 10 fun K hK => ?_
   (refine zA9 (by rfl) (.tmp 28) (.tmp 33) rOp (by rfl) base (.slice oa l.length oc) (.slice (some ⟨w3.heap.size, 0, none⟩) 1 1) (l.map zAs) [zAs (⟨2, zCa, [], txB t⟩, .slice a3 (txB t).length c3)] (by rfl) (by rfl) (HOO.out.orow.ext ((XW.out.trans X3.out).alloc _)) (zBi (heap_alloc_new w3 _)) (by simp [zAs, rOp]) (by simp [zAs, Value.oneCell']) (by have := HLN.out; simp; omega) (by have := (XW.out.trans X3.out).sz; have := HB2.out; simp; omega) ?_; intro v10 w10 r10 g10 m10 n10; (obtain ⟨a10, c10, hv10⟩ := r10.form); simp only [List.length_map, List.length_append, List.length_cons, List.length_nil, Nat.zero_add] at hv10; subst hv10; have R10 := zh r10; have M10 := zh m10; clear r10 g10 m10 n10)
   refine hK.out _ _ ?_ fun _ => ?_
   ·(first | exact KS.out _ X2.out.drew | exact KS.out _ X3.out | exact KS.out _ (X3.out.alloc _) | exact KM.out _ _ (X3.out.alloc _) M10.out | exact KD.out _ _ _ (X3.out.alloc _) M10.out M11.out)
   clear hK K
   try simp only [nf]
   refine rd 11 fun K hK => ?_
   go_simp
   (go_at_call 29; refine (HDO.out _ _ (l ++ [(⟨2, zCa, [], txB t⟩, .slice a3 (txB t).length c3)]) (HVV.out.mut (((XW.out.trans X3.out).alloc _).mut.trans M10.out) (by decide)) ?hsz ?hmx ?hops ?hfst).mono ?_; (case hsz => exact Nat.le_trans ((XW.out.trans X3.out).alloc _).sz M10.out.size); (case hmx => exact ((M10.out.weak HBS.out (fun _ h => h)).below (Nat.le_trans HB.out ((XW.out.trans X3.out).alloc _).sz)).cell h0 |>.trans (((XW.out.trans X3.out).alloc _).cell HMX.out)); (case hops => exact zDq (by rw [List.map_append]; exact R10.out) (keep_data HOO.out ((XW.out.trans X3.out).alloc _) (((xr w3).alloc _).own F3.out) M10.out)); (case hfst => rw [List.map_append, HLL.out, HOP.out]; rfl); rintro e w11 ⟨rfl, hv11, m11⟩; have V11 := zh hv11; have M11 := zh m11; clear hv11 m11)
   go_wp2_with fail
   refine hK.out _ _ ?_ fun _ => ?_
   ·(first | exact KS.out _ X2.out.drew | exact KS.out _ X3.out | exact KS.out _ (X3.out.alloc _) | exact KM.out _ _ (X3.out.alloc _) M10.out | exact KD.out _ _ _ (X3.out.alloc _) M10.out M11.out)
   clear hK K;refine tk 12 ?_;refine wpAnyH_done (by kernel_rfl) ?_ _;have HM : Hid (Mut B (69 :: 98 :: zBj) w w11) := (((XW.out.trans X3.out).alloc _).mut.trans (M10.out.weak HBS.out (fun t h => by rw [List.mem_singleton] at h; subst h; decide))).trans (M11.out.weak (Nat.le_refl _) (fun t h => by simp [h]));have hO11 := M11.out.get (M10.out.get (((XW.out.trans X3.out).alloc (.cells #[.int .i64 2, .string (ba zCa), .string ⟨#[]⟩, .slice a3 (txB t).length c3] 96)).get HO.out));have hQ11 := M11.out.get (M10.out.get ((X3.out.alloc (.cells #[.int .i64 2, .string (ba zCa), .string ⟨#[]⟩, .slice a3 (txB t).length c3] 96)).get BW.out));have f11 := zAl hO11;have c11 := zAe hO11 4 x.tx rfl;have M12 := zh (zAi (B := B) (T := [69]) (i := 4) w11 hO11 (.pointer (some ⟨w.heap.size, 0, none⟩)) (by simp) HBO.out);have HO11 := zh hO11;have HQ11 := zh hQ11;clear hO11 hQ11
   go_wp2_with fail
   go_ret
   refine ⟨w.heap.size, rfl, ?_, M12.out.get HQ11.out, V11.out.mut M12.out (by decide), Nat.le_refl _, HM.out.trans (M12.out.weak (Nat.le_refl _) (fun t h => by rw [List.mem_singleton] at h; subst h; decide))⟩;rw [zAd _ _ _ _ _ _ _ HO11.out]; rfl
def box5 (w : World) (u0 u1 mv cv gv : Value) : World := w.alloc (.cells #[u0, u1, mv, cv, gv] 116)
theorem box5_is (w : World) (u0 u1 mv cv gv : Value) : Ext w (box5 w u0 u1 mv cv gv) ∧ (box5 w u0 u1 mv cv gv).heap[w.heap.size]? = some (.cells #[u0, u1, mv, cv, gv] 116 (0, 0)) := ⟨(xr w).alloc _, heap_alloc_new w _⟩
theorem set_new {w W : World} {b i : Nat} {cs : Array Value} {t : TypeId} (x : Ext w W) (hb : w.heap.size ≤ b) (h : W.heap[b]? = some (.cells cs t (0, 0))) (u : Value) : Ext w (W.setCell ⟨b, i, none⟩ u) ∧ (W.setCell ⟨b, i, none⟩ u).heap[b]? = some (.cells (cs.setIfInBounds i u) t (0, 0)) :=
 ⟨x.then_mut (zAi (B := w.heap.size) (T := [t + 2]) W h u (by simp) hb) (Nat.le_refl _), zAd _ _ _ _ _ _ _ h⟩
def zCm (k p : Nat) (why : Int) : List Value := [.int .i64 k, .int .i64 p, .int .i64 why, .string ⟨#[]⟩]
def turnPost (w : World) (B o c : Nat) (x : Ob) (V : List (Pth × Nd)) (sh : List Pth) (t : Tx) (mv cv gv : Value) (L : List (List Value)) (e : Ending) (w' : World) : Prop :=
 ∃ q lg, e = .returned (.int .i64 0) ∧ w'.heap[o]? = some (.cells (zAk { x with tx := .pointer (some ⟨q, 0, none⟩), pl := false, lg := lg }) 67 (0, 0)) ∧ w'.heap[q]? = some (.cells (zBf mv cv gv t) 116 (0, 0)) ∧ VolAt w' B x.v V sh c ∧ ORow zCv w' B lg (L ++ [zCm 1 t.phase x.why]) ∧ Mut B (69 :: 98 :: 196 :: zBj) w w'
set_option maxHeartbeats 2000000 in
theorem Turn_any {w : World} {B o c q : Nat} {x : Ob} {V V' : List (Pth × Nd)} {sh sh' : List Pth} {t : Tx} {mv cv gv : Value} {L : List (List Value)} {p a : Nat} (ho : w.heap[o]? = some (.cells (zAk x) 67 (0, 0))) (hv : VolAt w B x.v V sh c) (hBo : B ≤ o) (hB : B ≤ w.heap.size) (h0 : 0 < B) (hc : c < 110) (hV : V.length ≤ 40) (htx : x.tx = .pointer (some ⟨q, 0, none⟩)) (hq : w.heap[q]? = some (.cells (zBf mv cv gv t) 116 (0, 0))) (ht : TxV w mv cv gv t) (hok : TxOk { t with phase := p, at_ := a }) (hL : ORow zCv w B x.lg L) (hLl : L.length ≤ 1000) (hs : SplitOk zCa zI6)
  (hd : DoOk V sh [zFn V { t with phase := p, at_ := a }] V' sh') {mx : Int} (hmx : w.cell? ⟨0, 0, none⟩ = some (.int .i64 mx)) :
  Calls Tryz.prog 107 #[.pointer (some ⟨o, 0, none⟩), .int .i64 p, .int .i64 a] w (turnPost w B o (c + 1) x V' sh' { t with phase := p, at_ := a } mv cv gv L) := by
 obtain ⟨W, hW⟩ : ∃ W, W = box5 w (.int .i64 p) (.int .i64 a) mv cv gv := ⟨_, rfl⟩
 have hb5 := box5_is w (.int .i64 p) (.int .i64 a) mv cv gv;rw [← hW] at hb5;have XW := zh hb5.1;have BW : Hid (W.heap[w.heap.size]? = some (.cells (zBf mv cv gv { t with phase := p, at_ := a }) 116 (0, 0))) := hb5.2;clear hb5
 have HTV : Hid (TxV W mv cv gv { t with phase := p, at_ := a }) := ⟨(ht.ext XW.out).mv, (ht.ext XW.out).come, (ht.ext XW.out).gone⟩
 have HKP := zh (zMa (XW.out.get ho) (hv.ext XW.out) hBo (Nat.le_trans hB XW.out.sz) h0 (Nat.le_refl B) (Nat.le_trans hB XW.out.sz) hc hV HTV.out hok (zDq (l := []) (ORow.nil _ _ _) (by simp)) rfl (by simp) hs (by simpa using hd) (XW.out.cell hmx));obtain ⟨ma, n1, ca, n2, ga, n3, rfl, rfl, rfl⟩ := ht.form;obtain ⟨b0, b1, b2, b3, b4, bf⟩ := zAw (show W.heap[w.heap.size]? = some (.cells #[.int .i64 p, .int .i64 a, .slice ma t.mv.length n1, .slice ca t.come.length n2, .slice ga t.gone.length n3] 116 (0, 0)) from BW.out);obtain ⟨la, lc, hlg⟩ := hL.form;have HL := zh hL;rw [hlg] at HL;have c4 := zAe ho 4 x.tx rfl;rw [htx] at c4;obtain ⟨q0, q1, q2, q3, q4, qf⟩ := zAw hq;have HBO := zh hBo;have HB := zh hB;clear ho hv hBo hB hc hV htx hq ht hok hL hs hd hmx;unfold box5 at hW;go_enter Tryz.func107, Tryz.ntmps107
 go_upto_region 3 with fail
 rw [← hW];clear hW c4 q0 q1 q2 q3 q4 qf
 go_upto_region 5 with (go_at_call 101; refine HKP.out.mono ?_; rintro e w2 ⟨q2, rfl, o2, r2, hv2, -, m2⟩; have O2 := zh o2; have R2 := zh r2; have V2 := zh hv2; have M2 := zh m2; clear o2 r2 hv2 m2)
 have f2 := zAl O2.out;have c2 := zAe O2.out 12 (.bool x.pl) rfl
 obtain ⟨W5, hW5⟩ : ∃ W5, W5 = w2.setCell ⟨o, 12, none⟩ (.bool false) := ⟨_, rfl⟩
 have M5 := zh (show Mut B [69] w2 W5 by rw [hW5]; exact zAi w2 O2.out _ (by simp) HBO.out)
 have O5 := zh (show W5.heap[o]? = some (.cells (zAk { x with tx := .pointer (some ⟨q2, 0, none⟩), pl := false }) 67 (0, 0)) by
  rw [hW5, zAd _ _ _ _ _ _ _ O2.out]; rfl)
 have HL5 : Hid (ORow zCv W5 B (.slice la L.length lc) L) := ((HL.out.ext XW.out).mut M2.out (by decide)).mut M5.out (by decide);have HB5 : Hid (B ≤ W5.heap.size) := Nat.le_trans (Nat.le_trans HB.out XW.out.sz) (Nat.le_trans M2.out.size M5.out.size)
 have KS : Hid (∀ U, Ext W5 U → U.cell? ⟨o, 15, none⟩ = some (.slice la L.length lc) ∧ U.cell? ⟨o, 13, none⟩ = some (.int .i64 x.why)) := fun U y => ⟨zAe (y.get O5.out) 15 _ (by rw [← hlg]; rfl), zAe (y.get O5.out) 13 _ rfl⟩
 have KM : Hid (∀ U U', Ext W5 U → Mut B [196] U U' → U'.cell? ⟨o, 15, none⟩ = some (.slice la L.length lc) ∧ U'.cell? ⟨o, 13, none⟩ = some (.int .i64 x.why)) := fun U U' y m => ⟨zAe (m.get (y.get O5.out)) 15 _ (by rw [← hlg]; rfl), zAe (m.get (y.get O5.out)) 13 _ rfl⟩
 have HLg := zh hlg;clear hlg b0 b1 b2 b3 b4 bf;generalize hn : L.length = n at *;have HN := zh hn;clear hn
 go_upto_region 6 with fail
 rw [← hW5];clear hW5 f2 c2;refine zBc (S := (fun U => U.cell? ⟨o, 15, none⟩ = some (.slice la n lc) ∧ U.cell? ⟨o, 13, none⟩ = some (.int .i64 x.why))) 13 (by kernel_rfl) (by kernel_rfl) (by (first | exact KS.out _ (xr _).drew | exact KS.out _ ((xr _).alloc _).drew | exact KS.out _ ((xr _).drew.alloc _) | exact KM.out _ _ ((xr _).alloc _).drew M8.out)) fun _ => ?_
 simp only [List.take_succ_cons, List.take_zero];refine tk 0 ?_;refine tk 1 ?_;refine tk 2 ?_;refine tk 3 ?_;refine tk 4 ?_;refine tk 5 ?_;refine tk 6 ?_;refine tk 7 ?_;refine tk 8 ?_;refine tk 9 ?_;refine tk 10 ?_;refine rd 11 fun K hK => ?_
 go_simp
 go_wp2_with fail
 refine hK.out _ _ ?_ fun _ => ?_
 ·(first | exact KS.out _ (xr _).drew | exact KS.out _ ((xr _).alloc _).drew | exact KS.out _ ((xr _).drew.alloc _) | exact KM.out _ _ ((xr _).alloc _).drew M8.out)
 clear hK K
 try simp only [nf]
 refine rd 12 fun K hK => ?_
 (refine zA9 (by rfl) (.tmp 31) (.tmp 38) zCv (by rfl) B (.slice la n lc) (.slice (some ⟨W5.heap.size, 0, none⟩) 1 1) L [zCm 1 p x.why] (by rfl) (by rfl) (HL5.out.ext ((xr W5).alloc _).drew) (zBi (heap_alloc_new W5 _)) (by simp [zCm, zCv]) (by simp [zCm, Value.oneCell']) (by have := HN.out; simp; omega) (by have := HB5.out; simp; omega) ?_; intro v8 w8 r8 g8 m8 n8; (obtain ⟨a8, c8, hv8⟩ := r8.form); (rw [List.length_append, HN.out] at hv8); simp only [List.length_singleton] at hv8; subst hv8; have R8 := zh r8; have M8 := zh m8; clear r8 g8 m8 n8)
 refine hK.out _ _ ?_ fun _ => ?_
 ·(first | exact KS.out _ (xr _).drew | exact KS.out _ ((xr _).alloc _).drew | exact KS.out _ ((xr _).drew.alloc _) | exact KM.out _ _ ((xr _).alloc _).drew M8.out)
 clear hK K
 try simp only [nf]
 refine wpAnyH_done (by kernel_rfl) ?_ _;simp only [zLp, List.drop_succ_cons, List.drop_zero];have O8 := zh (M8.out.get (((xr W5).alloc (.cells (zCm 1 p x.why).toArray 194)).drew.get O5.out));have f8 := zAl O8.out;have cL8 := zAe O8.out 15 x.lg rfl;have M9 := zh (zAi (B := B) (T := [69]) (i := 15) w8 O8.out (.slice a8 (n + 1) c8) (by simp) HBO.out)
 go_wp2_with fail
 go_ret
 have MA : Hid (Mut B (69 :: 98 :: 196 :: zBj) w w8) := ((XW.out.mut.trans (M2.out.to (by decide))).trans ((M5.out.to (by decide)).trans ((xr W5).alloc (.cells (zCm 1 p x.why).toArray 194)).drew.mut)).trans (M8.out.to (by decide));refine ⟨q2, _, rfl, ?_, M9.out.get (M8.out.get (((xr W5).alloc (.cells (zCm 1 p x.why).toArray 194)).drew.get (M5.out.get R2.out))), (((V2.out.mut M5.out (by decide)).ext ((xr W5).alloc (.cells (zCm 1 p x.why).toArray 194)).drew).mut M8.out (by decide)).mut M9.out (by decide), R8.out.mut M9.out (by decide), MA.out.trans (M9.out.to (by decide))⟩;rw [zAd _ _ _ _ _ _ _ O8.out]; rfl
def samW (w wr : World) : Prop := wr = w
theorem Halt_e {w : World} {o : Nat} {x : Ob} (ho : w.heap[o]? = some (.cells (zAk x) 67 (0, 0))) {a : Option Addr} {c : Nat} (hs : x.stop = .slice a 0 c) :
  Calls Tryz.prog 172 #[.pointer (some ⟨o, 0, none⟩)] w fun e w' => e = .returned (.tuple #[.bool false, .bool true]) ∧ w = w' := by
 have c8 := zAe ho 8 x.stop rfl;rw [hs] at c8;clear ho hs;go_enter Tryz.func172, Tryz.ntmps172
 go_wp2_with fail
 go_loopw [4] (fun _ wr => samW w wr) (fun _ _ => 0)
 case atStart => exact rfl
 case round =>
  obtain rfl := hrel
  go_wp2_with fail
  go_ret2
  exact ⟨rfl, rfl⟩
theorem Rerun_e {w : World} {o : Nat} {x : Ob} (ho : w.heap[o]? = some (.cells (zAk x) 67 (0, 0))) {a : Option Addr} {c : Nat} (hs : x.start = .slice a 0 c) :
  Calls Tryz.prog 173 #[.pointer (some ⟨o, 0, none⟩)] w fun e w' => e = .returned (.tuple #[.bool false, .bool true, .string ⟨#[]⟩]) ∧ w = w' := by
 have c9 := zAe ho 9 x.start rfl;rw [hs] at c9;clear ho hs;go_enter Tryz.func173, Tryz.ntmps173
 go_wp2_with fail
 go_loopw [5] (fun _ wr => samW w wr) (fun _ _ => 0)
 case atStart => exact rfl
 case round =>
  obtain rfl := hrel
  go_wp2_with fail
  go_ret3
  exact ⟨rfl, rfl⟩
theorem Live_e {w : World} {o g : Nat} {x : Ob} (ho : w.heap[o]? = some (.cells (zAk x) 67 (0, 0))) (hm : MgrE w x.mg g) :
  Calls Tryz.prog 181 #[.pointer (some ⟨o, 0, none⟩)] w (zIo w) := by
 have c0 := zAe ho 0 _ rfl;have HI : Hid (∀ V, Ext w V → ∀ u, (∃ a n c, u = .slice a n c) → Calls Tryz.prog 19 #[.pointer (some ⟨x.mg, 0, none⟩), u] V (zIo V)) := fun V y u hu => In_e (hm.ext y) u hu
 clear ho hm;go_enter Tryz.func181, Tryz.ntmps181
 go_wp2_with (go_at_call 19; refine (HI.out _ ((xr w).alloc _) _ ⟨_, _, _, rfl⟩).mono ?_; rintro e w2 ⟨rfl, x2⟩; have X2 := zh x2; clear x2)
 go_ret
 exact ⟨rfl, ((xr w).alloc _).trans X2.out⟩
theorem DelFunc_nil (w : World) (a : Option Addr) (c : Nat) (f : Value) (hf : ∃ g b, f = .func g #[b] #[]) : Calls Tryz.prog 177 #[.slice a 0 c, f] w fun e w' => e = .returned (.slice a 0 c) ∧ w' = w := by
 obtain ⟨g, b, rfl⟩ := hf;have HI := zh (fun W => zBr (α := Int) a c (.func g #[b] #[]) W);go_enter Tryz.func177, Tryz.ntmps177
 go_wp2_with (go_at_call 146; refine (HI.out _).mono ?_; rintro e w2 ⟨rfl, rfl⟩)
 go_ret
 exact ⟨rfl, rfl⟩
end
end Go.Proofs.YtgnjjfdfoibdiaaGreatDoor
