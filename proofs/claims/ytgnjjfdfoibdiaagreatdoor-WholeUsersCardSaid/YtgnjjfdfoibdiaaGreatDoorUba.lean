/- A part of the proof of WholeUsers. -/
import Derived.LaidEqlPtr
import Derived.Test.YtgnjjfdfoibdiaaGreatDoorUaz
set_option linter.all false
namespace Go.Proofs.YtgnjjfdfoibdiaaGreatDoor
section
open Go.RowKit Go.Maps Go.Sort Go.Lib
set_option maxRecDepth 100000
theorem zF2 : Tryz.prog.underlying 64 = some (.pointer 323) := by kernel_rfl
theorem zLk : (Tryz.prog.info? 323).map (fun i => i.size) = some 3 := by kernel_rfl
theorem neq_same (W : World) (a : Addr) : (binOp .neq 64 (.pointer (some a)) (.pointer (some a))).run Tryz.prog W = .ok (.bool false) W := by
 obtain ⟨j, hj, -⟩ := Option.map_eq_some_iff.1 zLk
 have h : ∀ d : Nat, (Op.equalIn (d + 1) 64 (.pointer (some a)) (.pointer (some a))).run Tryz.prog W = .ok true W := fun d => by
  simp [Op.equalIn, run_underlying zF2, sizeOf, typeInfo, hj, run_sameAddr_same]
 simp only [binOp];simp [Op.equal, Op.maxDepth, h 9999]
theorem neq_other {W : World} {a b : Addr} {ca cb : Array Value} {ta tb : TypeId} (hne : a ≠ b) (ha : W.heap[a.block]? = some (.cells ca ta (0, 0))) (hb : W.heap[b.block]? = some (.cells cb tb (0, 0))) : (binOp .neq 64 (.pointer (some a)) (.pointer (some b))).run Tryz.prog W = .ok (.bool true) W := by
 obtain ⟨j, hj, hs⟩ := Option.map_eq_some_iff.1 zLk;have hsz : j.size ≠ 0 := by rw [hs]; decide
 have h : ∀ d : Nat, (Op.equalIn (d + 1) 64 (.pointer (some a)) (.pointer (some b))).run Tryz.prog W = .ok false W := fun d => by
  simp [Op.equalIn, run_underlying zF2, sizeOf, typeInfo, hj, hsz, run_sameAddr_other W hne ha hb]
 simp only [binOp];simp [Op.equal, Op.maxDepth, h 9999]
theorem Restart_plan {w : World} {B o g g1 g2 : Nat} {x : Ob} (ho : w.heap[o]? = some (.cells (zAk x) 67 (0, 0))) (hBo : B ≤ o) (hm : MgrE w x.mg g) (hw : x.was = .pointer (some ⟨g1, 0, none⟩)) (hn : x.now = .pointer (some ⟨g2, 0, none⟩)) (G1 : GraphE w g1) (G2 : GraphE w g2) (hpl : x.pl = false) :
  Calls Tryz.prog 105 #[.pointer (some ⟨o, 0, none⟩)] w fun e w' => e = .returned (.bool true) ∧ w'.heap[o]? = some (.cells (zAk (planned x)) 67 (0, 0)) ∧ Mut B [69] w w' := by
 have HP := zh (OPlan_e ho hBo hm hw hn G1 G2);have c12 := zAe ho 12 (.bool false) (by rw [← hpl]; rfl);clear ho hBo hm hw hn G1 G2;go_enter Tryz.func105, Tryz.ntmps105
 go_wp2_with (go_at_call 171; refine HP.out.mono ?_; rintro e w2 ⟨rfl, o2, m2⟩; have O2 := zh o2; have M2 := zh m2; clear o2 m2)
 go_ret
 exact ⟨rfl, O2.out, M2.out⟩
theorem Restart_set {w : World} {B o g g2 : Nat} {x : Ob} (ho : w.heap[o]? = some (.cells (zAk x) 67 (0, 0))) (hm : MgrE w x.mg g) (hBm : B ≤ x.mg) (hn : x.now = .pointer (some ⟨g2, 0, none⟩)) (G2 : GraphE w g2) (hne : g ≠ g2) (hpl : x.pl = true) (hst : x.stop = .slice none 0 0) :
  Calls Tryz.prog 105 #[.pointer (some ⟨o, 0, none⟩)] w fun e w' => e = .returned (.bool true) ∧ MgrE w' x.mg g2 ∧ Mut B [125] w w' := by
 have HH := zh (Halt_e ho hst);have c12 := zAe ho 12 (.bool true) (by rw [← hpl]; rfl)
 have KS : Hid (∀ U, Ext w U → U.cell? ⟨o, 0, none⟩ = some (.pointer (some ⟨x.mg, 0, none⟩)) ∧ U.cell? ⟨o, 7, none⟩ = some (.pointer (some ⟨g2, 0, none⟩))) := fun U y => ⟨zAe (y.get ho) 0 _ rfl, zAe (y.get ho) 7 _ (by rw [← hn]; rfl)⟩
 have KM : Hid (∀ U U', Ext w U → Mut B [125] U U' → U'.cell? ⟨o, 0, none⟩ = some (.pointer (some ⟨x.mg, 0, none⟩)) ∧ U'.cell? ⟨o, 7, none⟩ = some (.pointer (some ⟨g2, 0, none⟩))) := fun U U' y m => ⟨zAe (m.get (y.get ho)) 0 _ rfl, zAe (m.get (y.get ho)) 7 _ (by rw [← hn]; rfl)⟩
 have HG : Hid (∀ U, Ext w U → Calls Tryz.prog 103 #[.pointer (some ⟨x.mg, 0, none⟩)] U (fun e w' => e = .returned (.pointer (some ⟨g, 0, none⟩)) ∧ U = w')) := fun U y => zKu (hm.ext y)
 have HSET : Hid (∀ U, Ext w U → Calls Tryz.prog 141 #[.pointer (some ⟨x.mg, 0, none⟩), .pointer (some ⟨g2, 0, none⟩)] U (msetPost U B x.mg g2)) := fun U y => MSet_any (hm.ext y) (G2.ext y) hBm
 have hnq : (binOp .neq 64 (.pointer (some ⟨g, 0, none⟩)) (.pointer (some ⟨g2, 0, none⟩))).run Tryz.prog w.drew = .ok (.bool true) w.drew := by
  obtain ⟨-, -, -, -, um, bm, k1, -⟩ := hm;obtain ⟨um2, bm2, k2, -⟩ := G2;exact neq_other (fun e => hne (by injection e)) k1 k2
 clear ho hm hn G2 hst hne;go_enter Tryz.func105, Tryz.ntmps105
 go_upto_region 7 with (go_at_call 172; refine HH.out.mono ?_; rintro e w2 ⟨rfl, rfl⟩)
 refine wp_region_held_drew (S := (fun U => U.cell? ⟨o, 0, none⟩ = some (.pointer (some ⟨x.mg, 0, none⟩)) ∧ U.cell? ⟨o, 7, none⟩ = some (.pointer (some ⟨g2, 0, none⟩)))) (by kernel_rfl) (by (exact KS.out _ (xr _).drew)) fun _ => ?_
 refine tk 0 ?_;refine tk 1 ?_;refine tk 2 ?_;refine tk 3 ?_;refine tk 5 ?_;refine tk 6 ?_;refine tk 7 ?_;refine tk 8 ?_;refine rd 4 fun K hK => ?_
 go_simp
 (go_at_call 103; refine (HG.out _ (xr _).drew).mono ?_; rintro e u ⟨rfl, rfl⟩)
 go_wp2_with fail
 refine hK.out _ _ ?_ fun _ => ?_
 ·(exact KS.out _ (xr _).drew)
 clear hK K
 try simp only [nf]
 refine rd 9 fun K hK => ?_
 go_simp
 go_wp2_with fail
 refine hK.out _ _ ?_ fun _ => ?_
 ·(exact KS.out _ (xr _).drew)
 clear hK K
 try simp only [nf]
 refine wpAnyH_done (by kernel_rfl) ?_ _
 go_upto_region 8 with fail
 refine wp_region_held_drew (S := (fun U => U.cell? ⟨o, 0, none⟩ = some (.pointer (some ⟨x.mg, 0, none⟩)) ∧ U.cell? ⟨o, 7, none⟩ = some (.pointer (some ⟨g2, 0, none⟩)))) (by kernel_rfl) (by (first | exact KS.out _ (xr _).drew.drew | exact KM.out _ _ (xr _).drew.drew M3.out)) fun _ => ?_
 refine tk 0 ?_;refine tk 1 ?_;refine tk 2 ?_;refine tk 3 ?_;refine tk 4 ?_;refine tk 5 ?_;refine tk 6 ?_;refine tk 7 ?_;refine rd 8 fun K hK => ?_
 go_simp
 (go_at_call 141; refine (HSET.out _ (xr _).drew.drew).mono ?_; rintro e w3 ⟨rfl, hm3, m3⟩; have HM3 := zh hm3; have M3 := zh m3; clear hm3 m3)
 go_wp2_with fail
 refine hK.out _ _ ?_ fun _ => ?_
 ·(first | exact KS.out _ (xr _).drew.drew | exact KM.out _ _ (xr _).drew.drew M3.out)
 clear hK K
 try simp only [nf]
 refine wpAnyH_done (by kernel_rfl) ?_ _
 go_wp2_with fail
 go_ret
 exact ⟨rfl, HM3.out, (xr w).drew.drew.mut.trans M3.out⟩
def commitPost2 (w : World) (B o c : Nat) (x : Ob) (V : List (Pth × Nd)) (sh : List Pth) (L : List (List Value)) (e : Ending) (w' : World) : Prop :=
 ∃ lg, e = .returned (.bool true) ∧ w'.heap[o]? = some (.cells (zAk { x with bm := x.nx, tx := .pointer none, lg := lg }) 67 (0, 0)) ∧ VolAt w' B x.v V sh c ∧ ORow zCv w' B lg (L ++ [zCm 2 0 0]) ∧ Mut B (69 :: 98 :: 196 :: zBj) w w'
theorem zOj {w : World} {B o c g : Nat} {x : Ob} {V : List (Pth × Nd)} {sh : List Pth} {L : List (List Value)} (ho : w.heap[o]? = some (.cells (zAk x) 67 (0, 0))) (hm : MgrE w x.mg g) (hn : x.now = .pointer (some ⟨g, 0, none⟩)) (hpl : x.pl = true) (hst : x.stop = .slice none 0 0) (hsr : x.start = .slice none 0 0)
  (HC : ∀ U, Ext w U → Calls Tryz.prog 175 #[.pointer (some ⟨o, 0, none⟩)] U (zO9 U B o c x V sh L)) :
  Calls Tryz.prog 105 #[.pointer (some ⟨o, 0, none⟩)] w (commitPost2 w B o c x V sh L) := by
 have HH := zh (Halt_e ho hst);have HR : Hid (∀ U, Ext w U → _) := fun U y => Rerun_e (y.get ho) hsr
 have c12 := zAe ho 12 (.bool true) (by rw [← hpl]; rfl)
 have KS : Hid (∀ U, Ext w U → U.cell? ⟨o, 0, none⟩ = some (.pointer (some ⟨x.mg, 0, none⟩)) ∧ U.cell? ⟨o, 7, none⟩ = some (.pointer (some ⟨g, 0, none⟩))) := fun U y => ⟨zAe (y.get ho) 0 _ rfl, zAe (y.get ho) 7 _ (by rw [← hn]; rfl)⟩
 have HG : Hid (∀ U, Ext w U → Calls Tryz.prog 103 #[.pointer (some ⟨x.mg, 0, none⟩)] U (fun e w' => e = .returned (.pointer (some ⟨g, 0, none⟩)) ∧ U = w')) := fun U y => zKu (hm.ext y)
 have HCM := zh HC;have hnq := fun W => neq_same W ⟨g, 0, none⟩
 clear ho hm hn hst hsr HC;go_enter Tryz.func105, Tryz.ntmps105
 go_upto_region 7 with (go_at_call 172; refine HH.out.mono ?_; rintro e w2 ⟨rfl, rfl⟩)
 refine wp_region_held_drew (S := (fun U => U.cell? ⟨o, 0, none⟩ = some (.pointer (some ⟨x.mg, 0, none⟩)) ∧ U.cell? ⟨o, 7, none⟩ = some (.pointer (some ⟨g, 0, none⟩)))) (by kernel_rfl) (by (exact KS.out _ (xr _).drew)) fun _ => ?_
 refine tk 0 ?_;refine tk 1 ?_;refine tk 2 ?_;refine tk 3 ?_;refine tk 5 ?_;refine tk 6 ?_;refine tk 7 ?_;refine tk 8 ?_;refine rd 4 fun K hK => ?_
 go_simp
 (go_at_call 103; refine (HG.out _ (xr _).drew).mono ?_; rintro e u ⟨rfl, rfl⟩)
 go_wp2_with fail
 refine hK.out _ _ ?_ fun _ => ?_
 ·(exact KS.out _ (xr _).drew)
 clear hK K
 try simp only [nf]
 refine rd 9 fun K hK => ?_
 go_simp
 go_wp2_with fail
 refine hK.out _ _ ?_ fun _ => ?_
 ·(exact KS.out _ (xr _).drew)
 clear hK K
 try simp only [nf]
 refine wpAnyH_done (by kernel_rfl) ?_ _
 go_wp2_with (first
  | (go_at_call 173; refine (HR.out _ (xr _).drew).mono ?_; rintro e u ⟨rfl, rfl⟩)
  | (go_at_call 175; refine (HCM.out _ (xr _).drew).mono ?_; rintro e w3 ⟨lg, rfl, o3, v3, l3, m3⟩; have O3 := zh o3; have V3 := zh v3; have L3 := zh l3; have M3 := zh m3; clear o3 v3 l3 m3))
 go_ret
 exact ⟨lg, rfl, O3.out, V3.out, L3.out, (xr w).drew.mut.trans M3.out⟩
theorem zNw {w : World} {B o q c : Nat} {x : Ob} {V : List (Pth × Nd)} {sh : List Pth} {t : Tx} {mv cv gv : Value} {P : World → Prop} (ho : w.heap[o]? = some (.cells (zAk x) 67 (0, 0))) (hv : VolAt w B x.v V sh c) (hc : c ≤ 1000) (hV : V.length ≤ 1000) (htx : x.tx = .pointer (some ⟨q, 0, none⟩)) (hq : w.heap[q]? = some (.cells (zBf mv cv gv t) 116 (0, 0))) (hph : t.phase ≤ 1) (HM : Calls Tryz.prog 104 #[.pointer (some ⟨o, 0, none⟩)] w fun e w' => e = .returned (.bool true) ∧ P w') :
  Calls Tryz.prog 40 #[.pointer (some ⟨o, 0, none⟩)] w fun e w' => e = .returned (.bool true) ∧ P w' := by
 obtain ⟨tr, lg, hb, hvb, -⟩ := hv.read hc hV;have HD := zh (zQb hvb);have c1 := zAe ho 1 (.pointer (some ⟨x.v, 0, none⟩)) rfl;have c4 := zAe ho 4 x.tx rfl;rw [htx] at c4;obtain ⟨q0, -⟩ := zAw hq;have HMM := zh HM;have hp : t.phase = 0 ∨ t.phase = 1 := by omega
 clear ho hv hc hV htx hq hph HM hvb;have q01 : t.phase = 0 → w.cell? ⟨q, 0, none⟩ = some (.int .i64 0) := fun h => by rw [q0, h]; rfl
 have q02 : t.phase = 1 → w.cell? ⟨q, 0, none⟩ = some (.int .i64 1) := fun h => by rw [q0, h]; rfl
 clear q0
 rcases hp with hp | hp
 all_goals
  first
   | have q0 := q01 hp
   | have q0 := q02 hp
  clear q01 q02 hp;go_enter Tryz.func40, Tryz.ntmps40
  go_wp2_with (first
   | (go_at_call 50; refine HD.out.mono ?_; rintro e u ⟨rfl, rfl⟩)
   | (go_at_call 104; refine HMM.out.mono ?_; rintro e w2 ⟨rfl, h2⟩; have H2 := zh h2; clear h2))
  go_ret
  exact ⟨rfl, H2.out⟩
theorem zHt {w : World} {B o q c : Nat} {x : Ob} {V : List (Pth × Nd)} {sh : List Pth} {t : Tx} {mv cv gv : Value} {P : World → Prop} (ho : w.heap[o]? = some (.cells (zAk x) 67 (0, 0))) (hv : VolAt w B x.v V sh c) (hc : c ≤ 1000) (hV : V.length ≤ 1000) (htx : x.tx = .pointer (some ⟨q, 0, none⟩)) (hq : w.heap[q]? = some (.cells (zBf mv cv gv t) 116 (0, 0))) (hph : t.phase = 2) (HM : Calls Tryz.prog 105 #[.pointer (some ⟨o, 0, none⟩)] w fun e w' => e = .returned (.bool true) ∧ P w') :
  Calls Tryz.prog 40 #[.pointer (some ⟨o, 0, none⟩)] w fun e w' => e = .returned (.bool true) ∧ P w' := by
 obtain ⟨tr, lg, hb, hvb, -⟩ := hv.read hc hV;have HD := zh (zQb hvb);have c1 := zAe ho 1 (.pointer (some ⟨x.v, 0, none⟩)) rfl;have c4 := zAe ho 4 x.tx rfl;rw [htx] at c4;obtain ⟨q0, -⟩ := zAw hq;have HMM := zh HM;have q02 : w.cell? ⟨q, 0, none⟩ = some (.int .i64 2) := by rw [q0, hph]; rfl
 clear ho hv hc hV htx hq hph HM hvb q0;go_enter Tryz.func40, Tryz.ntmps40
 go_wp2_with (first
  | (go_at_call 50; refine HD.out.mono ?_; rintro e u ⟨rfl, rfl⟩)
  | (go_at_call 105; refine HMM.out.mono ?_; rintro e w2 ⟨rfl, h2⟩; have H2 := zh h2; clear h2))
 go_ret
 exact ⟨rfl, H2.out⟩
def boxM (w : World) (u0 u1 : Value) : World := w.alloc (.cells #[u0, u1] 262)
theorem boxM_is (w : World) (u0 u1 : Value) : Ext w (boxM w u0 u1) ∧ (boxM w u0 u1).heap[w.heap.size]? = some (.cells #[u0, u1] 262 (0, 0)) := ⟨(xr w).alloc _, heap_alloc_new w _⟩
set_option maxHeartbeats 2000000 in
theorem Move_stage {w : World} {B o c q : Nat} {x : Ob} {V V' : List (Pth × Nd)} {sh sh' : List Pth} {t : Tx} {mv cv gv : Value} {L : List (List Value)} {fs : List Af} (ho : w.heap[o]? = some (.cells (zAk x) 67 (0, 0))) (hv : VolAt w B x.v V sh c) (hBo : B ≤ o) (hB : B ≤ w.heap.size) (h0 : 0 < B) (hc : c < 110) (hV : V.length ≤ 40) (htx : x.tx = .pointer (some ⟨q, 0, none⟩)) (hq : w.heap[q]? = some (.cells (zBf mv cv gv t) 116 (0, 0))) (ht : TxV w mv cv gv t) (hok : TxOk t) (hL : ORow zCv w B x.lg L) (hs : SplitOk zCa zI6) (hcome : ComeOf w x.come fs) (hph : t.phase = 0) (hlt : t.at_ < t.mv.length) (h10 : t.mv.length ≤ 10)
  (hd : DoOk V sh (zDm t.at_ (t.mv[t.at_]) (zJg fs (t.mv[t.at_]).path) ++ [zFn V { t with at_ := t.at_ + 1 }]) V' sh') {mx : Int} (hmx : w.cell? ⟨0, 0, none⟩ = some (.int .i64 mx)) :
  Calls Tryz.prog 104 #[.pointer (some ⟨o, 0, none⟩)] w (zPr w B o (c + 1) x V' sh' { t with at_ := t.at_ + 1 } mv cv gv x.pl L) := by
 obtain ⟨ph, at_, ml, cl, gl⟩ := t;simp only at hph hlt h10;subst hph
 obtain ⟨W, hW⟩ : ∃ W, W = box5 w (.int .i64 0) (.int .i64 at_) mv cv gv := ⟨_, rfl⟩
 have hb5 := box5_is w (.int .i64 0) (.int .i64 at_) mv cv gv;rw [← hW] at hb5;have XW := zh hb5.1;have BW := zh hb5.2;clear hb5;obtain ⟨ma, n1, ca, n2, ga, n3, rfl, rfl, rfl⟩ := ht.form;simp only at *;obtain ⟨b', e, hm0, hm1⟩ := mv_at (ht.mv.ext XW.out) at_ hlt;subst e;have hkd : (ml[at_]).kind ≤ 2 := hok.kind _ (List.getElem_mem hlt);have hpt : SplitOk (ml[at_]).path (names (ml[at_]).path) := hok.path _ (List.getElem_mem hlt);generalize hmm : ml[at_] = m at *
 obtain ⟨W2, hW2⟩ : ∃ W2, W2 = boxM W (.int .i64 m.kind) (.string (ba m.path)) := ⟨_, rfl⟩
 have hb6 := boxM_is W (.int .i64 m.kind) (.string (ba m.path));rw [← hW2] at hb6;have YW2 := zh hb6.1;have BM := zh hb6.2;have XW2 := zh (XW.out.trans hb6.1);clear hb6;have HO := zh ho;obtain ⟨b0, b1, b2, b3, b4, bf⟩ := zAw BW.out;have c4 := zAe ho 4 x.tx rfl;rw [htx] at c4;obtain ⟨q0, q1, q2, q3, q4, qf⟩ := zAw hq;have q0' : w.cell? ⟨q, 0, none⟩ = some (.int .i64 0) := q0;have E1 := zh (show ((at_ : Nat) : Int) + 1 = ((at_ + 1 : Nat) : Int) by omega);have hat10 : at_ < 10 := by omega
 obtain ⟨dv, bb, hdv, hdc⟩ := hcome.data m.path;have HDV := zh hdv;have HDC := zh hdc;have HAS : Hid (∀ U, Ext w U → Calls Tryz.prog 168 #[.int .i64 (at_ : Nat), .agg #[.int .i64 (m.kind : Nat), .string (ba m.path)], dv] U (zC7 U (zDm at_ m (zJg fs m.path)))) := fun U y => aside_any U at_ hat10 m (HDV.out.ext y)
 have KS : Hid (∀ U, Ext W2 U → U.cell? ⟨o, 5, none⟩ = some x.come ∧ U.cell? ⟨W.heap.size, 1, none⟩ = some (.string (ba m.path))) := fun U y => ⟨zAe (y.get (XW2.out.get HO.out)) 5 _ rfl, (zAu (y.get BM.out)).2.1⟩
 clear hdv hdc
 have hlen : ∀ l : List (OpP × Value), l.map Prod.fst = zDm at_ m (zJg fs m.path) → l.length ≤ 40 := fun l e => by
  have h1 := hd.few;have h2 := congrArg List.length e;rw [List.length_map] at h2;rw [List.length_append] at h1;omega
 have hok2 : TxOk ⟨0, at_ + 1, ml, cl, gl⟩ := ⟨hok.phase, by simp only; omega, hok.few, hok.pkgs, hok.kind, hok.path, hok.name⟩
 have HKP : Hid (∀ U u l, Ext w U → W2.heap.size ≤ U.heap.size → OwnOps U W2.heap.size u l → l.map Prod.fst = zDm at_ m (zJg fs m.path) → Calls Tryz.prog 101 #[.pointer (some ⟨o, 0, none⟩), .agg (zBf (.slice (some ⟨b', 0, none⟩) ml.length n1) (.slice ca cl.length n2) (.slice ga gl.length n3) ⟨0, at_ + 1, ml, cl, gl⟩), u] U (zL6 U B o (c + 1) x V' sh' ⟨0, at_ + 1, ml, cl, gl⟩ (.slice (some ⟨b', 0, none⟩) ml.length n1) (.slice ca cl.length n2) (.slice ga gl.length n3))) := fun U u l y hsz h1 h2 =>
  zMa (y.get HO.out) (hv.ext y) hBo (Nat.le_trans hB y.sz) h0 (Nat.le_trans hB XW2.out.sz) hsz hc hV ⟨(ht.ext y).mv, (ht.ext y).come, (ht.ext y).gone⟩ hok2 h1 h2 (hlen l h2) hs hd (y.cell hmx)
 have HL := zh hL;clear ho hv hBo hB hc hV htx hq ht hok hok2 hL hs hd hmx hkd hpt hcome q0 hlen;unfold box5 at hW;unfold boxM at hW2;go_enter Tryz.func104, Tryz.ntmps104
 go_upto_region 2 with fail
 rw [← hW];clear hW c4 q0' q1 q2 q3 q4 qf
 go_upto_region 5 with fail
 rw [← hW2];clear hW2 hm0 hm1 b0 b1 b2 b3 b4 bf;obtain ⟨b0, b1, b2, b3, b4, bf⟩ := zAw (YW2.out.get BW.out)
 go_upto_region 7 with fail
 clear b0 b1 b2 b3 b4 bf;refine wp_region_held_drew (S := (fun U => U.cell? ⟨o, 5, none⟩ = some x.come ∧ U.cell? ⟨W.heap.size, 1, none⟩ = some (.string (ba m.path)))) (by kernel_rfl) (by (first | exact KS.out _ (xr _).drew | exact KS.out _ X3.out)) fun _ => ?_
 refine tk 0 ?_;refine tk 1 ?_;refine tk 2 ?_;refine tk 3 ?_;refine tk 4 ?_;refine tk 5 ?_;refine rd 6 fun K hK => ?_
 go_simp
 (go_at_call 158; refine (HDC.out _ (XW2.out.trans (xr _).drew)).mono ?_; rintro e w3 ⟨rfl, x3⟩; have X3 := zh ((xr W2).drew.trans x3); clear x3)
 go_wp2_with fail
 refine hK.out _ _ ?_ fun _ => ?_
 ·(first | exact KS.out _ (xr _).drew | exact KS.out _ X3.out)
 clear hK K;refine tk 7 ?_;refine tk 8 ?_;refine tk 9 ?_;refine tk 10 ?_;refine tk 11 ?_;refine wpAnyH_done (by kernel_rfl) ?_ _;obtain ⟨b0, b1, b2, b3, b4, bf⟩ := zAw (X3.out.get (YW2.out.get BW.out));obtain ⟨m0, m1, mf⟩ := zAu (X3.out.get BM.out)
 go_upto_region 10 with (go_at_call 168; refine (HAS.out _ (XW2.out.trans X3.out)).mono ?_; rintro e w5 ⟨v5, l5, rfl, o5, hl5, x5⟩; (obtain ⟨a5, c5, rfl, -⟩ := o5.form); have O5 : Hid (OwnOps w5 W2.heap.size (.slice a5 l5.length c5) l5) := ⟨zBm o5.row X3.out.sz, o5.data⟩; have L5 := zh hl5; have Y5 := zh (X3.out.trans x5); have X5 := zh (XW2.out.trans (X3.out.trans x5)); clear o5 hl5 x5)
 clear b0 b1 b2 b3 b4 bf m0 m1 mf;have hb10 := set_new (i := 1) X5.out (Nat.le_refl _) (Y5.out.get (YW2.out.get BW.out)) (.int .i64 ((at_ + 1 : Nat) : Int))
 obtain ⟨W10, hW10⟩ : ∃ W10, W10 = w5.setCell ⟨w.heap.size, 1, none⟩ (.int .i64 ((at_ + 1 : Nat) : Int)) := ⟨_, rfl⟩
 rw [← hW10] at hb10;have X10 := zh hb10.1;have B10 := zh hb10.2;have HO10 := zh (show OwnOps W10 W2.heap.size (.slice a5 l5.length c5) l5 by rw [hW10]; exact O5.out.mut (zAi (B := 0) (T := [118]) w5 (Y5.out.get (YW2.out.get BW.out)) _ (by simp) (Nat.zero_le _)) (by simp) (by simp));have HSZ := zh (show W2.heap.size ≤ W10.heap.size by rw [hW10]; simpa [World.setCell] using Y5.out.sz);clear hb10;obtain ⟨b0, b1, b2, b3, b4, bf⟩ := zAw (Y5.out.get (YW2.out.get BW.out));have HK10 := zh (HKP.out W10 _ _ X10.out HSZ.out HO10.out L5.out)
 go_upto_region 11 with fail
 rw [E1.out, ← hW10];clear hW10 b0 b1 b2 b3 b4 bf;obtain ⟨b0, b1, b2, b3, b4, bf⟩ := zAw B10.out
 go_wp2_with (go_at_call 101; refine HK10.out.mono ?_; rintro e w9 ⟨q9, rfl, o9, r9, hv9, -, m9⟩; have O9 := zh o9; have R9 := zh r9; have V9 := zh hv9; have M9 := zh m9; clear o9 r9 hv9 m9)
 go_ret
 exact ⟨q9, x.lg, rfl, O9.out, R9.out, V9.out, (HL.out.ext X10.out).mut M9.out (by decide), X10.out.mut.trans (M9.out.to (by decide))⟩
set_option maxHeartbeats 2000000 in
theorem Move_swap {w : World} {B o c q : Nat} {x : Ob} {V V' : List (Pth × Nd)} {sh sh' : List Pth} {t : Tx} {mv cv gv : Value} {L : List (List Value)} {fs : List Af} (ho : w.heap[o]? = some (.cells (zAk x) 67 (0, 0))) (hv : VolAt w B x.v V sh c) (hBo : B ≤ o) (hB : B ≤ w.heap.size) (h0 : 0 < B) (hc : c < 110) (hV : V.length ≤ 40) (htx : x.tx = .pointer (some ⟨q, 0, none⟩)) (hq : w.heap[q]? = some (.cells (zBf mv cv gv t) 116 (0, 0))) (ht : TxV w mv cv gv t) (hok : TxOk t) (hL : ORow zCv w B x.lg L) (hs : SplitOk zCa zI6) (hcome : ComeOf w x.come fs) (hph : t.phase = 1) (hlt : t.at_ < t.mv.length) (h10 : t.mv.length ≤ 10)
  (hd : DoOk V sh (zJf V t.at_ (t.mv[t.at_]) ++ [zFn V { t with at_ := t.at_ + 1 }]) V' sh') {mx : Int} (hmx : w.cell? ⟨0, 0, none⟩ = some (.int .i64 mx)) :
  Calls Tryz.prog 104 #[.pointer (some ⟨o, 0, none⟩)] w (zPr w B o (c + 1) x V' sh' { t with at_ := t.at_ + 1 } mv cv gv x.pl L) := by
 obtain ⟨ph, at_, ml, cl, gl⟩ := t;simp only at hph hlt h10;subst hph
 obtain ⟨W, hW⟩ : ∃ W, W = box5 w (.int .i64 1) (.int .i64 at_) mv cv gv := ⟨_, rfl⟩
 have hb5 := box5_is w (.int .i64 1) (.int .i64 at_) mv cv gv;rw [← hW] at hb5;have XW := zh hb5.1;have BW := zh hb5.2;clear hb5;obtain ⟨ma, n1, ca, n2, ga, n3, rfl, rfl, rfl⟩ := ht.form;simp only at *;obtain ⟨b', e, hm0, hm1⟩ := mv_at (ht.mv.ext XW.out) at_ hlt;subst e;have hkd : (ml[at_]).kind ≤ 2 := hok.kind _ (List.getElem_mem hlt);have hpt : SplitOk (ml[at_]).path (names (ml[at_]).path) := hok.path _ (List.getElem_mem hlt);generalize hmm : ml[at_] = m at *
 obtain ⟨W2, hW2⟩ : ∃ W2, W2 = boxM W (.int .i64 m.kind) (.string (ba m.path)) := ⟨_, rfl⟩
 have hb6 := boxM_is W (.int .i64 m.kind) (.string (ba m.path));rw [← hW2] at hb6;have YW2 := zh hb6.1;have BM := zh hb6.2;have XW2 := zh (XW.out.trans hb6.1);clear hb6;have HO := zh ho;obtain ⟨b0, b1, b2, b3, b4, bf⟩ := zAw BW.out;have c4 := zAe ho 4 x.tx rfl;rw [htx] at c4;obtain ⟨q0, q1, q2, q3, q4, qf⟩ := zAw hq;have q0' : w.cell? ⟨q, 0, none⟩ = some (.int .i64 1) := q0;have E1 := zh (show ((at_ : Nat) : Int) + 1 = ((at_ + 1 : Nat) : Int) by omega);have hat10 : at_ < 10 := by omega
 obtain ⟨tr, lg, hb, hvb, htr⟩ := hv.read (by omega) (by omega);have HDM : Hid (∀ U, Ext w U → Calls Tryz.prog 169 #[.pointer (some ⟨tr, 0, none⟩), .int .i64 (at_ : Nat), .agg #[.int .i64 (m.kind : Nat), .string (ba m.path)]] U (zC7 U (zJf V at_ m))) := fun U y => do_any (htr.ext y) at_ hat10 m hkd hpt (y.cell hmx)
 have KS : Hid (∀ U, Ext W2 U → U.cell? ⟨o, 1, none⟩ = some (.pointer (some ⟨x.v, 0, none⟩)) ∧ U.cell? ⟨x.v, 0, none⟩ = some (.pointer (some ⟨tr, 0, none⟩)) ∧ U.cell? ⟨w.heap.size, 1, none⟩ = some (.int .i64 (at_ : Nat)) ∧ U.cell? ⟨W.heap.size, 0, none⟩ = some (.int .i64 (m.kind : Nat)) ∧ U.cell? ⟨W.heap.size, 1, none⟩ = some (.string (ba m.path))) := fun U y => ⟨zAe (y.get (XW2.out.get HO.out)) 1 _ rfl, (zAw (y.get (XW2.out.get hvb.blk))).1, (zAw (y.get (YW2.out.get BW.out))).2.1, (zAu (y.get BM.out)).1, (zAu (y.get BM.out)).2.1⟩
 clear hvb htr
 have hlen : ∀ l : List (OpP × Value), l.map Prod.fst = zJf V at_ m → l.length ≤ 40 := fun l e => by
  have h1 := hd.few;have h2 := congrArg List.length e;rw [List.length_map] at h2;rw [List.length_append] at h1;omega
 have hok2 : TxOk ⟨1, at_ + 1, ml, cl, gl⟩ := ⟨hok.phase, by simp only; omega, hok.few, hok.pkgs, hok.kind, hok.path, hok.name⟩
 have HKP : Hid (∀ U u l, Ext w U → W2.heap.size ≤ U.heap.size → OwnOps U W2.heap.size u l → l.map Prod.fst = zJf V at_ m → Calls Tryz.prog 101 #[.pointer (some ⟨o, 0, none⟩), .agg (zBf (.slice (some ⟨b', 0, none⟩) ml.length n1) (.slice ca cl.length n2) (.slice ga gl.length n3) ⟨1, at_ + 1, ml, cl, gl⟩), u] U (zL6 U B o (c + 1) x V' sh' ⟨1, at_ + 1, ml, cl, gl⟩ (.slice (some ⟨b', 0, none⟩) ml.length n1) (.slice ca cl.length n2) (.slice ga gl.length n3))) := fun U u l y hsz h1 h2 =>
  zMa (y.get HO.out) (hv.ext y) hBo (Nat.le_trans hB y.sz) h0 (Nat.le_trans hB XW2.out.sz) hsz hc hV ⟨(ht.ext y).mv, (ht.ext y).come, (ht.ext y).gone⟩ hok2 h1 h2 (hlen l h2) hs hd (y.cell hmx)
 have HL := zh hL;clear ho hv hBo hB hc hV htx hq ht hok hok2 hL hs hd hmx hkd hpt hcome q0 hlen;unfold box5 at hW;unfold boxM at hW2;go_enter Tryz.func104, Tryz.ntmps104
 go_upto_region 2 with fail
 rw [← hW];clear hW c4 q0' q1 q2 q3 q4 qf
 go_upto_region 5 with fail
 rw [← hW2];clear hW2 hm0 hm1 b0 b1 b2 b3 b4 bf;obtain ⟨b0, b1, b2, b3, b4, bf⟩ := zAw (YW2.out.get BW.out)
 go_upto_region 9 with fail
 clear b0 b1 b2 b3 b4 bf;refine wp_region_held_drew (S := (fun U => U.cell? ⟨o, 1, none⟩ = some (.pointer (some ⟨x.v, 0, none⟩)) ∧ U.cell? ⟨x.v, 0, none⟩ = some (.pointer (some ⟨tr, 0, none⟩)) ∧ U.cell? ⟨w.heap.size, 1, none⟩ = some (.int .i64 (at_ : Nat)) ∧ U.cell? ⟨W.heap.size, 0, none⟩ = some (.int .i64 (m.kind : Nat)) ∧ U.cell? ⟨W.heap.size, 1, none⟩ = some (.string (ba m.path)))) (by kernel_rfl) (by (first | exact KS.out _ (xr _).drew | exact KS.out _ Y5.out)) fun _ => ?_
 refine tk 0 ?_;refine tk 1 ?_;refine tk 2 ?_;refine tk 3 ?_;refine tk 4 ?_;refine tk 5 ?_;refine tk 6 ?_;refine tk 7 ?_;refine tk 8 ?_;refine tk 9 ?_;refine rd 10 fun K hK => ?_
 go_simp
 (go_at_call 169; refine (HDM.out _ (XW2.out.trans (xr _).drew)).mono ?_; rintro e w5 ⟨v5, l5, rfl, o5, hl5, x5⟩; (obtain ⟨a5, c5, rfl, -⟩ := o5.form); have O5 : Hid (OwnOps w5 W2.heap.size (.slice a5 l5.length c5) l5) := o5; have L5 := zh hl5; have Y5 := zh ((xr W2).drew.trans x5); have X5 := zh (XW2.out.trans ((xr W2).drew.trans x5)); clear o5 hl5 x5)
 go_wp2_with fail
 refine hK.out _ _ ?_ fun _ => ?_
 ·(first | exact KS.out _ (xr _).drew | exact KS.out _ Y5.out)
 clear hK K;refine tk 11 ?_;refine wpAnyH_done (by kernel_rfl) ?_ _;have hb10 := set_new (i := 1) X5.out (Nat.le_refl _) (Y5.out.get (YW2.out.get BW.out)) (.int .i64 ((at_ + 1 : Nat) : Int))
 obtain ⟨W10, hW10⟩ : ∃ W10, W10 = w5.setCell ⟨w.heap.size, 1, none⟩ (.int .i64 ((at_ + 1 : Nat) : Int)) := ⟨_, rfl⟩
 rw [← hW10] at hb10;have X10 := zh hb10.1;have B10 := zh hb10.2;have HO10 := zh (show OwnOps W10 W2.heap.size (.slice a5 l5.length c5) l5 by rw [hW10]; exact O5.out.mut (zAi (B := 0) (T := [118]) w5 (Y5.out.get (YW2.out.get BW.out)) _ (by simp) (Nat.zero_le _)) (by simp) (by simp));have HSZ := zh (show W2.heap.size ≤ W10.heap.size by rw [hW10]; simpa [World.setCell] using Y5.out.sz);clear hb10;obtain ⟨b0, b1, b2, b3, b4, bf⟩ := zAw (Y5.out.get (YW2.out.get BW.out));have HK10 := zh (HKP.out W10 _ _ X10.out HSZ.out HO10.out L5.out)
 go_upto_region 11 with fail
 rw [E1.out, ← hW10];clear hW10 b0 b1 b2 b3 b4 bf;obtain ⟨b0, b1, b2, b3, b4, bf⟩ := zAw B10.out
 go_wp2_with (go_at_call 101; refine HK10.out.mono ?_; rintro e w9 ⟨q9, rfl, o9, r9, hv9, -, m9⟩; have O9 := zh o9; have R9 := zh r9; have V9 := zh hv9; have M9 := zh m9; clear o9 r9 hv9 m9)
 go_ret
 exact ⟨q9, x.lg, rfl, O9.out, R9.out, V9.out, (HL.out.ext X10.out).mut M9.out (by decide), X10.out.mut.trans (M9.out.to (by decide))⟩
theorem flat_set (s : Nat) (u : Value) : ∀ (rs : List (List Value)) (_ : ∀ r ∈ rs, r.length = s) (k j : Nat) (hk : k < rs.length) (_ : j < s), rs.flatten.set (k * s + j) u = (rs.set k (rs[k].set j u)).flatten
 | [], _, k, j, hk, _ => absurd hk (by simp)
 | r :: rs, h, 0, j, _, hj => by
   have := h r (by simp);simp only [List.flatten_cons, Nat.zero_mul, Nat.zero_add, List.getElem_cons_zero, List.set_cons_zero];rw [List.set_append_left _ _ (by omega)]
 | r :: rs, h, k + 1, j, hk, hj => by
   have h1 := h r (by simp);simp only [List.flatten_cons, List.getElem_cons_succ, List.set_cons_succ];rw [List.set_append_right _ _ (by rw [h1, Nat.add_one_mul]; omega), h1, show (k + 1) * s + j - s = k * s + j by rw [Nat.add_one_mul]; omega];rw [flat_set s u rs (fun x hx => h x (by simp [hx])) k j (by simpa using hk) hj]
theorem ORow.store {R : RT} {w : World} {base g n c : Nat} {rs : List (List Value)} (h : ORow R w base (.slice (some ⟨g, 0, none⟩) n c) rs) {k j : Nat} (hk : k < rs.length) (hj : j < R.s) (u : Value) (hu : u.oneCell' = true) :
  ORow R (w.setCell ⟨g, k * R.s + j, none⟩ u) base (.slice (some ⟨g, 0, none⟩) n c) (rs.set k (rs[k].set j u)) ∧ Mut base [R.et + 2] w (w.setCell ⟨g, k * R.s + j, none⟩ u) := by
 obtain ⟨a, c', e⟩ := h.form;cases e;obtain ⟨h1, h2⟩ := World.ownsRow.stored h.own (k * R.s + j) u;refine ⟨⟨?_, fun r hr => ?_, fun r hr v hv => ?_⟩, zIl h.own h2⟩
 ·rw [flat_set R.s u rs h.len k j hk hj] at h1;simpa using h1
 ·rcases List.mem_or_eq_of_mem_set hr with hr | rfl
  ·exact h.len r hr
  ·rw [List.length_set]; exact h.len _ (List.getElem_mem hk)
 ·rcases List.mem_or_eq_of_mem_set hr with hr | rfl
  ·exact h.one r hr v hv
  ·rcases List.mem_or_eq_of_mem_set hv with hv | rfl
   ·exact h.one _ (List.getElem_mem hk) v hv
   ·exact hu
def apartPost (w : World) (d : Nat) (fs : List Af) (e : Ending) (w' : World) : Prop :=
 ∃ g gc fv xs, e = .returned (.slice (some ⟨g, 0, none⟩) 1 gc) ∧ ComeAt w' g d fv xs ∧ xs.map Prod.fst = fs ∧ Ext w w'
theorem Apart_nil (w : World) : Calls Tryz.prog 102 #[.slice none 0 0] w fun e w' => ∃ a c, e = .returned (.slice a 0 c) ∧ Ext w w' := by
 have HC := zh (Clone_166 (ORow.nil rPkg w 0) (by simp));go_enter Tryz.func102, Tryz.ntmps102
 go_wp2_with (go_at_call 166; refine HC.out.mono ?_; rintro e w2 ⟨v2, rfl, r2, x2⟩; (obtain ⟨a2, c2, rfl⟩ := r2.form); have X2 := zh x2; clear r2 x2)
 go_loopw [11] (fun i wr => zBo w2 i wr) (fun _ _ => 0)
 case atStart => exact ⟨rfl, rfl⟩
 case round =>
  obtain ⟨rfl, rfl⟩ := hrel
  go_wp2_with fail
  go_ret
  exact ⟨_, _, rfl, X2.out⟩
def apIn (w : World) (b2 b n c : Nat) (d : Nat) (fb c3 : Nat) (fs : List Af) (i : Value) (wr : World) : Prop :=
 ∃ (k : Nat) (xs : List (Af × Value)), k ≤ n ∧ i = .int .i64 k ∧ xs.map Prod.fst = fs ∧ Hid (ORow rFile wr b2 (.slice (some ⟨fb, 0, none⟩) n c3) (xs.map zCb)) ∧ Hid (∀ y ∈ xs, DataIs wr y.2 y.1.data) ∧ Hid (ORow rPkg wr w.heap.size (.slice (some ⟨b, 0, none⟩) 1 c) [(zA5 (dig d) (.slice (some ⟨fb, 0, none⟩) n c3)).toList]) ∧ Hid (Ext w wr)
def apOut (w w2 : World) (b c d : Nat) (fs : List Af) (i : Value) (wr : World) : Prop :=
 (i = .int .i64 0 ∧ wr = w2) ∨ (i = .int .i64 1 ∧ ∃ (fv : Value) (xs : List (Af × Value)), xs.map Prod.fst = fs ∧ Hid (ORow rFile wr 0 fv (xs.map zCb)) ∧ Hid (∀ y ∈ xs, DataIs wr y.2 y.1.data) ∧ Hid (ORow rPkg wr w.heap.size (.slice (some ⟨b, 0, none⟩) 1 c) [(zA5 (dig d) fv).toList]) ∧ Hid (Ext w wr))
theorem zH0 {w : World} {base b c d n fc : Nat} {fa : Option Addr} (r : ORow rPkg w base (.slice (some ⟨b, 0, none⟩) 1 c) [(zA5 (dig d) (.slice fa n fc)).toList]) : w.cell? ⟨b, 4, none⟩ = some (.slice fa n fc) ∧ w.frozen? ⟨b, 4, none⟩ = false := by
 obtain ⟨b', e, hc⟩ := r.at 0 (by simp);cases e;exact ⟨hc 4 (by decide), World.ownsRow.frozenAt r.own 4⟩
def boxF (w : World) (u0 u1 u2 : Value) : World := w.alloc (.cells #[u0, u1, u2] 30)
theorem boxF_is (w : World) (u0 u1 u2 : Value) : Ext w (boxF w u0 u1 u2) ∧ (boxF w u0 u1 u2).heap[w.heap.size]? = some (.cells #[u0, u1, u2] 30 (0, 0)) := ⟨(xr w).alloc _, heap_alloc_new w _⟩
theorem zI1 {R : RT} {w : World} {base : Nat} {v : Value} {rs : List (List Value)} (h : ORow R w base v rs) (h0 : 0 < rs.length) : ∃ b c, v = .slice (some ⟨b, 0, none⟩) rs.length c := by
 rcases h.own.2 with ⟨_, h1⟩ | ⟨b, cap, cur, rfl, _⟩
 ·omega
 ·exact ⟨b, cap, rfl⟩
set_option maxHeartbeats 4000000 in
theorem Apart_come {w : World} {g gc d : Nat} {fv : Value} {fs : List (Af × Value)} (hrow : ORow rPkg w 0 (.slice (some ⟨g, 0, none⟩) 1 gc) [(zA5 (dig d) fv).toList]) (hf : ArcFs w fv fs) (hne : 0 < fs.length) (hd : ∀ x ∈ fs, x.1.data.length ≤ 16777216) :
  Calls Tryz.prog 102 #[.slice (some ⟨g, 0, none⟩) 1 gc] w (apartPost w d (fs.map Prod.fst)) := by
 have HC := zh (Clone_166 hrow (by simp));obtain ⟨fa, fc, rfl⟩ := hf.form;have hlen := hf.len;have HF : Hid (∀ W, Ext w W → Calls Tryz.prog 167 #[.slice fa fs.length fc] W (zF1 rFile W (fs.map zCb))) := fun W y => Clone_167 ((hf.ext y).row) (by simp; omega)
 have HB : Hid (∀ W v l, DataIs W v l → l.length ≤ 16777216 → Calls Tryz.prog 25 #[v] W (zF0 W l)) := fun W v l h1 h2 => zGs h1.bytes h2
 have HFS := zh hf.data
 have HD0 : Hid (∀ f ∈ fs.map Prod.fst, f.data.length ≤ 16777216) := fun f hm => by
  obtain ⟨x, hx, rfl⟩ := List.mem_map.1 hm;exact hd x hx
 have HNE := zh hne;clear hrow hf hd hne;go_enter Tryz.func102, Tryz.ntmps102
 go_wp2_with (go_at_call 166; refine HC.out.mono ?_; rintro e w2 ⟨v2, rfl, r2, x2⟩; (obtain ⟨b, c, hv2⟩ := zI1 r2 (by simp)); simp only [List.length_singleton] at hv2; subst hv2; have R2 := zh r2; have X2 := zh x2; clear r2 x2)
 go_loopw [11] (fun i wr => apOut w w2 b c d (fs.map Prod.fst) i wr) (fun i _ => 1 - (intOf i).toNat)
 case atStart => exact .inl ⟨rfl, rfl⟩
 case round =>
  obtain ⟨wq, rfl⟩ : ∃ x : World, x = wr := ⟨_, rfl⟩
  rcases hrel with ⟨rfl, rfl⟩ | ⟨rfl, fv2, xs, hxs, HR, HD, HP, HX⟩
  ·obtain ⟨p4, pf⟩ := zH0 R2.out
   go_upto_region 6 with (go_at_call 167; refine (HF.out _ X2.out).mono ?_; rintro e w3 ⟨v3, rfl, r3, x3⟩; (obtain ⟨fb, c3, hv3⟩ := zI1 r3 (by simpa using HNE.out)); (rw [List.length_map] at hv3); subst hv3; have R3 := zh r3; have X3 := zh (X2.out.trans x3); have Y3 := zh x3; clear p4 pf; (obtain ⟨p4, pf⟩ := zH0 (R2.out.ext x3)); clear r3 x3)
   obtain ⟨W4, hW4⟩ : ∃ W4, W4 = w3.setCell ⟨b, 4, none⟩ (.slice (some ⟨fb, 0, none⟩) fs.length c3) := ⟨_, rfl⟩
   have hst := ORow.store (R2.out.ext Y3.out) (k := 0) (j := 4) (by simp) (by decide) (.slice (some ⟨fb, 0, none⟩) fs.length c3) rfl;have hst1 : ORow rPkg W4 w.heap.size (.slice (some ⟨b, 0, none⟩) 1 c) [(zA5 (dig d) (.slice (some ⟨fb, 0, none⟩) fs.length c3)).toList] := by rw [hW4]; exact hst.1
   have hst2 : Mut w.heap.size [rPkg.et + 2] w3 W4 := by rw [hW4]; exact hst.2
   have P4 := zh hst1;have X4 := zh (X3.out.then_mut hst2 (Nat.le_refl _));have R4 := zh (R3.out.mut hst2 (by decide));have D4 : Hid (∀ y ∈ fs, DataIs W4 y.2 y.1.data) := fun y hy => (HFS.out y hy).ext X4.out
   have HB2 : Hid (w.heap.size ≤ wq.heap.size) := X2.out.sz;clear hst hst1 hst2;rw [← hW4];clear hW4 p4 pf;obtain ⟨p4, pf⟩ := zH0 P4.out;generalize hn : fs.length = n at *;have HN := zh hn;clear hn
   go_wp2_with fail
   go_loopw [30] (fun i wr => apIn w wq.heap.size b n c d fb c3 (fs.map Prod.fst) i wr) (fun i _ => n - (intOf i).toNat)
   case atStart => exact ⟨0, fs, Nat.zero_le _, rfl, rfl, zh R4.out, zh D4.out, zh P4.out, zh X4.out⟩
   case round =>
    obtain ⟨wz, rfl⟩ : ∃ x : World, x = wr := ⟨_, rfl⟩
    obtain ⟨k, xs, hk, rfl, hxs, HR, HD, HP, HX⟩ := hrel
    have hxl : xs.length = n := by
     have := congrArg List.length hxs;simp only [List.length_map] at this;rw [this]; exact HN.out
    by_cases hlt : k < n
    ·have hkx : k < xs.length := by omega
     obtain ⟨b', e, hcs⟩ := HR.out.at k (by simpa using hkx);cases e;have hc0 : wz.cell? ⟨fb, k * 3, none⟩ = some (.string (ba xs[k].1.path)) := by have := hcs 0 (by decide); simpa [zCb, rFile] using this
     have hc1 : wz.cell? ⟨fb, k * 3 + 1, none⟩ = some (.bool xs[k].1.cfg) := by have := hcs 1 (by decide); simpa [zCb, rFile] using this
     have hc2 : wz.cell? ⟨fb, k * 3 + 2, none⟩ = some xs[k].2 := by have := hcs 2 (by decide); simpa [zCb, rFile] using this
     have HDk := zh (HD.out _ (List.getElem_mem hkx));have HLk := zh (HD0.out xs[k].1 (by rw [← hxs]; exact List.mem_map_of_mem (List.getElem_mem hkx)))
     have HSET : Hid (∀ nv : Value, (xs.map zCb).set k ((xs.map zCb)[k]'(by simpa using hkx) |>.set 2 nv) = (xs.set k (xs[k].1, nv)).map zCb ∧ (xs.set k (xs[k].1, nv)).map Prod.fst = fs.map Prod.fst) := fun nv => by
      refine ⟨by rw [List.map_set]; simp [zCb], ?_⟩;rw [List.map_set, ← hxs];refine List.ext_getElem (by simp) (fun i h1 h2 => ?_);rw [List.getElem_set]
      split
      ·rename_i hi; subst hi; simp
      ·rfl
     have HMEM : Hid (∀ nv : Value, ∀ y ∈ xs.set k (xs[k].1, nv), y ∈ xs ∨ y = (xs[k].1, nv)) := fun nv y hy => List.mem_or_eq_of_mem_set hy
     clear hcs;generalize xs[k] = y at *;obtain ⟨⟨yp, yc, yd⟩, yv⟩ := y;obtain ⟨da, dc, hdv⟩ := HDk.out.form;simp only at hdv hc0 hc1 hc2;subst hdv
     obtain ⟨W, hW⟩ : ∃ W, W = boxF wz (.string (ba yp)) (.bool yc) (.slice da yd.length dc) := ⟨_, rfl⟩
     have hbx := boxF_is wz (.string (ba yp)) (.bool yc) (.slice da yd.length dc);rw [← hW] at hbx;have XW := zh hbx.1;have BW := zh hbx.2;clear hbx;unfold boxF at hW
     go_upto_region 9 with fail
     rw [← hW];have HC2 := zh hc2;clear hW hc0 hc1 hc2
     have KS : Hid (∀ U, Ext W U → U.cell? ⟨b, 4, none⟩ = some (.slice (some ⟨fb, 0, none⟩) n c3) ∧ U.cell? ⟨wz.heap.size, 2, none⟩ = some (.slice da yd.length dc)) := fun U y => ⟨(zH0 ((HP.out.ext XW.out).ext y)).1, by rw [zAb (y.get BW.out)]; rfl⟩
     refine zBc (S := (fun U => U.cell? ⟨b, 4, none⟩ = some (.slice (some ⟨fb, 0, none⟩) n c3) ∧ U.cell? ⟨wz.heap.size, 2, none⟩ = some (.slice da yd.length dc))) 9 (by kernel_rfl) (by kernel_rfl) (by (first | exact KS.out _ (xr _).drew | exact KS.out _ X8.out)) fun _ => ?_
     simp only [List.take_succ_cons, List.take_zero];refine tk 0 ?_;refine tk 1 ?_;refine tk 2 ?_;refine tk 3 ?_;refine tk 4 ?_;refine tk 5 ?_;refine tk 6 ?_;refine tk 7 ?_;refine rd 8 fun K hK => ?_
     go_simp
     (go_at_call 25; refine (HB.out _ _ yd (HDk.out.ext (XW.out.trans (xr W).drew)) HLk.out).mono ?_; rintro e w8 ⟨nv, rfl, hnv, x8⟩; have NV := zh hnv; (obtain ⟨na, nc, rfl⟩ := hnv.form); have X8 := zh ((xr W).drew.trans x8); clear hnv x8)
     go_wp2_with fail
     refine hK.out _ _ ?_ fun _ => ?_
     ·(first | exact KS.out _ (xr _).drew | exact KS.out _ X8.out)
     clear hK K
     try simp only [nf]
     refine wpAnyH_done (by kernel_rfl) ?_ _;simp only [zLp, List.drop_succ_cons, List.drop_zero];have R8 := zh (HR.out.ext (XW.out.trans X8.out))
     have hf8 : w8.frozen? ⟨fb, k * 3 + 2, none⟩ = false := by
      have h := R8.out.own;rw [show (xs.map zCb).length = n by simpa using hxl] at h;exact World.ownsRow.frozenAt h _
     have hc8 := (XW.out.trans X8.out).cell HC2.out;have hst := ORow.store R8.out (k := k) (j := 2) (by simpa using hkx) (by decide) (.slice na yd.length nc) rfl;have S1 := zh hst.1;have S2 := zh hst.2;clear hst
     go_wp2_with fail
     go_roundw
     case rel =>
      refine ⟨k + 1, xs.set k (⟨yp, yc, yd⟩, .slice na yd.length nc), hlt, by go_num, (HSET.out _).2, zh ?_, zh (fun z hz => ?_), zh (((HP.out.ext (XW.out.trans X8.out))).mut S2.out (by decide)), zh ((HX.out.trans (XW.out.trans X8.out)).then_mut S2.out HB2.out)⟩
      ·rw [← (HSET.out _).1]; exact S1.out
      ·rcases HMEM.out _ z hz with hz | rfl
       ·exact ((HD.out z hz).ext (XW.out.trans X8.out)).mut S2.out (by decide)
       ·exact NV.out.mut S2.out (by decide)
     case measure => simp [intOf]; omega
    ·go_wp2_with fail
     go_roundw
     case rel => exact .inr ⟨by go_num, _, xs, hxs, zh (HR.out.le (Nat.zero_le _)), HD, HP, HX⟩
     case measure => simp [intOf]
  ·go_wp2_with fail
   go_ret
   refine ⟨b, c, fv2, xs, rfl, ⟨⟨c, HP.out.le (Nat.zero_le _)⟩, ⟨HR.out, HD.out, ?_⟩⟩, hxs, HX.out⟩;have := congrArg List.length hxs;simp only [List.length_map] at this;omega
structure Idle (w : World) (B o : Nat) (x : Ob) (V : List (Pth × Nd)) (sh : List Pth) (c : Nat) (base : Option En) : Prop where
 blk : w.heap[o]? = some (.cells (zAk x) 67 (0, 0))
 vol : VolAt w B x.v V sh c
 tx : x.tx = .pointer none
 bm : ∃ b, x.bm = .map (some b) ∧ BaseM w b base
 gr : ∃ g, MgrE w x.mg g
 lg : ∃ L, ORow zCv w B x.lg L ∧ L.length ≤ c
 lo : B ≤ o ∧ B ≤ x.mg ∧ B ≤ w.heap.size
structure Busy (w : World) (B o : Nat) (x : Ob) (V : List (Pth × Nd)) (sh : List Pth) (c : Nat) (t : Tx) (fs : List Af) (next : Option En) (sb : Nat) : Prop where
 blk : w.heap[o]? = some (.cells (zAk x) 67 (0, 0))
 vol : VolAt w B x.v V sh c
 tx : ∃ q mv cv gv, x.tx = .pointer (some ⟨q, 0, none⟩) ∧ w.heap[q]? = some (.cells (zBf mv cv gv t) 116 (0, 0)) ∧ TxV w mv cv gv t
 come : ComeOf w x.come fs
 nx : ∃ b, x.nx = .map (some b) ∧ BaseM w b next
 gr : ∃ g g1 g2, MgrE w x.mg g ∧ x.was = .pointer (some ⟨g1, 0, none⟩) ∧ x.now = .pointer (some ⟨g2, 0, none⟩) ∧ GraphE w g1 ∧ GraphE w g2 ∧ (sb ≤ 1 → g ≠ g2) ∧ (sb = 2 → g = g2)
 rows : (sb = 0 → x.pl = false) ∧ (0 < sb → x.pl = true ∧ x.stop = .slice none 0 0 ∧ x.start = .slice none 0 0)
 lg : ∃ L, ORow zCv w B x.lg L ∧ L.length ≤ c
 lo : B ≤ o ∧ B ≤ x.mg ∧ B ≤ w.heap.size
def zE8 : List Nat := 0 :: 7 :: 11 :: 32 :: 37 :: 69 :: 84 :: 87 :: 91 :: 118 :: 125 :: 196 :: 260 :: 264 :: 325 :: zCk
section
variable {w w' : World} {B o c : Nat} {x : Ob} {V : List (Pth × Nd)} {sh : List Pth} {base : Option En}
theorem Idle.mut {B' : Nat} {S : List Nat} (h : Idle w B o x V sh c base) (m : Mut B' S w w') (hs : ∀ t ∈ zE8, t ∉ S := by decide) : Idle w' B o x V sh c base := by
 have k : ∀ t, t ∈ zE8 → t ∉ S := hs;obtain ⟨b, hb1, hb2⟩ := h.bm;obtain ⟨g, hg⟩ := h.gr;obtain ⟨L, hL, hl⟩ := h.lg;refine ⟨m.get h.blk (k _ (by decide)), h.vol.mut m (fun t ht hm => ?_), h.tx, ⟨b, hb1, hb2.mut m (k _ (by decide)) (k _ (by decide))⟩, ⟨g, hg.mut m (fun t ht hm => ?_)⟩, ⟨L, hL.mut m (k _ (by decide)), hl⟩, h.lo.1, h.lo.2.1, Nat.le_trans h.lo.2.2 m.size⟩
 ·exact k t (by
   have : ∀ t ∈ (0 :: 7 :: 84 :: 87 :: 91 :: zCk), t ∈ zE8 := by decide
   exact this t hm) ht
 ·exact k t (by
   have : ∀ t ∈ [0, 125, 325], t ∈ zE8 := by decide
   exact this t hm) ht
theorem Idle.ext (h : Idle w B o x V sh c base) (m : Ext w w') : Idle w' B o x V sh c base := h.mut (B' := 0) (S := []) m.mut (by simp)
end
def Way (w : World) (B o : Nat) (x : Ob) (V' : List (Pth × Nd)) (sh' : List Pth) (fs : List Af) (next : Option En) (cE : Nat) : Nat → Prop
 | 0 => Idle w B o x V' sh' cE next
 | m + 1 => ∃ V sh c t sb n, Busy w B o x V sh c t fs next sb ∧ Runs fs V sh t V' sh' n ∧ c + n = cE ∧ TxOk t ∧ t.mv.length ≤ 10 ∧ sb ≤ 2 ∧ (t.phase ≤ 1 → sb = 0) ∧ m + 1 + sb = n + 2
theorem Runs.few {fs : List Af} {V V' : List (Pth × Nd)} {sh sh' : List Pth} {t : Tx} {n : Nat} (h : Runs fs V sh t V' sh' n) : V.length ≤ 40 ∧ 1 ≤ n ∧ t.phase ≤ 2 := by
 cases h with
 | stage h1 h2 h3 h4 => exact ⟨by have := h3.few; omega, by omega, by omega⟩
 | swap h1 h2 h3 h4 => exact ⟨by have := h3.few; omega, by omega, by omega⟩
 | turn h1 h2 h3 h4 => exact ⟨by have := h3.few; omega, by omega, by omega⟩
 | done ls h1 h2 h3 => exact ⟨by have := h3.few; omega, by omega, by omega⟩
def wayPost (w : World) (B o : Nat) (x : Ob) (V' : List (Pth × Nd)) (sh' : List Pth) (fs : List Af) (next : Option En) (cE m : Nat) (w' : World) : Prop :=
 ∃ x', Way w' B o x' V' sh' fs next cE m ∧ x'.v = x.v ∧ x'.mg = x.mg ∧ Mut B zBd w w'
section
variable {w w' : World} {B o c : Nat} {x : Ob} {V : List (Pth × Nd)} {sh : List Pth} {t t1 : Tx} {fs : List Af} {next : Option En} {sb : Nat}
theorem Busy.go (h : Busy w B o x V sh c t fs next 0) {c1 q : Nat} {V1 : List (Pth × Nd)} {sh1 : List Pth} {lg mv cv gv : Value} {L : List (List Value)} (h1 : w'.heap[o]? = some (.cells (zAk { x with tx := .pointer (some ⟨q, 0, none⟩), pl := false, lg := lg }) 67 (0, 0))) (h2 : w'.heap[q]? = some (.cells (zBf mv cv gv t1) 116 (0, 0))) (h3 : VolAt w' B x.v V1 sh1 c1) (h4 : ORow zCv w' B lg L) (h5 : L.length ≤ c1) (m : Mut B moveTags w w') (ht : TxV w mv cv gv t) (e1 : t1.mv = t.mv) (e2 : t1.come = t.come) (e3 : t1.gone = t.gone) :
  Busy w' B o { x with tx := .pointer (some ⟨q, 0, none⟩), pl := false, lg := lg } V1 sh1 c1 t1 fs next 0 := by
 obtain ⟨b, hb1, hb2⟩ := h.nx;obtain ⟨g, g1, g2, k1, k2, k3, k4, k5, k6, k7⟩ := h.gr;have ht' := ht.mut m (by decide) (by decide);exact ⟨h1, h3, ⟨q, mv, cv, gv, rfl, h2, ⟨by rw [e1]; exact ht'.mv, by rw [e2]; exact ht'.come, by rw [e3]; exact ht'.gone⟩⟩, h.come.mut m (by decide) (by decide) (by decide), ⟨b, hb1, hb2.mut m (by decide) (by decide)⟩, ⟨g, g1, g2, k1.mut m (by decide), k2, k3, k4.mut m (by decide) (by decide), k5.mut m (by decide) (by decide), k6, k7⟩, ⟨fun _ => rfl, fun h => absurd h (by omega)⟩, ⟨L, h4, h5⟩, h.lo.1, h.lo.2.1, Nat.le_trans h.lo.2.2 m.size⟩
end
theorem Way_step {w : World} {B o cE m : Nat} {x : Ob} {V' : List (Pth × Nd)} {sh' : List Pth} {fs : List Af} {next : Option En} (h : Way w B o x V' sh' fs next cE (m + 1)) (h0 : 0 < B) (hc : cE ≤ 110) (hs : SplitOk zCa zI6) {mx : Int} (hmx : w.cell? ⟨0, 0, none⟩ = some (.int .i64 mx)) :
  Calls Tryz.prog 40 #[.pointer (some ⟨o, 0, none⟩)] w fun e w' => e = .returned (.bool true) ∧ wayPost w B o x V' sh' fs next cE m w' := by
 obtain ⟨V, sh, c, t, sb, n, hb, hr, hcn, hok, h10, hsb, hps, hm⟩ := h;obtain ⟨hV, hn1, -⟩ := hr.few;obtain ⟨q, mv, cv, gv, htx, hq, ht⟩ := hb.tx;obtain ⟨L, hL, hLl⟩ := hb.lg;obtain ⟨hBo, hBm, hB⟩ := hb.lo
 cases hr with
 | stage h1 h2 h3 h4 =>
   obtain rfl := hps (by omega);refine zNw hb.blk hb.vol (by omega) (by omega) htx hq (by omega) ((Move_stage hb.blk hb.vol hBo hB h0 (by omega) hV htx hq ht hok hL hs hb.come h1 h2 h10 h3 hmx).mono ?_);rintro e w' ⟨q1, lg1, rfl, p1, p2, p3, p4, p5⟩;rw [hb.rows.1 rfl] at p1;refine ⟨rfl, { x with tx := .pointer (some ⟨q1, 0, none⟩), pl := false, lg := lg1 }, ?_, rfl, rfl, p5.to (by decide)⟩;have hb1 := hb.go (t1 := { t with at_ := t.at_ + 1 }) p1 p2 p3 p4 (by omega) p5 ht rfl rfl rfl
   match m, hm with
   | m + 1, hm => exact ⟨_, _, _, _, 0, _, hb1, h4, by omega, ⟨hok.phase, by simp only; omega, hok.few, hok.pkgs, hok.kind, hok.path, hok.name⟩, h10, by omega, fun _ => rfl, by omega⟩
 | swap h1 h2 h3 h4 =>
   obtain rfl := hps (by omega);refine zNw hb.blk hb.vol (by omega) (by omega) htx hq (by omega) ((Move_swap hb.blk hb.vol hBo hB h0 (by omega) hV htx hq ht hok hL hs hb.come h1 h2 h10 h3 hmx).mono ?_);rintro e w' ⟨q1, lg1, rfl, p1, p2, p3, p4, p5⟩;rw [hb.rows.1 rfl] at p1;refine ⟨rfl, { x with tx := .pointer (some ⟨q1, 0, none⟩), pl := false, lg := lg1 }, ?_, rfl, rfl, p5.to (by decide)⟩;have hb1 := hb.go (t1 := { t with at_ := t.at_ + 1 }) p1 p2 p3 p4 (by omega) p5 ht rfl rfl rfl
   match m, hm with
   | m + 1, hm => exact ⟨_, _, _, _, 0, _, hb1, h4, by omega, ⟨hok.phase, by simp only; omega, hok.few, hok.pkgs, hok.kind, hok.path, hok.name⟩, h10, by omega, fun _ => rfl, by omega⟩
 | turn h1 h2 h3 h4 =>
   obtain rfl := hps h1;refine zNw hb.blk hb.vol (by omega) (by omega) htx hq h1 ((Move_turn hb.blk hb.vol hBo hB h0 (by omega) hV htx hq ht hok hL (by omega) hs h1 h2 h3 hmx).mono ?_);rintro e w' ⟨q1, lg1, rfl, p1, p2, p3, p4, p5⟩;refine ⟨rfl, { x with tx := .pointer (some ⟨q1, 0, none⟩), pl := false, lg := lg1 }, ?_, rfl, rfl, p5.to (by decide)⟩;have hb1 := hb.go (t1 := { t with phase := t.phase + 1, at_ := 0 }) p1 p2 p3 p4 (by simp; omega) p5 ht rfl rfl rfl
   match m, hm with
   | m + 1, hm => exact ⟨_, _, _, _, 0, _, hb1, h4, by omega, ⟨by simp only; omega, by simp, hok.few, hok.pkgs, hok.kind, hok.path, hok.name⟩, h10, by omega, fun _ => rfl, by omega⟩
 | done ls h1 h2 h3 =>
   obtain ⟨g, g1, g2, k1, k2, k3, k4, k5, k6, k7⟩ := hb.gr;obtain ⟨b, hb1, hb2⟩ := hb.nx;have hsb2 : sb = 0 ∨ sb = 1 ∨ sb = 2 := by omega
   rcases hsb2 with rfl | rfl | rfl
   ·refine zHt hb.blk hb.vol (by omega) (by omega) htx hq h1 ((Restart_plan hb.blk hBo k1 k2 k3 k4 k5 (hb.rows.1 rfl)).mono ?_);rintro e w' ⟨rfl, p1, p2⟩;refine ⟨rfl, planned x, ?_, rfl, rfl, p2.to (by decide)⟩
    match m, hm with
    | 1 + 1, _ =>
      exact ⟨V, sh, c, t, 1, 1, ⟨p1, hb.vol.mut p2 (by decide), ⟨q, mv, cv, gv, htx, p2.get hq, ht.mut p2 (by decide) (by decide)⟩, hb.come.mut p2 (by decide) (by decide) (by decide), ⟨b, hb1, hb2.mut p2 (by decide) (by decide)⟩, ⟨g, g1, g2, k1.mut p2 (by decide), k2, k3, k4.mut p2 (by decide) (by decide), k5.mut p2 (by decide) (by decide), fun _ => k6 (by omega), fun h => absurd h (by omega)⟩, ⟨fun h => absurd h (by omega), fun _ => ⟨rfl, rfl, rfl⟩⟩, ⟨L, hL.mut p2 (by decide), hLl⟩, hBo, hBm, Nat.le_trans hB p2.size⟩, .done ls h1 h2 h3, hcn, hok, h10, by omega, fun h => by omega, by omega⟩
   ·obtain ⟨r1, r2, r3⟩ := hb.rows.2 (by omega);refine zHt hb.blk hb.vol (by omega) (by omega) htx hq h1 ((Restart_set hb.blk k1 hBm k3 k5 (k6 (by omega)) r1 r2).mono ?_);rintro e w' ⟨rfl, p1, p2⟩;refine ⟨rfl, x, ?_, rfl, rfl, p2.to (by decide)⟩
    match m, hm with
    | 0 + 1, _ =>
      exact ⟨V, sh, c, t, 2, 1, ⟨p2.get hb.blk, hb.vol.mut p2 (by decide), ⟨q, mv, cv, gv, htx, p2.get hq, ht.mut p2 (by decide) (by decide)⟩, hb.come.mut p2 (by decide) (by decide) (by decide), ⟨b, hb1, hb2.mut p2 (by decide) (by decide)⟩, ⟨g2, g1, g2, p1, k2, k3, k4.mut p2 (by decide) (by decide), k5.mut p2 (by decide) (by decide), fun h => absurd h (by omega), fun _ => rfl⟩, ⟨fun h => absurd h (by omega), fun _ => ⟨r1, r2, r3⟩⟩, ⟨L, hL.mut p2 (by decide), hLl⟩, hBo, hBm, Nat.le_trans hB p2.size⟩, .done ls h1 h2 h3, hcn, hok, h10, by omega, fun h => by omega, by omega⟩
   ·obtain ⟨r1, r2, r3⟩ := hb.rows.2 (by omega);have hgg := k7 rfl;subst hgg;refine zHt hb.blk hb.vol (by omega) (by omega) htx hq h1 ((zOj hb.blk k1 k3 r1 r2 r3 (fun U y => Commit_o (y.get hb.blk) (hb.vol.ext y) hBo (Nat.le_trans hB y.sz) h0 (by omega) hV htx hb1 (y.get hq) (ht.ext y) hok (hL.ext y) (by omega) hs h2 h3 (y.cell hmx))).mono ?_);rintro e w' ⟨lg1, rfl, p1, p3, p4, p5⟩;refine ⟨rfl, { x with bm := x.nx, tx := .pointer none, lg := lg1 }, ?_, rfl, rfl, p5.to (by decide)⟩
    match m, hm with
    | 0, _ =>
      subst hcn;exact ⟨p1, p3, rfl, ⟨b, hb1, hb2.mut p5 (by decide) (by decide)⟩, ⟨g, k1.mut p5 (by decide)⟩, ⟨_, p4, by simp; omega⟩, hBo, hBm, Nat.le_trans hB p5.size⟩
def hostCells (o v : Nat) (d q : Value) : Array Value := #[.pointer (some ⟨o, 0, none⟩), d, .pointer (some ⟨v, 0, none⟩), q, .bool true]
def HostB (w : World) (h o v : Nat) : Prop := ∃ d q, w.heap[h]? = some (.cells (hostCells o v d q) 58 (0, 0))
theorem HostB.mut {w w' : World} {h o v B : Nat} {S : List Nat} (hh : HostB w h o v) (m : Mut B S w w') (hs : 60 ∉ S := by decide) : HostB w' h o v := by
 obtain ⟨d, q, hb⟩ := hh;exact ⟨d, q, m.get hb hs⟩
theorem HostB.cells {w : World} {h o v : Nat} (hh : HostB w h o v) : w.cell? ⟨h, 0, none⟩ = some (.pointer (some ⟨o, 0, none⟩)) ∧ w.cell? ⟨h, 2, none⟩ = some (.pointer (some ⟨v, 0, none⟩)) ∧ w.cell? ⟨h, 4, none⟩ = some (.bool true) ∧ ∀ i, w.frozen? ⟨h, i, none⟩ = false := by
 obtain ⟨d, q, hb⟩ := hh;obtain ⟨h0, h1, h2, h3, h4, hf⟩ := zAw hb;exact ⟨h0, h2, h4, hf⟩
theorem See_any {w : World} {h o v t l hb : Nat} (hh : HostB w h o v) (hv : VolB w v t l hb) (n : Int) :
  Calls Tryz.prog 28 #[.pointer (some ⟨h, 0, none⟩), .int .i64 n] w fun e w' => e = .returned (.int .i64 n) ∧ w = w' := by
 obtain ⟨h0, h2, h4, hf⟩ := hh.cells;have HD := zh (zQb hv);clear hh hv;go_enter Tryz.func28, Tryz.ntmps28
 go_wp2_with (go_at_call 50; refine HD.out.mono ?_; rintro e u ⟨rfl, rfl⟩)
 go_ret
 exact ⟨rfl, rfl⟩
def goRel (w : World) (h o v : Nat) (P : World → Prop) (i : Value) (wr : World) : Prop :=
 (i = .int .i64 0 ∧ wr = w) ∨ (i = .int .i64 1 ∧ Hid (P wr) ∧ Hid (HostB wr h o v) ∧ ∃ t l hb, Hid (VolB wr v t l hb))
theorem Go_one {w : World} {h o v : Nat} {P : World → Prop} (hh : HostB w h o v) (HS : Calls Tryz.prog 40 #[.pointer (some ⟨o, 0, none⟩)] w fun e w' => e = .returned (.bool true) ∧ P w') (HP : ∀ w', P w' → HostB w' h o v ∧ ∃ t l hb, VolB w' v t l hb) :
  Calls Tryz.prog 18 #[.pointer (some ⟨h, 0, none⟩), .int .i64 1] w fun e w' => e = .returned (.int .i64 1) ∧ P w' := by
 obtain ⟨h0, h2, h4, hf⟩ := hh.cells;have HSS := zh HS;have HPP := zh HP;clear hh HS HP;go_enter Tryz.func18, Tryz.ntmps18
 go_wp2_with fail
 go_loopw [5] (fun i wr => goRel w h o v P i wr) (fun i _ => 2 - (intOf i).toNat)
 case atStart => exact .inl ⟨rfl, rfl⟩
 case round =>
  obtain ⟨wq, rfl⟩ : ∃ x : World, x = wr := ⟨_, rfl⟩
  rcases hrel with ⟨rfl, rfl⟩ | ⟨rfl, HPW, HHB, t, l, hb, HVB⟩
  ·go_wp2_with (go_at_call 40; refine HSS.out.mono ?_; rintro e w2 ⟨rfl, p2⟩; have P2 := zh p2; clear p2)
   go_roundw
   case rel =>
    obtain ⟨k1, t, l, hb, k2⟩ := HPP.out _ P2.out;exact .inr ⟨by go_num, P2, zh k1, t, l, hb, zh k2⟩
   case measure => simp [intOf]
  ·clear h0 h2 h4 hf;obtain ⟨h0, h2, h4, hf⟩ := HHB.out.cells;have HSE := zh (See_any HHB.out HVB.out 0)
   go_wp2_with (go_at_call 28; refine HSE.out.mono ?_; rintro e u ⟨rfl, rfl⟩)
   go_ret
   exact ⟨rfl, HPW.out⟩
def setRel (w : World) (B h o : Nat) (x : Ob) (V' : List (Pth × Nd)) (sh' : List Pth) (fs : List Af) (next : Option En) (cE R : Nat) (iv : Value) (wr : World) : Prop :=
 ∃ (i m : Nat) (x' : Ob), iv = .int .i64 i ∧ m + i ≤ R ∧ Hid (Way wr B o x' V' sh' fs next cE m) ∧ x'.v = x.v ∧ x'.mg = x.mg ∧ Hid (Mut B zBd w wr)
def settlePost (w : World) (B o : Nat) (x : Ob) (V' : List (Pth × Nd)) (sh' : List Pth) (next : Option En) (cE : Nat) (e : Ending) (w' : World) : Prop :=
 e = .returned (.bool true) ∧ ∃ x', Idle w' B o x' V' sh' cE next ∧ x'.v = x.v ∧ x'.mg = x.mg ∧ Mut B zBd w w'
theorem Way.vol {w : World} {B o cE m : Nat} {x : Ob} {V' : List (Pth × Nd)} {sh' : List Pth} {fs : List Af} {next : Option En} (h : Way w B o x V' sh' fs next cE m) (hc : cE ≤ 110) (hV : V'.length ≤ 40) : ∃ t l hb, VolB w x.v t l hb := by
 cases m with
 | zero =>
   obtain ⟨t, l, hb, h1, -⟩ := (show Idle w B o x V' sh' cE next from h).vol.read (by omega) (by omega);exact ⟨t, l, hb, h1⟩
 | succ m =>
   obtain ⟨V, sh, c, t, sb, n, h1, h2, h3, -⟩ := h;have := h2.few;obtain ⟨t, l, hb, h1, -⟩ := h1.vol.read (by omega) (by omega);exact ⟨t, l, hb, h1⟩
set_option maxHeartbeats 2000000 in
theorem Settle_any {w : World} {B h o m cE R : Nat} {x : Ob} {V' : List (Pth × Nd)} {sh' : List Pth} {fs : List Af} {next : Option En} (hh : HostB w h o x.v) (hw : Way w B o x V' sh' fs next cE m) (hm : m ≤ R) (hR : R ≤ 1000) (h0 : 0 < B) (hB : B ≤ w.heap.size) (hc : cE ≤ 110) (hV : V'.length ≤ 40) (hs : SplitOk zCa zI6) {mx : Int} (hmx : w.cell? ⟨0, 0, none⟩ = some (.int .i64 mx)) :
  Calls Tryz.prog 8 #[.pointer (some ⟨h, 0, none⟩), .int .i64 R] w (settlePost w B o x V' sh' next cE) := by
 have HH := zh hh;have HW := zh hw;have HS := zh hs;have HMX := zh hmx;have HB := zh hB;clear hh hw hs hmx hB;go_enter Tryz.func8, Tryz.ntmps8
 go_wp2_with fail
 go_loopw [14] (fun i wr => setRel w B h o x V' sh' fs next cE R i wr) (fun i _ => R - (intOf i).toNat)
 case atStart => exact ⟨0, m, x, rfl, by omega, HW, rfl, rfl, zh (Mut.refl _ _ _)⟩
 case round =>
  obtain ⟨wq, rfl⟩ : ∃ x : World, x = wr := ⟨_, rfl⟩
  obtain ⟨i, m, x', rfl, hmi, HWQ, hxv, hxm, HM⟩ := hrel;have HHQ := zh (show HostB wq h o x'.v by rw [hxv]; exact HH.out.mut HM.out (by decide));obtain ⟨c0, c2, c4, cf⟩ := HHQ.out.cells
  cases m with
  | zero =>
    have HID : Hid (Idle wq B o x' V' sh' cE next) := HWQ.out;have HPH := zh (zPe HID.out.blk HID.out.tx)
    by_cases hlt : i < R
    ·go_wp2_with (go_at_call 17; refine HPH.out.mono ?_; rintro e u ⟨rfl, rfl⟩)
     go_ret
     exact ⟨rfl, x', HID.out, hxv, hxm, HM.out⟩
    ·go_wp2_with (go_at_call 17; refine HPH.out.mono ?_; rintro e u ⟨rfl, rfl⟩)
     go_ret
     exact ⟨rfl, x', HID.out, hxv, hxm, HM.out⟩
  | succ m =>
    have hlt : i < R := by omega
    have HPH := zh (show ∃ ph : Nat, Calls Tryz.prog 17 #[.pointer (some ⟨o, 0, none⟩)] wq (fun e w' => e = .returned (.tuple #[.int .i64 (ph : Nat), .bool true]) ∧ wq = w') by
     obtain ⟨V, sh, c, t, sb, n, h1, -⟩ := HWQ.out;obtain ⟨q, mv, cv, gv, k1, k2, -⟩ := h1.tx
     exact ⟨_, Phase_some h1.blk k1 k2⟩)
    obtain ⟨ph, hph⟩ := HPH.out;have HP2 := zh hph
    have HGO : Hid (Calls Tryz.prog 18 #[.pointer (some ⟨h, 0, none⟩), .int .i64 1] wq (fun e w' => e = .returned (.int .i64 1) ∧ wayPost wq B o x' V' sh' fs next cE m w')) := Go_one HHQ.out (Way_step HWQ.out h0 hc HS.out (((HM.out.below HB.out).cell h0).trans HMX.out)) (fun w' hp => by
     obtain ⟨x2, k1, k2, k3, k4⟩ := hp;refine ⟨HHQ.out.mut k4 (by decide), ?_⟩;rw [← k2]
     exact k1.vol hc hV)
    clear hph HPH
    go_wp2_with (first
     | (go_at_call 17; refine HP2.out.mono ?_; rintro e u ⟨rfl, rfl⟩)
     | (go_at_call 18; refine HGO.out.mono ?_; rintro e w2 ⟨rfl, p2⟩; have P2 := zh p2; clear p2))
    go_roundw
    case rel =>
     obtain ⟨x2, k1, k2, k3, k4⟩ := P2.out;exact ⟨i + 1, m, x2, by go_num, by omega, zh k1, k2.trans hxv, k3.trans hxm, zh (HM.out.trans k4)⟩
    case measure => simp [intOf]; omega
end
end Go.Proofs.YtgnjjfdfoibdiaaGreatDoor
