/- A part of the proof of WholeUsers. -/
import Derived.Test.YtgnjjfdfoibdiaaGreatDoorUba
set_option linter.all false
namespace Go.Proofs.YtgnjjfdfoibdiaaGreatDoor
section
open Go.RowKit Go.Maps Go.Sort Go.Lib
set_option maxRecDepth 100000
def zDc : Array Value := #[.int .i64 0, .string ⟨#[]⟩, .string ⟨#[]⟩]
theorem zC4 {W : World} {b i B : Nat} {cs : Array Value} {t : TypeId} (h : W.heap[b]? = some (.cells cs t (0, 0))) (u : Value) (hB : B ≤ b) : Mut B [t + 2] W (W.setCell ⟨b, i, none⟩ u) := zAi W h u (by simp) hB
theorem Mut.then_new {B B' : Nat} {S T : List Nat} {a b c : World} (x : Mut B S a b) (h : Mut B' T b c) (hB : a.heap.size ≤ B') : Mut B S a c :=
 ⟨h.os.trans x.os, h.tape.trans x.tape, h.output.trans x.output, Nat.le_trans x.size h.size, fun k o hk hn => h.block k o (x.block k o hk hn) (.inl (Nat.lt_of_lt_of_le (Array.getElem?_eq_some_iff.1 hk).1 hB))⟩
def zLo (w : World) (b : Nat) : World := ((w.setCell ⟨b, 0, none⟩ (.int .i64 0)).setCell ⟨b, 1, none⟩ (.string ⟨#[]⟩)).setCell ⟨b, 2, none⟩ (.string ⟨#[]⟩)
theorem zDy {w : World} {b : Nat} {B : Nat} (h : w.heap[b]? = some (.cells zDc 38 (0, 0))) (hB : B ≤ b) : Mut B [40] w (zLo w b) ∧ (zLo w b).heap[b]? = some (.cells zDc 38 (0, 0)) := by
 have m1 := zC4 (B := B) (i := 0) h (.int .i64 0) hB;have g1 := zAd _ _ 0 (.int .i64 0) _ _ _ h;have m2 := zC4 (B := B) (i := 1) g1 (.string ⟨#[]⟩) hB;have g2 := zAd _ _ 1 (.string ⟨#[]⟩) _ _ _ g1;have m3 := zC4 (B := B) (i := 2) g2 (.string ⟨#[]⟩) hB;have g3 := zAd _ _ 2 (.string ⟨#[]⟩) _ _ _ g2;exact ⟨(m1.trans m2).trans m3, g3⟩
inductive ComeIn (w : World) (d : Nat) : Value → List Af → Prop
 | nil : ComeIn w d (.slice none 0 0) []
 | one {g gc fv xs} : ORow rPkg w 0 (.slice (some ⟨g, 0, none⟩) 1 gc) [(zA5 (dig d) fv).toList] → ArcFs w fv xs → 0 < xs.length → (∀ x ∈ xs, x.1.data.length ≤ 512) → ComeIn w d (.slice (some ⟨g, 0, none⟩) 1 gc) (xs.map Prod.fst)
theorem ComeIn.form {w : World} {d : Nat} {v : Value} {fs : List Af} (h : ComeIn w d v fs) : ∃ a n c, v = .slice a n c ∧ n = if fs = [] then 0 else 1 := by
 cases h with
 | nil => exact ⟨none, 0, 0, rfl, by rw [if_pos rfl]⟩
 | @one g gc fv xs h1 h2 h3 h4 =>
   refine ⟨some ⟨g, 0, none⟩, 1, gc, rfl, ?_⟩;rw [if_neg];intro e;rw [List.map_eq_nil_iff] at e;rw [e] at h3;exact absurd h3 (by simp)
def zB4 (moves : List Mv) (fs : List Af) (gone : List Str) : Tx := ⟨0, 0, moves, if fs = [] then [] else [nmA], gone⟩
def zEm (d : Nat) (fs : List Af) : List OpP := if fs = [] then [] else [⟨2, sub zIu nmA, [], zO8 (zCg d fs)⟩]
theorem ComeIn.split {w : World} {d n c : Nat} {a : Option Addr} {fs : List Af} (h : ComeIn w d (.slice a n c) fs) : (n = 0 ∧ fs = []) ∨ (n = 1 ∧ fs ≠ [] ∧ ∃ g fv xs, a = some ⟨g, 0, none⟩ ∧ ORow rPkg w 0 (.slice (some ⟨g, 0, none⟩) 1 c) [(zA5 (dig d) fv).toList] ∧ ArcFs w fv xs ∧ 0 < xs.length ∧ (∀ x ∈ xs, x.1.data.length ≤ 512) ∧ xs.map Prod.fst = fs) := by
 cases h with
 | nil => exact .inl ⟨rfl, rfl⟩
 | @one g gc fv xs h1 h2 h3 h4 =>
   refine .inr ⟨rfl, fun e => ?_, g, fv, xs, rfl, h1, h2, h3, h4, rfl⟩;rw [List.map_eq_nil_iff] at e;rw [e] at h3;exact absurd h3 (by simp)
theorem ComeIn.ext {w w' : World} {d : Nat} {v : Value} {fs : List Af} (h : ComeIn w d v fs) (x : Ext w w') : ComeIn w' d v fs := by
 cases h with
 | nil => exact .nil
 | one h1 h2 h3 h4 => exact .one (h1.ext x) (h2.ext x) h3 h4
theorem ComeIn.mut {w w' : World} {d B : Nat} {S : List Nat} {v : Value} {fs : List Af} (h : ComeIn w d v fs) (x : Mut B S w w') (h1 : 37 ∉ S := by decide) (h2 : 32 ∉ S := by decide) (h3 : 7 ∉ S := by decide) : ComeIn w' d v fs := by
 cases h with
 | nil => exact .nil
 | one k1 k2 k3 k4 => exact .one (k1.mut x h1) (k2.mut x h2 h3) k3 k4
theorem Apart_in {w : World} {d : Nat} {v : Value} {fs : List Af} (h : ComeIn w d v fs) : Calls Tryz.prog 102 #[v] w fun e w' => ∃ u, e = .returned u ∧ ComeOf w' u fs ∧ (∃ a n c, u = .slice a n c) ∧ Ext w w' := by
 cases h with
 | nil =>
   refine (Apart_nil w).mono ?_;rintro e w' ⟨a, c, rfl, x⟩;exact ⟨_, rfl, .inl ⟨rfl, a, c, rfl⟩, ⟨_, _, _, rfl⟩, x⟩
 | one h1 h2 h3 h4 =>
   refine (Apart_come h1 h2 h3 (fun x hx => by have := h4 x hx; omega)).mono ?_;rintro e w' ⟨g, gc, fv, xs, rfl, k1, k2, k3⟩;exact ⟨_, rfl, .inr ⟨g, gc, d, fv, xs, rfl, k1, k2⟩, ⟨_, _, _, rfl⟩, k3⟩
theorem zKa (w : World) (c1 c2 : Obj) : ((w.alloc c1).alloc c2).heap[w.heap.size + 1]? = some c2 := by
 have h := heap_alloc_new (w.alloc c1) c2
 rwa [show (w.alloc c1).heap.size = w.heap.size + 1 by simp] at h
def begBoxes (W1 : World) (next : Option En) (p r : Value) (wc : World) : Prop := ∃ b5 b6 nb, p = .pointer (some ⟨b5, 0, none⟩) ∧ r = .pointer (some ⟨b6, 0, none⟩) ∧ Hid (wc.heap[b5]? = some (.cells #[.map (some nb)] 52 (0, 0))) ∧ Hid (wc.heap[b6]? = some (.cells zDc 38 (0, 0))) ∧ Hid (BaseM wc nb next) ∧ Hid (Ext W1 wc) ∧ W1.heap.size ≤ b5 ∧ W1.heap.size ≤ b6
def begRel (w W12 : World) (tb d n : Nat) (fs : List Af) (mv gv ov iv : Value) (wr : World) : Prop :=
 ∃ (k : Nat) (oa : Option Addr) (oc : Nat) (cv : Value) (l : List (OpP × Value)), k ≤ n ∧ iv = .int .i64 k ∧ ov = .slice oa l.length oc ∧ (k = 0 → cv = .slice none 0 0 ∧ oa = none ∧ oc = 0 ∧ l = []) ∧ Hid (wr.heap[tb]? = some (.cells #[.int .i64 0, .int .i64 0, mv, cv, gv] 116 (0, 0))) ∧ Hid (OwnS wr 0 cv (if k = 0 then [] else [nmA])) ∧ Hid (OwnOps wr w.heap.size (.slice oa l.length oc) l) ∧ l.map Prod.fst = (if k = 0 then [] else [⟨2, sub zIu nmA, [], zO8 (zCg d fs)⟩]) ∧ Hid (Mut w.heap.size [118] W12 wr)
def zHl (w : World) (B o c : Nat) (x : Ob) (V : List (Pth × Nd)) (sh : List Pth) (t : Tx) (fs : List Af) (next : Option En) (e : Ending) (w' : World) : Prop :=
 ∃ x', e = .returned zC1 ∧ Busy w' B o x' V sh c t fs next 0 ∧ x'.v = x.v ∧ x'.mg = x.mg ∧ Mut B zBd w w'
theorem zOe : Tryz.f39.results = #[.cell 4 38] := by kernel_rfl
set_option maxHeartbeats 8000000 in
theorem Begin_any {w : World} {B o c d b g tr lg hb : Nat} {x : Ob} {V V1 : List (Pth × Nd)} {sh sh1 : List Pth} {base next : Option En} {cV gV : Value} {fs : List Af} {gone : List Str} {moves : List Mv} (h : Idle w B o x V sh c base) (hbm : x.bm = .map (some b)) (hvb : VolB w x.v tr lg hb) (h0 : 0 < B) (hc : c < 110) (hV : V.length ≤ 40)
  (hcome : ComeIn w d cV fs) (hgv : ∃ a n c, gV = .slice a n c) (hfs : fs.length ≤ 12) (hd10 : d < 10)
  (HAF : ∀ U, Ext w U → Calls Tryz.prog 93 #[.agg #[.map (some b)], .agg #[cV, gV]] U (zNc U next))
  (HCG : ∀ U, Ext w U → Calls Tryz.prog 96 #[gV] U (fun e w' => ∃ v, e = .returned v ∧ OwnS w' 0 v gone ∧ Ext U w'))
  (HPL : ∀ U nb, Ext w U → BaseM U nb next → Calls Tryz.prog 95 #[.pointer (some ⟨tr, 0, none⟩), .agg #[.map (some b)], .agg #[.map (some nb)], cV] U (planPost U moves))
  (hok : TxOk (zB4 moves fs gone)) (hs : SplitOk zCa zI6) (hpath : ∀ f ∈ fs, f.path.length ≤ 40)
  (hd : DoOk V sh (zEm d fs ++ [zFn V (zB4 moves fs gone)]) V1 sh1) {mx : Int} (hmx : w.cell? ⟨0, 0, none⟩ = some (.int .i64 mx)) :
  Calls Tryz.prog 39 #[.pointer (some ⟨o, 0, none⟩), .agg #[cV, gV]] w (zHl w B o (c + 1) x V1 sh1 (zB4 moves fs gone) fs next) := by
 obtain ⟨ca, cn, cc, rfl, hcn⟩ := hcome.form;obtain ⟨ga, gn, gc, rfl⟩ := hgv
 obtain ⟨W1, hW1⟩ : ∃ W1, W1 = (w.alloc (.cells #[(.slice ca cn cc), .slice ga gn gc] 42)).alloc (.cells #[.int .i64 0, .string ⟨#[]⟩, .string ⟨#[]⟩] 38) := ⟨_, rfl⟩
 have X1 := zh (show Ext w W1 by rw [hW1]; exact ((xr w).alloc _).alloc _);have B3 := zh (show W1.heap[w.heap.size]? = some (.cells #[(.slice ca cn cc), .slice ga gn gc] 42 (0, 0)) by rw [hW1]; exact ((xr _).alloc _).get (heap_alloc_new w _))
 have B4 := zh (show W1.heap[w.heap.size + 1]? = some (.cells zDc 38 (0, 0)) by
  rw [hW1];have := heap_alloc_new (w.alloc (.cells #[(.slice ca cn cc), .slice ga gn gc] 42)) (.cells #[.int .i64 0, .string ⟨#[]⟩, .string ⟨#[]⟩] 38)
  rwa [show (w.alloc (.cells #[(.slice ca cn cc), .slice ga gn gc] 42)).heap.size = w.heap.size + 1 by simp] at this)
 have HI := zh h;have HO := zh h.blk;have HVB := zh hvb
 have KS : Hid (∀ U, Ext W1 U → U.cell? ⟨o, 2, none⟩ = some (.map (some b)) ∧ U.cell? ⟨w.heap.size, 0, none⟩ = some (.slice ca cn cc) ∧ U.cell? ⟨w.heap.size, 1, none⟩ = some (.slice ga gn gc)) := fun U y => ⟨zAe (y.get (X1.out.get HO.out)) 2 _ (by rw [← hbm]; rfl), (zAu (y.get B3.out)).1, (zAu (y.get B3.out)).2.1⟩
 have c4 := zAe (X1.out.get h.blk) 4 (.pointer none) (by rw [← h.tx]; rfl);have HAFT : Hid (∀ U, Ext w U → Calls Tryz.prog 93 #[.agg #[.map (some b)], .agg #[.slice ca cn cc, .slice ga gn gc]] U (fun e w' => ∃ nb, e = .returned (.tuple #[.agg #[.map (some nb)], .agg #[.int .i64 0, .string ⟨#[]⟩, .string ⟨#[]⟩]]) ∧ BaseM w' nb next ∧ U.heap.size ≤ nb ∧ Ext U w')) := HAF;have HCGO := zh HCG;have HPLN := zh HPL;have HCI := zh hcome;have HDD := zh hd;have HMX := zh hmx;have HBM := zh hbm;have HOK := zh hok;have HS := zh hs;have HPA := zh hpath;clear h hbm hvb hcome HAF HCG HPL hd hmx hok hs hpath;go_enter Tryz.func39, Tryz.ntmps39;have HCN := zh hcn;clear hcn
 go_upto_region 1 with fail
 rw [← hW1];clear hW1
 go_upto_region 3 with fail
 clear c4
 go_cut [5, 6] from 20 to 29 (fun p r wc => begBoxes W1 next p r wc)
 case first =>
  refine wp_region_held_drew (S := (fun U => U.cell? ⟨o, 2, none⟩ = some (.map (some b)) ∧ U.cell? ⟨w.heap.size, 0, none⟩ = some (.slice ca cn cc) ∧ U.cell? ⟨w.heap.size, 1, none⟩ = some (.slice ga gn gc))) (by kernel_rfl) (by exact KS.out _ ((xr W1).drew)) (fun hHeld => ?_);refine tk 0 ?_;refine tk 1 ?_;refine tk 2 ?_;refine tk 3 ?_;refine tk 4 ?_;have Y := zh (xr W1).drew
  obtain ⟨U, hU⟩ : ∃ U, U = W1.drew := ⟨_, rfl⟩
  rw [← hU] at Y hHeld ⊢;clear hU
  iterate 3
   all_goals (first | (refine wpAnyH_ready (rs := [5, 9, 10]) (by decide +kernel) (by simp) ?_; refine AllReadyH.cons rfl (fun K hK => ?_) (AllReadyH.cons rfl (fun K hK => ?_) (AllReadyH.cons rfl (fun K hK => ?_) AllReadyH.nil))) | ((first | refine wpAnyH_ready (rs := [9, 10]) (by decide +kernel) (by simp) ?_ | refine wpAnyH_ready (rs := [5, 10]) (by decide +kernel) (by simp) ?_ | refine wpAnyH_ready (rs := [5, 9]) (by decide +kernel) (by simp) ?_); refine AllReadyH.cons rfl (fun K hK => ?_) (AllReadyH.cons rfl (fun K hK => ?_) AllReadyH.nil)) | refine rd 5 (hr := by decide +kernel) fun K hK => ?_ | refine rd 9 (hr := by decide +kernel) fun K hK => ?_ | refine rd 10 (hr := by decide +kernel) fun K hK => ?_)
   all_goals (first | (go_simp; go_wp2_with fail; have E0 := (xr U).alloc (.cells #[.map none] 52); have B0 := heap_alloc_new U (.cells #[.map none] 52); have s0 := Y.out.sz; (obtain ⟨V, hV⟩ : ∃ V, V = U.alloc (.cells #[.map none] 52) := ⟨_, rfl⟩); rw [← hV] at E0 B0 ⊢; clear hV; (obtain ⟨b5, hb⟩ : ∃ k, k = U.heap.size := ⟨_, rfl⟩); rw [← hb] at s0 B0 ⊢; clear hb; have BA : Hid (V.heap[b5]? = some (.cells #[.map none] 52 (0, 0))) := B0; have SA := zh s0; (try have BA := zh (E0.get BA.out)); (try have BB := zh (E0.get BB.out)); (try have BN := zh (BN.out.ext E0)); have Y := zh (Y.out.trans E0); clear E0 B0 s0; refine hK.out _ _ (KS.out _ Y.out) fun hHeld => ?_; clear hK K; (try simp only [nf]); rename World => U) | (go_simp; go_wp2_with fail; have E0 := (xr U).alloc (.cells #[.int .i64 0, .string ⟨#[]⟩, .string ⟨#[]⟩] 38); have B0 := heap_alloc_new U (.cells #[.int .i64 0, .string ⟨#[]⟩, .string ⟨#[]⟩] 38); have s0 := Y.out.sz; (obtain ⟨V, hV⟩ : ∃ V, V = U.alloc (.cells #[.int .i64 0, .string ⟨#[]⟩, .string ⟨#[]⟩] 38) := ⟨_, rfl⟩); rw [← hV] at E0 B0 ⊢; clear hV; (obtain ⟨b6, hb⟩ : ∃ k, k = U.heap.size := ⟨_, rfl⟩); rw [← hb] at s0 B0 ⊢; clear hb; have BB : Hid (V.heap[b6]? = some (.cells zDc 38 (0, 0))) := B0; have SB := zh s0; (try have BA := zh (E0.get BA.out)); (try have BB := zh (E0.get BB.out)); (try have BN := zh (BN.out.ext E0)); have Y := zh (Y.out.trans E0); clear E0 B0 s0; refine hK.out _ _ (KS.out _ Y.out) fun hHeld => ?_; clear hK K; (try simp only [nf]); rename World => U) | (go_simp; go_at_call 93; refine (HAFT.out _ (X1.out.trans Y.out)).mono ?_; rintro e V ⟨nb, rfl, bn, sq, E0⟩; clear sq; go_wp2_with fail; have BN := zh bn; clear bn; (try have BA := zh (E0.get BA.out)); (try have BB := zh (E0.get BB.out)); have Y := zh (Y.out.trans E0); clear E0; refine hK.out _ _ (KS.out _ Y.out) fun hHeld => ?_; clear hK K; (try simp only [nf]); rename World => U; refine tk 6 ?_; refine tk 7 ?_; refine tk 8 ?_))
  all_goals
   refine rd 11 fun K hK => ?_
   obtain ⟨ba0, baf⟩ := zDl BA.out;have M5 := zh (zC4 (B := W1.heap.size) (i := 0) BA.out (.map (some nb)) SA.out);go_simp
   go_wp2_with fail
   have BA := zh (zAd _ _ 0 (.map (some nb)) _ _ _ BA.out);have BB := zh (M5.out.get BB.out);have BN := zh (BN.out.mut M5.out (by decide) (by decide));have Y := zh (Y.out.then_mut M5.out (Nat.le_refl _));clear M5 ba0 baf
   obtain ⟨V, hV⟩ : ∃ V, V = U.setCell ⟨b5, 0, none⟩ (.map (some nb)) := ⟨_, rfl⟩
   rw [← hV] at BA BB BN Y ⊢;clear hV;refine hK.out _ _ (KS.out _ Y.out) fun hHeld => ?_
   clear hK K
   (try simp only [nf])
   refine rd 12 fun K hK => ?_
   obtain ⟨bb0, bb1, bb2, bbf⟩ := zA2 (show V.heap[b6]? = some (.cells #[.int .i64 0, .string ⟨#[]⟩, .string ⟨#[]⟩] 38 (0, 0)) from BB.out);have MT := zh (zDy (B := W1.heap.size) BB.out SB.out);go_simp
   go_wp2_with fail
   refine hK.out _ _ (by first | exact KS.out _ (Y.out.then_mut MT.out.1 (Nat.le_refl _)) | exact KS.out _ Y.out) fun hHeld => ?_
   clear hK K
   (try simp only [nf])
   refine wpAnyH_done (by kernel_rfl) ?_ _
   go_wp2_with fail
   go_meet
   first | exact ⟨_, _, nb, rfl, rfl, zh (MT.out.1.get BA.out), zh MT.out.2, zh (BN.out.mut MT.out.1 (by decide) (by decide)), zh (Y.out.then_mut MT.out.1 (Nat.le_refl _)), SA.out, SB.out⟩ | exact ⟨_, _, nb, rfl, rfl, BA, BB, BN, Y, SA.out, SB.out⟩
 case rest =>
 obtain ⟨b5, b6, nb, rfl, rfl, HB5, HB6, HBN, HX6, hs5, hs6⟩ := hcut
 obtain ⟨w6, rfl⟩ : ∃ x : World, x = wc := ⟨_, rfl⟩
 obtain ⟨e60, e61, e62, e6f⟩ := zA2 (show w6.heap[b6]? = some (.cells #[.int .i64 0, .string ⟨#[]⟩, .string ⟨#[]⟩] 38 (0, 0)) from HB6.out);obtain ⟨a50, a5f⟩ := zDl HB5.out;have HUN : Hid (Calls Tryz.prog 94 #[.agg #[.map (some nb)]] w6 (fun e w' => ∃ g, e = .returned (.tuple #[.pointer (some ⟨g, 0, none⟩), .agg #[.int .i64 0, .string ⟨#[]⟩, .string ⟨#[]⟩]]) ∧ GraphE w' g ∧ w6.heap.size ≤ g ∧ Ext w6 w')) := Units_any w6 HBN.out
 go_upto_region 6 with fail
 go_upto_region 7 with (go_at_call 94; refine HUN.out.mono ?_; rintro e w7 ⟨g7, rfl, gr7, s7, x7⟩; have X7 := zh x7; have GR7 := zh gr7; have S7 := zh s7; clear e60 e61 e62 e6f; (obtain ⟨e60, e61, e62, e6f⟩ := zA2 (show w7.heap[b6]? = some (.cells #[.int .i64 0, .string ⟨#[]⟩, .string ⟨#[]⟩] 38 (0, 0)) from x7.get HB6.out)); clear gr7 s7 x7)
 obtain ⟨W7, hW7⟩ : ∃ W7, W7 = zLo w7 b6 := ⟨_, rfl⟩
 have hs38 := zDy (B := W1.heap.size) (X7.out.get HB6.out) hs6;rw [← hW7] at hs38;have M7 := zh hs38.1;have D6 := zh hs38.2;have XW7 := zh ((HX6.out.trans X7.out).then_mut hs38.1 (Nat.le_refl _));have D5 := zh (M7.out.get (X7.out.get HB5.out));have DN := zh ((HBN.out.ext X7.out).mut M7.out (by decide) (by decide));have DG := zh (GR7.out.mut M7.out (by decide) (by decide));have HG7 : Hid (W1.heap.size ≤ g7) := Nat.le_trans HX6.out.sz S7.out;clear hs38 e60 e61 e62 e6f a50 a5f;unfold zLo at hW7;rw [← hW7];clear hW7;obtain ⟨e60, e61, e62, e6f⟩ := zA2 (show W7.heap[b6]? = some (.cells #[.int .i64 0, .string ⟨#[]⟩, .string ⟨#[]⟩] 38 (0, 0)) from D6.out)
 have KS9 : Hid (∀ U, Ext W7 U → U.cell? ⟨o, 1, none⟩ = some (.pointer (some ⟨x.v, 0, none⟩)) ∧ U.cell? ⟨x.v, 0, none⟩ = some (.pointer (some ⟨tr, 0, none⟩)) ∧ U.cell? ⟨o, 2, none⟩ = some (.map (some b)) ∧ U.cell? ⟨b5, 0, none⟩ = some (.map (some nb)) ∧ U.cell? ⟨w.heap.size, 0, none⟩ = some (.slice ca cn cc)) := fun U y => ⟨zAe (y.get (XW7.out.get (X1.out.get HO.out))) 1 (.pointer (some ⟨x.v, 0, none⟩)) rfl, (zAw (y.get (XW7.out.get (X1.out.get HVB.out.blk)))).1, zAe (y.get (XW7.out.get (X1.out.get HO.out))) 2 (.map (some b)) (by rw [← HBM.out]; rfl), (zDl (y.get D5.out)).1, (zAu (y.get (XW7.out.get B3.out))).1⟩
 have KM9 : Hid (∀ U U', Ext W7 U → Mut W1.heap.size [40] U U' → U'.cell? ⟨o, 1, none⟩ = some (.pointer (some ⟨x.v, 0, none⟩)) ∧ U'.cell? ⟨x.v, 0, none⟩ = some (.pointer (some ⟨tr, 0, none⟩)) ∧ U'.cell? ⟨o, 2, none⟩ = some (.map (some b)) ∧ U'.cell? ⟨b5, 0, none⟩ = some (.map (some nb)) ∧ U'.cell? ⟨w.heap.size, 0, none⟩ = some (.slice ca cn cc)) := fun U U' y m => ⟨zAe (m.get (y.get (XW7.out.get (X1.out.get HO.out)))) 1 (.pointer (some ⟨x.v, 0, none⟩)) rfl, (zAw (m.get (y.get (XW7.out.get (X1.out.get HVB.out.blk))))).1, zAe (m.get (y.get (XW7.out.get (X1.out.get HO.out)))) 2 (.map (some b)) (by rw [← HBM.out]; rfl), (zDl (m.get (y.get D5.out))).1, (zAu (m.get (y.get (XW7.out.get B3.out)))).1⟩
 have HPLA : Hid (∀ U, Ext W7 U → Calls Tryz.prog 95 #[.pointer (some ⟨tr, 0, none⟩), .agg #[.map (some b)], .agg #[.map (some nb)], .slice ca cn cc] U (fun e w' => ∃ v, e = .returned (.tuple #[v, .agg #[.int .i64 0, .string ⟨#[]⟩, .string ⟨#[]⟩]]) ∧ ORow zEi w' U.heap.size v (moves.map zBe) ∧ Ext U w')) := fun U y => HPLN.out U nb ((X1.out.trans XW7.out).trans y) (DN.out.ext y)
 go_upto_region 9 with fail
 clear e60 e61 e62 e6f;refine wp_region_held_drew (S := (fun U => U.cell? ⟨o, 1, none⟩ = some (.pointer (some ⟨x.v, 0, none⟩)) ∧ U.cell? ⟨x.v, 0, none⟩ = some (.pointer (some ⟨tr, 0, none⟩)) ∧ U.cell? ⟨o, 2, none⟩ = some (.map (some b)) ∧ U.cell? ⟨b5, 0, none⟩ = some (.map (some nb)) ∧ U.cell? ⟨w.heap.size, 0, none⟩ = some (.slice ca cn cc))) (by kernel_rfl) (by (first | exact KS9.out _ (xr _).drew | exact KS9.out _ X8.out | exact KM9.out _ _ X8.out (zDy (B := W1.heap.size) (X8.out.get D6.out) hs6).1)) (fun hHeld => ?_);refine tk 0 ?_;refine tk 1 ?_;refine tk 2 ?_;refine tk 3 ?_;refine tk 4 ?_;refine tk 5 ?_;refine tk 6 ?_;refine tk 7 ?_;refine tk 8 ?_;refine tk 9 ?_;refine tk 10 ?_;refine tk 11 ?_;refine tk 12 ?_;refine tk 13 ?_;refine rd 14 fun K hK => ?_
 go_simp
 (go_at_call 95; refine (HPLA.out _ (xr _).drew).mono ?_; rintro e w8 ⟨mvv, rfl, r8, x8⟩; (obtain ⟨ma, mc, hmv⟩ := r8.form); (rw [List.length_map] at hmv); subst hmv; have R8 := zh r8; have X8 := zh ((xr W7).drew.trans x8); (obtain ⟨e60, e61, e62, e6f⟩ := zA2 (show w8.heap[b6]? = some (.cells #[.int .i64 0, .string ⟨#[]⟩, .string ⟨#[]⟩] 38 (0, 0)) from X8.out.get D6.out)); clear r8 x8)
 go_wp2_with fail
 refine hK.out _ _ ?_ (fun hHeld => ?_)
 ·(first | exact KS9.out _ (xr _).drew | exact KS9.out _ X8.out | exact KM9.out _ _ X8.out (zDy (B := W1.heap.size) (X8.out.get D6.out) hs6).1)
 clear hK K;refine tk 15 ?_;refine tk 16 ?_;refine tk 17 ?_;refine tk 18 ?_;refine rd 19 fun K hK => ?_
 go_simp
 go_wp2_with fail
 refine hK.out _ _ ?_ (fun hHeld => ?_)
 ·(first | exact KS9.out _ (xr _).drew | exact KS9.out _ X8.out | exact KM9.out _ _ X8.out (zDy (B := W1.heap.size) (X8.out.get D6.out) hs6).1)
 clear hK K
 try simp only [nf]
 refine wpAnyH_done (by kernel_rfl) ?_ _
 obtain ⟨W9, hW9⟩ : ∃ W9, W9 = zLo w8 b6 := ⟨_, rfl⟩
 have hs38 := zDy (B := W1.heap.size) (X8.out.get D6.out) hs6;rw [← hW9] at hs38;have M9 := zh hs38.1;have E6 := zh hs38.2;have XW9 := zh ((XW7.out.trans X8.out).then_mut hs38.1 (Nat.le_refl _));have E5 := zh (M9.out.get (X8.out.get D5.out));have EN := zh ((DN.out.ext X8.out).mut M9.out (by decide) (by decide));have EG := zh ((DG.out.ext X8.out).mut M9.out (by decide) (by decide));have ER := zh (R8.out.mut M9.out (by decide));clear hs38 e60 e61 e62 e6f;unfold zLo at hW9
 go_upto_region 10 with fail
 rw [← hW9];clear hW9;obtain ⟨e60, e61, e62, e6f⟩ := zA2 (show W9.heap[b6]? = some (.cells #[.int .i64 0, .string ⟨#[]⟩, .string ⟨#[]⟩] 38 (0, 0)) from E6.out);obtain ⟨c30, c31, c3f⟩ := zAu (XW9.out.get B3.out)
 go_upto_region 12 with fail
 go_upto_region 13 with (go_at_call 96; refine (HCGO.out _ (X1.out.trans XW9.out)).mono ?_; rintro e w10 ⟨gv, rfl, og, x10⟩; (obtain ⟨gga, ggc, rfl⟩ := zAj og); have OG := zh og; have X10 := zh x10; clear og x10)
 obtain ⟨W12, hW12⟩ : ∃ W12, W12 = w10.alloc (.cells #[.int .i64 0, .int .i64 0, .slice ma moves.length mc, .slice none 0 0, .slice gga gone.length ggc] 116) := ⟨_, rfl⟩
 obtain ⟨tb, htb⟩ : ∃ tb, tb = w10.heap.size := ⟨_, rfl⟩
 have Y12 := zh (show Ext W9 W12 by rw [hW12]; exact X10.out.alloc _);have TB12 := zh (show W12.heap[tb]? = some (.cells #[.int .i64 0, .int .i64 0, .slice ma moves.length mc, .slice none 0 0, .slice gga gone.length ggc] 116 (0, 0)) by rw [hW12, htb]; exact heap_alloc_new w10 _);have XW12 := zh ((X1.out.trans XW9.out).trans Y12.out);have HTB := zh (show w.heap.size ≤ tb by rw [htb]; exact ((X1.out.trans XW9.out).trans X10.out).sz);have FG := zh (show OwnS W12 0 (.slice gga gone.length ggc) gone by rw [hW12]; exact (OG.out).ext ((xr _).alloc _));have FR : Hid (ORow zEi W12 0 (.slice ma moves.length mc) (moves.map zBe)) := (ER.out.ext Y12.out).le (Nat.zero_le _)
 go_upto_region 14 with fail
 rw [← hW12, ← htb];clear hW12 htb e60 e61 e62 e6f c30 c31 c3f;obtain ⟨c30, c31, c3f⟩ := zAu (Y12.out.get (XW9.out.get B3.out))
 go_wp2_with fail
 go_loopw [10, 72] (fun v i wr => begRel w W12 tb d cn fs (.slice ma moves.length mc) (.slice gga gone.length ggc) v i wr) (fun _ i _ => cn - (intOf i).toNat)
 case atStart => exact ⟨0, none, 0, .slice none 0 0, [], Nat.zero_le _, rfl, rfl, fun _ => ⟨rfl, rfl, rfl, rfl⟩, TB12, zh (OwnS.nil _ _), zh (OwnOps.nil _ _), rfl, zh (Mut.refl _ _ _)⟩
 case round =>
  obtain ⟨wq, rfl⟩ : ∃ x : World, x = wr := ⟨_, rfl⟩
  obtain ⟨k, oa, oc, cv, l, hk, rfl, rfl, hk0, HT, HCV, HOV, hlf, HMQ⟩ := hrel;have XQ := zh (XW12.out.then_mut HMQ.out (Nat.le_refl _))
  by_cases hlt : k < cn
  ·rcases HCI.out.split with ⟨h1, -⟩ | ⟨h1, hfn, g, fv, xs, rfl, hrow, hfs2, hxl, hsm, hxs⟩
   ·omega
   obtain rfl : k = 0 := by omega
   subst h1;obtain ⟨rfl, rfl, rfl, rfl⟩ := hk0 rfl;obtain ⟨fa, fc, rfl⟩ := hfs2.form
   have HAT : Hid (ComeAt w g d (.slice fa xs.length fc) xs) := ⟨⟨_, hrow⟩, hfs2⟩
   have HXS := zh hxs;have HSM := zh hsm;have HFN := zh hfn;have HXL := zh hxl;clear hrow hfs2 hxl hsm hxs hfn hlf hk0;obtain ⟨r0, r1, r2, r3, r4, r5, rf⟩ := (HAT.out.ext XQ.out).cells6
   obtain ⟨W16, hW16⟩ : ∃ W16, W16 = wq.alloc (.cells #[.string (ba nmA), .string (ba (dig d)), .slice none 0 0, .slice none 0 0, .slice fa xs.length fc, .slice none 0 0] 35) := ⟨_, rfl⟩
   have X16 := zh (show Ext wq W16 by rw [hW16]; exact (xr wq).alloc _);have B12 := zh (show W16.heap[wq.heap.size]? = some (.cells #[.string (ba nmA), .string (ba (dig d)), .slice none 0 0, .slice none 0 0, .slice fa xs.length fc, .slice none 0 0] 35 (0, 0)) by rw [hW16]; exact heap_alloc_new wq _)
   go_upto_region 17 with fail
   rw [← hW16];clear hW16 r0 r1 r2 r3 r4 r5 rf;obtain ⟨t0, t1, t2, t3, t4, tf⟩ := zAw (X16.out.get HT.out);obtain ⟨r0, r1, r2, r3, r4, r5, rf⟩ := cells6 B12.out;have hwsz : w.heap.size ≤ W16.heap.size := (XQ.out.trans X16.out).sz
   go_upto_region 18 with (at_builtin; refine zBt (W16.alloc (.cells #[.string (ba nmA)] 9)) (by rfl) (.tmp 77) (.tmp 80) 33 (by rfl) zCe w.heap.size (.slice none 0 0) (.slice (some ⟨W16.heap.size, 0, none⟩) 1 1) (by rfl) (by rfl) [] [nmA] (OwnS.nil _ _) (zHz (heap_alloc_new W16 _)) (by simp [nmA]) ?hBs ?hKs; (case hBs => simp; omega); intro v8 w8 o8 g8 n8; have O8 := zh o8; (obtain ⟨a8, c8, rfl⟩ := zAj o8); have X8s := zh ((((xr W16).alloc (.cells #[.string (ba nmA)] 9))).grow g8 (fun k hk => by cases hk)); (obtain ⟨t0x, t1x, t2x, t3x, t4x, tfx⟩ := zAw ((X16.out.trans X8s.out).get HT.out)); clear o8 g8 n8)
   obtain ⟨W17, hW17⟩ : ∃ W17, W17 = w8.setCell ⟨tb, 3, none⟩ (.slice a8 1 c8) := ⟨_, rfl⟩
   have T8 := zh ((X16.out.trans X8s.out).get HT.out);have M17 := zh (show Mut w.heap.size [118] w8 W17 by rw [hW17]; exact zC4 T8.out _ HTB.out);have T17 := zh (show W17.heap[tb]? = some (.cells #[.int .i64 0, .int .i64 0, .slice ma moves.length mc, .slice a8 1 c8, .slice gga gone.length ggc] 116 (0, 0)) by rw [hW17, zAd _ _ _ _ _ _ _ T8.out]; rfl);have P17 := zh (M17.out.get (X8s.out.get B12.out));have O17 : Hid (OwnS W17 0 (.slice a8 1 c8) [nmA]) := OwnS.base (M17.out.own O8.out) (Nat.zero_le _);have X17 := zh ((XQ.out.trans (X16.out.trans X8s.out)).then_mut M17.out (Nat.le_refl _))
   have HOF : Hid (∀ U, Ext w U → Calls Tryz.prog 98 #[.agg #[.string (ba nmA), .string (ba (dig d)), .slice none 0 0, .slice none 0 0, .slice fa xs.length fc, .slice none 0 0]] U (fun e w' => ∃ a n c, e = .returned (.agg #[.string (ba nmA), .string (ba (dig d)), .slice none 0 0, .slice none 0 0, .slice a n c, .slice none 0 0]) ∧ FilesV w' (.slice a n c) (fs.map ofF) ∧ Ext U w')) := fun U y => (Of_any (ver := dig d) (HAT.out.ext y).files (fun x hx => by have := HSM.out x hx; omega)).mono (by
    rintro e w' ⟨fv, rfl, k1, k2⟩;obtain ⟨a, c, rfl⟩ := k1.form;refine ⟨a, _, c, rfl, ?_, k2⟩;rw [← HXS.out, List.map_map]
    exact k1)
   have KS18 : Hid (∀ U, Ext W17 U → U.cell? ⟨wq.heap.size, 0, none⟩ = some (.string (ba nmA)) ∧ U.cell? ⟨wq.heap.size, 1, none⟩ = some (.string (ba (dig d))) ∧ U.cell? ⟨wq.heap.size, 2, none⟩ = some (.slice none 0 0) ∧ U.cell? ⟨wq.heap.size, 3, none⟩ = some (.slice none 0 0) ∧ U.cell? ⟨wq.heap.size, 4, none⟩ = some (.slice fa xs.length fc) ∧ U.cell? ⟨wq.heap.size, 5, none⟩ = some (.slice none 0 0)) := fun U y => by
    obtain ⟨q0, q1, q2, q3, q4, q5, -⟩ := cells6 (y.get P17.out);exact ⟨q0, q1, q2, q3, q4, q5⟩
   have E1 : Hid ((⟨#[47, 118, 97, 114, 47, 110, 101, 119, 47]⟩ : ByteArray) ++ ba nmA = ba (sub zIu nmA)) := ByteArray.mk_append_mk [47, 118, 97, 114, 47, 110, 101, 119, 47] nmA;have b1 : ¬ (9223372036854775807 < 9 + nmA.length) := by decide
   have HEP : Hid (∀ f ∈ (zCg d fs).fs, f.path.length ≤ 1000 ∧ f.sum < 4294967296) := fun f hf => by
    obtain ⟨y, hy, rfl⟩ := List.mem_map.1 hf;exact ⟨by have := HPA.out y hy; show y.path.length ≤ 1000; omega, crcOf_lt' _⟩
   have HWS : Hid (w.heap.size ≤ W17.heap.size) := X17.out.sz;rw [← hW17];clear hW17 r0 r1 r2 r3 r4 r5 rf t0 t1 t2 t3 t4 tf t0x t1x t2x t3x t4x tfx;refine wp_region_held_drew (S := (fun U => U.cell? ⟨wq.heap.size, 0, none⟩ = some (.string (ba nmA)) ∧ U.cell? ⟨wq.heap.size, 1, none⟩ = some (.string (ba (dig d))) ∧ U.cell? ⟨wq.heap.size, 2, none⟩ = some (.slice none 0 0) ∧ U.cell? ⟨wq.heap.size, 3, none⟩ = some (.slice none 0 0) ∧ U.cell? ⟨wq.heap.size, 4, none⟩ = some (.slice fa xs.length fc) ∧ U.cell? ⟨wq.heap.size, 5, none⟩ = some (.slice none 0 0))) (by kernel_rfl) (by (first | exact KS18.out _ (xr _).drew | exact KS18.out _ Z5.out | exact KS18.out _ (Z5.out.alloc _) | exact KS18.out _ Z7.out | exact KS18.out _ Z8.out | exact KS18.out _ (Z8.out.alloc _) | exact KS18.out _ Z13.out)) (fun hHeld => ?_);refine tk 0 ?_;refine tk 1 ?_;refine tk 2 ?_;refine tk 3 ?_;refine tk 4 ?_;refine rd 5 fun K hK => ?_
   go_simp
   (go_at_call 98; refine (HOF.out _ (X17.out.trans (xr _).drew)).mono ?_; rintro e u5 ⟨ea, en, ec, rfl, ef, z5⟩; have EF := zh ef; have Z5 := zh ((xr W17).drew.trans z5); clear ef z5)
   go_wp2_with fail
   refine hK.out _ _ ?_ (fun hHeld => ?_)
   ·(first | exact KS18.out _ (xr _).drew | exact KS18.out _ Z5.out | exact KS18.out _ (Z5.out.alloc _) | exact KS18.out _ Z7.out | exact KS18.out _ Z8.out | exact KS18.out _ (Z8.out.alloc _) | exact KS18.out _ Z13.out)
   clear hK K
   try simp only [nf]
   refine rd 6 fun K hK => ?_
   go_simp
   go_wp2_with fail
   refine hK.out _ _ ?_ (fun hHeld => ?_)
   ·(first | exact KS18.out _ (xr _).drew | exact KS18.out _ Z5.out | exact KS18.out _ (Z5.out.alloc _) | exact KS18.out _ Z7.out | exact KS18.out _ Z8.out | exact KS18.out _ (Z8.out.alloc _) | exact KS18.out _ Z13.out)
   clear hK K
   try simp only [nf]
   refine rd 7 fun K hK => ?_
   go_simp
   (go_at_call 97; refine (New_one (e := zCg d fs) (fv := .slice ea en ec) (heap_alloc_new u5 _) (FilesV.mut (B := 0) (S := []) EF.out ((xr u5).alloc _).mut (by simp))).mono ?_; rintro e u7 ⟨bd, rfl, bb7, -, z7⟩; have BB7 := zh bb7; have Z7 := zh ((Z5.out.alloc _).trans z7); clear bb7 z7)
   go_wp2_with fail
   refine hK.out _ _ ?_ (fun hHeld => ?_)
   ·(first | exact KS18.out _ (xr _).drew | exact KS18.out _ Z5.out | exact KS18.out _ (Z5.out.alloc _) | exact KS18.out _ Z7.out | exact KS18.out _ Z8.out | exact KS18.out _ (Z8.out.alloc _) | exact KS18.out _ Z13.out)
   clear hK K
   try simp only [nf]
   refine rd 8 fun K hK => ?_
   go_simp
   (go_at_call 99; refine (BPack_any BB7.out (fun f hf => (HEP.out f hf).1) (fun f hf => (HEP.out f hf).2) (by simp [zCg, dig])).mono ?_; rintro e u8 ⟨pg, pc, pu, rfl, hpu, hob, z8⟩; (obtain ⟨pa, pcc, rfl⟩ := zAj hob); have OB8 := zh hob; have Z8 := zh (Z7.out.trans z8); clear hob z8)
   go_wp2_with fail
   refine hK.out _ _ ?_ (fun hHeld => ?_)
   ·(first | exact KS18.out _ (xr _).drew | exact KS18.out _ Z5.out | exact KS18.out _ (Z5.out.alloc _) | exact KS18.out _ Z7.out | exact KS18.out _ Z8.out | exact KS18.out _ (Z8.out.alloc _) | exact KS18.out _ Z13.out)
   clear hK K;refine tk 9 ?_;refine rd 10 fun K hK => ?_
   go_simp
   go_wp2_with fail
   refine hK.out _ _ ?_ (fun hHeld => ?_)
   ·(first | exact KS18.out _ (xr _).drew | exact KS18.out _ Z5.out | exact KS18.out _ (Z5.out.alloc _) | exact KS18.out _ Z7.out | exact KS18.out _ Z8.out | exact KS18.out _ (Z8.out.alloc _) | exact KS18.out _ Z13.out)
   clear hK K;refine tk 11 ?_;refine rd 12 fun K hK => ?_
   go_simp
   go_wp2_with fail
   refine hK.out _ _ ?_ (fun hHeld => ?_)
   ·(first | exact KS18.out _ (xr _).drew | exact KS18.out _ Z5.out | exact KS18.out _ (Z5.out.alloc _) | exact KS18.out _ Z7.out | exact KS18.out _ Z8.out | exact KS18.out _ (Z8.out.alloc _) | exact KS18.out _ Z13.out)
   clear hK K
   try simp only [nf]
   refine rd 13 fun K hK => ?_
   (refine zA9 (by rfl) (.tmp 83) (.tmp 95) rOp (by rfl) w.heap.size (.slice none 0 0) (.slice (some ⟨u8.heap.size, 0, none⟩) 1 1) [] [[.int .i64 2, .string (⟨#[47, 118, 97, 114, 47, 110, 101, 119, 47]⟩ ++ ba nmA), .string ⟨#[]⟩, .slice pa (zO8 (zCg d fs)).length pcc]] (by rfl) (by rfl) (ORow.nil _ _ _) (zBi (heap_alloc_new u8 _)) (by simp [rOp]) (by simp [Value.oneCell']) (by simp) (by have := HWS.out; have := Z8.out.sz; simp; omega) ?_; intro v13 w13 r13 g13 m13 n13; (obtain ⟨a13, c13, hv13⟩ := r13.form); simp only [List.nil_append, List.length_cons, List.length_nil, Nat.zero_add] at hv13; subst hv13; have R13 := zh r13; have Z13 := zh ((Z8.out.alloc _).grow g13 (fun k hk => by cases hk)); have Y13 := zh (((xr u8).alloc _).grow g13 (fun k hk => by cases hk)); clear r13 g13 m13 n13)
   refine hK.out _ _ ?_ (fun hHeld => ?_)
   ·(first | exact KS18.out _ (xr _).drew | exact KS18.out _ Z5.out | exact KS18.out _ (Z5.out.alloc _) | exact KS18.out _ Z7.out | exact KS18.out _ Z8.out | exact KS18.out _ (Z8.out.alloc _) | exact KS18.out _ Z13.out)
   clear hK K;refine tk 14 ?_;refine wpAnyH_done (by kernel_rfl) ?_ _
   go_wp2_with fail
   go_roundw
   case rel =>
    refine ⟨_, _, _, _, _, _, _, _, _, _, _, _, _, _, _, _, _, _, _, _, _, _, _, _, _, _, _, _, ?_, rfl⟩;refine ⟨1, a13, c13, .slice a8 1 c8, [(⟨2, sub zIu nmA, [], zO8 (zCg d fs)⟩, .slice pa (zO8 (zCg d fs)).length pcc)], Nat.le_refl _, by go_num, rfl, fun h => absurd h (by decide), zh (Z13.out.get T17.out), zh (O17.out.ext Z13.out), zh (zDq (by have R := R13.out; rw [E1.out] at R; exact R) (fun y hy => ?_)), rfl, zh ((HMQ.out.trans (X16.out.trans X8s.out).mut).trans (M17.out.trans Z13.out.mut))⟩;rw [List.mem_singleton] at hy;subst hy;exact .inl (Y13.out.own OB8.out)
   case measure => simp [intOf]
  ·obtain rfl : k = cn := by omega
   clear c30 c31 c3f hk0
   have HCT := zh (show (if k = 0 then [] else [nmA]) = (zB4 moves fs gone).come ∧ (if k = 0 then [] else [⟨2, sub zIu nmA, [], zO8 (zCg d fs)⟩]) = zEm d fs by
    have h1 := HCN.out;unfold zB4 zEm
    by_cases hf : fs = []
    ·rw [if_pos hf] at h1; subst h1; simp [hf]
    ·rw [if_neg hf] at h1; subst h1; simp [hf])
   have HCV := zh (show OwnS wq 0 cv (zB4 moves fs gone).come by rw [← HCT.out.1]; exact HCV.out)
   have HTV : Hid (TxV wq (.slice ma moves.length mc) cv (.slice gga gone.length ggc) (zB4 moves fs gone)) := ⟨FR.out.mut HMQ.out (by decide), HCV.out, HMQ.out.own FG.out⟩
   have HLF := zh (show l.map Prod.fst = zEm d fs by rw [hlf]; exact HCT.out.2);clear hlf
   have hll : l.length ≤ 40 := by
    have h1 := congrArg List.length HLF.out;rw [List.length_map] at h1
    rw [h1]; unfold zEm; split <;> simp
   have HRT := zh (TRight_any wq HTV.out HOK.out (XQ.out.cell HMX.out))
   have HKP : Hid (∀ U, Ext wq U → Calls Tryz.prog 101 #[.pointer (some ⟨o, 0, none⟩), .agg (zBf (.slice ma moves.length mc) cv (.slice gga gone.length ggc) (zB4 moves fs gone)), .slice oa l.length oc] U (zL6 U B o (c + 1) x V1 sh1 (zB4 moves fs gone) (.slice ma moves.length mc) cv (.slice gga gone.length ggc))) := fun U y =>
    zMa ((XQ.out.trans y).get HO.out) (HI.out.vol.ext (XQ.out.trans y)) HI.out.lo.1 (Nat.le_trans HI.out.lo.2.2 (XQ.out.trans y).sz) h0 HI.out.lo.2.2 (XQ.out.trans y).sz hc hV (HTV.out.ext y) HOK.out (HOV.out.ext y) HLF.out hll HS.out HDD.out ((XQ.out.trans y).cell HMX.out)
   obtain ⟨cva, cvc, rfl⟩ := zAj HCV.out;obtain ⟨t0, t1, t2, t3, t4, tf⟩ := zAw HT.out
   go_upto_region 22 with (go_at_call 100; refine HRT.out.mono ?_; rintro e w20 ⟨rfl, x20⟩; have X20 := zh x20; clear t0 t1 t2 t3 t4 tf; (obtain ⟨t0, t1, t2, t3, t4, tf⟩ := zAw (x20.get HT.out)); clear x20)
   have HK20 := zh (HKP.out w20 X20.out)
   go_upto_region 25 with (go_at_call 101; refine HK20.out.mono ?_; rintro e w22 ⟨q, rfl, o22, q22, v22, -, m22⟩; have O22 := zh o22; have Q22 := zh q22; have V22 := zh v22; have M22 := zh m22; clear o22 q22 v22 m22)
   clear t0 t1 t2 t3 t4 tf;obtain ⟨gc0, hgc0⟩ := HI.out.gr;obtain ⟨L, hL, hLl⟩ := HI.out.lg;have HBO := zh HI.out.lo.1;have XW20 := zh (XQ.out.trans X20.out);have DB5 := zh (M22.out.get (X20.out.get (HMQ.out.get (Y12.out.get E5.out))));have DB3 := zh (M22.out.get (X20.out.get (HMQ.out.get (Y12.out.get (XW9.out.get B3.out)))));have DB4 := zh (M22.out.get (X20.out.get (HMQ.out.get (Y12.out.get (XW9.out.get B4.out)))));have DNX := zh (((((EN.out.ext Y12.out).mut HMQ.out (by decide) (by decide)).ext X20.out).mut M22.out (by decide) (by decide)));have DG7 := zh (((((EG.out.ext Y12.out).mut HMQ.out (by decide) (by decide)).ext X20.out).mut M22.out (by decide) (by decide)));have DMG := zh ((hgc0.ext XW20.out).mut M22.out (by decide));have DCI := zh ((HCI.out.ext XW20.out).mut M22.out (by decide) (by decide) (by decide));have DTX := zh ((HTV.out.ext X20.out).mut M22.out (by decide) (by decide));have DLG := zh ((hL.ext XW20.out).mut M22.out (by decide))
   have HGN := zh (show gc0 ≠ g7 by
    obtain ⟨-, -, -, -, k3⟩ := hgc0;have h1 := k3.lt;have h2 := HG7.out;have h3 := X1.out.sz
    omega)
   have HLL := zh hLl;clear hgc0 hL hLl
   have KS25 : Hid (∀ U, Ext w22 U → U.cell? ⟨b5, 0, none⟩ = some (.map (some nb)) ∧ U.cell? ⟨w.heap.size, 0, none⟩ = some (.slice ca k cc) ∧ U.cell? ⟨o, 0, none⟩ = some (.pointer (some ⟨x.mg, 0, none⟩))) := fun U y => ⟨(zDl (y.get DB5.out)).1, (zAu (y.get DB3.out)).1, zAe (y.get O22.out) 0 (.pointer (some ⟨x.mg, 0, none⟩)) rfl⟩
   have HAP := zh (Apart_in (DCI.out.ext (xr w22).drew));have HGR : Hid (∀ U, Ext w22 U → Calls Tryz.prog 103 #[.pointer (some ⟨x.mg, 0, none⟩)] U (fun e w' => e = .returned (.pointer (some ⟨gc0, 0, none⟩)) ∧ U = w')) := fun U y => zKu (DMG.out.ext y)
   have KC25 : Hid (∀ U, Ext w22 U → ∀ (U' : World) (x' : Ob), U'.heap[o]? = some (.cells (zAk x') 67 (0, 0)) → x'.mg = x.mg → Mut B [69] U U' → U'.cell? ⟨b5, 0, none⟩ = some (.map (some nb)) ∧ U'.cell? ⟨w.heap.size, 0, none⟩ = some (.slice ca k cc) ∧ U'.cell? ⟨o, 0, none⟩ = some (.pointer (some ⟨x.mg, 0, none⟩))) := fun U y U' x' ho hx m => ⟨(zDl (m.get (y.get DB5.out))).1, (zAu (m.get (y.get DB3.out))).1, zAe ho 0 _ (by rw [← hx]; rfl)⟩
   refine wp_region_held_drew (S := (fun U => U.cell? ⟨b5, 0, none⟩ = some (.map (some nb)) ∧ U.cell? ⟨w.heap.size, 0, none⟩ = some (.slice ca k cc) ∧ U.cell? ⟨o, 0, none⟩ = some (.pointer (some ⟨x.mg, 0, none⟩)))) (by kernel_rfl) (by (first | exact KS25.out _ (xr _).drew | exact KS25.out _ Z7.out | exact KC25.out _ Z7.out _ _ G3.out rfl N3.out | exact KC25.out _ Z7.out _ _ G5.out rfl N5.out | exact KC25.out _ Z7.out _ _ G6.out rfl N6.out | exact KC25.out _ Z7.out _ _ G7.out rfl N7.out)) (fun hHeld => ?_);refine tk 0 ?_;refine tk 1 ?_;refine tk 2 ?_;refine tk 3 ?_;refine tk 4 ?_;refine tk 5 ?_;refine tk 6 ?_;refine tk 8 ?_;refine tk 9 ?_;refine tk 10 ?_;refine tk 11 ?_;refine tk 13 ?_;refine rd 7 fun K hK => ?_
   go_simp
   (go_at_call 102; refine HAP.out.mono ?_; rintro e u7 ⟨cu, rfl, hcu, ⟨cua, cun, cuc, rfl⟩, z7⟩; have CU7 := zh hcu; have Z7 := zh ((xr w22).drew.trans z7); have G0 := zh (Z7.out.get O22.out); (have g3 := zAd _ _ 3 (.map (some nb)) _ _ _ G0.out); (have g5 := zAd _ _ 5 (.slice cua cun cuc) _ _ _ g3); (have g6 := zAd _ _ 6 (.pointer (some ⟨gc0, 0, none⟩)) _ _ _ g5); (have g7x := zAd _ _ 7 (.pointer (some ⟨g7, 0, none⟩)) _ _ _ g6); have N3 := zh (zC4 (B := B) (i := 3) G0.out (.map (some nb)) HBO.out); have N5 := zh (N3.out.trans (zC4 (B := B) (i := 5) g3 (.slice cua cun cuc) HBO.out)); have N6 := zh (N5.out.trans (zC4 (B := B) (i := 6) g5 (.pointer (some ⟨gc0, 0, none⟩)) HBO.out)); have N7 := zh (N6.out.trans (zC4 (B := B) (i := 7) g6 (.pointer (some ⟨g7, 0, none⟩)) HBO.out)); have G3 : Hid ((u7.setCell ⟨o, 3, none⟩ (.map (some nb))).heap[o]? = some (.cells (zAk { x with tx := .pointer (some ⟨q, 0, none⟩), nx := .map (some nb) }) 67 (0, 0))) := g3; have G5 : Hid (((u7.setCell ⟨o, 3, none⟩ (.map (some nb))).setCell ⟨o, 5, none⟩ (.slice cua cun cuc)).heap[o]? = some (.cells (zAk { x with tx := .pointer (some ⟨q, 0, none⟩), nx := .map (some nb), come := .slice cua cun cuc }) 67 (0, 0))) := g5; have G6 : Hid ((((u7.setCell ⟨o, 3, none⟩ (.map (some nb))).setCell ⟨o, 5, none⟩ (.slice cua cun cuc)).setCell ⟨o, 6, none⟩ (.pointer (some ⟨gc0, 0, none⟩))).heap[o]? = some (.cells (zAk { x with tx := .pointer (some ⟨q, 0, none⟩), nx := .map (some nb), come := .slice cua cun cuc, was := .pointer (some ⟨gc0, 0, none⟩) }) 67 (0, 0))) := g6; have G7 : Hid (((((u7.setCell ⟨o, 3, none⟩ (.map (some nb))).setCell ⟨o, 5, none⟩ (.slice cua cun cuc)).setCell ⟨o, 6, none⟩ (.pointer (some ⟨gc0, 0, none⟩))).setCell ⟨o, 7, none⟩ (.pointer (some ⟨g7, 0, none⟩))).heap[o]? = some (.cells (zAk { x with tx := .pointer (some ⟨q, 0, none⟩), nx := .map (some nb), come := .slice cua cun cuc, was := .pointer (some ⟨gc0, 0, none⟩), now := .pointer (some ⟨g7, 0, none⟩) }) 67 (0, 0))) := g7x; (have c03 := zAe G0.out 3 x.nx rfl); (have c05 := zAe G0.out 5 x.come rfl); (have c06 := zAe G0.out 6 x.was rfl); (have c07 := zAe G0.out 7 x.now rfl); (have f0 := zAl G0.out); clear hcu z7 g3 g5 g6 g7x)
   go_wp2_with fail
   refine hK.out _ _ ?_ (fun hHeld => ?_)
   ·(first | exact KS25.out _ (xr _).drew | exact KS25.out _ Z7.out | exact KC25.out _ Z7.out _ _ G3.out rfl N3.out | exact KC25.out _ Z7.out _ _ G5.out rfl N5.out | exact KC25.out _ Z7.out _ _ G6.out rfl N6.out | exact KC25.out _ Z7.out _ _ G7.out rfl N7.out)
   clear hK K
   try simp only [nf]
   refine rd 12 fun K hK => ?_
   go_simp
   (go_at_call 103; refine (HGR.out _ Z7.out).mono ?_; rintro e u ⟨rfl, hu⟩; subst hu)
   go_wp2_with fail
   refine hK.out _ _ ?_ (fun hHeld => ?_)
   ·(first | exact KS25.out _ (xr _).drew | exact KS25.out _ Z7.out | exact KC25.out _ Z7.out _ _ G3.out rfl N3.out | exact KC25.out _ Z7.out _ _ G5.out rfl N5.out | exact KC25.out _ Z7.out _ _ G6.out rfl N6.out | exact KC25.out _ Z7.out _ _ G7.out rfl N7.out)
   clear hK K;refine tk 14 ?_;refine tk 15 ?_;refine rd 16 fun K hK => ?_
   go_simp
   go_wp2_with fail
   refine hK.out _ _ ?_ (fun hHeld => ?_)
   ·(first | exact KS25.out _ (xr _).drew | exact KS25.out _ Z7.out | exact KC25.out _ Z7.out _ _ G3.out rfl N3.out | exact KC25.out _ Z7.out _ _ G5.out rfl N5.out | exact KC25.out _ Z7.out _ _ G6.out rfl N6.out | exact KC25.out _ Z7.out _ _ G7.out rfl N7.out)
   clear hK K;refine tk 17 ?_;refine tk 18 ?_;refine rd 19 fun K hK => ?_
   go_simp
   go_wp2_with fail
   refine hK.out _ _ ?_ (fun hHeld => ?_)
   ·(first | exact KS25.out _ (xr _).drew | exact KS25.out _ Z7.out | exact KC25.out _ Z7.out _ _ G3.out rfl N3.out | exact KC25.out _ Z7.out _ _ G5.out rfl N5.out | exact KC25.out _ Z7.out _ _ G6.out rfl N6.out | exact KC25.out _ Z7.out _ _ G7.out rfl N7.out)
   clear hK K;refine tk 20 ?_;refine tk 21 ?_;refine rd 22 fun K hK => ?_
   go_simp
   go_wp2_with fail
   refine hK.out _ _ ?_ (fun hHeld => ?_)
   ·(first | exact KS25.out _ (xr _).drew | exact KS25.out _ Z7.out | exact KC25.out _ Z7.out _ _ G3.out rfl N3.out | exact KC25.out _ Z7.out _ _ G5.out rfl N5.out | exact KC25.out _ Z7.out _ _ G6.out rfl N6.out | exact KC25.out _ Z7.out _ _ G7.out rfl N7.out)
   clear hK K;refine tk 23 ?_;refine tk 24 ?_;refine rd 25 fun K hK => ?_
   go_simp
   go_wp2_with fail
   refine hK.out _ _ ?_ (fun hHeld => ?_)
   ·(first | exact KS25.out _ (xr _).drew | exact KS25.out _ Z7.out | exact KC25.out _ Z7.out _ _ G3.out rfl N3.out | exact KC25.out _ Z7.out _ _ G5.out rfl N5.out | exact KC25.out _ Z7.out _ _ G6.out rfl N6.out | exact KC25.out _ Z7.out _ _ G7.out rfl N7.out)
   clear hK K
   try simp only [nf]
   refine wpAnyH_done (by kernel_rfl) ?_ _
   obtain ⟨W25, hW25⟩ : ∃ W25, W25 = (((u7.setCell ⟨o, 3, none⟩ (.map (some nb))).setCell ⟨o, 5, none⟩ (.slice cua cun cuc)).setCell ⟨o, 6, none⟩ (.pointer (some ⟨gc0, 0, none⟩))).setCell ⟨o, 7, none⟩ (.pointer (some ⟨g7, 0, none⟩)) := ⟨_, rfl⟩
   have G25 := zh (show W25.heap[o]? = some (.cells (zAk { x with tx := .pointer (some ⟨q, 0, none⟩), nx := .map (some nb), come := .slice cua cun cuc, was := .pointer (some ⟨gc0, 0, none⟩), now := .pointer (some ⟨g7, 0, none⟩) }) 67 (0, 0)) by rw [hW25]; exact G7.out);have N25 := zh (show Mut B [69] u7 W25 by rw [hW25]; exact N7.out);clear N3 N5 N6 N7 G3 G5 G6 G7 c03 c05 c06 c07 f0 HAP
   go_upto_region 26 with fail
   rw [← hW25];clear hW25;have g13 := zAd _ _ 13 (.int .i64 0) _ _ _ G25.out;have g14 := zAd _ _ 14 (.slice none 0 0) _ _ _ g13;have g12 := zAd _ _ 12 (.bool false) _ _ _ g14;have g10 := zAd _ _ 10 (.slice none 0 0) _ _ _ g12
   obtain ⟨W26, hW26⟩ : ∃ W26, W26 = (((W25.setCell ⟨o, 13, none⟩ (.int .i64 0)).setCell ⟨o, 14, none⟩ (.slice none 0 0)).setCell ⟨o, 12, none⟩ (.bool false)).setCell ⟨o, 10, none⟩ (.slice none 0 0) := ⟨_, rfl⟩
   have G26 := zh (show W26.heap[o]? = some (.cells (zAk { x with tx := .pointer (some ⟨q, 0, none⟩), nx := .map (some nb), come := .slice cua cun cuc, was := .pointer (some ⟨gc0, 0, none⟩), now := .pointer (some ⟨g7, 0, none⟩), why := 0, bad := .slice none 0 0, pl := false, ran := .slice none 0 0 }) 67 (0, 0)) by rw [hW26]; exact g10)
   have N26 := zh (show Mut B [69] u7 W26 by
    rw [hW26]
    exact N25.out.trans ((((zC4 (B := B) (i := 13) G25.out (.int .i64 0) HBO.out).trans (zC4 (B := B) (i := 14) g13 (.slice none 0 0) HBO.out)).trans (zC4 (B := B) (i := 12) g14 (.bool false) HBO.out)).trans (zC4 (B := B) (i := 10) g12 (.slice none 0 0) HBO.out)))
   have s13 := zAe G25.out 13 (.int .i64 x.why) rfl;have s14 := zAe G25.out 14 x.bad rfl;have s12 := zAe G25.out 12 (.bool x.pl) rfl;have s10 := zAe G25.out 10 x.ran rfl;have f25 := zAl G25.out;clear g13 g14 g12 g10
   go_upto_region 27 with fail
   rw [← hW26];clear hW26 s13 s14 s12 s10 f25;obtain ⟨la, lc, hlg⟩ := DLG.out.form;have M26 := zh ((Z7.out.mut (B := B) (T := [69])).trans N26.out);have LG26 := zh (show ORow zCv W26 B (.slice la L.length lc) L by rw [← hlg]; exact DLG.out.mut M26.out (by decide));have l15 := zAe G26.out 15 (.slice la L.length lc) (by rw [← hlg]; rfl);have f26 := zAl G26.out;have HB26 : Hid (B ≤ W26.heap.size) := Nat.le_trans HI.out.lo.2.2 (Nat.le_trans XW20.out.sz (Nat.le_trans M22.out.size M26.out.size));clear hlg;generalize hn : L.length = n at *;have HNL := zh hn;clear hn
   go_upto_region 28 with (at_builtin; refine zAr (W26.alloc (.cells #[.int .i64 0, .int .i64 0, .int .i64 0, .string ⟨#[]⟩] 194)) (by rfl) (.tmp 148) (.tmp 150) zCv (by rfl) B (.slice la n lc) (.slice (some ⟨W26.heap.size, 0, none⟩) 1 1) L [zCm 0 0 0] (by rfl) (by rfl) (LG26.out.ext ((xr _).alloc _)) (zBi (heap_alloc_new W26 _)) (by simp [zCm, zCv]) (by simp [zCm, Value.oneCell']) (by have := HNL.out; have := HLL.out; simp; omega) ?hB7 ?hK7; (case hB7 => have := HB26.out; simp; omega); intro v27 w27 r27 g27 m27 n27; (obtain ⟨a27, c27, hv27⟩ := r27.form); (rw [List.length_append, HNL.out] at hv27); simp only [List.length_singleton] at hv27; subst hv27; have R27 := zh r27; have M27 := zh m27; have G27 := zh (m27.get (((xr W26).alloc (.cells #[.int .i64 0, .int .i64 0, .int .i64 0, .string ⟨#[]⟩] 194)).get G26.out)); (have f27 := zAl G27.out); (have l27 := zAe G27.out 15 x.lg rfl); clear r27 g27 m27 n27)
   obtain ⟨W27, hW27⟩ : ∃ W27, W27 = w27.setCell ⟨o, 15, none⟩ (.slice a27 (n + 1) c27) := ⟨_, rfl⟩
   have G28 := zh (show W27.heap[o]? = some (.cells (zAk { x with tx := .pointer (some ⟨q, 0, none⟩), nx := .map (some nb), come := .slice cua cun cuc, was := .pointer (some ⟨gc0, 0, none⟩), now := .pointer (some ⟨g7, 0, none⟩), why := 0, bad := .slice none 0 0, pl := false, ran := .slice none 0 0, lg := .slice a27 (n + 1) c27 }) 67 (0, 0)) by rw [hW27, zAd _ _ _ _ _ _ _ G27.out]; rfl);have N27 := zh (show Mut B [69] w27 W27 by rw [hW27]; exact zC4 G27.out _ HBO.out);rw [← hW27];clear hW27 f27 l27 l15 f26;have MU : Hid (Mut B [69, 196] u7 W27) := ((N26.out.to (by decide)).trans ((xr W26).alloc (.cells #[.int .i64 0, .int .i64 0, .int .i64 0, .string ⟨#[]⟩] 194)).mut).trans ((M27.out.to (by decide)).trans (N27.out.to (by decide)));have M28 : Hid (Mut B [69, 196] w22 W27) := Z7.out.mut.trans MU.out;have F4 := zh (M28.out.get DB4.out);obtain ⟨k40, k41, k42, k4f⟩ := zA2 (show W27.heap[w.heap.size + 1]? = some (.cells #[.int .i64 0, .string ⟨#[]⟩, .string ⟨#[]⟩] 38 (0, 0)) from F4.out);have hs4 := zDy (B := w.heap.size) F4.out (Nat.le_succ _);have S4 := zh hs4.1;have S4b := zh hs4.2;clear hs4
   obtain ⟨W28, hW28⟩ : ∃ W28, W28 = zLo W27 (w.heap.size + 1) := ⟨_, rfl⟩
   rw [← hW28] at S4 S4b;unfold zLo at hW28
   go_wp2_with fail
   rw [← hW28];clear hW28 k40 k41 k42 k4f;obtain ⟨k40, k41, k42, k4f⟩ := zA2 (show W28.heap[w.heap.size + 1]? = some (.cells #[.int .i64 0, .string ⟨#[]⟩, .string ⟨#[]⟩] 38 (0, 0)) from S4b.out);refine bodyPost_ret (v := .agg #[.int .i64 0, .string ⟨#[]⟩, .string ⟨#[]⟩]) (by simp [results, zOe, go_sem, *]) rfl ?_;have S4B := S4.out.weak (B' := B) (T' := [40]) HI.out.lo.2.2 (fun _ h => h);have MF : Mut B [40, 69, 196] w22 W28 := (M28.out.to (by decide)).trans (S4B.to (by decide));have MG : Mut B [40, 69, 196] u7 W28 := (MU.out.to (by decide)).trans (S4B.to (by decide))
   have hgg : GraphE w22 gc0 := by
    obtain ⟨-, -, -, -, k3⟩ := DMG.out;exact k3
   refine ⟨{ x with tx := .pointer (some ⟨q, 0, none⟩), nx := .map (some nb), come := .slice cua cun cuc, was := .pointer (some ⟨gc0, 0, none⟩), now := .pointer (some ⟨g7, 0, none⟩), why := 0, bad := .slice none 0 0, pl := false, ran := .slice none 0 0, lg := .slice a27 (n + 1) c27 }, rfl, ?_, rfl, rfl, ?_⟩
   ·exact ⟨S4.out.get G28.out, V22.out.mut MF (by decide), ⟨q, _, _, _, rfl, MF.get Q22.out, DTX.out.mut MF (by decide) (by decide)⟩, CU7.out.mut MG (by decide) (by decide) (by decide), ⟨nb, rfl, DNX.out.mut MF (by decide) (by decide)⟩, ⟨gc0, gc0, g7, DMG.out.mut MF (by decide), rfl, rfl, hgg.mut MF (by decide) (by decide), DG7.out.mut MF (by decide) (by decide), fun _ => HGN.out, fun h => absurd h (by decide)⟩, ⟨fun _ => rfl, fun h => absurd h (by decide)⟩, ⟨_, (R27.out.mut N27.out (by decide)).mut S4.out (by decide), by have := HLL.out; have := HNL.out; simp; omega⟩, HI.out.lo.1, HI.out.lo.2.1, Nat.le_trans HI.out.lo.2.2 (Nat.le_trans XW20.out.sz (Nat.le_trans M22.out.size MF.size))⟩
   ·exact (((XW20.out.mut.trans (M22.out.to (by decide))).trans (M28.out.to (by decide))) : Mut B zBd w W27).then_new S4.out (Nat.le_refl _)
end
end Go.Proofs.YtgnjjfdfoibdiaaGreatDoor
