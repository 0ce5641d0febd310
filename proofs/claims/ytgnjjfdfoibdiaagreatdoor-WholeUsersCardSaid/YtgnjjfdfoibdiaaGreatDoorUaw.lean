/- A part of the proof of WholeUsers. -/
import Derived.Test.YtgnjjfdfoibdiaaGreatDoorUav
set_option linter.all false
namespace Go.Proofs.YtgnjjfdfoibdiaaGreatDoor
section
open Go.RowKit Go.Maps Go.Sort Go.Lib
set_option maxRecDepth 100000
section
variable {w w' : World} {base p t bw bn : Nat} {cv mv : Value} {V : List (Pth × Nd)} {sh : List Pth} {was : Option En} {l : List Mv}
theorem own_lt {R : RT} {base : Nat} {v : Value} {rs : List (List Value)} (h : ORow R w base v rs) (k : Nat) (e : v.ownBlock = some k) : k < w.heap.size := by
 rcases h.own.2 with ⟨rfl, -⟩ | ⟨g, cap, cur, rfl, -, hg, -⟩
 ·cases e
 ·cases e;exact (Array.getElem?_eq_some_iff.1 hg).1
set_option maxHeartbeats 1000000 in
theorem Dirs_make (h : PlanR w base p t bw bn cv V sh was l) (hll : l.length ≤ 100) {s x y : Str} (hs : SplitOk s [x, y]) (hd : SplitOk (47 :: x) [x]) (hx : look V [x] = none) (hn : zK6 x ∉ l) {mx : Int} (hmx : w.cell? ⟨0, 0, none⟩ = some (.int .i64 mx)) :
  Calls Tryz.prog 239 #[.pointer (some ⟨p, 0, none⟩), .string (ba s)] w (zDj w base p t bw bn cv V sh was (l ++ [zK6 x])) := by
 have HS := zh (zE3 mx w hs hmx);have hxl := hd.len;have hf : zFy V [x] = false := by unfold zFy; rw [hx]
 have hdf : zGl V [x] = false := by unfold zGl; rw [hx]
 obtain ⟨mv, h1, h2, h3⟩ := h;have HPA := zh h1;have HRO := zh h2;have HBP := zh h3
 have HT : Hid (∀ W, Ext w W → Calls Tryz.prog 161 #[.pointer (some ⟨p, 0, none⟩), .string (ba (47 :: x))] W (fun e w' => e = .returned (.bool false) ∧ Ext W w')) := fun W x => by
  have := There_any (h1.ext x) hd (x.cell hmx)
  rwa [hf] at this
 have HD : Hid (∀ W, Ext w W → Calls Tryz.prog 137 #[.pointer (some ⟨t, 0, none⟩), .string (ba (47 :: x))] W (fun e w' => e = .returned (.bool false) ∧ Ext W w')) := fun W x => by
  have := VDir_any (h1.tree.ext x) hd (x.cell hmx)
  rwa [hdf] at this
 have HC : Hid (∀ W b, Ext w W → W.heap[b]? = some (.cells #[.int .i64 0, .string (ba (47 :: x))] 262 (0, 0)) → Calls Tryz.prog 286 #[mv, .func (.func 287) #[] #[.pointer (some ⟨b, 0, none⟩)]] W (fun e w' => e = .returned (.bool false) ∧ Ext W w')) := fun W b y hb => Contains_mv (m := zK6 x) W (h2.ext y) (by omega) hb hn
 have KP : Hid (∀ W, Ext w W → _) := fun W x => zAw (x.get h1.blk)
 obtain ⟨ma, mc, rfl⟩ := h2.form;rw [List.length_map] at *;have HLL := zh hll;have hbw := zh (Nat.le_trans h3 (Nat.le_of_lt (Array.getElem?_eq_some_iff.1 h1.blk).1));clear h1 h2 h3 hs hmx hx hf hd hn hdf;generalize hnl : l.length = n at *;have HNL := zh hnl;clear hnl;go_enter Tryz.func239, Tryz.ntmps239
 go_wp2_with (go_at_call 49; refine HS.out.mono ?_; rintro e w2 ⟨v, rfl, o2, x2⟩; have X2 := zh x2; (have r2 := o2.row); (obtain ⟨a, c, rfl, hc1, hc2⟩ := r2.form); have R2 := zh r2; clear o2 x2 r2)
 simp only [List.length_cons, List.length_nil] at hc1
 have HJ : Hid (∀ W, Ext w2 W → Calls Tryz.prog 285 #[.slice a 1 c] W (fun e w' => e = .returned (.string (ba (47 :: x))) ∧ Ext W w')) := fun W y => by
  have h := Join_any ((R2.out.ext y).takeN 1 (by simp)) (by simp) (by simp [Lib.join]; simp at hxl; omega);simpa [Lib.join] using h
 go_loopw [7] (fun i wr => dirsRel w w2 base p t bw bn cv V sh was l (l ++ [zK6 x]) i wr) (fun i _ => 2 - (intOf i).toNat)
 case atStart => exact .inl ⟨rfl, zh (xr w2)⟩
 case round =>
  obtain ⟨wq, rfl⟩ : ∃ x : World, x = wr := ⟨_, rfl⟩
  rcases hrel with ⟨rfl, XR⟩ | ⟨rfl, HP, HM⟩
  ·go_wp2_with (first
    | (go_at_call 285; refine (HJ.out _ XR.out).mono ?_; rintro e w3 ⟨rfl, x3⟩; have Y3 := zh x3.sz; have X3 := zh ((XR.out.trans x3).alloc (.cells #[.int .i64 0, .string (ba (47 :: x))] 262)); have B3 := zh (heap_alloc_new w3 (.cells #[.int .i64 0, .string (ba (47 :: x))] 262)); clear x3)
    | (go_at_call 161; refine (HT.out _ (X2.out.trans X3.out)).mono ?_; rintro e w4 ⟨rfl, x4⟩; have X4 := zh (X3.out.trans x4); have B4 := zh (x4.get B3.out); (obtain ⟨p0, p1, p2, p3, p4, pf⟩ := KP.out _ (X2.out.trans X4.out)); clear x4)
    | (go_at_call 137; refine (HD.out _ (X2.out.trans X4.out)).mono ?_; rintro e w5 ⟨rfl, x5⟩; have X5 := zh (X4.out.trans x5); have B5 := zh (x5.get B4.out); clear p0 p1 p2 p3 p4 pf; (obtain ⟨p0, p1, p2, p3, p4, pf⟩ := KP.out _ (X2.out.trans X5.out)); clear x5)
    | (go_at_call 286; refine (HC.out _ _ (X2.out.trans X5.out) B5.out).mono ?_; rintro e w6 ⟨rfl, x6⟩; have X6 := zh (X5.out.trans x6); have B6 := zh (x6.get B5.out); clear p0 p1 p2 p3 p4 pf; clear x6))
   have KS : Hid (∀ W, Ext w6 W → W.cell? ⟨p, 4, none⟩ = some (.slice ma n mc) ∧ W.cell? ⟨w3.heap.size, 0, none⟩ = some (.int .i64 0) ∧ W.cell? ⟨w3.heap.size, 1, none⟩ = some (.string (ba (47 :: x)))) := fun W y => ⟨(KP.out _ ((X2.out.trans X6.out).trans y)).2.2.2.2.1, (zAu (y.get B6.out)).1, (zAu (y.get B6.out)).2.1⟩
   have HOB : Hid (∀ k, (Value.slice ma n mc).ownBlock = some k → k < w.heap.size) := own_lt HRO.out;have HSZ : Hid (w.heap.size ≤ w3.heap.size) := Nat.le_trans X2.out.sz (Nat.le_trans XR.out.sz Y3.out);have HS6 : Hid (w.heap.size ≤ w6.heap.size) := (X2.out.trans X6.out).sz
   have KT : Hid (∀ W W', Ext w6 W → Mut base [264] W W' → W.grownBy W' (Value.slice ma n mc).ownBlock → W'.cell? ⟨p, 4, none⟩ = some (.slice ma n mc) ∧ W'.cell? ⟨w3.heap.size, 0, none⟩ = some (.int .i64 0) ∧ W'.cell? ⟨w3.heap.size, 1, none⟩ = some (.string (ba (47 :: x)))) := fun W W' y m g => by
    have h1 := zAw (m.get (((X2.out.trans X6.out).trans y).get HPA.out.blk) (by simp));have hb := y.get B6.out;have h2 := (g.block w3.heap.size (Array.getElem?_eq_some_iff.1 hb).1 (fun e => by have := HOB.out _ e.symm; have := HSZ.out; omega)).trans hb;exact ⟨h1.2.2.2.2.1, (zAu h2).1, (zAu h2).2.1⟩
   refine zBc (S := (fun W => W.cell? ⟨p, 4, none⟩ = some (.slice ma n mc) ∧ W.cell? ⟨w3.heap.size, 0, none⟩ = some (.int .i64 0) ∧ W.cell? ⟨w3.heap.size, 1, none⟩ = some (.string (ba (47 :: x))))) 8 (by kernel_rfl) (by kernel_rfl) (by (first | exact KS.out _ (xr _).drew | exact KS.out _ ((xr _).alloc _).drew | exact KS.out _ ((xr _).drew.alloc _) | exact KT.out _ _ ((xr _).alloc _).drew M8.out G8.out)) fun _ => ?_
   simp only [List.take_succ_cons, List.take_zero];refine tk 0 ?_;refine tk 1 ?_;refine tk 2 ?_;refine tk 3 ?_;refine tk 4 ?_;refine tk 5 ?_;refine rd 6 fun K hK => ?_
   go_simp
   go_wp2_with fail
   refine hK.out _ _ ?_ fun _ => ?_
   ·(first | exact KS.out _ (xr _).drew | exact KS.out _ ((xr _).alloc _).drew | exact KS.out _ ((xr _).drew.alloc _) | exact KT.out _ _ ((xr _).alloc _).drew M8.out G8.out)
   clear hK K
   try simp only [nf]
   refine rd 7 fun K hK => ?_
   (refine zA9 (by rfl) (.tmp 50) (.tmp 52) zEi (by rfl) base (.slice ma n mc) (.slice (some ⟨w6.heap.size, 0, none⟩) 1 1) (l.map zBe) [zBe (zK6 x)] (by rfl) (by rfl) (HRO.out.ext ((X2.out.trans X6.out).trans ((xr w6).alloc _).drew)) (zBi (heap_alloc_new w6 _)) (by simp [zBe, zEi]) (by simp [zBe, Value.oneCell']) (by have := HLL.out; have := HNL.out; simp; omega) (by have := hbw.out; have := HS6.out; simp; omega) ?_; intro v8 w8 r8 g8 m8 n8; (obtain ⟨a8, c8, hv8⟩ := r8.form); (rw [List.length_append, List.length_map, HNL.out] at hv8); simp only [List.length_singleton] at hv8; subst hv8; have R8 := zh r8; have M8 := zh m8; have G8 := zh g8; clear r8 g8 m8 n8)
   refine hK.out _ _ ?_ fun _ => ?_
   ·(first | exact KS.out _ (xr _).drew | exact KS.out _ ((xr _).alloc _).drew | exact KS.out _ ((xr _).drew.alloc _) | exact KT.out _ _ ((xr _).alloc _).drew M8.out G8.out)
   clear hK K
   try simp only [nf]
   refine wpAnyH_done (by kernel_rfl) ?_ _;simp only [zLp, List.drop_succ_cons, List.drop_zero];have HPV : Hid (PlanAt (w6.alloc (.cells #[.int .i64 0, .string (ba (47 :: x))] 262)).drew p t bw bn cv V sh was (.slice ma n mc)) := HPA.out.ext ((X2.out.trans X6.out).trans ((xr w6).alloc _).drew);have hc8 := zAw (M8.out.get HPV.out.blk (by simp [zEi]))
   go_wp2_with fail
   go_roundw
   case rel =>
    have hp := PlanR.push HPV.out HBP.out M8.out R8.out;exact .inr ⟨rfl, zh hp.1, zh (((X2.out.trans X6.out).trans ((xr w6).alloc _).drew).mut.trans hp.2)⟩
   case measure => simp [intOf]
  ·go_wp2_with fail
   go_ret
   exact ⟨rfl, HP.out, HM.out⟩
end
theorem zH1 (o : Option Bf) : ∃ o1 o2 o3 o4, zDz o = .tuple #[.string o1, .agg #[.string o2, .bool o3, .int .u32 o4], .bool o.isSome] := ⟨_, _, _, _, rfl⟩
section
variable {w w' : World} {base p t bw bn : Nat} {cv : Value} {V : List (Pth × Nd)} {sh : List Pth} {was : Option En} {l : List Mv}
theorem Put_keep (h : PlanR w base p t bw bn cv V sh was l) {s : Str} {ns : Pth} (hs : SplitOk s ns) {old data : List UInt8} (hl : look V ns = some ⟨false, old⟩) (ho : (zIm was s).isSome = true) {tu : Bool}
  (ht : ∀ W, Ext w W → Calls Tryz.prog 162 #[.pointer (some ⟨p, 0, none⟩), .string (ba s)] W fun e w' => e = .returned (.bool tu) ∧ Ext W w') (hk : tu = true ∨ old = data) (hold : old.length ≤ 1000) (hdl : data.length ≤ 1000) {dv : Value} (hd : DataIs w dv data) {mx : Int} (hmx : w.cell? ⟨0, 0, none⟩ = some (.int .i64 mx)) :
  Calls Tryz.prog 159 #[.pointer (some ⟨p, 0, none⟩), .string (ba s), dv] w fun e w' => e = .returned (.bool true) ∧ Ext w w' := by
 obtain ⟨mv, h1, -, -⟩ := h;obtain ⟨da, dc, rfl⟩ := hd.form;have HT := zh ht;have HDT := zh hd
 have HR : Hid (Calls Tryz.prog 10 #[.pointer (some ⟨t, 0, none⟩), .string (ba s)] w (fun e w' => Ext w w' ∧ ∃ v, e = .returned (.tuple #[v, .int .i64 0]) ∧ DataIs w' v old)) := (zB7 h1.tree hs hmx).mono fun e w' hh => by
  unfold zCh at hh;rw [hl] at hh;simpa using hh
 obtain ⟨o1, o2, o3, o4, hof⟩ := zH1 (zIm was s)
 have HO : Hid (∀ W, Ext w W → Calls Tryz.prog 160 #[.agg #[.map (some bw)], .string (ba s)] W (fun e w' => e = .returned (.tuple #[.string o1, .agg #[.string o2, .bool o3, .int .u32 o4], .bool true]) ∧ Ext W w')) := fun W x => (zC2 (h1.base.ext x)).mono fun e w' ⟨e1, e2⟩ => ⟨by rw [e1, hof, ho], e2⟩
 have KP : Hid (∀ W, Ext w W → _) := fun W x => zAw (x.get h1.blk)
 obtain ⟨p0, p1, p2, p3, p4, pf⟩ := KP.out _ (xr w);have HQ : Hid (∀ W v, DataIs W v old → ∀ U, Ext W U → Ext w U → Calls Tryz.prog 238 #[v, .slice da data.length dc] U (fun e w' => e = .returned (.bool (decide (old = data))) ∧ Ext U w')) := fun W v hv U x y => zN1 U (hv.ext x).bytes (hd.ext y).bytes (by omega) (by omega)
 clear h1 hs hl ho ht hof hd hmx
 rcases hk with rfl | rfl
 ·go_enter Tryz.func159, Tryz.ntmps159
  go_wp2_with (first
   | (go_at_call 10; refine HR.out.mono ?_; rintro e w2 ⟨x2, v, rfl, hv⟩; (obtain ⟨a2, c2, rfl⟩ := hv.form); have X2 := zh x2; clear x2 hv p0 p1 p2 p3 p4 pf; (obtain ⟨p0, p1, p2, p3, p4, pf⟩ := KP.out _ X2.out))
   | (go_at_call 160; refine (HO.out _ X2.out).mono ?_; rintro e w3 ⟨rfl, x3⟩; have X3 := zh ((X2.out.trans x3).alloc (.cells #[.string o2, .bool o3, .int .u32 o4] 258)); clear x3 p0 p1 p2 p3 p4 pf)
   | (go_at_call 162; refine (HT.out _ X3.out).mono ?_; rintro e w4 ⟨rfl, x4⟩; have X4 := zh (X3.out.trans x4); clear x4))
  go_ret
  exact ⟨rfl, X4.out⟩
 ·cases tu with
  | true =>
    go_enter Tryz.func159, Tryz.ntmps159
    go_wp2_with (first
     | (go_at_call 10; refine HR.out.mono ?_; rintro e w2 ⟨x2, v, rfl, hv⟩; (obtain ⟨a2, c2, rfl⟩ := hv.form); have X2 := zh x2; clear x2 hv p0 p1 p2 p3 p4 pf; (obtain ⟨p0, p1, p2, p3, p4, pf⟩ := KP.out _ X2.out))
     | (go_at_call 160; refine (HO.out _ X2.out).mono ?_; rintro e w3 ⟨rfl, x3⟩; have X3 := zh ((X2.out.trans x3).alloc (.cells #[.string o2, .bool o3, .int .u32 o4] 258)); clear x3 p0 p1 p2 p3 p4 pf)
     | (go_at_call 162; refine (HT.out _ X3.out).mono ?_; rintro e w4 ⟨rfl, x4⟩; have X4 := zh (X3.out.trans x4); clear x4))
    go_ret
    exact ⟨rfl, X4.out⟩
  | false =>
    rw [decide_eq_true rfl] at HQ;go_enter Tryz.func159, Tryz.ntmps159
    go_wp2_with (first
     | (go_at_call 10; refine HR.out.mono ?_; rintro e w2 ⟨x2, v, rfl, hv⟩; (obtain ⟨a2, c2, rfl⟩ := hv.form); have X2 := zh x2; have D2 := zh hv; clear x2 hv p0 p1 p2 p3 p4 pf; (obtain ⟨p0, p1, p2, p3, p4, pf⟩ := KP.out _ X2.out))
     | (go_at_call 160; refine (HO.out _ X2.out).mono ?_; rintro e w3 ⟨rfl, x3⟩; have Y3 := zh (x3.alloc (.cells #[.string o2, .bool o3, .int .u32 o4] 258)); have X3 := zh ((X2.out.trans x3).alloc (.cells #[.string o2, .bool o3, .int .u32 o4] 258)); clear x3 p0 p1 p2 p3 p4 pf)
     | (go_at_call 162; refine (HT.out _ X3.out).mono ?_; rintro e w4 ⟨rfl, x4⟩; have Y4 := zh (Y3.out.trans x4); have X4 := zh (X3.out.trans x4); clear x4)
     | (go_at_call 238; refine (HQ.out _ _ D2.out _ Y4.out X4.out).mono ?_; rintro e w5 ⟨rfl, x5⟩; have X5 := zh (X4.out.trans x5); clear x5))
    go_ret
    exact ⟨rfl, X5.out⟩
end
section
variable {w w' : World} {base p t bw bn : Nat} {cv : Value} {V : List (Pth × Nd)} {sh : List Pth} {was : Option En} {l : List Mv}
theorem Put_over (h : PlanR w base p t bw bn cv V sh was l) (hll : l.length ≤ 100) {s : Str} {ns : Pth} (hs : SplitOk s ns) {old data : List UInt8} (hl : look V ns = some ⟨false, old⟩) (ho : (zIm was s).isSome = true)
  (ht : ∀ W, Ext w W → Calls Tryz.prog 162 #[.pointer (some ⟨p, 0, none⟩), .string (ba s)] W fun e w' => e = .returned (.bool false) ∧ Ext W w') (hk : old ≠ data) (hold : old.length ≤ 1000) (hdl : data.length ≤ 1000) {dv : Value} (hd : DataIs w dv data) {mx : Int} (hmx : w.cell? ⟨0, 0, none⟩ = some (.int .i64 mx)) :
  Calls Tryz.prog 159 #[.pointer (some ⟨p, 0, none⟩), .string (ba s), dv] w (zDj w base p t bw bn cv V sh was (l ++ [⟨1, s⟩])) := by
 obtain ⟨mv, h1, h2, h3⟩ := h;obtain ⟨da, dc, rfl⟩ := hd.form;have HPA := zh h1;have HRO := zh h2;have HBP := zh h3;have HT := zh ht
 have HR : Hid (Calls Tryz.prog 10 #[.pointer (some ⟨t, 0, none⟩), .string (ba s)] w (fun e w' => Ext w w' ∧ ∃ v, e = .returned (.tuple #[v, .int .i64 0]) ∧ DataIs w' v old)) := (zB7 h1.tree hs hmx).mono fun e w' hh => by
  unfold zCh at hh;rw [hl] at hh;simpa using hh
 obtain ⟨o1, o2, o3, o4, hof⟩ := zH1 (zIm was s)
 have HO : Hid (∀ W, Ext w W → Calls Tryz.prog 160 #[.agg #[.map (some bw)], .string (ba s)] W (fun e w' => e = .returned (.tuple #[.string o1, .agg #[.string o2, .bool o3, .int .u32 o4], .bool true]) ∧ Ext W w')) := fun W x => (zC2 (h1.base.ext x)).mono fun e w' ⟨e1, e2⟩ => ⟨by rw [e1, hof, ho], e2⟩
 have KP : Hid (∀ W, Ext w W → _) := fun W x => zAw (x.get h1.blk)
 obtain ⟨p0, p1, p2, p3, p4, pf⟩ := KP.out _ (xr w)
 have HQ : Hid (∀ W v, DataIs W v old → ∀ U, Ext W U → Ext w U → Calls Tryz.prog 238 #[v, .slice da data.length dc] U (fun e w' => e = .returned (.bool false) ∧ Ext U w')) := fun W v hv U x y => by
  have := zN1 U (hv.ext x).bytes (hd.ext y).bytes (by omega) (by omega)
  rwa [decide_eq_false hk] at this
 obtain ⟨ma, mc, rfl⟩ := h2.form;rw [List.length_map] at *;have HLL := zh hll;have hbw := zh (Nat.le_trans h3 (Nat.le_of_lt (Array.getElem?_eq_some_iff.1 h1.blk).1));clear h1 h2 h3 hs hl ho ht hof hd hmx hk;generalize hnl : l.length = n at *;have HNL := zh hnl;clear hnl;go_enter Tryz.func159, Tryz.ntmps159
 go_wp2_with (first
   | (go_at_call 10; refine HR.out.mono ?_; rintro e w2 ⟨x2, v, rfl, hv⟩; (obtain ⟨a2, c2, rfl⟩ := hv.form); have X2 := zh x2; have D2 := zh hv; clear x2 hv p0 p1 p2 p3 p4 pf; (obtain ⟨p0, p1, p2, p3, p4, pf⟩ := KP.out _ X2.out))
   | (go_at_call 160; refine (HO.out _ X2.out).mono ?_; rintro e w3 ⟨rfl, x3⟩; have Y3 := zh (x3.alloc (.cells #[.string o2, .bool o3, .int .u32 o4] 258)); have X3 := zh ((X2.out.trans x3).alloc (.cells #[.string o2, .bool o3, .int .u32 o4] 258)); clear x3 p0 p1 p2 p3 p4 pf)
   | (go_at_call 162; refine (HT.out _ X3.out).mono ?_; rintro e w4 ⟨rfl, x4⟩; have Y4 := zh (Y3.out.trans x4); have X4 := zh (X3.out.trans x4); clear x4)
   | (go_at_call 238; refine (HQ.out _ _ D2.out _ Y4.out X4.out).mono ?_; rintro e w5 ⟨rfl, x5⟩; have X5 := zh (X4.out.trans x5); (obtain ⟨p0, p1, p2, p3, p4, pf⟩ := KP.out _ X5.out); clear x5)
   | (at_builtin; refine zAr (w5.alloc (.cells #[.int .i64 1, .string (ba s)] 262)) (by rfl) (.tmp 68) (.tmp 71) zEi (by rfl) base (.slice ma n mc) (.slice (some ⟨w5.heap.size, 0, none⟩) 1 1) (l.map zBe) [zBe ⟨1, s⟩] (by rfl) (by rfl) (HRO.out.ext (X5.out.alloc _)) (zBi (heap_alloc_new w5 _)) (by simp [zBe, zEi]) (by simp [zBe, Value.oneCell']) (by have := HLL.out; have := HNL.out; simp; omega) ?hB ?hK; (case hB => have := hbw.out; have := X5.out.sz; simp; omega); intro v8 w8 r8 g8 m8 n8; (obtain ⟨a8, c8, hv8⟩ := r8.form); (rw [List.length_append, List.length_map, HNL.out] at hv8); simp only [List.length_singleton] at hv8; subst hv8; have R8 := zh r8; have M8 := zh m8; (obtain ⟨q0, q1, q2, q3, q4, qf⟩ := zAw (m8.get ((X5.out.alloc _).get HPA.out.blk) (by simp [zEi]))); clear r8 g8 m8 n8))
 go_ret
 have hp := PlanR.push (HPA.out.ext (X5.out.alloc (.cells #[.int .i64 1, .string (ba s)] 262))) HBP.out M8.out R8.out;exact ⟨rfl, hp.1, (X5.out.alloc _).mut.trans hp.2⟩
theorem Put_new (h : PlanR w base p t bw bn cv V sh was l) {l' : List Mv} (hll : l'.length ≤ 100) {s : Str} {ns : Pth} (hs : SplitOk s ns) {data : List UInt8} (hl : look V ns = none)
  (hdr : ∀ W, Ext w W → Calls Tryz.prog 239 #[.pointer (some ⟨p, 0, none⟩), .string (ba s)] W (zDj W base p t bw bn cv V sh was l')) {da : Option Addr} {dc : Nat} {mx : Int} (hmx : w.cell? ⟨0, 0, none⟩ = some (.int .i64 mx)) :
  Calls Tryz.prog 159 #[.pointer (some ⟨p, 0, none⟩), .string (ba s), .slice da data.length dc] w (zDj w base p t bw bn cv V sh was (l' ++ [⟨1, s⟩])) := by
 obtain ⟨mv, h1, h2, h3⟩ := h;have HDR := zh hdr
 have HR : Hid (Calls Tryz.prog 10 #[.pointer (some ⟨t, 0, none⟩), .string (ba s)] w (fun e w' => e = .returned (.tuple #[.slice none 0 0, .int .i64 8]) ∧ Ext w w')) := (zB7 h1.tree hs hmx).mono fun e w' hh => by
  unfold zCh at hh;rw [hl] at hh;simpa [and_comm] using hh
 obtain ⟨o1, o2, o3, o4, hof⟩ := zH1 (zIm was s)
 have HO : Hid (∀ W, Ext w W → Calls Tryz.prog 160 #[.agg #[.map (some bw)], .string (ba s)] W (fun e w' => e = .returned (.tuple #[.string o1, .agg #[.string o2, .bool o3, .int .u32 o4], .bool (zIm was s).isSome]) ∧ Ext W w')) := fun W x => (zC2 (h1.base.ext x)).mono fun e w' ⟨e1, e2⟩ => ⟨by rw [e1, hof], e2⟩
 have KP : Hid (∀ W, Ext w W → _) := fun W x => zAw (x.get h1.blk)
 obtain ⟨p0, p1, p2, p3, p4, pf⟩ := KP.out _ (xr w);have HBP := zh h3;have hbw := zh (Nat.le_trans h3 (Nat.le_of_lt (Array.getElem?_eq_some_iff.1 h1.blk).1));have HLL := zh hll;clear h1 h2 h3 hs hl hdr hof hmx hll;generalize (zIm was s).isSome = ow at *;generalize hnl : l'.length = n at *;have HNL := zh hnl;clear hnl;go_enter Tryz.func159, Tryz.ntmps159
 go_wp2_with (first
   | (go_at_call 10; refine HR.out.mono ?_; rintro e w2 ⟨rfl, x2⟩; have X2 := zh x2; clear x2 p0 p1 p2 p3 p4 pf; (obtain ⟨p0, p1, p2, p3, p4, pf⟩ := KP.out _ X2.out))
   | (go_at_call 160; refine (HO.out _ X2.out).mono ?_; rintro e w3 ⟨rfl, x3⟩; have X3 := zh ((X2.out.trans x3).alloc (.cells #[.string o2, .bool o3, .int .u32 o4] 258)); clear x3 p0 p1 p2 p3 p4 pf)
   | (go_at_call 239; refine (HDR.out _ X3.out).mono ?_; rintro e w5 ⟨rfl, ⟨mv5, a5, r5, -⟩, m5⟩; (obtain ⟨ma, mc, hv5⟩ := r5.form); (rw [List.length_map, HNL.out] at hv5); subst hv5; (obtain ⟨p0, p1, p2, p3, p4, pf⟩ := zAw a5.blk); have HPA := zh a5; have HRO := zh r5; have M5 := zh m5; have S5 := zh (Nat.le_trans X3.out.sz m5.size); clear a5 r5 m5)
   | (at_builtin; refine zAr (w5.alloc (.cells #[.int .i64 1, .string (ba s)] 262)) (by rfl) (.tmp 68) (.tmp 71) zEi (by rfl) base (.slice ma n mc) (.slice (some ⟨w5.heap.size, 0, none⟩) 1 1) (l'.map zBe) [zBe ⟨1, s⟩] (by rfl) (by rfl) (HRO.out.ext ((xr w5).alloc _)) (zBi (heap_alloc_new w5 _)) (by simp [zBe, zEi]) (by simp [zBe, Value.oneCell']) (by have := HLL.out; have := HNL.out; simp; omega) ?hB ?hK; (case hB => have := hbw.out; have := S5.out; simp; omega); intro v8 w8 r8 g8 m8 n8; (obtain ⟨a8, c8, hv8⟩ := r8.form); (rw [List.length_append, List.length_map, HNL.out] at hv8); simp only [List.length_singleton] at hv8; subst hv8; have R8 := zh r8; have M8 := zh m8; (obtain ⟨q0, q1, q2, q3, q4, qf⟩ := zAw (m8.get (((xr w5).alloc _).get HPA.out.blk) (by simp [zEi]))); clear r8 g8 m8 n8))
 go_ret
 have hp := PlanR.push (HPA.out.ext ((xr w5).alloc (.cells #[.int .i64 1, .string (ba s)] 262))) HBP.out M8.out R8.out;exact ⟨rfl, hp.1, ((X3.out.mut.trans M5.out).trans ((xr w5).alloc _).mut).trans hp.2⟩
end
section
variable {w w' : World} {base p t bw bn : Nat} {cv mv : Value} {V : List (Pth × Nd)} {sh : List Pth} {was now : Option En}
theorem zPb (h : PlanAt w p t bw bn cv V sh was mv) {s : Str} (hs : SplitOk s (names s)) (hd : ∀ x, look V (names s) = some x → x.data.length ≤ 1000) {mx : Int} (hmx : w.cell? ⟨0, 0, none⟩ = some (.int .i64 mx)) :
  Calls Tryz.prog 162 #[.pointer (some ⟨p, 0, none⟩), .string (ba s)] w fun e w' => e = .returned (.bool (zBv was V s)) ∧ Ext w w' := by
 cases ho : zIm was s with
 | none =>
   have := Turned_none h hs ho hmx
   rwa [show zBv was V s = false by unfold zBv; rw [ho]]
 | some f =>
   cases hl : look V (names s) with
   | none =>
     have := zP4 h hs ho hl hmx
     rwa [show zBv was V s = false by unfold zBv; rw [ho, hl]]
   | some x =>
     obtain ⟨dr, dt⟩ := x
     cases dr with
     | true =>
       have := Turned_dir h hs ho ⟨_, hl, rfl⟩ hmx
       rwa [show zBv was V s = false by unfold zBv; rw [ho, hl]; rfl]
     | false =>
       cases hc : f.cfg with
       | false =>
         have := Turned_plain h hs ho hc hl hmx
         rwa [show zBv was V s = false by unfold zBv; rw [ho, hl]; simp [hc]]
       | true =>
         have := zP3 h hs ho hc hl (hd _ hl) hmx
         rwa [show zBv was V s = decide (zA3 dt ≠ f.sum) by unfold zBv; rw [ho, hl]; simp [hc]]
def zJe (now was : Option En) (V : List (Pth × Nd)) (l : List Mv) (s : Str) : List Mv :=
 if (zIm now s).isSome then l else if zFy V (names s) && !zBv was V s then l ++ [⟨2, s⟩] else l
structure PlanOk (V : List (Pth × Nd)) (sh : List Pth) (was now : Option En) (fs : List (Af × Value)) (L : Nat → List Mv) (M : Nat → List Mv) : Prop where
 l0 : L 0 = []
 skip : ∀ k, (h : k < (zAn now).length) → zGk fs (zAn now)[k] = none → L (k + 1) = L k
 put : ∀ k, (h : k < (zAn now).length) → ∀ f v, zGk fs (zAn now)[k] = some (f, v) → ∀ W base p t bw bn cv mx, PlanR W base p t bw bn cv V sh was (L k) → DataIs W v f.data → W.cell? ⟨0, 0, none⟩ = some (.int .i64 mx) →
  Calls Tryz.prog 159 #[.pointer (some ⟨p, 0, none⟩), .string (ba (zAn now)[k]), v] W (zDj W base p t bw bn cv V sh was (L (k + 1)))
 m0 : M 0 = L (zAn now).length
 step : ∀ k, (h : k < (zAn was).length) → M (k + 1) = zJe now was V (M k) (zAn was)[k]
 few : ∀ k, k ≤ (zAn was).length → (M k).length ≤ 40
 path : ∀ s ∈ zAn was, SplitOk s (names s)
 small : ∀ s ∈ zAn was, ∀ x, look V (names s) = some x → x.data.length ≤ 1000
 files : (zAn was).length ≤ 1000 ∧ (zAn now).length ≤ 1000
def planRel (w : World) (base p t bw bn : Nat) (cv : Value) (V : List (Pth × Nd)) (sh : List Pth) (was : Option En) (n : Nat) (L : Nat → List Mv) (i : Value) (wr : World) : Prop :=
 ∃ k : Nat, k ≤ n ∧ i = .int .i64 k ∧ Hid (PlanR wr base p t bw bn cv V sh was (L k)) ∧ Hid (Mut base [255, 264] w wr)
def planPost (w : World) (l : List Mv) (e : Ending) (w' : World) : Prop := ∃ v, e = .returned (.tuple #[v, zC1]) ∧ ORow zEi w' w.heap.size v (l.map zBe) ∧ Ext w w'
theorem zOb : Tryz.f95.results = #[.tmp 8, .cell 9 38] := by kernel_rfl
set_option maxHeartbeats 4000000 in
theorem Plan_any {w : World} {t bw bn : Nat} {ca : Option Addr} {cn cc : Nat} {fs : List (Af × Value)} {L M : Nat → List Mv} (ht : TreeV w t V sh) (hw : BaseM w bw was) (hb : BaseM w bn now) (hfs : ∀ x ∈ fs, DataIs w x.2 x.1.data)
  (hD : ∀ s W, Ext w W → Calls Tryz.prog 158 #[.slice ca cn cc, .string (ba s)] W fun e w' => e = .returned (zM7 (zGk fs s)) ∧ Ext W w') (ok : PlanOk V sh was now fs L M) {mx : Int} (hmx : w.cell? ⟨0, 0, none⟩ = some (.int .i64 mx)) :
  Calls Tryz.prog 95 #[.pointer (some ⟨t, 0, none⟩), .agg #[.map (some bw)], .agg #[.map (some bn)], .slice ca cn cc] w (planPost w (M (zAn was).length)) := by
 obtain ⟨W, hW⟩ : ∃ W, W = (((w.alloc (.cells #[.map (some bw)] 52)).alloc (.cells #[.map (some bn)] 52)).alloc (.cells #[.int .i64 0, .string ⟨#[]⟩, .string ⟨#[]⟩] 38)).alloc (.cells #[.pointer (some ⟨t, 0, none⟩), .map (some bw), .map (some bn), .slice ca cn cc, .slice none 0 0] 253) := ⟨_, rfl⟩
 have XW := zh (show Ext w W by rw [hW]; exact (((xr w).alloc _).alloc _ |>.alloc _).alloc _);have hb0 : W.heap[w.heap.size]? = some (.cells #[.map (some bw)] 52 (0, 0)) := by rw [hW]; exact (((xr _).alloc _).alloc _ |>.alloc _).get (heap_alloc_new w _)
 have hb1 : W.heap[w.heap.size + 1]? = some (.cells #[.map (some bn)] 52 (0, 0)) := by
  have := heap_alloc_new (w.alloc (.cells #[.map (some bw)] 52)) (.cells #[.map (some bn)] 52);rw [World.size_alloc] at this;rw [hW]; exact (((xr _).alloc _).alloc _).get this
 have hb2 : W.heap[w.heap.size + 1 + 1]? = some (.cells #[.int .i64 0, .string ⟨#[]⟩, .string ⟨#[]⟩] 38 (0, 0)) := by
  have := heap_alloc_new ((w.alloc (.cells #[.map (some bw)] 52)).alloc (.cells #[.map (some bn)] 52)) (.cells #[.int .i64 0, .string ⟨#[]⟩, .string ⟨#[]⟩] 38);rw [World.size_alloc, World.size_alloc] at this;rw [hW]; exact ((xr _).alloc _).get this
 have hb3 : W.heap[w.heap.size + 1 + 1 + 1]? = some (.cells #[.pointer (some ⟨t, 0, none⟩), .map (some bw), .map (some bn), .slice ca cn cc, .slice none 0 0] 253 (0, 0)) := by
  have := heap_alloc_new (((w.alloc (.cells #[.map (some bw)] 52)).alloc (.cells #[.map (some bn)] 52)).alloc (.cells #[.int .i64 0, .string ⟨#[]⟩, .string ⟨#[]⟩] 38)) (.cells #[.pointer (some ⟨t, 0, none⟩), .map (some bw), .map (some bn), .slice ca cn cc, .slice none 0 0] 253);rw [World.size_alloc, World.size_alloc, World.size_alloc] at this;rw [hW]; exact this
 have HP0 : Hid (PlanR W (w.heap.size + 1 + 1 + 1) (w.heap.size + 1 + 1 + 1) t bw bn (.slice ca cn cc) V sh was []) := ⟨_, ⟨hb3, ht.ext XW.out, hw.ext XW.out⟩, ORow.nil _ _ _, Nat.le_refl _⟩
 have B0 := zh hb0;have B1 := zh hb1;have B2 := zh hb2;have HF1 : Hid (∀ U, Ext w U → _) := fun U x => zJx (hb.ext x)
 have HF2 : Hid (∀ U, Ext w U → _) := fun U x => zJx (hw.ext x)
 have HON : Hid (∀ U s, Ext w U → Calls Tryz.prog 160 #[.agg #[.map (some bn)], .string (ba s)] U (zFt U now s)) := fun U s x => zC2 (hb.ext x)
 have HD := zh hD;have OK := zh ok;have HFS := zh hfs;have HMX := zh hmx;have hz0 := zDl hb0;have hz1 := zDl hb1;clear ht hw hb hfs hD ok hmx hb0 hb1 hb2 hb3;generalize hPB : w.heap.size + 1 + 1 + 1 = P at *;have HPB := zh (show w.heap.size ≤ P by omega);go_enter Tryz.func95, Tryz.ntmps95
 go_upto_region 2 with fail
 rw [← hW];clear hW
 go_wp2_with (go_at_call 157; refine (HF1.out _ XW.out).mono ?_; rintro e w2 ⟨v, rfl, o2, x2⟩; (obtain ⟨a2, c2, rfl⟩ := zAj o2); have X2 := zh x2; have O2 := zh o2; clear x2 o2)
 have hn2 : (zAn now).length ≤ 1000 := OK.out.files.2
 go_loopw [32] (fun i wr => planRel w2 P P t bw bn (.slice ca cn cc) V sh was (zAn now).length L i wr) (fun i _ => (zAn now).length - (intOf i).toNat)
 case atStart => exact ⟨0, Nat.zero_le _, rfl, zh (by rw [OK.out.l0]; exact HP0.out.ext X2.out), zh (Mut.refl _ _ _)⟩
 case round =>
  obtain ⟨wq, rfl⟩ : ∃ x : World, x = wr := ⟨_, rfl⟩
  obtain ⟨k, hk, rfl, HR, HM⟩ := hrel;have XQ := zh ((XW.out.trans X2.out).then_mut HM.out HPB.out);have B0q := zh (HM.out.get (X2.out.get B0.out) (by simp));have B1q := zh (HM.out.get (X2.out.get B1.out) (by simp));have B2q := zh (HM.out.get (X2.out.get B2.out) (by simp));have z0 := (zDl B0q.out).1;have z1 := (zDl B1q.out).1
  by_cases hlt : k < (zAn now).length
  ·obtain ⟨b', o', rfl, hc⟩ := (OwnS.row (HM.out.own O2.out (by simp))).at k hlt;have HDk := zh (fun (U : World) (x : Ext w U) => HD.out (zAn now)[k] U x);have HSK := zh (OK.out.skip k hlt);have HPT := zh (OK.out.put k hlt);generalize (zAn now)[k] = s at *
   cases hfa : zGk fs s with
   | none =>
     rw [hfa] at HDk HSK;have HL := zh (HSK.out rfl);clear HSK HPT hfa;simp only [zM7] at HDk
     go_wp2_with (go_at_call 158; refine (HDk.out _ XQ.out).mono ?_; rintro e w3 ⟨rfl, x3⟩; have X3 := zh x3; clear x3)
     go_roundw
     case rel => exact ⟨k + 1, hlt, by go_num, zh (by rw [HL.out]; exact HR.out.ext X3.out), zh (HM.out.trans X3.out.mut)⟩
     case measure => simp [intOf]; omega
   | some x =>
     obtain ⟨f, v⟩ := x
     have hmem : (f, v) ∈ fs := by
      unfold zGk at hfa;exact List.mem_of_find?_eq_some hfa
     have HDT := zh (HFS.out _ hmem);obtain ⟨va, vc, hvf⟩ := (HFS.out _ hmem).form;simp only at hvf;subst hvf;rw [hfa] at HDk;have HPT2 := zh (HPT.out f _ hfa);clear HSK HPT hfa hmem;simp only [zM7] at HDk
     go_wp2_with (first
      | (go_at_call 158; refine (HDk.out _ XQ.out).mono ?_; rintro e w3 ⟨rfl, x3⟩; have X3 := zh x3; clear x3)
      | (go_at_call 159; refine (HPT2.out _ P P t bw bn _ mx (HR.out.ext X3.out) (HDT.out.ext (XQ.out.trans X3.out)) ((XQ.out.trans X3.out).cell HMX.out)).mono ?_; rintro e w4 ⟨rfl, r4, m4⟩; have R4 := zh r4; have M4 := zh m4; clear r4 m4))
     go_roundw
     case rel => exact ⟨k + 1, hlt, by go_num, R4, zh ((HM.out.trans X3.out.mut).trans M4.out)⟩
     case measure => simp [intOf]; omega
  ·have hke : k = (zAn now).length := by omega
   have HR0 := zh (show PlanR wq P P t bw bn (.slice ca cn cc) V sh was (M 0) by rw [OK.out.m0, ← hke]; exact HR.out);clear HR hke HF1 O2
   go_wp2_with (go_at_call 157; refine (HF2.out _ XQ.out).mono ?_; rintro e w5 ⟨v, rfl, o5, x5⟩; (obtain ⟨a5, c5, rfl⟩ := zAj o5); have X5 := zh x5; have O5 := zh o5; clear x5 o5)
   have hn5 : (zAn was).length ≤ 1000 := OK.out.files.1
   go_loopw [64] (fun i wr => planRel w5 P P t bw bn (.slice ca cn cc) V sh was (zAn was).length M i wr) (fun i _ => (zAn was).length - (intOf i).toNat)
   case atStart => exact ⟨0, Nat.zero_le _, rfl, zh (HR0.out.ext X5.out), zh (Mut.refl _ _ _)⟩
   case round =>
    obtain ⟨wz, rfl⟩ : ∃ x : World, x = wr := ⟨_, rfl⟩
    obtain ⟨j, hj, rfl, HRz, HMz⟩ := hrel;have XZ := zh ((XQ.out.trans X5.out).then_mut HMz.out HPB.out);have y1 := (zDl (HMz.out.get (X5.out.get B1q.out) (by simp))).1;have Y2 := zh (HMz.out.get (X5.out.get B2q.out) (by simp));clear z0 z1;obtain ⟨mvq, hq, rq, -⟩ := HRz.out;have HQ := zh hq;have RQ := zh rq;obtain ⟨ma, mc, hmv⟩ := rq.form;rw [List.length_map] at hmv;subst hmv;have HFW := zh (OK.out.few j hj)
    by_cases hlt : j < (zAn was).length
    ·obtain ⟨b', o', rfl, hc⟩ := (OwnS.row (HMz.out.own O5.out (by simp))).at j hlt;have HST := zh (OK.out.step j hlt);have HMS := zh (List.getElem_mem hlt);generalize (zAn was)[j] = s at *;have HTH := zh (fun (U : World) (x : Ext wz U) => There_any (hq.ext x) (OK.out.path s HMS.out) ((XZ.out.trans x).cell HMX.out));have HTU := zh (fun (U : World) (x : Ext wz U) => zPb (hq.ext x) (OK.out.path s HMS.out) (OK.out.small s HMS.out) ((XZ.out.trans x).cell HMX.out));obtain ⟨o1, o2, o3, o4, hof⟩ := zH1 (zIm now s)
     have HO6 : Hid (∀ U, Ext w U → Calls Tryz.prog 160 #[.agg #[.map (some bn)], .string (ba s)] U (fun e w' => e = .returned (.tuple #[.string o1, .agg #[.string o2, .bool o3, .int .u32 o4], .bool (zIm now s).isSome]) ∧ Ext U w')) := fun U x => (HON.out U s x).mono fun e w' ⟨e1, e2⟩ => ⟨by rw [e1, hof], e2⟩
     clear hq rq hof;have hst := HST.out;unfold zJe at hst
     cases how : (zIm now s).isSome with
     | true =>
       rw [how, if_pos rfl] at hst;rw [how] at HO6;have HSL := zh hst;clear hst how
       go_wp2_with (go_at_call 160; refine (HO6.out _ XZ.out).mono ?_; rintro e w6 ⟨rfl, x6⟩; have X6 := zh (x6.alloc (.cells #[.string o2, .bool o3, .int .u32 o4] 258)); clear x6)
       go_roundw
       case rel => exact ⟨j + 1, hlt, by go_num, zh (by rw [HSL.out]; exact HRz.out.ext X6.out), zh (HMz.out.trans X6.out.mut)⟩
       case measure => simp [intOf]; omega
     | false =>
       rw [how, if_neg (by decide)] at hst;rw [how] at HO6
       cases hfa : zFy V (names s) with
       | false =>
         rw [hfa] at hst HTH;have HSL := zh (show M (j + 1) = M j by rw [hst]; rfl);clear hst how hfa
         go_wp2_with (first
          | (go_at_call 160; refine (HO6.out _ XZ.out).mono ?_; rintro e w6 ⟨rfl, x6⟩; have X6 := zh (x6.alloc (.cells #[.string o2, .bool o3, .int .u32 o4] 258)); clear x6)
          | (go_at_call 161; refine (HTH.out _ X6.out).mono ?_; rintro e w7 ⟨rfl, x7⟩; have X7 := zh (X6.out.trans x7); clear x7))
         go_roundw
         case rel => exact ⟨j + 1, hlt, by go_num, zh (by rw [HSL.out]; exact HRz.out.ext X7.out), zh (HMz.out.trans X7.out.mut)⟩
         case measure => simp [intOf]; omega
       | true =>
         rw [hfa] at hst HTH
         cases htu : zBv was V s with
         | true =>
           rw [htu] at hst HTU;have HSL := zh (show M (j + 1) = M j by rw [hst]; rfl);clear hst how hfa htu
           go_wp2_with (first
            | (go_at_call 160; refine (HO6.out _ XZ.out).mono ?_; rintro e w6 ⟨rfl, x6⟩; have X6 := zh (x6.alloc (.cells #[.string o2, .bool o3, .int .u32 o4] 258)); clear x6)
            | (go_at_call 161; refine (HTH.out _ X6.out).mono ?_; rintro e w7 ⟨rfl, x7⟩; have X7 := zh (X6.out.trans x7); clear x7)
            | (go_at_call 162; refine (HTU.out _ X7.out).mono ?_; rintro e w8 ⟨rfl, x8⟩; have X8 := zh (X7.out.trans x8); clear x8))
           go_roundw
           case rel => exact ⟨j + 1, hlt, by go_num, zh (by rw [HSL.out]; exact HRz.out.ext X8.out), zh (HMz.out.trans X8.out.mut)⟩
           case measure => simp [intOf]; omega
         | false =>
           rw [htu] at hst HTU;have HSL := zh (show M (j + 1) = M j ++ [⟨2, s⟩] by rw [hst]; rfl);clear hst how hfa htu;generalize hnl : (M j).length = n at *;have HNL := zh hnl;clear hnl
           go_wp2_with (first
            | (go_at_call 160; refine (HO6.out _ XZ.out).mono ?_; rintro e w6 ⟨rfl, x6⟩; have X6 := zh (x6.alloc (.cells #[.string o2, .bool o3, .int .u32 o4] 258)); clear x6)
            | (go_at_call 161; refine (HTH.out _ X6.out).mono ?_; rintro e w7 ⟨rfl, x7⟩; have X7 := zh (X6.out.trans x7); clear x7)
            | (go_at_call 162; refine (HTU.out _ X7.out).mono ?_; rintro e w8 ⟨rfl, x8⟩; have X8 := zh (X7.out.trans x8); (obtain ⟨p0, p1, p2, p3, p4, pf⟩ := zAw (X8.out.get HQ.out.blk)); clear x8)
            | (at_builtin; refine zAr (w8.alloc (.cells #[.int .i64 2, .string (ba s)] 262)) (by rfl) (.tmp 92) (.tmp 95) zEi (by rfl) P (.slice ma n mc) (.slice (some ⟨w8.heap.size, 0, none⟩) 1 1) ((M j).map zBe) [zBe ⟨2, s⟩] (by rfl) (by rfl) (RQ.out.ext (X8.out.alloc _)) (zBi (heap_alloc_new w8 _)) (by simp [zBe, zEi]) (by simp [zBe, Value.oneCell']) (by have := HFW.out; have := HNL.out; simp; omega) ?hB ?hK; (case hB => have h1 := Nat.le_of_lt (Array.getElem?_eq_some_iff.1 HQ.out.blk).1; have := X8.out.sz; simp; omega); intro v9 w9 r9 g9 m9 n9; (obtain ⟨a9, c9, hv9⟩ := r9.form); (rw [List.length_append, List.length_map, HNL.out] at hv9); simp only [List.length_singleton] at hv9; subst hv9; have R9 := zh r9; have M9 := zh m9; clear p0 p1 p2 p3 p4 pf; (obtain ⟨q0, q1, q2, q3, q4, qf⟩ := zAw (m9.get ((X8.out.alloc _).get HQ.out.blk) (by simp [zEi]))); clear r9 g9 m9 n9))
           go_roundw
           case rel =>
            have hp := PlanR.push (HQ.out.ext (X8.out.alloc (.cells #[.int .i64 2, .string (ba s)] 262))) (Nat.le_refl P) M9.out R9.out;exact ⟨j + 1, hlt, by go_num, zh (by rw [HSL.out]; exact hp.1), zh ((HMz.out.trans (X8.out.alloc _).mut).trans hp.2)⟩
           case measure => simp [intOf]; omega
    ·have hje : j = (zAn was).length := by omega
     have hf40 : (M j).length ≤ 40 := HFW.out;have RJ := zh (show ORow zEi wz P (.slice ma (M j).length mc) ((M (zAn was).length).map zBe) by rw [← hje]; exact RQ.out);clear hje hq rq;obtain ⟨p0, p1, p2, p3, p4, pf⟩ := zAw HQ.out.blk;obtain ⟨f0, f1, f2, ff⟩ := zA2 Y2.out
     go_wp2_with fail
     refine bodyPost_ret (v := .tuple #[.slice ma (M j).length mc, zC1]) (by simp [results, zOb, zC1, f0, f1, f2, go_sem, World.cell?_setCell_far]) rfl ?_;have h1 : ∀ i, w.heap.size ≤ (⟨w.heap.size + 1 + 1, i, none⟩ : Addr).block := fun _ => by show w.heap.size ≤ w.heap.size + 1 + 1; omega
     refine ⟨_, rfl, ?_, ((XZ.out.setCell (h1 0) _).setCell (h1 1) _).setCell (h1 2) _⟩;exact ((RJ.out.mut (set3 (.int .i64 0) (.string ⟨#[]⟩) (.string ⟨#[]⟩) Y2.out) (by simp [zEi])).le HPB.out)
end
def zC7 (w : World) (ops : List OpP) (e : Ending) (w' : World) : Prop := ∃ v l, e = .returned v ∧ OwnOps w' w.heap.size v l ∧ l.map Prod.fst = ops ∧ Ext w w'
theorem zJw (w : World) (d : Str) (hd : d.length ≤ 100) (i : Nat) (hi : i < 10) : Calls Tryz.prog 240 #[.string (ba d), .int .i64 (i : Nat)] w fun e w' => e = .returned (.string (ba (sub d (zG6 i)))) ∧ w = w' := by
 have hit : (⟨(Lib.decDigits i).toArray⟩ : ByteArray) = ba (zG6 i) := by
  rw [Lib.decDigits_one hi]; rfl
 have HI := zh (fun W => Tryz.strconv_Itoa_small i (by omega) W);rw [hit] at HI;have hb1 : d.length + 1 ≤ 9223372036854775807 := by omega
 have hb2 : d.length + 1 + (zG6 i).length ≤ 9223372036854775807 := by simp [zG6]; omega
 have hap : (ba d ++ (⟨#[47]⟩ : ByteArray)) ++ ba (zG6 i) = ba (sub d (zG6 i)) := by
  have h1 : ba d ++ (⟨#[47]⟩ : ByteArray) = ba (d ++ [47]) := ByteArray.mk_append_mk d [47];rw [h1];exact ByteArray.mk_append_mk (d ++ [47]) (zG6 i)
 have HAP := zh hap;clear hit hap hd hi;go_enter Tryz.func240, Tryz.ntmps240
 go_wp2_with (go_at_call 280; refine (HI.out _).mono ?_; rintro e w3 ⟨rfl, rfl⟩)
 go_ret
 exact ⟨by rw [← HAP.out]; rfl, rfl⟩
theorem ops_lit (w : World) (o : OpP) (v : Value) (hd : DataIs w v o.data) : OwnOps (w.alloc (.cells #[.int .i64 (o.kind : Nat), .string (ba o.path), .string (ba o.to), v] 96)) w.heap.size (.slice (some ⟨w.heap.size, 0, none⟩) 1 1) [(o, v)] :=
 ⟨World.ownsRow_lit w _ 1 (Nat.le_refl _) (by decide) rfl, fun x hx => by
  rw [List.mem_singleton] at hx;subst hx
  exact hd.ext ((xr w).alloc _)⟩
theorem zPp {w : World} {o : OpP} {v : Value} {base g : Nat} (hg : g = w.heap.size) (hb : base ≤ g) (hd : DataIs w v o.data) : OwnOps (w.alloc (.cells #[.int .i64 (o.kind : Nat), .string (ba o.path), .string (ba o.to), v] 96)) base (.slice (some ⟨g, 0, none⟩) 1 1) [(o, v)] := by
 subst hg;have := ops_lit w o v hd;exact ⟨zBm this.row hb, this.data⟩
theorem Aside_put (w : World) (i : Nat) (hi : i < 10) (s : Str) {data : List UInt8} {dv : Value} (hd : DataIs w dv data) :
  Calls Tryz.prog 168 #[.int .i64 (i : Nat), .agg #[.int .i64 1, .string (ba s)], dv] w (zC7 w (zDm i ⟨1, s⟩ data)) := by
 have HP := zh (fun W => zJw W zB5 (by decide) i hi);obtain ⟨a, c, rfl⟩ := hd.form;have HD := zh hd;clear hd hi;go_enter Tryz.func168, Tryz.ntmps168
 go_wp2_with (go_at_call 240; refine (HP.out _).mono ?_; rintro e w3 ⟨rfl, rfl⟩)
 go_ret
 refine ⟨_, [(⟨2, sub zB5 (zG6 i), [], data⟩, .slice a data.length c)], rfl, ?_, rfl, ((xr w).alloc _).alloc _⟩;exact zPp (o := ⟨2, sub zB5 (zG6 i), [], data⟩) (by simp) (by omega) (HD.out.ext ((xr w).alloc _))
theorem Aside_other (w : World) (i k : Nat) (hk : k ≠ 1) (s : Str) (dv : Value) (data : List UInt8) (ha : ∃ a n c, dv = .slice a n c) :
  Calls Tryz.prog 168 #[.int .i64 (i : Nat), .agg #[.int .i64 (k : Nat), .string (ba s)], dv] w (zC7 w (zDm i ⟨k, s⟩ data)) := by
 obtain ⟨a, n, c, rfl⟩ := ha;have h1 : ¬ ((k : Int) = 1) := by omega
 have HA := zh (show zDm i ⟨k, s⟩ data = [] by unfold zDm; rw [if_neg hk]);clear hk;go_enter Tryz.func168, Tryz.ntmps168
 go_wp2_with fail
 go_ret
 exact ⟨_, [], rfl, OwnOps.nil _ _, HA.out.symm, (xr w).alloc _⟩
theorem Do_dir (w : World) (t i : Nat) (s : Str) (V : List (Pth × Nd)) :
  Calls Tryz.prog 169 #[.pointer (some ⟨t, 0, none⟩), .int .i64 (i : Nat), .agg #[.int .i64 0, .string (ba s)]] w (zC7 w (zJf V i ⟨0, s⟩)) := by
 go_enter Tryz.func169, Tryz.ntmps169
 go_wp2_with fail
 go_ret
 refine ⟨_, [(⟨0, s, [], []⟩, .slice none 0 0)], rfl, ?_, rfl, ((xr w).alloc _).alloc _⟩;exact zPp (o := ⟨0, s, [], []⟩) (by simp) (by omega) (DataIs.nil _)
set_option maxHeartbeats 1000000 in
theorem Do_drop (w : World) (t i : Nat) (hi : i < 10) (s : Str) (V : List (Pth × Nd)) :
  Calls Tryz.prog 169 #[.pointer (some ⟨t, 0, none⟩), .int .i64 (i : Nat), .agg #[.int .i64 2, .string (ba s)]] w (zC7 w (zJf V i ⟨2, s⟩)) := by
 have HP := zh (fun W => zJw W zJz (by decide) i hi);have KS : Hid (∀ W, Ext (w.alloc (.cells #[.int .i64 2, .string (ba s)] 262)) W → W.cell? ⟨w.heap.size, 1, none⟩ = some (.string (ba s))) := fun W x => (zAu (x.get (heap_alloc_new w _))).2.1
 clear hi;go_enter Tryz.func169, Tryz.ntmps169
 go_upto_region 5 with fail
 refine wp_region_held_drew (S := (fun W => W.cell? ⟨w.heap.size, 1, none⟩ = some (.string (ba s)))) (by kernel_rfl) (by (first | exact KS.out _ (xr _).drew | exact KS.out _ ((xr _).alloc _).drew | exact KS.out _ ((xr _).drew.alloc _))) fun _ => ?_
 refine tk 0 ?_;refine tk 1 ?_;refine tk 2 ?_;refine rd 3 fun K hK => ?_
 go_simp
 (go_at_call 240; refine (HP.out _).mono ?_; rintro e w3 ⟨rfl, rfl⟩)
 go_wp2_with fail
 refine hK.out _ _ ?_ fun _ => ?_
 ·(first | exact KS.out _ (xr _).drew | exact KS.out _ ((xr _).alloc _).drew | exact KS.out _ ((xr _).drew.alloc _))
 clear hK K;refine tk 4 ?_;refine rd 5 fun K hK => ?_
 go_simp
 go_wp2_with fail
 refine hK.out _ _ ?_ fun _ => ?_
 ·(first | exact KS.out _ (xr _).drew | exact KS.out _ ((xr _).alloc _).drew | exact KS.out _ ((xr _).drew.alloc _))
 clear hK K;refine tk 6 ?_;refine wpAnyH_done (by kernel_rfl) ?_ _
 go_wp2_with fail
 go_ret
 refine ⟨_, [(⟨5, s, sub zJz (zG6 i), []⟩, .slice none 0 0)], rfl, ?_, rfl, (((xr w).alloc _).alloc _).drew⟩;exact (zPp (w := w.alloc (.cells #[.int .i64 2, .string (ba s)] 262)) (o := ⟨5, s, sub zJz (zG6 i), []⟩) (base := w.heap.size) (g := w.heap.size + 1) (by simp) (by omega) (DataIs.nil _)).ext (xr _).drew
section
variable {w w' : World} {base : Nat} {v : Value} {l : List (OpP × Value)}
theorem OwnOps.orow (h : OwnOps w base v l) : ORow rOp w base v (l.map zAs) :=
 ⟨by rw [List.length_map, ← List.flatMap_def]; exact h.row, fun r hr => by
  obtain ⟨x, -, rfl⟩ := List.mem_map.1 hr
  rfl, fun r hr u hu => by
  obtain ⟨x, hx, rfl⟩ := List.mem_map.1 hr;obtain ⟨a, c, e⟩ := (h.data x hx).form;simp only [zAs, List.mem_cons, List.not_mem_nil, or_false] at hu
  rcases hu with rfl | rfl | rfl | rfl
  ·rfl
  ·rfl
  ·rfl
  ·rw [e]; rfl⟩
theorem zDq (h : ORow rOp w base v (l.map zAs)) (hd : ∀ x ∈ l, DataIs w x.2 x.1.data) : OwnOps w base v l :=
 ⟨by have := h.own; rw [List.length_map, ← List.flatMap_def] at this; exact this, hd⟩
end
set_option maxHeartbeats 2000000 in
theorem Do_put {w : World} {t : Nat} {V : List (Pth × Nd)} {sh : List Pth} (ht : TreeV w t V sh) (i : Nat) (hi : i < 10) {s : Str} (hs : SplitOk s (names s)) {mx : Int} (hmx : w.cell? ⟨0, 0, none⟩ = some (.int .i64 mx)) :
  Calls Tryz.prog 169 #[.pointer (some ⟨t, 0, none⟩), .int .i64 (i : Nat), .agg #[.int .i64 1, .string (ba s)]] w (zC7 w (zJf V i ⟨1, s⟩)) := by
 have HP := zh (fun W => zJw W zJz (by decide) i hi);have HQ := zh (fun W => zJw W zB5 (by decide) i hi);have HF : Hid (∀ W, Ext w W → Calls Tryz.prog 27 #[.pointer (some ⟨t, 0, none⟩), .string (ba s)] W (zIw W (look V (names s)).isSome)) := fun W x => zJl (ht.ext x) hs (x.cell hmx)
 obtain ⟨W1, hW1⟩ : ∃ W1, W1 = w.alloc (.cells #[.int .i64 1, .string (ba s)] 262) := ⟨_, rfl⟩
 have X1 := zh (show Ext w W1 by rw [hW1]; exact (xr w).alloc _);have hB1 : W1.heap[w.heap.size]? = some (.cells #[.int .i64 1, .string (ba s)] 262 (0, 0)) := by rw [hW1]; exact heap_alloc_new w _
 obtain ⟨b0, b1, bf⟩ := zAu hB1;have HB1 := zh hB1;have HS1 := zh (show W1.heap.size = w.heap.size + 1 by rw [hW1]; simp);clear ht hi hs hmx hB1
 cases hl : (look V (names s)).isSome with
 | false =>
   have HDO := zh (show zJf V i ⟨1, s⟩ = [⟨5, sub zB5 (zG6 i), s, []⟩] by
    unfold zJf
    simp [hl])
   rw [hl] at HF;clear hl;go_enter Tryz.func169, Tryz.ntmps169
   go_upto_region 10 with (rw [← hW1]; go_at_call 27; refine (HF.out _ X1.out).mono ?_; rintro e w2 ⟨fi, rfl, x2⟩; have X2 := zh x2; clear x2)
   have KS : Hid (∀ W, Ext w2 W → W.cell? ⟨w.heap.size, 1, none⟩ = some (.string (ba s))) := fun W x => (zAu (x.get (X2.out.get HB1.out))).2.1
   have XX2 := zh (X1.out.trans X2.out);refine wp_region_held_drew (S := (fun W => W.cell? ⟨w.heap.size, 1, none⟩ = some (.string (ba s)))) (by kernel_rfl) (by (first | exact KS.out _ (xr _).drew | exact KS.out _ ((xr _).alloc _).drew | exact KS.out _ ((xr _).drew.alloc _) | exact (zAu (M8.out.get (((X2.out.trans ((xr _).alloc _).drew)).get HB1.out) (by simp [rOp]))).2.1)) fun _ => ?_
   refine tk 0 ?_;refine tk 1 ?_;refine tk 3 ?_;refine tk 4 ?_;refine rd 2 fun K hK => ?_
   go_simp
   (go_at_call 240; refine (HQ.out _).mono ?_; rintro e w3 ⟨rfl, rfl⟩)
   go_wp2_with fail
   refine hK.out _ _ ?_ fun _ => ?_
   ·(first | exact KS.out _ (xr _).drew | exact KS.out _ ((xr _).alloc _).drew | exact KS.out _ ((xr _).drew.alloc _) | exact (zAu (M8.out.get (((X2.out.trans ((xr _).alloc _).drew)).get HB1.out) (by simp [rOp]))).2.1)
   clear hK K;refine tk 5 ?_;refine rd 6 fun K hK => ?_
   go_simp
   go_wp2_with fail
   refine hK.out _ _ ?_ fun _ => ?_
   ·(first | exact KS.out _ (xr _).drew | exact KS.out _ ((xr _).alloc _).drew | exact KS.out _ ((xr _).drew.alloc _) | exact (zAu (M8.out.get (((X2.out.trans ((xr _).alloc _).drew)).get HB1.out) (by simp [rOp]))).2.1)
   clear hK K
   try simp only [nf]
   refine rd 7 fun K hK => ?_
   (refine zA9 (by rfl) (.tmp 42) (.tmp 48) rOp (by rfl) w.heap.size (.slice none 0 0) (.slice (some ⟨w2.heap.size, 0, none⟩) 1 1) [] [zAs (⟨5, sub zB5 (zG6 i), s, []⟩, .slice none 0 0)] (by rfl) (by rfl) (ORow.nil _ _ _) (zBi (heap_alloc_new w2 _)) (by simp [zAs, rOp]) (by simp [zAs, Value.oneCell']) (by simp) (by have := XX2.out.sz; simp; omega) ?_; intro v8 w8 r8 g8 m8 n8; (obtain ⟨a8, c8, hv8⟩ := r8.form); simp only [List.nil_append, List.length_singleton, List.length_append, List.cons_append, List.length_cons, List.length_nil] at hv8; subst hv8; have R8 := zh r8; have M8 := zh m8; clear r8 g8 m8 n8)
   refine hK.out _ _ ?_ fun _ => ?_
   ·(first | exact KS.out _ (xr _).drew | exact KS.out _ ((xr _).alloc _).drew | exact KS.out _ ((xr _).drew.alloc _) | exact (zAu (M8.out.get (((X2.out.trans ((xr _).alloc _).drew)).get HB1.out) (by simp [rOp]))).2.1)
   clear hK K;refine tk 8 ?_;refine wpAnyH_done (by kernel_rfl) ?_ _
   go_wp2_with fail
   go_ret
   exact ⟨_, [(⟨5, sub zB5 (zG6 i), s, []⟩, .slice none 0 0)], rfl, zDq R8.out (fun x hx => by
    rw [List.mem_singleton] at hx;subst hx
    exact DataIs.nil _), HDO.out.symm, (XX2.out.trans ((xr w2).alloc _).drew).then_mut M8.out (Nat.le_refl _)⟩
 | true =>
   have HDO := zh (show zJf V i ⟨1, s⟩ = [⟨4, s, sub zJz (zG6 i), []⟩, ⟨5, sub zB5 (zG6 i), s, []⟩] by
    unfold zJf
    simp [hl])
   rw [hl] at HF;clear hl;go_enter Tryz.func169, Tryz.ntmps169
   go_upto_region 9 with (rw [← hW1]; go_at_call 27; refine (HF.out _ X1.out).mono ?_; rintro e w2 ⟨fi, rfl, x2⟩; have X2 := zh x2; clear x2)
   have KS : Hid (∀ W, Ext w2 W → W.cell? ⟨w.heap.size, 1, none⟩ = some (.string (ba s))) := fun W x => (zAu (x.get (X2.out.get HB1.out))).2.1
   have XX2 := zh (X1.out.trans X2.out);refine wp_region_held_drew (S := (fun W => W.cell? ⟨w.heap.size, 1, none⟩ = some (.string (ba s)))) (by kernel_rfl) (by (first | exact KS.out _ (xr _).drew | exact KS.out _ ((xr _).alloc _).drew | exact KS.out _ ((xr _).drew.alloc _) | exact (zAu (M8.out.get (((X2.out.trans ((xr _).alloc _).drew)).get HB1.out) (by simp [rOp]))).2.1)) fun _ => ?_
   refine tk 0 ?_;refine tk 1 ?_;refine tk 2 ?_;refine tk 3 ?_;refine rd 4 fun K hK => ?_
   go_simp
   (go_at_call 240; refine (HP.out _).mono ?_; rintro e w3 ⟨rfl, rfl⟩)
   go_wp2_with fail
   refine hK.out _ _ ?_ fun _ => ?_
   ·(first | exact KS.out _ (xr _).drew | exact KS.out _ ((xr _).alloc _).drew | exact KS.out _ ((xr _).drew.alloc _) | exact (zAu (M8.out.get (((X2.out.trans ((xr _).alloc _).drew)).get HB1.out) (by simp [rOp]))).2.1)
   clear hK K;refine tk 5 ?_;refine rd 6 fun K hK => ?_
   go_simp
   go_wp2_with fail
   refine hK.out _ _ ?_ fun _ => ?_
   ·(first | exact KS.out _ (xr _).drew | exact KS.out _ ((xr _).alloc _).drew | exact KS.out _ ((xr _).drew.alloc _) | exact (zAu (M8.out.get (((X2.out.trans ((xr _).alloc _).drew)).get HB1.out) (by simp [rOp]))).2.1)
   clear hK K
   try simp only [nf]
   refine rd 7 fun K hK => ?_
   (refine zA9 (by rfl) (.tmp 34) (.tmp 40) rOp (by rfl) w.heap.size (.slice none 0 0) (.slice (some ⟨w2.heap.size, 0, none⟩) 1 1) [] [zAs (⟨4, s, sub zJz (zG6 i), []⟩, .slice none 0 0)] (by rfl) (by rfl) (ORow.nil _ _ _) (zBi (heap_alloc_new w2 _)) (by simp [zAs, rOp]) (by simp [zAs, Value.oneCell']) (by simp) (by have := XX2.out.sz; simp; omega) ?_; intro v8 w8 r8 g8 m8 n8; (obtain ⟨a8, c8, hv8⟩ := r8.form); simp only [List.nil_append, List.length_singleton, List.length_append, List.cons_append, List.length_cons, List.length_nil] at hv8; subst hv8; have R8 := zh r8; have M8 := zh m8; clear r8 g8 m8 n8)
   refine hK.out _ _ ?_ fun _ => ?_
   ·(first | exact KS.out _ (xr _).drew | exact KS.out _ ((xr _).alloc _).drew | exact KS.out _ ((xr _).drew.alloc _) | exact (zAu (M8.out.get (((X2.out.trans ((xr _).alloc _).drew)).get HB1.out) (by simp [rOp]))).2.1)
   clear hK K;refine tk 8 ?_;refine wpAnyH_done (by kernel_rfl) ?_ _;have XX8 := zh ((XX2.out.trans ((xr w2).alloc (.cells (zAs (⟨4, s, sub zJz (zG6 i), []⟩, .slice none 0 0)).toArray 96)).drew).then_mut M8.out (Nat.le_refl _));have HB8 := zh (M8.out.get ((X2.out.trans ((xr w2).alloc (.cells (zAs (⟨4, s, sub zJz (zG6 i), []⟩, .slice none 0 0)).toArray 96)).drew).get HB1.out) (by simp [rOp]));have KS8 : Hid (∀ W, Ext w8 W → W.cell? ⟨w.heap.size, 1, none⟩ = some (.string (ba s))) := fun W x => (zAu (x.get HB8.out)).2.1
   go_upto_region 10 with fail
   refine wp_region_held_drew (S := (fun W => W.cell? ⟨w.heap.size, 1, none⟩ = some (.string (ba s)))) (by kernel_rfl) (by (first | exact KS8.out _ (xr _).drew | exact KS8.out _ ((xr _).alloc _).drew | exact KS8.out _ ((xr _).drew.alloc _) | exact (zAu (M9.out.get ((((xr _).alloc _).drew).get HB8.out) (by simp [rOp]))).2.1)) fun _ => ?_
   refine tk 0 ?_;refine tk 1 ?_;refine tk 3 ?_;refine tk 4 ?_;refine rd 2 fun K hK => ?_
   go_simp
   (go_at_call 240; refine (HQ.out _).mono ?_; rintro e w3 ⟨rfl, rfl⟩)
   go_wp2_with fail
   refine hK.out _ _ ?_ fun _ => ?_
   ·(first | exact KS8.out _ (xr _).drew | exact KS8.out _ ((xr _).alloc _).drew | exact KS8.out _ ((xr _).drew.alloc _) | exact (zAu (M9.out.get ((((xr _).alloc _).drew).get HB8.out) (by simp [rOp]))).2.1)
   clear hK K;refine tk 5 ?_;refine rd 6 fun K hK => ?_
   go_simp
   go_wp2_with fail
   refine hK.out _ _ ?_ fun _ => ?_
   ·(first | exact KS8.out _ (xr _).drew | exact KS8.out _ ((xr _).alloc _).drew | exact KS8.out _ ((xr _).drew.alloc _) | exact (zAu (M9.out.get ((((xr _).alloc _).drew).get HB8.out) (by simp [rOp]))).2.1)
   clear hK K
   try simp only [nf]
   refine rd 7 fun K hK => ?_
   (refine zA9 (by rfl) (.tmp 42) (.tmp 48) rOp (by rfl) w.heap.size (.slice a8 1 c8) (.slice (some ⟨w8.heap.size, 0, none⟩) 1 1) [zAs (⟨4, s, sub zJz (zG6 i), []⟩, .slice none 0 0)] [zAs (⟨5, sub zB5 (zG6 i), s, []⟩, .slice none 0 0)] (by rfl) (by rfl) (R8.out.ext ((xr w8).alloc _).drew) (zBi (heap_alloc_new w8 _)) (by simp [zAs, rOp]) (by simp [zAs, Value.oneCell']) (by simp) (by have := XX8.out.sz; simp; omega) ?_; intro v9 w9 r9 g9 m9 n9; (obtain ⟨a9, c9, hv9⟩ := r9.form); simp only [List.nil_append, List.length_singleton, List.length_append, List.cons_append, List.length_cons, List.length_nil] at hv9; subst hv9; have R9 := zh r9; have M9 := zh m9; clear r9 g9 m9 n9)
   refine hK.out _ _ ?_ fun _ => ?_
   ·(first | exact KS8.out _ (xr _).drew | exact KS8.out _ ((xr _).alloc _).drew | exact KS8.out _ ((xr _).drew.alloc _) | exact (zAu (M9.out.get ((((xr _).alloc _).drew).get HB8.out) (by simp [rOp]))).2.1)
   clear hK K;refine tk 8 ?_;refine wpAnyH_done (by kernel_rfl) ?_ _
   go_wp2_with fail
   go_ret
   exact ⟨_, [(⟨4, s, sub zJz (zG6 i), []⟩, .slice none 0 0), (⟨5, sub zB5 (zG6 i), s, []⟩, .slice none 0 0)], rfl, zDq R9.out (fun x hx => by
    simp only [List.mem_cons, List.not_mem_nil, or_false] at hx
    rcases hx with rfl | rfl
    ·exact DataIs.nil _
    ·exact DataIs.nil _), HDO.out.symm, (XX8.out.trans ((xr w8).alloc _).drew).then_mut M9.out (Nat.le_refl _)⟩
end
end Go.Proofs.YtgnjjfdfoibdiaaGreatDoor
