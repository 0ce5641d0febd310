/- A part of the proof of WholeUsers. -/
import Derived.Test.YtgnjjfdfoibdiaaGreatDoorUap
set_option linter.all false
namespace Go.Proofs.YtgnjjfdfoibdiaaGreatDoor
section
open Go.RowKit Go.Maps Go.Sort Go.Lib
set_option maxRecDepth 100000
def zOp : RT := ⟨22, 23, 1, 24, .slice none 0 0, by kernel_rfl, by kernel_rfl, rfl, by decide, by decide⟩
def zO8 (e : En) : List UInt8 := (zEl e.ver e.fs).flatten
def packPost (w : World) (b : List UInt8) (e : Ending) (w' : World) : Prop := ∃ g c u, e = .returned (.slice (some ⟨g, 0, none⟩) 1 c) ∧ w'.cell? ⟨g, 0, none⟩ = some u ∧ OwnBytes w' 0 u b ∧ Ext w w'
def packRel1 (w : World) (b : List UInt8) (v i : Value) (wr : World) : Prop :=
 Hid (Ext w wr) ∧ ((i = .int .i64 0 ∧ v = .slice none 0 0) ∨ (i = .int .i64 1 ∧ ∃ g c u, v = .slice (some ⟨g, 0, none⟩) 1 c ∧ Hid (wr.cell? ⟨g, 0, none⟩ = some u) ∧ Hid (OwnBytes wr 0 u b)))
theorem entB_len (e : En) (hp : ∀ f ∈ e.fs, f.path.length ≤ 1000) (hl : e.fs.length ≤ 1000) (hv : e.ver.length ≤ 1000) : (zO8 e).length ≤ 16777216 := by
 have h := zGm e.fs hp;simp only [zO8, zEl, zCz, zBk, nmA, List.flatten_cons, List.flatten_nil, List.append_nil, List.length_append, zBa, List.length_cons, List.length_nil];omega
set_option maxHeartbeats 4000000 in
theorem BPack_any {w : World} {b : Nat} {e : En} (h : BaseM w b (some e)) (hp : ∀ f ∈ e.fs, f.path.length ≤ 1000) (hs : ∀ f ∈ e.fs, f.sum < 4294967296) (hv : e.ver.length ≤ 1000) : Calls Tryz.prog 99 #[.agg #[.map (some b)]] w (packPost w (zO8 e)) := by
 obtain ⟨W, hW⟩ : ∃ W, W = w.alloc (.cells #[.map (some b)] 52) := ⟨_, rfl⟩
 have XW := zh (show Ext w W by rw [hW]; exact (xr w).alloc _);have HN := zh (zE4 (h.ext XW.out));have hb0 : W.heap[w.heap.size]? = some (.cells #[.map (some b)] 52 (0, 0)) := by rw [hW]; exact heap_alloc_new w _
 have KB : Hid (∀ V, Ext W V → V.cell? ⟨w.heap.size, 0, none⟩ = some (.map (some b))) := fun V x => by rw [zAb (x.get hb0)]; rfl
 obtain ⟨n, v, fa, fc, fs, hfv, hg, -, hlk⟩ := h.entry;obtain ⟨rfl, rfl, rfl⟩ := hg e rfl;have FV := zh hfv;have HLK : Hid (∀ V, Ext W V → _) := fun V x => hlk V (XW.out.trans x)
 have HPT : Hid (∀ V, Ext W V → Calls Tryz.prog 164 #[.agg (zBn e.ver (.slice fa e.fs.length fc))] V (partsPost V (zEl e.ver e.fs))) := fun V x => parts_any (hfv.mut (XW.out.trans x).mut (B := 0) (S := []) (by simp)) hp hs hv
 have HPK : Hid (∀ V v, PartRow V 0 v (zEl e.ver e.fs) → Calls Tryz.prog 76 #[v] V (zAy V (zO8 e))) := fun V v hr => zGp _ v V (hr.rows (by simp [zEl])) (entB_len e hp hfv.2 hv)
 simp only [zBn] at HPT;clear h hb0 hfv hg hlk hp hs hv;go_enter Tryz.func99, Tryz.ntmps99
 go_wp2_with (rw [← hW]; go_at_call 13; refine HN.out.mono ?_; rintro e w2 ⟨v, rfl, o2, x2⟩; (obtain ⟨a2, c2, hv2, -⟩ := o2.row.form); simp only [zCy] at hv2; subst hv2; have X2 := zh x2; have O2 := zh o2; clear o2 x2)
 clear hW;obtain ⟨bn, on, rfl, hcn⟩ : ∃ bn on, a2 = some ⟨bn, on, none⟩ ∧ w2.cell? ⟨bn, on, none⟩ = some (.string (ba nmA)) := zP8 O2.out;have HCN : Hid (∀ V, Ext w2 V → V.cell? ⟨bn, on, none⟩ = some (.string (ba nmA))) := fun V x => x.cell hcn
 clear hcn O2
 go_loopw [3, 9] (fun v i wr => packRel1 w2 (zO8 e) v i wr) (fun _ i _ => 1 - (intOf i).toNat)
 case atStart => exact ⟨zh (xr _), .inl ⟨rfl, rfl⟩⟩
 case round =>
  obtain ⟨wq, rfl⟩ : ∃ x : World, x = wr := ⟨_, rfl⟩
  obtain ⟨XR, hcase⟩ := hrel
  rcases hcase with ⟨rfl, rfl⟩ | ⟨rfl, g, c, u, rfl, HU, HO⟩
  ·have XQ := zh (X2.out.trans XR.out);have hlk := HLK.out _ XQ.out;have hcb := KB.out _ XQ.out;have hcn := HCN.out _ XR.out
   go_wp2_with (first
    | (go_at_call 164; refine (HPT.out _ XQ.out).mono ?_; rintro e' w5 ⟨v5, rfl, p5, x5⟩; (obtain ⟨a5, c5, hv5⟩ := p5.form); (simp only [zEl, List.length_cons, List.length_nil] at hv5); subst hv5; have P5 := zh p5; have X5 := zh x5; clear p5 x5)
    | (go_at_call 76; refine (HPK.out _ _ ?hP).mono ?hM; (case hP => obtain ⟨vs, h1, h2⟩ := P5.out; exact ⟨vs, zBm h1 (Nat.zero_le _), h2⟩); rintro e' w6 ⟨v6, rfl, f6⟩; (obtain ⟨a6, n6, rfl⟩ := zAj f6.2); have F6 := zh f6; clear f6)
    | (at_builtin; refine zAr (w6.alloc (.cells #[.slice a6 (zO8 e).length n6] 23)) (by rfl) (.tmp 13) (.tmp 20) zOp (by rfl) w2.heap.size (.slice none 0 0) (.slice (some ⟨w6.heap.size, 0, none⟩) 1 1) [] [[.slice a6 (zO8 e).length n6]] (by rfl) (by rfl) (ORow.nil _ _ _) (zBi (heap_alloc_new w6 _)) (by simp [zOp]) (by simp [Value.oneCell']) (by simp) ?hB ?hK; (case hB => have := XR.out.sz; have := X5.out.sz; have := F6.out.1.sz; simp; omega); intro v8 w8 r8 g8 m8 n8; have R8 := zh r8; have M8 := zh m8; clear r8 g8 m8 n8))
   go_roundw
   case rel =>
    obtain ⟨a8, c8, hv8⟩ := R8.out.form;simp only [List.nil_append, List.length_cons, List.length_nil] at hv8;subst hv8;obtain ⟨g, rfl, hc⟩ := R8.out.at 0 (by simp);have hc0 := hc 0 (by decide);refine ⟨zh ((XR.out.trans (X5.out.trans (F6.out.1.trans ((xr w6).alloc _)))).then_mut M8.out (Nat.le_refl _)), .inr ⟨rfl, g, c8, .slice a6 (zO8 e).length n6, rfl, zh (by simpa using hc0), zh ?_⟩⟩;exact M8.out.own (((xr w6).alloc _).own F6.out.own0)
   case measure => simp [intOf]
  ·go_wp2_with fail
   go_ret
   exact ⟨g, c, u, rfl, HU.out, HO.out, XW.out.trans (X2.out.trans XR.out)⟩
def zOl (w : World) (e : Ending) (w' : World) : Prop := ∃ d, e = .returned (.tuple #[.agg #[.map (some d)], .int .i64 0]) ∧ BaseM w' d none ∧ w.heap.size ≤ d ∧ Ext w w'
theorem Unpack_nil (w : World) : Calls Tryz.prog 218 #[.slice none 0 0] w (zOl w) := by
 have HNW := zh (New_nil (w.alloc (.cells #[.map none] 52)));go_enter Tryz.func218, Tryz.ntmps218
 go_wp2_with (go_at_call 97; refine HNW.out.mono ?_; rintro e w2 ⟨d, rfl, m2, hd, x2⟩; have M2 := zh m2; have HD := zh hd; have X2 := zh x2; clear m2 hd x2)
 obtain ⟨W3, hW3⟩ : ∃ W3, W3 = w2.alloc (.cells #[.map (some d)] 52) := ⟨_, rfl⟩
 have X3 := zh (show Ext w2 W3 by rw [hW3]; exact (xr w2).alloc _);have B1 : Hid (W3.heap[w.heap.size]? = some (.cells #[.map none] 52 (0, 0))) := X3.out.get (X2.out.get (heap_alloc_new w _));have B5 := zh (show W3.heap[w2.heap.size]? = some (.cells #[.map (some d)] 52 (0, 0)) by rw [hW3]; exact heap_alloc_new w2 _);have XW : Hid (Ext w W3) := (((xr w).alloc _).trans X2.out).trans X3.out;rw [← hW3];clear hW3
 go_loopw [16] (fun i wr => zBo W3 i wr) (fun _ _ => 0)
 case atStart => exact ⟨rfl, rfl⟩
 case round =>
  obtain ⟨rfl, rfl⟩ := hrel;have b1 := B1.out;have b5 := B5.out;have hc1 : wr.cell? ⟨w.heap.size, 0, none⟩ = some (.map none) := by rw [zAb b1]; rfl
  have hc5 : wr.cell? ⟨w2.heap.size, 0, none⟩ = some (.map (some d)) := by rw [zAb b5]; rfl
  have hf1 : wr.frozen? ⟨w.heap.size, 0, none⟩ = false := zAl b1 0
  go_wp2_with fail
  refine bodyPost_ret (v := .tuple #[.agg #[.map (some d)], .int .i64 0]) (by simp [results, Tryz.results218, World.cell?_setCell_same _ _ _ hc1, go_sem]) rfl ?_;exact ⟨d, rfl, (M2.out.ext X3.out).mut (zAi (B := 0) (T := [54]) wr B1.out _ (by simp) (Nat.zero_le _)) (by simp) (by simp), by have := HD.out; simp at this; omega, XW.out.setCell (Nat.le_refl _) _⟩
theorem zOa (w : World) (t : ByteArray) : Ext w (Lib.bytesWorld w 5 t) := by
 unfold Lib.bytesWorld;exact Lib.below_freeze ((xr w).drew.alloc _) (Nat.le_refl _) _
def vnumPost (w : World) (d : Nat) (e : Ending) (w' : World) : Prop := e = .returned (.tuple #[.int .i64 (d : Nat), .bool true]) ∧ Ext w w'
def dig (d : Nat) : Str := [UInt8.ofNat (48 + d)]
theorem number_dig (w : World) (d : Nat) (hd : d < 10) : Calls Tryz.prog 226 #[.string (ba (dig d))] w (vnumPost w d) := by
 have hat : Lib.atoi (ba (dig d)).data.toList = some (d : Int) := by
  have : ∀ d, d < 10 → Lib.atoi (ba (dig d)).data.toList = some (d : Int) := by decide
  exact this d hd
 have hit : (⟨(Lib.decDigits d).toArray⟩ : ByteArray) = ba (dig d) := by
  rw [Lib.decDigits_one hd]; rfl
 have HA := zh (fun W => Tryz.strconv_Atoi (ba (dig d)) d (by show 1 ≤ 18; decide) hat W);have HI := zh (fun W => Tryz.strconv_Itoa_small d (by omega) W);rw [hit] at HI;clear hat hit;go_enter Tryz.func226, Tryz.ntmps226
 go_wp2_with (first
  | (go_at_call 279; refine (HA.out _).mono ?_; rintro e w2 ⟨rfl, t, hw2⟩; have X2 := zh (show Ext w w2 by rw [hw2]; exact zOa _ _); clear hw2)
  | (go_at_call 280; refine (HI.out _).mono ?_; rintro e w3 ⟨rfl, rfl⟩))
 go_ret2
 exact ⟨rfl, X2.out⟩
def parsePost (w : World) (d : Nat) (e : Ending) (w' : World) : Prop := ∃ v, e = .returned (.tuple #[v, .int .i64 0, .bool true]) ∧ OwnI w' w.heap.size v [(d : Int)] ∧ Ext w w'
theorem cut_dig : ∀ d, d < 10 → Lib.cut (ba (dig d)).data.toList [45] = (dig d, [], false) := by decide
theorem count_dig : ∀ d, d < 10 → Lib.countB (ba (dig d)) ⟨#[46]⟩ = 0 := by decide
theorem split_dig (d : Nat) : Lib.splitB ⟨#[46]⟩ 0 0 (ba (dig d)) = [ba (dig d)] := by rfl
def parseRel (w W : World) (d : Nat) (v i : Value) (wr : World) : Prop :=
 (i = .int .i64 0 ∧ v = .slice none 0 0 ∧ wr = W) ∨ (i = .int .i64 1 ∧ ∃ a c, v = .slice a 1 c ∧ Hid (OwnI wr w.heap.size v [(d : Int)]) ∧ Hid (Ext w wr))
theorem zMo (w : World) (d : Nat) (hd : d < 10) {mx : Int} (hmx : w.cell? ⟨0, 0, none⟩ = some (.int .i64 mx)) : Calls Tryz.prog 144 #[.string (ba (dig d))] w (parsePost w d) := by
 have HC : Hid (Calls Tryz.prog 225 #[.string (ba (dig d)), .string ⟨#[45]⟩] w (fun e w' => e = .returned (.tuple #[.string (ba (dig d)), .string ⟨#[]⟩, .bool false]) ∧ Ext w w')) := (Tryz.strings_Cut (ba (dig d)) ⟨#[45]⟩ mx w (by show 1 < _; decide) hmx).mono fun e w' ⟨h1, n, h2⟩ => ⟨by
   rw [h1];have := cut_dig d hd
   rw [show (⟨#[45]⟩ : ByteArray).data.toList = [45] from rfl, this]; rfl, by rw [h2]; exact (xr w).drewN n⟩
 have HS : Hid (∀ W, Ext w W → Calls Tryz.prog 115 #[.string (ba (dig d)), .string ⟨#[46]⟩] W (fun e w' => e = .returned (.slice (some ⟨W.heap.size, 0, none⟩) 1 1) ∧ w' = W.alloc (.cells #[.string (ba (dig d))] 9))) := fun W x => (Tryz.strings_Split (ba (dig d)) ⟨#[46]⟩ mx W (by show 1 < _; decide) (x.cell hmx) (by decide)).mono fun e w' ⟨h1, h2⟩ => by
   rw [count_dig d hd] at h1 h2;rw [split_dig d] at h2;exact ⟨h1, h2⟩
 clear hmx;go_enter Tryz.func144, Tryz.ntmps144
 go_wp2_with (first
  | (go_at_call 225; refine HC.out.mono ?_; rintro e w2 ⟨rfl, x2⟩; have X2 := zh x2; clear x2)
  | (go_at_call 115; refine (HS.out _ X2.out).mono ?_; rintro e w3 ⟨rfl, rfl⟩))
 obtain ⟨W3, hW3⟩ : ∃ W3, W3 = w2.alloc (.cells #[.string (ba (dig d))] 9) := ⟨_, rfl⟩
 have X3 := zh (show Ext w W3 by rw [hW3]; exact X2.out.alloc _);have hc := zAb (show W3.heap[w2.heap.size]? = some (.cells #[.string (ba (dig d))] 9 (0, 0)) by rw [hW3]; exact heap_alloc_new w2 _) 0;have HN := zh (fun W => number_dig W d hd);rw [← hW3];clear hW3
 go_loopw [10, 37] (fun v i wr => parseRel w W3 d v i wr) (fun _ i _ => 1 - (intOf i).toNat)
 case atStart => exact .inl ⟨rfl, rfl, rfl⟩
 case round =>
  rcases hrel with ⟨rfl, rfl, rfl⟩ | ⟨rfl, a, c, rfl, HO, HX⟩
  ·have hsz := X3.out.sz
   go_wp2_with (first
    | (go_at_call 226; refine (HN.out _).mono ?_; rintro e w4 ⟨rfl, x4⟩; have X4 := zh x4; clear x4)
    | (at_builtin; refine zFm w4 (by rfl) (.tmp 48) (.tmp 50) (by rfl) w.heap.size (.slice none 0 0) [] (d : Int) (by rfl) (by rfl) (OwnI.nil _ _) (by simp) (Nat.le_trans hsz X4.out.sz) ?_; intro v6 w6 o6 g6; have O6 := zh o6; have G6 := zh g6; clear o6 g6))
   go_roundw
   case rel =>
    obtain ⟨a6, c6, rfl⟩ := zAj O6.out;exact .inr ⟨rfl, a6, c6, rfl, O6, zh (((X3.out.trans X4.out).alloc _).grow G6.out fun k hk => by cases hk)⟩
   case measure => simp [intOf]
  ·go_wp2_with fail
   exact bodyPost_ret (v := .tuple #[.slice a 1 c, .int .i64 0, .bool true]) (by simp [results, Tryz.results144, go_sem]) rfl ⟨_, rfl, HO.out, HX.out⟩
theorem VRight_dig (w : World) (d : Nat) (hd : d < 10) {mx : Int} (hmx : w.cell? ⟨0, 0, none⟩ = some (.int .i64 mx)) : Calls Tryz.prog 64 #[.string (ba (dig d))] w fun e w' => e = .returned (.bool true) ∧ Ext w w' := by
 have HP := zh (zMo w d hd hmx);clear hmx;go_enter Tryz.func64, Tryz.ntmps64
 go_wp2_with (go_at_call 144; refine HP.out.mono ?_; rintro e w2 ⟨v, rfl, o2, x2⟩; have X2 := zh x2; clear x2 o2)
 go_ret
 exact ⟨rfl, X2.out⟩
theorem Or_one (w : World) {g c : Nat} (h0 : w.cell? ⟨g, 0, none⟩ = some (.int .i64 1)) : Calls Tryz.prog 231 #[.slice (some ⟨g, 0, none⟩) 2 c] w fun e w' => e = .returned (.int .i64 1) ∧ w = w' := by
 go_enter Tryz.func231, Tryz.ntmps231
 go_wp2_with fail
 go_loop [8] (fun i => i = .int .i64 0) (fun _ => 0)
 case atStart => rfl
 case round =>
  subst hrel
  go_wp2_with fail
  go_ret
  exact ⟨rfl, rfl⟩
theorem SCompare_dig (w : World) {g1 g2 c1 c2 : Nat} {d1 d2 : Nat} (h1 : w.cell? ⟨g1, 0, none⟩ = some (.int .i64 (d1 : Int))) (h2 : w.cell? ⟨g2, 0, none⟩ = some (.int .i64 (d2 : Int))) (hlt : d2 < d1) :
  Calls Tryz.prog 232 #[.slice (some ⟨g1, 0, none⟩) 1 c1, .slice (some ⟨g2, 0, none⟩) 1 c2] w fun e w' => e = .returned (.int .i64 1) ∧ w = w' := by
 have HC : Hid (∀ W, Calls Tryz.prog 229 #[.int .i64 (d1 : Int), .int .i64 (d2 : Int)] W (fun e w' => e = .returned (.int .i64 1) ∧ W = w')) := fun W => (Tryz.cmp_Compare_int (d1 : Int) (d2 : Int) W).mono fun e w' ⟨a, b⟩ => ⟨by
  rw [a]
  have e1 : Lib.compareInt (d1 : Int) (d2 : Int) = 1 := by
   unfold Lib.compareInt;rw [if_neg (by omega), if_pos (by omega)]
  rw [e1], b.symm⟩
 clear hlt;go_enter Tryz.func232, Tryz.ntmps232
 go_wp2_with fail
 go_loop [11] (fun i => i = .int .i64 0) (fun _ => 0)
 case atStart => rfl
 case round =>
  subst hrel
  go_wp2_with (go_at_call 229; refine (HC.out _).mono ?_; rintro e w2 ⟨rfl, rfl⟩)
  go_ret
  exact ⟨rfl, rfl⟩
theorem OwnI.one_at {w : World} {base : Nat} {v : Value} {i : Int} (h : OwnI w base v [i]) : ∃ g c, v = .slice (some ⟨g, 0, none⟩) 1 c ∧ w.cell? ⟨g, 0, none⟩ = some (.int .i64 i) := by
 obtain ⟨a, c, rfl, -, -⟩ := h.form;obtain ⟨b, rfl, hc⟩ := h.at 0 (by simp);exact ⟨b, c, rfl, by simpa using hc⟩
theorem Compare_dig (w : World) {d1 d2 : Nat} (hd1 : d1 < 10) (hlt : d2 < d1) {mx : Int} (hmx : w.cell? ⟨0, 0, none⟩ = some (.int .i64 mx)) : Calls Tryz.prog 152 #[.string (ba (dig d1)), .string (ba (dig d2))] w fun e w' => e = .returned (.int .i64 1) ∧ Ext w w' := by
 have HP1 := zh (zMo w d1 hd1 hmx);have HP2 : Hid (∀ W, Ext w W → Calls Tryz.prog 144 #[.string (ba (dig d2))] W (parsePost W d2)) := fun W x => zMo W d2 (by omega) (x.cell hmx)
 have H00 : Hid (∀ W, Calls Tryz.prog 229 #[.int .i64 0, .int .i64 0] W (fun e w' => e = .returned (.int .i64 0) ∧ W = w')) := fun W => (Tryz.cmp_Compare_int 0 0 W).mono fun e w' ⟨a, b⟩ => ⟨by rw [a]; rfl, b.symm⟩
 have HLT := zh hlt;clear hd1 hlt hmx;generalize dig d1 = s1 at *;generalize dig d2 = s2 at *;go_enter Tryz.func152, Tryz.ntmps152
 go_wp2_with fail
 go_at_call 144
 refine HP1.out.mono ?_;rintro e w2 ⟨v1, rfl, o1, x1⟩;obtain ⟨g1, c1, rfl, hc1⟩ := o1.one_at;have X1 := zh x1;have C1 : Hid (∀ W, Ext w2 W → W.cell? ⟨g1, 0, none⟩ = some (.int .i64 (d1 : Int))) := fun W x => x.cell hc1
 clear o1 x1 hc1
 go_wp2_with fail
 go_at_call 144
 refine (HP2.out _ X1.out).mono ?_;rintro e w3 ⟨v2, rfl, o2, x2⟩;obtain ⟨g2, c2, rfl, hc2⟩ := o2.one_at;have X2 := zh x2;have C2 := zh hc2;clear o2 x2 hc2
 go_wp2_with (first
  | (go_at_call 232; refine (SCompare_dig _ (C1.out _ X2.out) C2.out HLT.out).mono ?_; rintro e w4 ⟨rfl, rfl⟩)
  | (go_at_call 229; refine (H00.out _).mono ?_; rintro e w5 ⟨rfl, rfl⟩)
  | (go_at_call 231; refine (Or_one _ (zAb (heap_alloc_new _ _) 0)).mono ?_; rintro e w6 ⟨rfl, rfl⟩))
 go_ret
 exact ⟨rfl, (X1.out.trans X2.out).alloc _⟩
def pVar : Str := [47, 118, 97, 114]
theorem pVar_ok : SplitOk pVar [[118, 97, 114]] := zBl (by decide)
structure AfOk (f : Af) (ns : Pth) : Prop where
 path : SplitOk f.path ns
 data : f.data.length ≤ 512
 out : zB0 ns [[118, 97, 114]] = false
 ne : f.path ≠ pVar
theorem FRight_any (w : World) {f : Af} {ns : Pth} (h : AfOk f ns) (a : Option Addr) (c : Nat) {mx : Int} (hmx : w.cell? ⟨0, 0, none⟩ = some (.int .i64 mx)) :
  Calls Tryz.prog 71 #[.agg #[.string (ba f.path), .bool f.cfg, .slice a f.data.length c]] w fun e w' => e = .returned (.bool true) ∧ Ext w w' := by
 have HR : Hid (∀ W, Ext w W → _) := fun W x => Right_any mx W h.path (x.cell hmx)
 have HW : Hid (∀ W, Ext w W → Calls Tryz.prog 26 #[.string (ba f.path), .string (ba pVar)] W (fun e w' => e = .returned (.bool false) ∧ Ext W w')) := fun W x => (zH6 mx W h.path pVar_ok (x.cell hmx)).mono fun e w' ⟨h1, h2⟩ => ⟨by rw [h1, h.out], h2⟩
 have hd := h.data;have hd2 : (f.data.length : Int) ≤ 512 := by omega
 have hne1 : (f.path == pVar) = false := by rw [beq_eq_false_iff_ne]; exact h.ne
 have hne2 : (f.path != pVar) = true := by rw [bne_iff_ne]; exact h.ne
 have hne3 : ¬ f.path = pVar := h.ne;have HB : Hid (∀ W, Ext (w.alloc (.cells #[.string (ba f.path), .bool f.cfg, .slice a f.data.length c] 30)) W → _) := fun W x => zA2 (x.get (heap_alloc_new w _))
 unfold pVar at hne1 hne2 hne3;clear h hmx;generalize f.data.length = dl at *;generalize f.path = p at *;go_enter Tryz.func71, Tryz.ntmps71
 go_wp2_with (first
  | (go_at_call 147; refine (HR.out _ ((xr w).alloc _)).mono ?_; rintro e w2 ⟨rfl, x2⟩; have X2 := zh x2; (obtain ⟨q0, q1, q2, qf⟩ := HB.out _ x2); clear x2)
  | (go_at_call 26; refine (HW.out _ (((xr w).alloc _).trans X2.out)).mono ?_; rintro e w3 ⟨rfl, x3⟩; have X3 := zh (X2.out.trans x3); clear q0 q1 q2 qf; (obtain ⟨q0, q1, q2, qf⟩ := HB.out _ X3.out); clear x3))
 go_ret
 exact ⟨rfl, ((xr w).alloc _).trans X3.out⟩
theorem Below_any (w : World) {s t : Str} {l u : List Str} (hs : SplitOk s l) (ht : SplitOk t u) {b : Nat} (hb : w.cell? ⟨b, 0, none⟩ = some (.string (ba s))) (c : Bool) (dv : Value) (hdv : ∃ a n k, dv = .slice a n k) {mx : Int} (hmx : w.cell? ⟨0, 0, none⟩ = some (.int .i64 mx)) :
  Calls Tryz.prog 73 #[.agg #[.string (ba t), .bool c, dv], .pointer (some ⟨b, 0, none⟩)] w fun e w' => e = .returned (.bool (zB0 l u)) ∧ Ext w w' := by
 obtain ⟨a, n, k, rfl⟩ := hdv;have HW : Hid (∀ W, Ext w W → Calls Tryz.prog 26 #[.string (ba s), .string (ba t)] W (fun e w' => e = .returned (.bool (zB0 l u)) ∧ Ext W w')) := fun W x => zH6 mx W hs ht (x.cell hmx)
 have hc1 : (w.alloc (.cells #[.string (ba t), .bool c, .slice a n k] 30)).cell? ⟨b, 0, none⟩ = some (.string (ba s)) := ((xr w).alloc _).cell hb;clear hs ht hmx;generalize zB0 l u = r at *;go_enter Tryz.func73, Tryz.ntmps73
 go_wp2_with (go_at_call 26; refine (HW.out _ ((xr w).alloc _)).mono ?_; rintro e w2 ⟨rfl, x2⟩; have X2 := zh x2; clear x2)
 go_ret
 exact ⟨rfl, ((xr w).alloc _).trans X2.out⟩
def zO4 (w : World) (n : Nat) (i : Value) (wr : World) : Prop := ∃ k : Nat, k ≤ n ∧ i = .int .i64 k ∧ Hid (Ext w wr)
structure ArcW (w : World) (fv : Value) (fs : List (Af × Value)) : Prop where
 row : ORow rFile w 0 fv (fs.map zCb)
 data : ∀ x ∈ fs, BytesIs w x.2 x.1.data
 len : fs.length ≤ 1000
theorem ArcFs.weak {w : World} {fv : Value} {fs : List (Af × Value)} (h : ArcFs w fv fs) : ArcW w fv fs := ⟨h.row, fun y hy => (h.data y hy).weak, h.len⟩
theorem ArcW.ext {w w' : World} {fv : Value} {fs : List (Af × Value)} (h : ArcW w fv fs) (x : Ext w w') : ArcW w' fv fs := ⟨h.row.ext x, fun y hy => (h.data y hy).ext x, h.len⟩
theorem ArcW.form {w : World} {fv : Value} {fs : List (Af × Value)} (h : ArcW w fv fs) : ∃ a c, fv = .slice a fs.length c := by
 obtain ⟨a, c, e⟩ := h.row.form;rw [List.length_map] at e;exact ⟨a, c, e⟩
theorem ArcW.at {w : World} {fs : List (Af × Value)} {a : Option Addr} {n c : Nat} (h : ArcW w (.slice a n c) fs) (k : Nat) (hk : k < fs.length) :
  ∃ b, a = some ⟨b, 0, none⟩ ∧ w.cell? ⟨b, k * 3, none⟩ = some (.string (ba fs[k].1.path)) ∧ w.cell? ⟨b, k * 3 + 1, none⟩ = some (.bool fs[k].1.cfg) ∧ w.cell? ⟨b, k * 3 + 2, none⟩ = some fs[k].2 := by
 obtain ⟨b, e, hc⟩ := h.row.at k (by simpa using hk);have h0 := hc 0 (by decide);have h1 := hc 1 (by decide);have h2 := hc 2 (by decide);simp only [List.getElem_map] at h0 h1 h2;exact ⟨b, e, h0, h1, h2⟩
theorem Index_files (w : World) {a : Option Addr} {n0 c : Nat} {fs : List (Af × Value)} {N n : Nat} (hf : ArcW w (.slice a n0 c) fs) (hn : n ≤ fs.length) {b : Nat} (hp : ∀ k, (hk : k < fs.length) → k < n → ∀ W, Ext w W → Calls Tryz.prog 73 #[.agg #[.string (ba fs[k].1.path), .bool fs[k].1.cfg, fs[k].2], .pointer (some ⟨b, 0, none⟩)] W fun e w' => e = .returned (.bool false) ∧ Ext W w') :
  Calls Tryz.prog 148 #[.slice a n N, .func (.func 73) #[] #[.pointer (some ⟨b, 0, none⟩)]] w fun e w' => e = .returned (.int .i64 (-1)) ∧ Ext w w' := by
 have HF := zh hf;have HP := zh hp;have hl := hf.len;clear hf hp;go_enter Tryz.func148, Tryz.ntmps148
 go_wp2_with fail
 go_loopw [8] (fun i wr => zO4 w n i wr) (fun i _ => n - (intOf i).toNat)
 case atStart => exact ⟨0, Nat.zero_le _, rfl, zh (xr w)⟩
 case round =>
  obtain ⟨wq, rfl⟩ : ∃ x : World, x = wr := ⟨_, rfl⟩
  obtain ⟨k, hk, rfl, HX⟩ := hrel
  by_cases hlt : k < n
  ·have hkf : k < fs.length := by omega
   obtain ⟨b', rfl, hc0, hc1, hc2⟩ := (HF.out.ext HX.out).at k hkf;obtain ⟨da, dc, hdv⟩ := (HF.out.data _ (List.getElem_mem hkf)).form;have HPk := zh (fun W x => HP.out k hkf hlt W (HX.out.trans x));rw [hdv] at hc2 HPk;clear hdv;generalize fs[k] = x at *;obtain ⟨⟨p, cf, dd⟩, dv⟩ := x;simp only at hc0 hc1 hc2 HPk;generalize dd.length = dl at *
   go_wp2_with (go_at_call 73; refine (HPk.out _ (xr _)).mono ?_; rintro e w2 ⟨rfl, x2⟩; have X2 := zh x2; clear x2)
   go_roundw
   case rel => exact ⟨k + 1, hlt, by go_num, zh (HX.out.trans X2.out)⟩
   case measure => simp [intOf]; omega
  ·go_wp2_with fail
   go_ret
   exact ⟨rfl, HX.out⟩
theorem zOk (w : World) {a : Option Addr} {n0 c : Nat} {fs : List (Af × Value)} {N n : Nat} (hf : ArcW w (.slice a n0 c) fs) (hn : n ≤ fs.length) {b : Nat} (hp : ∀ k, (hk : k < fs.length) → k < n → ∀ W, Ext w W → Calls Tryz.prog 73 #[.agg #[.string (ba fs[k].1.path), .bool fs[k].1.cfg, fs[k].2], .pointer (some ⟨b, 0, none⟩)] W fun e w' => e = .returned (.bool false) ∧ Ext W w') :
  Calls Tryz.prog 72 #[.slice a n N, .func (.func 73) #[] #[.pointer (some ⟨b, 0, none⟩)]] w fun e w' => e = .returned (.bool false) ∧ Ext w w' := by
 have HI := zh (Index_files (N := N) w hf hn hp);clear hf hp;go_enter Tryz.func72, Tryz.ntmps72
 go_wp2_with (go_at_call 148; refine HI.out.mono ?_; rintro e w2 ⟨rfl, x2⟩; have X2 := zh x2; clear x2)
 go_ret
 exact ⟨rfl, X2.out⟩
theorem Contains_65 (w : World) : Calls Tryz.prog 65 #[.slice none 0 0, .func (.func 66) #[] #[]] w fun e w' => e = .returned (.bool false) ∧ Ext w w' := by
 have HI := zh (show Calls Tryz.prog 145 #[.slice none 0 0, .func (.func 66) #[] #[]] w (fun e w' => e = .returned (.int .i64 (-1)) ∧ Ext w w') from by
  go_enter Tryz.func145, Tryz.ntmps145
  go_wp2_with fail
  go_loopw [8] (fun i wr => zBo w i wr) (fun _ _ => 0)
  case atStart => exact ⟨rfl, rfl⟩
  case round =>
   obtain ⟨rfl, rfl⟩ := hrel
   go_wp2_with fail
   go_ret
   exact ⟨rfl, xr _⟩)
 go_enter Tryz.func65, Tryz.ntmps65
 go_wp2_with (go_at_call 145; refine HI.out.mono ?_; rintro e w2 ⟨rfl, x2⟩; have X2 := zh x2; clear x2)
 go_ret
 exact ⟨rfl, X2.out⟩
theorem Contains_68 (w : World) (f : Value) : Calls Tryz.prog 68 #[.slice none 0 0, f] w fun e w' => e = .returned (.bool false) ∧ w = w' :=
 (Tryz.slices_ContainsFunc_empty (α := Str) none 0 f w).mono fun _ _ ⟨a, b⟩ => ⟨a, b.symm⟩
structure PkgOk (d : Nat) (fs : List Af) : Prop where
 dig : d < 10
 few : fs.length ≤ 12
 files : ∀ f ∈ fs, AfOk f (names f.path)
 sorted : ∀ k, (h : k + 1 < fs.length) → Op.bytesLess fs[k].path fs[k + 1].path = true
 apart : ∀ i k, (hk : k < fs.length) → (hi : i < k) → zB0 (names fs[k].path) (names fs[i].path) = false
theorem ORow.cap {R : RT} {w : World} {base : Nat} {a : Option Addr} {n c : Nat} {rs : List (List Value)} (h : ORow R w base (.slice a n c) rs) : n ≤ c ∧ c ≤ maxLen := by
 rcases h.own.2 with ⟨e, h0⟩ | ⟨g, cap, cur, e, hb, hg, hn, hm, _⟩
 ·cases e; exact ⟨Nat.le_refl _, Nat.zero_le _⟩
 ·cases e; exact ⟨hn, hm⟩
theorem nameB_a : zMu nmA = true := by decide
def rightRel (w : World) (n : Nat) (i : Value) (wr : World) : Prop := ∃ k : Nat, k ≤ n ∧ i = .int .i64 k ∧ Hid (Ext w wr)
set_option maxHeartbeats 4000000 in
theorem zKt (w : World) {d : Nat} {fv : Value} {fs : List (Af × Value)} (hf : ArcW w fv fs) (h : PkgOk d (fs.map Prod.fst)) {mx : Int} (hmx : w.cell? ⟨0, 0, none⟩ = some (.int .i64 mx)) :
  Calls Tryz.prog 34 #[.agg (zA5 (dig d) fv)] w fun e w' => e = .returned (.bool true) ∧ Ext w w' := by
 obtain ⟨fa, fc, rfl⟩ := hf.form;have hfl : fs.length ≤ 12 := by simpa using h.few
 have hfl2 : (fs.length : Int) ≤ 12 := by omega
 have hcap := hf.row.cap.1
 obtain ⟨W, hW⟩ : ∃ W, W = w.alloc (.cells #[.string (ba nmA), .string (ba (dig d)), .slice none 0 0, .slice none 0 0, .slice fa fs.length fc, .slice none 0 0] 35) := ⟨_, rfl⟩
 have XW := zh (show Ext w W by rw [hW]; exact (xr w).alloc _);have hb0 : W.heap[w.heap.size]? = some (.cells #[.string (ba nmA), .string (ba (dig d)), .slice none 0 0, .slice none 0 0, .slice fa fs.length fc, .slice none 0 0] 35 (0, 0)) := by rw [hW]; exact heap_alloc_new w _
 have KB : Hid (∀ V, Ext W V → _) := fun V x => cells6 (x.get hb0)
 have HN := zh (fun V => zP9 (l := nmA) V nameB_a);have HV : Hid (∀ V, Ext w V → _) := fun V x => VRight_dig V d h.dig (x.cell hmx)
 have HF := zh hf;have H := zh h;have HMX := zh hmx;have p := KB.out W (xr W);obtain ⟨p0, p1, p2, p3, p4, p5, pf⟩ := p;clear hf h hmx hb0;simp only [zA5];go_enter Tryz.func34, Tryz.ntmps34
 go_upto_region 6 with (first
  | (rw [← hW]; go_at_call 63; refine (HN.out W).mono ?_; rintro e w2 ⟨rfl, x2⟩; have X2 := zh x2; clear p0 p1 p2 p3 p4 p5 pf; (obtain ⟨p0, p1, p2, p3, p4, p5, pf⟩ := KB.out _ x2); clear x2)
  | (go_at_call 64; refine (HV.out _ (XW.out.trans X2.out)).mono ?_; rintro e w3 ⟨rfl, x3⟩; have X3 := zh (X2.out.trans x3); clear p0 p1 p2 p3 p4 p5 pf; (obtain ⟨p0, p1, p2, p3, p4, p5, pf⟩ := KB.out _ X3.out); clear x3)
  | (go_at_call 65; refine (Contains_65 _).mono ?_; rintro e w4 ⟨rfl, x4⟩; have X4 := zh (X3.out.trans x4); clear p0 p1 p2 p3 p4 p5 pf; (obtain ⟨p0, p1, p2, p3, p4, p5, pf⟩ := KB.out _ X4.out); clear x4)
  | (go_at_call 68; refine (Contains_68 _ _).mono ?_; rintro e w5 ⟨rfl, rfl⟩))
 clear p0 p1 p2 p3 p4 p5 pf;have XP := zh (XW.out.trans X4.out)
 obtain ⟨w0, hw0⟩ : ∃ x : World, x = w4 := ⟨_, rfl⟩
 rw [← hw0];have HX0 := zh hw0;clear hw0
 go_loopw [56] (fun i wr => rightRel w4 fs.length i wr) (fun i _ => fs.length - (intOf i).toNat)
 case atStart => exact ⟨0, Nat.zero_le _, rfl, zh (by rw [HX0.out]; exact xr _)⟩
 case round =>
  obtain ⟨wq, rfl⟩ : ∃ x : World, x = wr := ⟨_, rfl⟩
  obtain ⟨k, hk, rfl, HX⟩ := hrel
  by_cases hlt : k < fs.length
  ·have XQ := zh (XP.out.trans HX.out);obtain ⟨b', rfl, hc0, hc1, hc2⟩ := (HF.out.ext XQ.out).at k hlt;obtain ⟨da, dc, hdv⟩ := (HF.out.data _ (List.getElem_mem hlt)).form;have hmem : fs[k].1 ∈ fs.map Prod.fst := List.mem_map.2 ⟨_, List.getElem_mem hlt, rfl⟩;have HAF := zh (H.out.files _ hmem);have HFA := zh (fun i (hi : i < fs.length) => H.out.files _ (List.mem_map.2 ⟨_, List.getElem_mem hi, rfl⟩));have HAP : Hid (∀ i, (hi : i < k) → zB0 (names fs[k].1.path) (names (fs[i]'(by omega)).1.path) = false) := fun i hi => by have := H.out.apart i k (by simpa using hlt) hi; simpa using this
   obtain ⟨W1, hW1⟩ : ∃ W1, W1 = wq.alloc (.cells #[.string (ba fs[k].1.path), .bool fs[k].1.cfg, .slice da fs[k].1.data.length dc] 30) := ⟨_, rfl⟩
   have X1 := zh (show Ext wq W1 by rw [hW1]; exact (xr wq).alloc _);have BN := zh (show W1.heap[wq.heap.size]? = some (.cells #[.string (ba fs[k].1.path), .bool fs[k].1.cfg, .slice da fs[k].1.data.length dc] 30 (0, 0)) by rw [hW1]; exact heap_alloc_new wq _);have HFR : Hid (∀ V, Ext W1 V → Calls Tryz.prog 71 #[.agg #[.string (ba fs[k].1.path), .bool fs[k].1.cfg, .slice da fs[k].1.data.length dc]] V (fun e w' => e = .returned (.bool true) ∧ Ext V w')) := fun V x => FRight_any V HAF.out da dc ((XQ.out.trans (X1.out.trans x)).cell HMX.out)
   have HCF : Hid (∀ V N, Ext W1 V → Calls Tryz.prog 72 #[.slice (some ⟨b', 0, none⟩) k N, .func (.func 73) #[] #[.pointer (some ⟨wq.heap.size, 0, none⟩)]] V (fun e w' => e = .returned (.bool false) ∧ Ext V w')) := fun V N x =>
    zOk V (HF.out.ext (XQ.out.trans (X1.out.trans x))) hk (fun i hi hik U y => by
     have := Below_any U HAF.out.path (HFA.out i hi).path (zA2 ((x.trans y).get BN.out)).1 fs[i].1.cfg fs[i].2 (by obtain ⟨a, c, e⟩ := (HF.out.data _ (List.getElem_mem hi)).form; exact ⟨_, _, _, e⟩) ((XQ.out.trans (X1.out.trans (x.trans y))).cell HMX.out);rw [HAP.out i hik] at this
     exact this)
   have KS : Hid (∀ V, Ext W1 V → V.cell? ⟨wq.heap.size, 0, none⟩ = some (.string (ba fs[k].1.path)) ∧ V.cell? ⟨wq.heap.size, 1, none⟩ = some (.bool fs[k].1.cfg) ∧ V.cell? ⟨wq.heap.size, 2, none⟩ = some (.slice da fs[k].1.data.length dc) ∧ V.cell? ⟨w.heap.size, 4, none⟩ = some (.slice (some ⟨b', 0, none⟩) fs.length fc)) := fun V x => by
    obtain ⟨r0, r1, r2, -⟩ := zA2 (x.get BN.out);exact ⟨r0, r1, r2, (KB.out _ (X4.out.trans (HX.out.trans (X1.out.trans x)))).2.2.2.2.1⟩
   have hq4 : wq.cell? ⟨w.heap.size, 4, none⟩ = some (.slice (some ⟨b', 0, none⟩) fs.length fc) := (KB.out _ (X4.out.trans HX.out)).2.2.2.2.1;rw [hdv] at hc2;clear hdv
   cases k with
   | zero =>
     clear HFA HAP HAF;generalize fs[0].1.data.length = dl at *;generalize fs[0].1.path = pt at *;generalize fs[0].1.cfg = cf at *
     go_upto_region 8 with fail
     rw [← hW1];clear hW1 hc0 hc1 hc2 hq4;refine wp_region_held_drew (S := (fun V => V.cell? ⟨wq.heap.size, 0, none⟩ = some (.string (ba pt)) ∧ V.cell? ⟨wq.heap.size, 1, none⟩ = some (.bool cf) ∧ V.cell? ⟨wq.heap.size, 2, none⟩ = some (.slice da dl dc) ∧ V.cell? ⟨w.heap.size, 4, none⟩ = some (.slice (some ⟨b', 0, none⟩) fs.length fc))) (by kernel_rfl) (by (first | exact KS.out _ (xr _).drew | exact KS.out _ X5.out | exact KS.out _ X6.out)) fun _ => ?_
     refine tk 0 ?_;refine rd 1 fun K hK => ?_
     go_simp
     (go_at_call 71; refine (HFR.out _ (xr _).drew).mono ?_; rintro e w5 ⟨rfl, x5⟩; have X5 := zh ((xr W1).drew.trans x5); clear x5)
     go_wp2_with fail
     refine hK.out _ _ ?_ fun _ => ?_
     ·(first | exact KS.out _ (xr _).drew | exact KS.out _ X5.out | exact KS.out _ X6.out)
     clear hK K;refine tk 2 ?_;refine tk 3 ?_;refine tk 4 ?_;refine tk 5 ?_;refine tk 6 ?_;refine tn 7 ?_;refine tn 8 ?_;refine tn 9 ?_;refine tn 10 ?_;refine tn 11 ?_;refine tn 12 ?_;refine tn 13 ?_;refine tn 14 ?_;refine tn 15 ?_;refine tn 16 ?_;refine tk 17 ?_;refine tk 18 ?_;refine tk 19 ?_;refine tk 20 ?_;refine tk 21 ?_;refine tk 22 ?_;refine tk 23 ?_;refine tk 24 ?_;refine rd 25 fun K hK => ?_
     go_simp
     (go_at_call 72; refine (HCF.out _ _ X5.out).mono ?_; rintro e w6 ⟨rfl, x6⟩; have X6 := zh (X5.out.trans x6); clear x6)
     go_wp2_with fail
     refine hK.out _ _ ?_ fun _ => ?_
     ·(first | exact KS.out _ (xr _).drew | exact KS.out _ X5.out | exact KS.out _ X6.out)
     clear hK K;refine tk 26 ?_;refine wpAnyH_done (by kernel_rfl) ?_ _
     go_wp2_with fail
     go_roundw
     case rel => exact ⟨1, hlt, by go_num, zh (HX.out.trans (X1.out.trans X6.out))⟩
     case measure => simp [intOf]; omega
   | succ j =>
     have HC1 : Hid (∀ V, Ext W1 V → V.cell? ⟨b', j * 3, none⟩ = some (.string (ba (fs[j]'(by omega)).1.path))) := fun V x => by
      obtain ⟨b2, e, h0, _⟩ := (HF.out.ext (XQ.out.trans (X1.out.trans x))).at j (by omega);cases e;exact h0
     have hso : Op.bytesLess (fs[j]'(by omega)).1.path fs[j + 1].1.path = true := by
      have := H.out.sorted j (by simp; omega);simpa using this
     clear HFA HAP HAF;generalize fs[j + 1].1.data.length = dl at *;generalize fs[j + 1].1.path = pt at *;generalize fs[j + 1].1.cfg = cf at *;generalize (fs[j]'(by omega)).1.path = po at *
     go_upto_region 8 with fail
     rw [← hW1];clear hW1 hc0 hc1 hc2 hq4;have KT := zh (fun V (x : Ext W1 V) => (⟨(KS.out V x).1, (KS.out V x).2.1, (KS.out V x).2.2.1, (KS.out V x).2.2.2, HC1.out V x⟩ : _ ∧ _ ∧ _ ∧ _ ∧ _));have hjw : IntKind.i64.wrap (j : Int) = (j : Int) := IntWalk.i64_in _ (by omega);have hj0 : (0 : Int) ≤ (j : Int) := by omega
     have hj2 : (0 : Int) ≤ (j : Int) + 1 := by omega
     have hj3 : (j : Int) + 1 ≤ (fc : Int) := by omega
     have hj1 : (j : Int) < (fs.length : Int) := by omega
     refine wp_region_held_drew (S := (fun V => V.cell? ⟨wq.heap.size, 0, none⟩ = some (.string (ba pt)) ∧ V.cell? ⟨wq.heap.size, 1, none⟩ = some (.bool cf) ∧ V.cell? ⟨wq.heap.size, 2, none⟩ = some (.slice da dl dc) ∧ V.cell? ⟨w.heap.size, 4, none⟩ = some (.slice (some ⟨b', 0, none⟩) fs.length fc) ∧ V.cell? ⟨b', j * 3, none⟩ = some (.string (ba po)))) (by kernel_rfl) (by (first | exact KT.out _ (xr _).drew | exact KT.out _ X5.out | exact KT.out _ X6.out)) fun _ => ?_
     refine tk 0 ?_;refine rd 1 fun K hK => ?_
     go_simp
     (go_at_call 71; refine (HFR.out _ (xr _).drew).mono ?_; rintro e w5 ⟨rfl, x5⟩; have X5 := zh ((xr W1).drew.trans x5); clear x5)
     go_wp2_with fail
     refine hK.out _ _ ?_ fun _ => ?_
     ·(first | exact KT.out _ (xr _).drew | exact KT.out _ X5.out | exact KT.out _ X6.out)
     clear hK K;refine tk 2 ?_;refine tk 3 ?_;refine tk 4 ?_;refine tk 5 ?_;refine tk 6 ?_;refine tk 7 ?_;refine tk 8 ?_;refine tk 9 ?_;refine tk 10 ?_;refine tk 11 ?_;refine tk 12 ?_;refine tk 13 ?_;refine tk 14 ?_;refine tk 15 ?_;refine tk 16 ?_;refine tk 17 ?_;refine tk 18 ?_;refine tk 19 ?_;refine tk 20 ?_;refine tk 21 ?_;refine tk 22 ?_;refine tk 23 ?_;refine tk 24 ?_;refine rd 25 fun K hK => ?_
     go_simp
     (go_at_call 72; refine (HCF.out _ _ X5.out).mono ?_; rintro e w6 ⟨rfl, x6⟩; have X6 := zh (X5.out.trans x6); clear x6)
     go_wp2_with fail
     refine hK.out _ _ ?_ fun _ => ?_
     ·(first | exact KT.out _ (xr _).drew | exact KT.out _ X5.out | exact KT.out _ X6.out)
     clear hK K;refine tk 26 ?_;refine wpAnyH_done (by kernel_rfl) ?_ _;clear hjw hso
     go_wp2_with fail
     go_roundw
     case rel => exact ⟨j + 1 + 1, hlt, by go_num, zh (HX.out.trans (X1.out.trans X6.out))⟩
     case measure => simp [intOf]; omega
  ·go_wp2_with fail
   go_ret
   exact ⟨rfl, XP.out.trans HX.out⟩
def zDn (f : Af) : List (List UInt8) := [zBk f.path, zE9 (if f.cfg then 1 else 0), zBk f.data]
def zI3 (ver : Str) (fs : List Af) : List (List UInt8) := [zBk nmA, zBk ver, zCz [], zCz [], zCz (fs.flatMap zDn), zCz []]
def zK2 (ver : Str) (fs : List Af) : List UInt8 := (zI3 ver fs).flatten
def afp (x : Af × Value) : List (List UInt8) := zDn x.1
theorem afp_len (l : List (Af × Value)) : (l.flatMap afp).length = 3 * l.length := by
 induction l with
 | nil => rfl
 | cons x r ih => rw [List.flatMap_cons, List.length_append, ih]; simp [afp, zDn]; omega
theorem zNd : ∀ (l : List (Af × Value)) (_ : ∀ x ∈ l, x.1.path.length ≤ 1000 ∧ x.1.data.length ≤ 1000), (l.flatMap afp).flatten.length ≤ 2012 * l.length
 | [], _ => by simp
 | f :: r, h => by
   have ih := zNd r fun x hx => h x (by simp [hx])
   have h1 := h f (by simp);rw [List.flatMap_cons, List.flatten_append, List.length_append];simp only [afp, zDn, List.flatten_cons, List.flatten_nil, List.append_nil, List.length_append, zBk, zE9, zBa, List.length_cons];omega
theorem afp_map (l : List (Af × Value)) : l.flatMap afp = (l.map Prod.fst).flatMap zDn := by
 rw [List.flatMap_map]; rfl
def packsRel (w : World) (fs : List (Af × Value)) (v i : Value) (wr : World) : Prop :=
 ∃ (k : Nat) (a : Option Addr) (c : Nat), k ≤ fs.length ∧ v = .slice a (3 * k) c ∧ i = .int .i64 k ∧ Hid (Ext w wr) ∧ Hid (PartRow wr w.heap.size v ((fs.take k).flatMap afp))
theorem zPm (ver : Str) (fs : List (Af × Value)) (hp : ∀ x ∈ fs, x.1.path.length ≤ 1000 ∧ x.1.data.length ≤ 1000) (hl : fs.length ≤ 1000) (hv : ver.length ≤ 1000) : (zK2 ver (fs.map Prod.fst)).length ≤ 3000000 := by
 have h := zNd fs hp;rw [afp_map] at h;simp only [zK2, zI3, zCz, zBk, nmA, List.flatten_cons, List.flatten_nil, List.append_nil, List.length_append, zBa, List.length_cons, List.length_nil];omega
set_option maxHeartbeats 4000000 in
theorem pack_any {w : World} {ver : Str} {fv : Value} {fs : List (Af × Value)} (h : ArcW w fv fs) (hp : ∀ x ∈ fs, x.1.path.length ≤ 1000 ∧ x.1.data.length ≤ 1000) (hv : ver.length ≤ 1000) : Calls Tryz.prog 35 #[.agg (zA5 ver fv)] w (zAy w (zK2 ver (fs.map Prod.fst))) := by
 obtain ⟨fa, fc, rfl⟩ := h.form;have HF := zh h;have HP := zh hp;have hfl : fs.length ≤ 1000 := h.len;have HLN := zh (zPm ver fs hp hfl hv);clear h hp;simp only [zA5]
 obtain ⟨W, hW⟩ : ∃ W, W = w.alloc (.cells #[.string (ba nmA), .string (ba ver), .slice none 0 0, .slice none 0 0, .slice fa fs.length fc, .slice none 0 0] 35) := ⟨_, rfl⟩
 have XW := zh (show Ext w W by rw [hW]; exact (xr w).alloc _);have HB0 := zh (show W.heap[w.heap.size]? = some (.cells #[.string (ba nmA), .string (ba ver), .slice none 0 0, .slice none 0 0, .slice fa fs.length fc, .slice none 0 0] 35 (0, 0)) by rw [hW]; exact heap_alloc_new w _);go_enter Tryz.func35, Tryz.ntmps35
 go_upto_region 2 with fail
 rw [← hW];clear hW;obtain ⟨p0, p1, p2, p3, p4, p5, pf⟩ := cells6 HB0.out
 go_wp2_with fail
 go_loopw [3, 19] (fun v i wr => zB6 W v i wr) (fun _ _ _ => 0)
 case atStart => exact ⟨rfl, rfl, rfl⟩
 case round =>
  obtain ⟨rfl, rfl, rfl⟩ := hrel
  go_wp2_with fail
  go_loopw [4, 39] (fun v i wy => zB6 wr v i wy) (fun _ _ _ => 0)
  case atStart => exact ⟨rfl, rfl, rfl⟩
  case round =>
   obtain ⟨rfl, rfl, rfl⟩ := hrel
   obtain ⟨W, hW⟩ : ∃ W : World, W = wr := ⟨_, rfl⟩
   subst hW
   go_wp2_with fail
   go_loopw [5, 52] (fun v i wr => packsRel W fs v i wr) (fun _ i _ => fs.length - (intOf i).toNat)
   case atStart => exact ⟨0, none, 0, Nat.zero_le _, rfl, rfl, zh (xr _), zh (PartRow.nil _ _)⟩
   case round =>
    obtain ⟨wq, rfl⟩ : ∃ x : World, x = wr := ⟨_, rfl⟩
    obtain ⟨k, a, c, hk, rfl, rfl, XQ, PR⟩ := hrel
    by_cases hlt : k < fs.length
    ·obtain ⟨b', hb', hc0, hc1, hc2⟩ := (HF.out.ext (XW.out.trans XQ.out)).at k hlt;subst hb';have HPk := zh (HP.out _ (List.getElem_mem hlt));have HDk := zh ((HF.out.data _ (List.getElem_mem hlt)).ext (XW.out.trans XQ.out));have HTK := zh (List.take_succ_eq_append_getElem hlt);generalize hf : fs[k] = x at *;clear hf;obtain ⟨f, dv⟩ := x;obtain ⟨da, dc, hdv⟩ := HDk.out.form;simp only at hdv hc0 hc1 hc2;subst hdv;have HBD : Hid (Bytes wq (.slice da f.data.length dc) f.data) := HDk.out.bytes
     obtain ⟨W1, hW1⟩ : ∃ W1, W1 = wq.alloc (.cells #[.string (ba f.path), .bool f.cfg, .slice da f.data.length dc] 30) := ⟨_, rfl⟩
     have X1 := zh (show Ext wq W1 by rw [hW1]; exact (xr wq).alloc _);have BN := zh (show W1.heap[wq.heap.size]? = some (.cells #[.string (ba f.path), .bool f.cfg, .slice da f.data.length dc] 30 (0, 0)) by rw [hW1]; exact heap_alloc_new wq _);have hsz : W.heap.size ≤ W1.heap.size := Nat.le_trans XQ.out.sz X1.out.sz;have HT := zh (fun V => zBw f.path V (by have := HPk.out.1; simp only at this; omega));have HRW : Hid (∀ V, Ext W1 V → Calls Tryz.prog 75 #[.slice da f.data.length dc] V (zAy V (zBk f.data))) := fun V x => raw_calls (HBD.out.ext (X1.out.trans x)) (by have := HPk.out.2; simp only at this; omega)
     have HRR : Hid (∀ V, Ext W1 V → PartRow V W.heap.size (.slice a (3 * k) c) ((fs.take k).flatMap afp)) := fun V x => PR.out.ext (X1.out.trans x)
     have HPL := zh (show ((fs.take k).flatMap afp).length = 3 * k by rw [afp_len, List.length_take, Nat.min_eq_left hk])
     have KS : Hid (∀ V, Ext W1 V → V.cell? ⟨wq.heap.size, 0, none⟩ = some (.string (ba f.path)) ∧ V.cell? ⟨wq.heap.size, 2, none⟩ = some (.slice da f.data.length dc)) := fun V x => ⟨(zA2 (x.get BN.out)).1, (zA2 (x.get BN.out)).2.2.1⟩
     have KS2 : Hid (∀ V V', Ext W1 V → Mut W.heap.size [110] V V' → V'.cell? ⟨wq.heap.size, 0, none⟩ = some (.string (ba f.path)) ∧ V'.cell? ⟨wq.heap.size, 2, none⟩ = some (.slice da f.data.length dc)) := fun V V' x m => ⟨(zA2 (m.get (x.get BN.out) (by simp))).1, (zA2 (m.get (x.get BN.out) (by simp))).2.2.1⟩
     have hcc : ∀ V, Ext W1 V → V.cell? ⟨wq.heap.size, 1, none⟩ = some (.bool f.cfg) := fun V x => (zA2 (x.get BN.out)).2.1
     have hcc1 := hcc W1 (xr _);have HCC := zh hcc1;clear hcc hcc1
     go_upto_region 15 with fail
     rw [← hW1];clear hW1 hc0 hc1 hc2;cases hcf : f.cfg
     all_goals
      rw [hcf] at HCC;have hcc := HCC.out;have HBF := zh (show afp (f, .slice da f.data.length dc) = [zBk f.path, zE9 _, zBk f.data] by rw [afp, zDn, hcf])
      go_upto_region 18 with fail
      clear hcc
      go_region_held3 (fun V => V.cell? ⟨wq.heap.size, 0, none⟩ = some (.string (ba f.path)) ∧ V.cell? ⟨wq.heap.size, 2, none⟩ = some (.slice da f.data.length dc))
       (first
        | exact KS.out _ (xr _)
        | exact KS.out _ (xr _).drew
        | exact KS.out _ X5.out
        | exact KS.out _ X6.out
        | exact KS.out _ X7.out
        | exact KS.out _ (X7.out.alloc _)
        | exact KS2.out _ _ (X7.out.alloc _) M9.out)
       (first
        | (go_at_call 74; refine (HT.out _).mono ?_; rintro e w5 ⟨v5, rfl, f5⟩; (obtain ⟨a5, n5, rfl⟩ := zAj f5.2); have X5 := zh ((xr W1).drew.trans f5.1); have F5 := zh f5.own0; clear f5)
        | (go_at_call 75; refine (HRW.out _ X6.out).mono ?_; rintro e w7 ⟨v7, rfl, f7⟩; (obtain ⟨a7, n7, rfl⟩ := zAj f7.2); have X7 := zh (X6.out.trans f7.1); have PBx : Hid (PB w7 [_, _, _] [_, _, _]) := ⟨f7.1.own Y5.out, f7.1.own F6.out, f7.own0, trivial⟩; clear f7)
        | (go_at_call 36; refine (zD2 _ _).mono ?_; rintro e w6 ⟨v6, rfl, f6⟩; (obtain ⟨a6, n6, rfl⟩ := zAj f6.2); have X6 := zh (X5.out.trans f6.1); have F6 := zh f6.own0; have Y5 := zh (f6.1.own F5.out); clear f6)
        | (refine zCr (by rfl) (.tmp 58) (.tmp 67) (by rfl) W.heap.size (.slice a (3 * k) c) ((fs.take k).flatMap afp) _ _ w7.heap.size 3 (by rfl) (by rfl) ((HRR.out _ X7.out).ext ((xr w7).alloc _)) (heap_alloc_new w7 _) (PBx.out.imp fun u m ho => ((xr w7).alloc _).own ho) (by rw [HPL.out]; simp; omega) (by have := X7.out.sz; simp; omega) ?_; intro v9 w9 r9 g9 m9; (obtain ⟨a9, n9, hv9⟩ := r9.form); (rw [List.length_append, HPL.out] at hv9); simp only [List.length_cons, List.length_nil] at hv9; subst hv9; have R9 := zh r9; have M9 := zh m9; clear r9 g9 m9))
     all_goals
      go_wp2_with fail
      go_roundw
      case rel =>
       refine ⟨k + 1, a9, n9, hlt, rfl, by go_num, zh ((XQ.out.trans (X1.out.trans (X7.out.alloc _))).then_mut M9.out (Nat.le_refl _)), zh ?_⟩;rw [HTK.out, List.flatMap_append];have := R9.out;simpa [HBF.out] using this
      case measure => simp [intOf]; omega
    ·have hkl : k = fs.length := by omega
     have HPR := zh (show PartRow wq W.heap.size (.slice a (3 * k) c) (fs.flatMap afp) by have := PR.out; rw [hkl, List.take_length, ← hkl] at this; exact this);have hln : (fs.flatMap afp).length ≤ 1000000 := by rw [afp_len]; omega
     have HLM := zh (show zCz (fs.flatMap afp) = zCz ((fs.map Prod.fst).flatMap zDn) by rw [afp_map]);clear hkl;have hpa := HP.out
     have KS : Hid (∀ V, Ext wq V → V.cell? ⟨w.heap.size, 0, none⟩ = some (.string (ba nmA)) ∧ V.cell? ⟨w.heap.size, 1, none⟩ = some (.string (ba ver))) := fun V x => ⟨(cells6 ((XQ.out.trans x).get HB0.out)).1, (cells6 ((XQ.out.trans x).get HB0.out)).2.1⟩
     have q5 : wq.cell? ⟨w.heap.size, 5, none⟩ = some (.slice none 0 0) := (cells6 (XQ.out.get HB0.out)).2.2.2.2.2.1
     go_wp2_with fail
     go_loopw [6, 73] (fun v i wy => zB6 wq v i wy) (fun _ _ _ => 0)
     case atStart => exact ⟨rfl, rfl, rfl⟩
     case round =>
      obtain ⟨rfl, rfl, rfl⟩ := hrel
      go_upto_region 25 with fail
      have HL5 : Hid (∀ V, Ext wr V → Calls Tryz.prog 74 #[.string (ba nmA)] V (zAy V (zBk nmA))) := fun V _ => zBw nmA V (by decide)
      have HL6 : Hid (∀ V, Ext wr V → Calls Tryz.prog 74 #[.string (ba ver)] V (zAy V (zBk ver))) := fun V _ => zBw ver V (by omega)
      have HL7 : Hid (∀ V, Ext wr V → Calls Tryz.prog 77 #[.slice none 0 0] V (zAy V (zCz []))) := fun V _ => zDw ((PartRow.nil V 0).rows (by simp)) (by simp)
      have HL8 := HL7;have HL10 := HL7;have HL9 : Hid (∀ V, Ext wr V → Calls Tryz.prog 77 #[.slice a (3 * k) c] V (zAy V (zCz (fs.flatMap afp)))) := fun V x => zDw ((HPR.out.ext x).rows hln) (Nat.le_trans (zNd fs hpa) (by omega))
      rw [HLM.out] at HL9;have HPK : Hid (∀ V v, PartRow V 0 v (zI3 ver (fs.map Prod.fst)) → Calls Tryz.prog 76 #[v] V (zAy V (zK2 ver (fs.map Prod.fst)))) := fun V v hr => zGp _ v V (hr.rows (by simp [zI3])) (by show (zK2 ver (fs.map Prod.fst)).length ≤ _; have := HLN.out; omega)
      go_region_held3 (fun V => V.cell? ⟨w.heap.size, 0, none⟩ = some (.string (ba nmA)) ∧ V.cell? ⟨w.heap.size, 1, none⟩ = some (.string (ba ver)))
       (first
        | exact KS.out _ (xr _)
        | exact KS.out _ (xr _).drew
        | exact KS.out _ X5.out
        | exact KS.out _ X6.out
        | exact KS.out _ X7.out
        | exact KS.out _ X8.out
        | exact KS.out _ X9.out
        | exact KS.out _ X10.out
        | exact KS.out _ (X10.out.alloc _)
        | exact KS.out _ ((X10.out.alloc _).trans X11.out))
       (first
        | (go_at_call 77; refine (HL10.out _ X9.out).mono ?_; rintro e w10 ⟨v10, rfl, f10⟩; (obtain ⟨a10, n10, rfl⟩ := zAj f10.2); have X10 := zh (X9.out.trans f10.1); have F10 := zh f10.own0; have E10 := zh f10.1; clear f10)
        | (go_at_call 77; refine (HL9.out _ X8.out).mono ?_; rintro e w9 ⟨v9, rfl, f9⟩; (obtain ⟨a9, n9, rfl⟩ := zAj f9.2); have X9 := zh (X8.out.trans f9.1); have F9 := zh f9.own0; have E9 := zh f9.1; clear f9)
        | (go_at_call 77; refine (HL8.out _ X7.out).mono ?_; rintro e w8 ⟨v8, rfl, f8⟩; (obtain ⟨a8, n8, rfl⟩ := zAj f8.2); have X8 := zh (X7.out.trans f8.1); have F8 := zh f8.own0; have E8 := zh f8.1; clear f8)
        | (go_at_call 77; refine (HL7.out _ X6.out).mono ?_; rintro e w7 ⟨v7, rfl, f7⟩; (obtain ⟨a7, n7, rfl⟩ := zAj f7.2); have X7 := zh (X6.out.trans f7.1); have F7 := zh f7.own0; have E7 := zh f7.1; clear f7)
        | (go_at_call 74; refine (HL6.out _ X5.out).mono ?_; rintro e w6 ⟨v6, rfl, f6⟩; (obtain ⟨a6, n6, rfl⟩ := zAj f6.2); have X6 := zh (X5.out.trans f6.1); have F6 := zh f6.own0; have E6 := zh f6.1; clear f6)
        | (go_at_call 74; refine (HL5.out _ (xr _).drew).mono ?_; rintro e w5 ⟨v5, rfl, f5⟩; (obtain ⟨a5, n5, rfl⟩ := zAj f5.2); have X5 := zh ((xr wr).drew.trans f5.1); have F5 := zh f5.own0; clear f5)
        | (go_at_call 76; refine (HPK.out _ _ ?hPR).mono ?_; (case hPR => exact ⟨_, World.ownsRow_lit w10 _ 6 (Nat.zero_le _) (by decide) rfl, ((xr w10).alloc _).own (E10.out.own (E9.out.own (E8.out.own (E7.out.own (E6.out.own F5.out))))), ((xr w10).alloc _).own (E10.out.own (E9.out.own (E8.out.own (E7.out.own F6.out)))), ((xr w10).alloc _).own (E10.out.own (E9.out.own (E8.out.own F7.out))), ((xr w10).alloc _).own (E10.out.own (E9.out.own F8.out)), ((xr w10).alloc _).own (E10.out.own F9.out), ((xr w10).alloc _).own F10.out, trivial⟩); rintro e w11 ⟨v11, rfl, f11⟩; (obtain ⟨a11, n11, rfl⟩ := zAj f11.2); have X11 := zh f11.1; have F11 := zh f11; clear f11))
      go_wp2_with fail
      go_ret
      exact ⟨_, rfl, F11.out.after (XW.out.trans (XQ.out.trans (X10.out.alloc _)))⟩
theorem num4_le4 (n : Nat) (h : n < 4294967296) : num4 (UInt8.ofNat n) (UInt8.ofNat (n / 256)) (UInt8.ofNat (n / 65536)) (UInt8.ofNat (n / 16777216)) = n := by
 unfold num4; simp; omega
theorem zOu (n : Nat) (r : List UInt8) (bad : Bool) (most : Int) (h : (n : Int) ≤ most) (h2 : n < 4294967296) : zAh (le4 n ++ r) bad most = (n, r, bad) := by
 simp only [zAh, le4, List.cons_append, List.nil_append, num4_le4 _ h2, if_pos h]
theorem rawRes_le4 (l r : List UInt8) (bad : Bool) (most : Int) (h : (l.length : Int) ≤ most) (h2 : l.length < 4294967296) : zBz (le4 l.length ++ l ++ r) bad most = (l, r, bad) := by
 have e : zAh (le4 l.length ++ l ++ r) bad most = (l.length, l ++ r, bad) := by
  rw [List.append_assoc, zOu _ _ _ _ h h2]
 unfold zBz; rw [e]; simp
theorem zGb (l r : List UInt8) (bad : Bool) (most : Int) (h : (l.length : Int) ≤ most) (h2 : l.length < 4294967296) : zBz (zBk l ++ r) bad most = (l, r, bad) := rawRes_le4 l r bad most h h2
theorem zMt (n : Nat) (r : List UInt8) (bad : Bool) (most : Int) (h : (n : Int) ≤ most) (h2 : n < 4294967296) : zAh (zE9 (n : Int) ++ r) bad most = (n, r, bad) := by
 have e : zE9 (n : Int) = le4 n := by unfold zE9; congr 1; omega
 rw [e]; exact zOu n r bad most h h2
def GotB (w : World) (B : Nat) (v : Value) (l : List UInt8) : Prop := (l = [] ∧ ∃ a c, v = .slice a 0 c ∧ c ≤ 9223372036854775807 ∧ (a = none → c = 0)) ∨ OwnBytes w B v l
section
variable {w w' : World} {g b B : Nat} {l : List UInt8} {bad : Bool} {v : Value}
theorem GotB.dataIs (h : GotB w B v l) : DataIs w v l := h.symm.imp (fun h => zBm h (Nat.zero_le _)) id
theorem GotB.only (h : GotB w B v l) (x : OnlyAt g w w') (hg : g < B) : GotB w' B v l := h.imp id fun h => World.ownsRow.kept h x (by
 cases hv : v.ownBlock with
 | none => exact .inl rfl
 | some k => exact .inr (by intro e; have := (World.ownsRow.lt h k hv).1; cases e; omega))
theorem GotB.ext (h : GotB w B v l) (x : Ext w w') : GotB w' B v l := h.imp id fun h => x.own h
theorem GotB.le (h : GotB w B v l) {B' : Nat} (hB : B' ≤ B) : GotB w B' v l := h.imp id fun h => zBm h hB
theorem GotB.form (h : GotB w B v l) : ∃ a c, v = .slice a l.length c := h.dataIs.form
theorem Got.gotB {w0 : World} (h : Got w0 w v l) : GotB w w0.heap.size v l := by
 rcases h with ⟨rfl, a, rfl⟩ | ⟨_, _, _, _, h⟩
 ·exact .inl ⟨rfl, a, 0, rfl, by omega, fun _ => rfl⟩
 ·exact .inr h
theorem ReaderAt.off (h : ReaderAt w g l bad) (x : OnlyAt b w w') (hne : g ≠ b) (hb : ∀ j n, w.cell? ⟨b, j, none⟩ ≠ some (.int .u8 n)) : ReaderAt w' g l bad := by
 obtain ⟨v, t, hh, hbt⟩ := h;refine ⟨v, t, (x.block g (Array.getElem?_eq_some_iff.1 hh).1 (by simpa using hne)).trans hh, ?_⟩;obtain ⟨a, cap, rfl, h1, h2, h3, hc⟩ := hbt;refine ⟨a, cap, rfl, h1, h2, h3, fun i hi => ?_⟩;obtain ⟨b', o, rfl, hcell⟩ := hc i hi;refine ⟨b', o, rfl, x.cell hcell ?_⟩;have : b' ≠ b := by rintro rfl; exact hb _ _ hcell
 simpa using this
theorem ORow.only {R : RT} {base : Nat} {rs : List (List Value)} (h : ORow R w base v rs) (x : OnlyAt g w w') (hg : g < base) : ORow R w' base v rs := ⟨World.ownsRow.kept h.own x (by
 cases hv : v.ownBlock with
 | none => exact .inl rfl
 | some k => exact .inr (by intro e; have := (World.ownsRow.lt h.own k hv).1; cases e; omega)), h.len, h.one⟩
theorem zN9 {V : World} {s : ByteArray} {c : Bool} {a : Option Addr} {n k : Nat} {t : TypeId} {fz : Nat × Nat} (h : V.heap[b]? = some (.cells #[.string s, .bool c, .slice a n k] t fz)) : ∀ j n, V.cell? ⟨b, j, none⟩ ≠ some (.int .u8 n) := by
 intro j n e;rw [zAb h] at e
 match j with
 | 0 => simp at e
 | 1 => simp at e
 | 2 => simp at e
 | j + 3 => simp at e
end
def onefPost (w : World) (g : Nat) (f : Af) (r : List UInt8) (e : Ending) (w' : World) : Prop :=
 ∃ a c, e = .returned (.agg #[.string (ba f.path), .bool f.cfg, .slice a f.data.length c]) ∧ GotB w' w.heap.size (.slice a f.data.length c) f.data ∧ OnlyAt g w w' ∧ ReaderAt w' g r false
theorem zOc : Tryz.f88.results = #[.cell 2 30] := by kernel_rfl
theorem zLb (f : Af) : (zDn f).flatten = zBk f.path ++ (zE9 (if f.cfg then 1 else 0) ++ zBk f.data) := by simp [zDn]
theorem onef_done {w w4 : World} {g : Nat} {f : Af} {r : List UInt8} {a : Option Addr} {c : Nat} (hgw : g < w.heap.size) (hgot : GotB w4 (w.heap.size + 1) (.slice a f.data.length c) f.data) (o : OnlyAt g (w.alloc (.cells #[.string ⟨#[]⟩, .bool false, .slice none 0 0] 30)) w4) (hr : ReaderAt w4 g r false) (u0 u1 u2 : Value)
  (hb : w4.heap[w.heap.size]? = some (.cells #[.string ⟨#[]⟩, .bool false, .slice none 0 0] 30 (0, 0))) :
  onefPost w g f r (.returned (.agg #[.string (ba f.path), .bool f.cfg, .slice a f.data.length c])) (((w4.setCell ⟨w.heap.size, 0, none⟩ u0).setCell ⟨w.heap.size, 1, none⟩ u1).setCell ⟨w.heap.size, 2, none⟩ u2) := by
 have o1 : OnlyAt w.heap.size w4 (((w4.setCell ⟨w.heap.size, 0, none⟩ u0).setCell ⟨w.heap.size, 1, none⟩ u1).setCell ⟨w.heap.size, 2, none⟩ u2) := (((OnlyAt.refl _ _).set _ _).set _ _).set _ _;refine ⟨a, c, rfl, (hgot.only o1 (by omega)).le (by omega), ?_, hr.off o1 (by omega) (zN9 hb)⟩;have x := (xr w).alloc (.cells #[.string ⟨#[]⟩, .bool false, .slice none 0 0] 30);refine ⟨o1.os.trans (o.os.trans x.os), o1.tape.trans (o.tape.trans x.tape), o1.output.trans (o.output.trans x.output), Nat.le_trans x.size (Nat.le_trans o.size o1.size), fun k hk hne => ?_⟩;have hk2 := Nat.lt_of_lt_of_le hk x.size;exact (o1.block k (Nat.lt_of_lt_of_le hk2 o.size) (by simp; omega)).trans ((o.block k hk2 hne).trans (x.block k hk))
set_option maxHeartbeats 1000000 in
theorem OneFile_any (w : World) {g : Nat} {f : Af} {r : List UInt8} (h : ReaderAt w g ((zDn f).flatten ++ r) false) (hp : f.path.length ≤ 40) (hd : f.data.length ≤ 512) (hl : r.length ≤ 16000000) :
  Calls Tryz.prog 88 #[.pointer (some ⟨g, 0, none⟩)] w (onefPost w g f r) := by
 have hgw := h.lt
 obtain ⟨W, hW⟩ : ∃ W, W = w.alloc (.cells #[.string ⟨#[]⟩, .bool false, .slice none 0 0] 30) := ⟨_, rfl⟩
 have X0 := zh (show Ext w W by rw [hW]; exact (xr w).alloc _);have hsz : W.heap.size = w.heap.size + 1 := by rw [hW]; simp
 have HB := zh (show W.heap[w.heap.size]? = some (.cells #[.string ⟨#[]⟩, .bool false, .slice none 0 0] 30 (0, 0)) by rw [hW]; exact heap_alloc_new w _)
 have hcf : (zE9 (if f.cfg = true then 1 else 0) : List UInt8) = zE9 ((if f.cfg = true then 1 else 0 : Nat) : Int) := by cases f.cfg <;> rfl
 have hfl : ((zDn f).flatten ++ r) = zBk f.path ++ (zE9 ((if f.cfg = true then 1 else 0 : Nat) : Int) ++ (zBk f.data ++ r)) := by rw [zLb, hcf]; simp
 have l1 : (zBk f.data ++ r).length ≤ 16000520 := by simp [zBk, zBa]; omega
 have l2 : (zE9 ((if f.cfg = true then 1 else 0 : Nat) : Int) ++ (zBk f.data ++ r)).length ≤ 16000530 := by
  rw [List.length_append]; simp only [zE9, zBa]; omega
 have l3 : (zBk f.path ++ (zE9 ((if f.cfg = true then 1 else 0 : Nat) : Int) ++ (zBk f.data ++ r))).length ≤ 16777216 := by
  rw [List.length_append]; simp only [zBk, List.length_append, zBa]; simp only [zBk, List.length_append, zBa] at l2; omega
 rw [hfl] at h
 have HT := zh (show Calls Tryz.prog 81 #[.pointer (some ⟨g, 0, none⟩), .int .i64 40] W (fun e w' => e = .returned (.string (ba f.path)) ∧ OnlyAt g W w' ∧ ReaderAt w' g (zE9 ((if f.cfg = true then 1 else 0 : Nat) : Int) ++ (zBk f.data ++ r)) false) from by
  have := TextR_any g _ false 40 W (h.ext X0.out) (by omega) l3;rw [zGb _ _ _ _ (by omega) (by omega)] at this
  exact this)
 have HN : Hid (∀ W2, ReaderAt W2 g (zE9 ((if f.cfg = true then 1 else 0 : Nat) : Int) ++ (zBk f.data ++ r)) false → Calls Tryz.prog 89 #[.pointer (some ⟨g, 0, none⟩)] W2 (fun e w' => e = .returned (.bool f.cfg) ∧ OnlyAt g W2 w' ∧ ReaderAt w' g (zBk f.data ++ r) false)) := fun W2 hr => by
  have := Truth_any g _ false W2 hr;rw [zMt _ _ _ _ (by split <;> omega) (by split <;> omega)] at this
  refine this.mono fun e w' ⟨h1, h2⟩ => ⟨?_, h2⟩
  rw [h1]
  cases f.cfg <;> rfl
 have HR : Hid (∀ W2, ReaderAt W2 g (zBk f.data ++ r) false → Calls Tryz.prog 90 #[.pointer (some ⟨g, 0, none⟩), .int .i64 512] W2 (fun e w' => ∃ v, e = .returned v ∧ OnlyAt g W2 w' ∧ Got W2 w' v f.data ∧ ReaderAt w' g r false)) := fun W2 hr => by
  have := zP6 g _ false 512 W2 hr (by omega) (by omega);unfold zPl at this;rw [zGb _ _ _ _ (by omega) (by omega)] at this;exact this
 clear h hfl hcf l1 l2 l3 hp hd hl;have HSZ := zh hsz;clear hsz;go_enter Tryz.func88, Tryz.ntmps88
 go_wp2_with (first
  | (rw [← hW]; go_at_call 81; refine HT.out.mono ?_; rintro e w2 ⟨rfl, o2, r2⟩; have O2 := zh o2; have R2 := zh r2; clear o2 r2)
  | (go_at_call 89; refine (HN.out _ R2.out).mono ?_; rintro e w3 ⟨rfl, o3, r3⟩; have O3 := zh (O2.out.trans o3); have R3 := zh r3; clear o3 r3)
  | (go_at_call 90; refine (HR.out _ R3.out).mono ?_; rintro e w4 ⟨v, rfl, o4, g4, r4⟩; have O4 := zh (O3.out.trans o4); (have gb := g4.gotB); (obtain ⟨a4, c4, rfl⟩ := gb.form); have G4 := zh (gb.le (by have := O3.out.size; have := HSZ.out; show w.heap.size + 1 ≤ _; omega)); have R4 := zh r4; (have hb4 := (O4.out.block w.heap.size (by have := HSZ.out; omega) (by simp; omega)).trans HB.out); (obtain ⟨q0, q1, q2, qf⟩ := zA2 hb4); have HB4 := zh hb4; clear o4 g4 r4 gb hb4))
 refine bodyPost_ret (v := .agg #[.string (ba f.path), .bool f.cfg, .slice a4 f.data.length c4]) (by simp [results, zOc, q0, q1, q2, go_sem, World.cell?_setCell_far]) rfl ?_;exact onef_done hgw G4.out (hW ▸ O4.out) R4.out _ _ _ HB4.out
end
end Go.Proofs.YtgnjjfdfoibdiaaGreatDoor
