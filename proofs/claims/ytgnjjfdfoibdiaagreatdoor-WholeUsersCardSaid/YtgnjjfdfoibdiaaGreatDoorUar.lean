/- A part of the proof of WholeUsers. -/
import Derived.Test.YtgnjjfdfoibdiaaGreatDoorUaq
set_option linter.all false
namespace Go.Proofs.YtgnjjfdfoibdiaaGreatDoor
section
open Go.RowKit Go.Maps Go.Sort Go.Lib
set_option maxRecDepth 100000
theorem Each83_nil (w : World) {g : Nat} (h : ReaderAt w g [] false) : Calls Tryz.prog 83 #[.pointer (some ⟨g, 0, none⟩), .func (.func 84) #[] #[]] w fun e w' => e = .returned (.slice none 0 0) ∧ w = w' := by
 have HM := zh (zL9 g [] false w h);clear h;go_enter Tryz.func83, Tryz.ntmps83
 go_wp2_with fail
 go_loopw [5] (fun v wr => v = .slice none 0 0 ∧ wr = w) (fun _ _ => 0)
 case atStart => exact ⟨rfl, rfl⟩
 case round =>
  obtain ⟨rfl, rfl⟩ := hrel
  go_wp2_with (go_at_call 149; refine HM.out.mono ?_; rintro e w2 ⟨rfl, rfl⟩)
  go_ret
  exact ⟨rfl, rfl⟩
theorem zPg (w : World) {g : Nat} (h : ReaderAt w g [] false) (f : Value) : Calls Tryz.prog 85 #[.pointer (some ⟨g, 0, none⟩), f] w fun e w' => e = .returned (.slice none 0 0) ∧ w = w' := by
 have HM := zh (zL9 g [] false w h);clear h;go_enter Tryz.func85, Tryz.ntmps85
 go_wp2_with fail
 go_loopw [5] (fun v wr => v = .slice none 0 0 ∧ wr = w) (fun _ _ => 0)
 case atStart => exact ⟨rfl, rfl⟩
 case round =>
  obtain ⟨rfl, rfl⟩ := hrel
  go_wp2_with (go_at_call 149; refine HM.out.mono ?_; rintro e w2 ⟨rfl, rfl⟩)
  go_ret
  exact ⟨rfl, rfl⟩
theorem GotB.mut {w w' : World} {B B' : Nat} {S : List Nat} {v : Value} {l : List UInt8} (h : GotB w B v l) (x : Mut B' S w w') (hs : 7 ∉ S := by decide) : GotB w' B v l := h.imp id fun h => x.own h hs
theorem ReaderAt.nilKeep {w w' : World} {g : Nat} {bad : Bool} {row : Option Nat} (h : ReaderAt w g [] bad) (x : w.grownBy w' row) (hne : row ≠ some g) : ReaderAt w' g [] bad := by
 obtain ⟨v, t, hh, hb⟩ := h;refine ⟨v, t, (x.block g (Array.getElem?_eq_some_iff.1 hh).1 (fun e => hne e.symm)).trans hh, ?_⟩;obtain ⟨a, cap, rfl, h1, h2, h3, -⟩ := hb;exact ⟨a, cap, rfl, h1, h2, h3, fun i hi => absurd hi (by simp)⟩
def lenOf : Value → Nat
 | .slice _ n _ => n
 | _ => 0
structure GotFs (w : World) (B : Nat) (fv : Value) (xs : List (Af × Value)) : Prop where
 row : ORow rFile w B fv (xs.map zCb)
 data : ∀ x ∈ xs, GotB w B x.2 x.1.data
theorem GotFs.only {w w' : World} {g B : Nat} {fv : Value} {xs : List (Af × Value)} (h : GotFs w B fv xs) (x : OnlyAt g w w') (hg : g < B) : GotFs w' B fv xs := ⟨h.row.only x hg, fun y hy => (h.data y hy).only x hg⟩
theorem GotFs.arc {w : World} {B : Nat} {fv : Value} {xs : List (Af × Value)} (h : GotFs w B fv xs) (hl : xs.length ≤ 1000) : ArcFs w fv xs := ⟨h.row.le (Nat.zero_le _), fun y hy => (h.data y hy).dataIs, hl⟩
def zFx (fs : List Af) : List UInt8 := (fs.flatMap zDn).flatten
theorem filesB_cons (f : Af) (fs : List Af) : zFx (f :: fs) = (zDn f).flatten ++ zFx fs := by simp [zFx]
def eachRel (w : World) (g : Nat) (fs : List Af) (v : Value) (wr : World) : Prop :=
 ∃ (k : Nat) (xs : List (Af × Value)) (a : Option Addr) (c : Nat), k ≤ fs.length ∧ v = .slice a k c ∧ (k = 0 → a = none ∧ c = 0) ∧ xs.map Prod.fst = fs.take k ∧ Hid (GotFs wr w.heap.size v xs) ∧ Hid (ReaderAt wr g (zFx (fs.drop k)) false) ∧ Hid (OnlyAt g w wr)
def eachPost (w : World) (g : Nat) (fs : List Af) (e : Ending) (w' : World) : Prop :=
 ∃ v xs, e = .returned v ∧ xs.map Prod.fst = fs ∧ GotFs w' w.heap.size v xs ∧ ReaderAt w' g [] false ∧ OnlyAt g w w'
set_option maxHeartbeats 1000000 in
theorem zQa (w : World) {g : Nat} {fs : List Af} (h : ReaderAt w g (zFx fs) false) (hp : ∀ f ∈ fs, f.path.length ≤ 40 ∧ f.data.length ≤ 512) (hl : fs.length ≤ 2) (hfl : (zFx fs).length ≤ 16000000) :
  Calls Tryz.prog 87 #[.pointer (some ⟨g, 0, none⟩), .func (.func 88) #[] #[]] w (eachPost w g fs) := by
 have hgw := h.lt;have H := zh h;have HP := zh hp;have HFL := zh hfl;clear h hp hfl;go_enter Tryz.func87, Tryz.ntmps87
 go_wp2_with fail
 go_loopw [5] (fun v wr => eachRel w g fs v wr) (fun v _ => fs.length - lenOf v)
 case atStart => exact ⟨0, [], none, 0, Nat.zero_le _, rfl, (fun _ => ⟨rfl, rfl⟩), rfl, zh ⟨ORow.nil _ _ _, fun y hy => by cases hy⟩, zh (by rw [List.drop_zero]; exact H.out), zh (OnlyAt.refl _ _)⟩
 case round =>
  obtain ⟨wq, rfl⟩ : ∃ x : World, x = wr := ⟨_, rfl⟩
  obtain ⟨k, xs, a, c, hk, rfl, hk0, hxs, HG, HR, HO⟩ := hrel;have HK0 := zh hk0;clear hk0;have HXS := zh hxs;have hxl : xs.length = k := by have := congrArg List.length hxs; simpa [Nat.min_eq_left hk] using this
  have HXL := zh hxl;have hsz := HO.out.size;clear hxs hxl
  by_cases hlt : k < fs.length
  ·have HDR := zh (List.drop_eq_getElem_cons hlt);have HTK := zh (List.take_succ_eq_append_getElem hlt);have HPk := zh (HP.out _ (List.getElem_mem hlt));have hr := HR.out;rw [HDR.out, filesB_cons] at hr
   have hne : ((zDn fs[k]).flatten ++ zFx (fs.drop (k + 1))).isEmpty = false := by
    rw [zLb]; simp [zBk, le4]
   have HM : Hid (Calls Tryz.prog 149 #[.pointer (some ⟨g, 0, none⟩)] wq (fun e w' => e = .returned (.bool true) ∧ wq = w')) := (zL9 g _ false wq hr).mono fun e w' ⟨h1, h2⟩ => ⟨by rw [h1, hne]; rfl, h2⟩
   have hdl : (zFx (fs.drop (k + 1))).length ≤ 16000000 := by
    refine Nat.le_trans ?_ HFL.out;unfold zFx
    conv => rhs; rw [← List.take_append_drop (k + 1) fs]
    rw [List.flatMap_append, List.flatten_append, List.length_append];omega
   have HF := zh (OneFile_any wq hr HPk.out.1 HPk.out.2 hdl);clear hr hne hdl;generalize hf : fs[k] = f at *;clear hf
   go_wp2_with (first
    | (go_at_call 149; refine HM.out.mono ?_; rintro e w2 ⟨rfl, rfl⟩)
    | (go_at_call 88; refine HF.out.mono ?_; rintro e w3 ⟨a3, c3, rfl, g3, o3, r3⟩; have G3 := zh g3; have O3 := zh o3; have R3 := zh r3; have HG3 := zh (HG.out.only o3 hgw); have hs3 := o3.size; clear g3 o3 r3)
    | (at_builtin; refine zAr (w3.alloc (.cells #[.string (ba f.path), .bool f.cfg, .slice a3 f.data.length c3] 30)) (by rfl) (.tmp 8) (.tmp 12) rFile (by rfl) w.heap.size (.slice a k c) (.slice (some ⟨w3.heap.size, 0, none⟩) 1 1) (xs.map zCb) [zCb (f, .slice a3 f.data.length c3)] (by rfl) (by rfl) (HG3.out.row.ext ((xr w3).alloc _)) (zBi (heap_alloc_new w3 _)) (by simp [zCb, rFile]) (by simp [zCb, Value.oneCell']) (by rw [List.length_map, HXL.out]; simp; omega) ?hB ?hK; (case hB => simp; omega); intro v8 w8 r8 g8 m8 n8; have R8 := zh r8; have M8 := zh m8; have G8 := zh g8; (obtain ⟨a8, c8, hv8⟩ := r8.form); (rw [List.length_append, List.length_map, HXL.out] at hv8); simp only [List.length_singleton] at hv8; subst hv8; clear r8 g8 m8 n8))
   go_roundw
   case rel =>
    have x4 : Ext w3 (w3.alloc (.cells #[.string (ba f.path), .bool f.cfg, .slice a3 f.data.length c3] 30)) := (xr w3).alloc _;refine ⟨k + 1, xs ++ [(f, .slice a3 f.data.length c3)], a8, c8, hlt, rfl, (fun h => by omega), ?_, zh ⟨?_, ?_⟩, zh ?_, zh ?_⟩
    ·rw [List.map_append, HXS.out, HTK.out]; rfl
    ·rw [List.map_append]; exact R8.out
    ·intro y hy
     rcases List.mem_append.1 hy with hy | hy
     ·exact ((HG3.out.data y hy).ext x4).mut M8.out
     ·rw [List.mem_singleton] at hy;subst hy;exact ((G3.out.ext x4).mut M8.out).le HO.out.size
    ·have r4 := R3.out.ext x4
     by_cases hk1 : k = 0
     ·obtain ⟨rfl, rfl⟩ := HK0.out hk1;exact r4.ext (grown_ext G8.out (fun k hk => by cases hk))
     ·have he : fs.drop (k + 1) = [] := List.drop_eq_nil_of_le (by omega);rw [he] at r4 ⊢
      exact r4.nilKeep G8.out (fun e => by
       have := (World.ownsRow.lt HG3.out.row.own g e).1
       omega)
    ·have o4 := HO.out.trans (O3.out.ext x4)
     exact ⟨G8.out.os.trans o4.os, G8.out.tape.trans o4.tape, G8.out.output.trans o4.output, Nat.le_trans o4.size G8.out.size, fun i hi hne => (G8.out.block i (Nat.lt_of_lt_of_le hi o4.size) (fun e => by
      have := (World.ownsRow.lt HG3.out.row.own i e.symm).1
      omega)).trans (o4.block i hi hne)⟩
   case measure => simp [lenOf]; omega
  ·have hkl : k = fs.length := by omega
   have HR' := zh (show ReaderAt wq g [] false by have := HR.out; rw [hkl, List.drop_length] at this; exact this);have HGE := zh (show GotFs wq w.heap.size (.slice a fs.length c) xs by rw [← hkl]; exact HG.out);have HXE := zh (show xs.map Prod.fst = fs by have := HXS.out; rw [hkl, List.take_length] at this; exact this);have HM := zh (zL9 g [] false wq HR'.out)
   go_wp2_with (go_at_call 149; refine HM.out.mono ?_; rintro e w2 ⟨rfl, rfl⟩)
   go_ret
   exact ⟨.slice a fs.length c, xs, rfl, HXE.out, HGE.out, HR'.out, HO.out⟩
def arcB (ver : Str) (fs : List Af) : List UInt8 := zK2 ver fs ++ zE9 ((zA3 (zK2 ver fs) : Nat) : Int)
def writePost (w : World) (l : List UInt8) (e : Ending) (w' : World) : Prop := ∃ v, e = .returned (.tuple #[v, .int .i64 0]) ∧ OwnBytes w' w.heap.size v l ∧ Ext w w'
theorem crcOf_lt' (l : List UInt8) : zA3 l < 4294967296 := zH5 l
theorem zIt : Tryz.prog.underlying 108 = some (.slice 5) := by kernel_rfl
set_option maxHeartbeats 1000000 in
theorem AWrite_any (w : World) {d : Nat} {fv : Value} {fs : List (Af × Value)} (hf : ArcW w fv fs) (h : PkgOk d (fs.map Prod.fst)) {mx : Int} (hmx : w.cell? ⟨0, 0, none⟩ = some (.int .i64 mx)) :
  Calls Tryz.prog 15 #[.agg (zA5 (dig d) fv)] w (writePost w (arcB (dig d) (fs.map Prod.fst))) := by
 have hp : ∀ x ∈ fs, x.1.path.length ≤ 1000 ∧ x.1.data.length ≤ 1000 := fun x hx => by
  have h1 := h.files x.1 (List.mem_map.2 ⟨x, hx, rfl⟩);have := h1.path.len;have := h1.data;omega
 have hv : (dig d).length ≤ 1000 := by simp [dig]
 have hln := zPm (dig d) fs hp hf.len hv
 obtain ⟨W, hW⟩ : ∃ W, W = w.alloc (.cells (zA5 (dig d) fv) 35) := ⟨_, rfl⟩
 have XW := zh (show Ext w W by rw [hW]; exact (xr w).alloc _);have hb0 : W.heap[w.heap.size]? = some (.cells (zA5 (dig d) fv) 35 (0, 0)) := by rw [hW]; exact heap_alloc_new w _
 have HR := zh (zKt W (hf.ext XW.out) h (XW.out.cell hmx));have HP : Hid (∀ V, Ext W V → _) := fun V x => pack_any (hf.ext (XW.out.trans x)) hp hv
 obtain ⟨fa, fc, rfl⟩ := hf.form;have KB : Hid (∀ V, Ext W V → _) := fun V x => cells6 (show V.heap[w.heap.size]? = some (.cells #[.string (ba nmA), .string (ba (dig d)), .slice none 0 0, .slice none 0 0, .slice fa fs.length fc, .slice none 0 0] 35 (0, 0)) from x.get hb0)
 obtain ⟨p0, p1, p2, p3, p4, p5, pf⟩ := KB.out _ (xr W);have HLN := zh hln;clear hf h hmx hp hv hb0 hln;simp only [zA5] at *;generalize hpk : zK2 (dig d) (fs.map Prod.fst) = pk at *;have HPK := zh hpk;clear hpk;have hc := zH5 pk;have hwr : IntKind.i64.wrap ((zA3 pk : Nat) : Int) = ((zA3 pk : Nat) : Int) := IntWalk.i64_in _ (by omega)
 have HC : Hid (∀ V u g, Bytes V u pk → V.heap[g]? = some (.cells #[u] 23 (0, 0)) → Calls Tryz.prog 37 #[.slice (some ⟨g, 0, none⟩) 1 1] V (fun e w' => e = .returned (.int .u32 (zA3 pk : Nat)) ∧ V = w')) := fun V u g hu hb => by
  have := zIr (RowsN.one hu (xr V) hb) (by omega);simpa using this
 clear hc;generalize hcv : zA3 pk = cv at *;have HCV := zh hcv;clear hcv;go_enter Tryz.func15, Tryz.ntmps15
 go_wp2_with (first
  | (rw [← hW]; go_at_call 34; refine HR.out.mono ?_; rintro e w2 ⟨rfl, x2⟩; have X2 := zh x2; clear p0 p1 p2 p3 p4 p5 pf; (obtain ⟨p0, p1, p2, p3, p4, p5, pf⟩ := KB.out _ x2); clear x2)
  | (go_at_call 35; refine (HP.out _ X2.out).mono ?_; rintro e w3 ⟨v3, rfl, f3⟩; (obtain ⟨a3, n3, rfl⟩ := zAj f3.2); have X3 := zh f3.1; have O3 := zh f3.2; have HC3 := zh (HC.out (w3.alloc (.cells #[.slice a3 pk.length n3] 23)) (.slice a3 pk.length n3) w3.heap.size (f3.2.bytes.ext ((xr w3).alloc _)) (heap_alloc_new w3 _)); clear f3)
  | (go_at_call 37; refine HC3.out.mono ?_; rintro e w4 ⟨rfl, rfl⟩)
  | (go_at_call 36; refine (zD2 _ _).mono ?_; rintro e w5 ⟨v5, rfl, f5⟩; (obtain ⟨a5, n5, rfl⟩ := zAj f5.2); have X5 := zh f5.1; have O5 := zh f5.own0; clear f5)
  | (at_builtin; refine zEd w5 (by rfl) (.tmp 10) (.tmp 15) 23 108 5 (by rfl) zBg zIt w2.heap.size (.slice a3 pk.length n3) (.slice a5 (zE9 (cv : Int)).length n5) (by rfl) (by rfl) pk (zE9 (cv : Int)) (X5.out.own (((xr w3).alloc _).own O3.out)) O5.out.bytes (by have := HLN.out; simp only [zE9, zBa]; omega) ?hB ?hK; (case hB => have := X3.out.sz; have := X5.out.sz; simp at this; omega); intro v6 w6 o6 g6 n6; have O6 := zh o6; have X6 := zh (((X3.out.trans ((xr w3).alloc _)).trans X5.out).grow g6 (fun k hk => (World.ownsRow.lt O3.out k hk).1)); clear o6 g6 n6))
 go_ret2
 refine ⟨_, rfl, ?_, (XW.out.trans X2.out).trans X6.out⟩;unfold arcB;rw [HPK.out, HCV.out];exact zBm O6.out (XW.out.trans X2.out).sz
theorem Bytes.head4 {w : World} {v : Value} {l m : List UInt8} (h : Bytes w v (l ++ m)) (hm : m ≠ []) :
  ∃ b o c, v = .slice (some ⟨b, o, none⟩) (l.length + m.length) c ∧ l.length + m.length ≤ c ∧ c ≤ 9223372036854775807 ∧ Bytes w (.slice (some ⟨b, o, none⟩) l.length c) l ∧ Bytes w (.slice (some ⟨b, o + l.length, none⟩) m.length (c - l.length)) m := by
 have hpos : 0 < m.length := List.length_pos_iff.2 hm;obtain ⟨a, c, rfl, h1, h2, h3, hc⟩ := h;have h4 := hc 0 (by simp; omega);obtain ⟨b, o, rfl, -⟩ := h4;rw [List.length_append] at h1;refine ⟨b, o, c, by rw [List.length_append], h1, by omega, ⟨_, _, rfl, by omega, h2, (fun e => by cases e), fun i hi => ?_⟩, ⟨_, _, rfl, by omega, by omega, (fun e => by cases e), fun i hi => ?_⟩⟩
 ·obtain ⟨b', o', e, hx⟩ := hc i (by simp; omega);cases e;refine ⟨b, o, rfl, ?_⟩;rw [List.getElem_append_left hi] at hx;exact hx
 ·obtain ⟨b', o', e, hx⟩ := hc (l.length + i) (by simp; omega);cases e;refine ⟨b, o + l.length, rfl, ?_⟩;rw [List.getElem_append_right (by omega)] at hx;simp only [Nat.add_sub_cancel_left] at hx;rw [Nat.add_assoc];exact hx
def areadPost (w : World) (d : Nat) (fs : List Af) (e : Ending) (w' : World) : Prop :=
 ∃ fv xs, e = .returned (.tuple #[.agg (zA5 (dig d) fv), .int .i64 0]) ∧ xs.map Prod.fst = fs ∧ ArcFs w' fv xs ∧ Ext w w'
theorem ne_numB (n : Int) : zE9 n ≠ [] := by simp [zE9, le4]
def noB (V : World) (b : Nat) : Prop := ∀ j n, V.cell? ⟨b, j, none⟩ ≠ some (.int .u8 n)
theorem noB6 {V : World} {b : Nat} {s0 s1 : ByteArray} {a2 a3 a4 a5 : Option Addr} {n2 n3 n4 n5 c2 c3 c4 c5 : Nat} {t : TypeId} {fz : Nat × Nat} (h : V.heap[b]? = some (.cells #[.string s0, .string s1, .slice a2 n2 c2, .slice a3 n3 c3, .slice a4 n4 c4, .slice a5 n5 c5] t fz)) : noB V b := by
 intro j n e;rw [zAb h] at e
 match j with
 | 0 => simp at e
 | 1 => simp at e
 | 2 => simp at e
 | 3 => simp at e
 | 4 => simp at e
 | 5 => simp at e
 | j + 6 => simp at e
theorem TextB {V : World} {g : Nat} {x r : List UInt8} {most : Int} (h : ReaderAt V g (zBk x ++ r) false) (hx : (x.length : Int) ≤ most) (hm : most ≤ 1000) (hr : r.length ≤ 16000000) :
  Calls Tryz.prog 81 #[.pointer (some ⟨g, 0, none⟩), .int .i64 most] V fun e w' => e = .returned (.string (ba x)) ∧ OnlyAt g V w' ∧ ReaderAt w' g r false := by
 have := TextR_any g _ false most V h (by omega) (by simp [zBk, zBa]; omega);rw [zGb _ _ _ _ hx (by omega)] at this;exact this
def rlistPost (V : World) (g : Nat) (x r : List UInt8) (e : Ending) (w' : World) : Prop :=
 ∃ g', e = .returned (.pointer (some ⟨g', 0, none⟩)) ∧ V.heap.size ≤ g' ∧ OnlyAt g V w' ∧ ReaderAt w' g r false ∧ ReaderAt w' g' x false
theorem ListB {V : World} {g : Nat} {x r : List UInt8} (h : ReaderAt V g (zBk x ++ r) false) (hx : x.length ≤ 3000000) (hr : r.length ≤ 4000000) :
  Calls Tryz.prog 82 #[.pointer (some ⟨g, 0, none⟩)] V (rlistPost V g x r) := by
 have := ListR_any g _ false V h (by simp [zBk, zBa]; omega);rw [zGb _ _ _ _ (by omega) (by omega)] at this;exact this
theorem pkgB_form (ver : Str) (fs : List Af) : zK2 ver fs = zBk nmA ++ (zBk ver ++ (zBk [] ++ (zBk [] ++ (zBk (zFx fs) ++ zBk [])))) := by
 simp [zK2, zI3, zCz, zBk, zFx]
theorem zHv {V : World} {g : Nat} (h : ReaderAt V g [] false) : Calls Tryz.prog 92 #[.pointer (some ⟨g, 0, none⟩)] V fun e w' => e = .returned (.bool true) ∧ V = w' := Done_any g [] false V h
theorem zOf : Tryz.f38.results = #[.cell 2 35, .tmp 3] := by kernel_rfl
set_option maxHeartbeats 4000000 in
theorem ARead_any (w : World) {d : Nat} {fs : List Af} (h : PkgOk d fs) (hfs : fs.length ≤ 2) {v : Value} (hb : Bytes w v (arcB (dig d) fs)) {mx : Int} (hmx : w.cell? ⟨0, 0, none⟩ = some (.int .i64 mx)) :
  Calls Tryz.prog 38 #[v] w (areadPost w d fs) := by
 have hpl : (zK2 (dig d) fs).length ≤ 3000000 := by
  have := zPm (dig d) (fs.map fun f => (f, Value.slice none 0 0)) (fun x hx => by
   obtain ⟨f, hf, rfl⟩ := List.mem_map.1 hx;have h1 := h.files f hf;have := h1.path.len;have := h1.data;simp only
   omega) (by simp; omega) (by simp [dig])
  have e : (fs.map fun f => (f, Value.slice none 0 0)).map Prod.fst = fs := by simp [List.map_map, Function.comp_def]
  rw [e] at this;exact this
 have hcl := zH5 (zK2 (dig d) fs);unfold arcB at hb;obtain ⟨bb, o, c, rfl, hlc, hcm, hb1, hb2⟩ := hb.head4 (ne_numB _);have hnl : (zE9 ((zA3 (zK2 (dig d) fs) : Nat) : Int)).length = 4 := by simp [zE9, zBa]
 rw [hnl] at hlc hb2 ⊢
 have hcr : ∀ V u g, Bytes V u (zK2 (dig d) fs) → V.heap[g]? = some (.cells #[u] 23 (0, 0)) → Calls Tryz.prog 37 #[.slice (some ⟨g, 0, none⟩) 1 1] V (fun e w' => e = .returned (.int .u32 (zA3 (zK2 (dig d) fs) : Nat)) ∧ V = w') := fun V u g hu hb => by
  have := zIr (RowsN.one hu (xr V) hb) (by omega);simpa using this
 have HH := zh h;have HMX := zh hmx;have B1 := zh hb1;have HRD : Hid (∀ V, Ext w V → Calls Tryz.prog 79 #[.slice (some ⟨bb, o + (zK2 (dig d) fs).length, none⟩) 4 (c - (zK2 (dig d) fs).length)] V (fun e w' => ∃ g, e = .returned (.pointer (some ⟨g, 0, none⟩)) ∧ V.heap.size ≤ g ∧ Ext V w' ∧ ReaderAt w' g (zE9 ((zA3 (zK2 (dig d) fs) : Nat) : Int)) false)) := fun V x => zJv _ _ V (hb2.ext x) (by rw [hnl]; omega)
 have HNM : Hid (∀ V g, ReaderAt V g (zE9 ((zA3 (zK2 (dig d) fs) : Nat) : Int)) false → Calls Tryz.prog 80 #[.pointer (some ⟨g, 0, none⟩), .int .i64 4294967295] V (fun e w' => e = .returned (.int .i64 ((zA3 (zK2 (dig d) fs) : Nat) : Int)) ∧ OnlyAt g V w')) := fun V g hr => by
  have := zGq g _ false 4294967295 V hr (by omega);have e := zMt (zA3 (zK2 (dig d) fs)) [] false 4294967295 (by omega) hcl;rw [List.append_nil] at e;rw [e] at this
  exact this.mono fun e w' ⟨h1, h2, _⟩ => ⟨h1, h2⟩
 have HCR := zh hcr;have hwr : IntKind.i64.wrap ((zA3 (zK2 (dig d) fs) : Nat) : Int) = ((zA3 (zK2 (dig d) fs) : Nat) : Int) := IntWalk.i64_in _ (by omega);have HWR := zh hwr;clear h hmx hb hb1 hb2 hcr hnl hcl hwr;have HPK : Hid (zK2 (dig d) fs = zK2 (dig d) fs) := zh rfl;generalize hpk : zK2 (dig d) fs = pk at *;have HPE := zh hpk;clear hpk HPK;generalize zA3 pk = cv at *;generalize hn : pk.length = n at *;have HN := zh hn;clear hn;have hn0 : (0 : Int) ≤ (n : Int) := by omega
 have hn1 : (n : Int) ≤ 3000000 := by omega
 have hn2 : (n : Int) ≤ (n : Int) + 4 := by omega
 have hn3 : (n : Int) ≤ (c : Int) := by omega
 have hcn : ¬ c = n := by omega
 go_enter Tryz.func38, Tryz.ntmps38
 go_upto_region 2 with fail
 obtain ⟨W, hW⟩ : ∃ W, W = w.alloc (.cells #[.string ⟨#[]⟩, .string ⟨#[]⟩, .slice none 0 0, .slice none 0 0, .slice none 0 0, .slice none 0 0] 35) := ⟨_, rfl⟩
 have XW := zh (show Ext w W by rw [hW]; exact (xr w).alloc _);have HB2 := zh (show W.heap[w.heap.size]? = some (.cells #[.string ⟨#[]⟩, .string ⟨#[]⟩, .slice none 0 0, .slice none 0 0, .slice none 0 0, .slice none 0 0] 35 (0, 0)) by rw [hW]; exact heap_alloc_new w _);have hwr := HWR.out;have hfl : decide ((n : Int) < 0) = false := by rw [decide_eq_false_iff_not]; omega
 rw [← hW];clear hW
 go_cut [29] from 14 to 30 (fun p wc => p = .bool false ∧ Ext W wc)
 case first =>
  have HA := zh (fun (V : World) => heap_alloc_new V (.cells #[.slice (some ⟨bb, o, none⟩) n c] 23));refine wp_region_held_drew (S := fun _ => True) (by kernel_rfl) (by trivial) fun _ => ?_
  refine tk 0 ?_;refine tk 1 ?_;refine tk 2 ?_;refine tk 3 ?_;refine tk 4 ?_;refine tk 5 ?_;refine tk 8 ?_;refine tk 9 ?_;refine tk 10 ?_;refine wpAnyH_ready (rs := [6, 11]) (by kernel_rfl) (by simp) ?_;refine AllReadyH.cons rfl (fun K hK => ?_) ?_
  ·go_simp;refine (HRD.out W.drew (XW.out.trans (xr W).drew)).mono ?_;rintro e w2 ⟨g, rfl, hg, x2, r2⟩;have X2 := zh (((xr W).drew).trans x2);have R2 := zh r2;have HG2 : Hid (W.heap.size ≤ g) := hg;clear x2 r2 hg
   go_wp2_with fail
   refine hK.out _ _ trivial fun _ => ?_
   clear hK K
   try simp only [nf]
   refine wpAnyH_ready (rs := [7, 11]) (by kernel_rfl) (by simp) ?_;refine AllReadyH.cons rfl (fun K hK => ?_) ?_
   ·go_simp;refine (HNM.out w2 g R2.out).mono ?_;rintro e w3 ⟨rfl, o3⟩;have X3 := zh ((X2.out).grow o3 (fun k hk => by cases hk; exact HG2.out));clear o3
    go_wp2_with fail
    refine hK.out _ _ trivial fun _ => ?_
    clear hK K
    try simp only [nf]
    refine wpAnyH_ready (rs := [11]) (by kernel_rfl) (by simp) ?_;refine AllReadyH.cons rfl (fun K hK => ?_) ?_
    ·go_simp
     go_wp2_with fail
     refine hK.out _ _ trivial fun _ => ?_
     clear hK K
     try simp only [nf]
     refine wpAnyH_ready (rs := [12]) (by kernel_rfl) (by simp) ?_;refine AllReadyH.cons rfl (fun K hK => ?_) ?_
     ·go_simp;refine (HCR.out (w3.alloc (.cells #[.slice (some ⟨bb, o, none⟩) n c] 23)) (.slice (some ⟨bb, o, none⟩) n c) (w3.heap.size) (B1.out.ext (XW.out.trans ((X3.out).alloc (.cells #[.slice (some ⟨bb, o, none⟩) n c] 23)))) (HA.out w3)).mono ?_;rintro e w4 ⟨rfl, rfl⟩
      go_wp2_with fail
      refine hK.out _ _ trivial fun _ => ?_
      clear hK K;refine tk 13 ?_;refine tk 14 ?_;refine tk 15 ?_;refine wpAnyH_done (by kernel_rfl) ?_ _
      go_wp2_with fail
      go_meet;exact ⟨rfl, (X3.out).alloc (.cells #[.slice (some ⟨bb, o, none⟩) n c] 23)⟩
     exact AllReadyH.nil
    exact AllReadyH.nil
   refine AllReadyH.cons rfl (fun K hK => ?_) ?_
   ·go_simp
    go_wp2_with fail
    refine hK.out _ _ trivial fun _ => ?_
    clear hK K
    try simp only [nf]
    refine wpAnyH_ready (rs := [7]) (by kernel_rfl) (by simp) ?_;refine AllReadyH.cons rfl (fun K hK => ?_) ?_
    ·go_simp;refine (HNM.out (w2.alloc (.cells #[.slice (some ⟨bb, o, none⟩) n c] 23)) g (R2.out.ext ((xr w2).alloc (.cells #[.slice (some ⟨bb, o, none⟩) n c] 23)))).mono ?_;rintro e w3 ⟨rfl, o3⟩;have X3 := zh (((X2.out).alloc (.cells #[.slice (some ⟨bb, o, none⟩) n c] 23)).grow o3 (fun k hk => by cases hk; exact HG2.out));have BD := zh ((o3.block (w2.heap.size) (by first | exact (Array.getElem?_eq_some_iff.1 (HA.out w2)).1) (by have := R2.out.lt; simp; omega)).trans (HA.out w2));clear o3
     go_wp2_with fail
     refine hK.out _ _ trivial fun _ => ?_
     clear hK K
     try simp only [nf]
     refine wpAnyH_ready (rs := [12]) (by kernel_rfl) (by simp) ?_;refine AllReadyH.cons rfl (fun K hK => ?_) ?_
     ·go_simp;refine (HCR.out w3 (.slice (some ⟨bb, o, none⟩) n c) (w2.heap.size) (B1.out.ext (XW.out.trans (X3.out))) (BD.out)).mono ?_;rintro e w4 ⟨rfl, rfl⟩
      go_wp2_with fail
      refine hK.out _ _ trivial fun _ => ?_
      clear hK K;refine tk 13 ?_;refine tk 14 ?_;refine tk 15 ?_;refine wpAnyH_done (by kernel_rfl) ?_ _
      go_wp2_with fail
      go_meet;exact ⟨rfl, X3.out⟩
     exact AllReadyH.nil
    exact AllReadyH.nil
   exact AllReadyH.nil
  refine AllReadyH.cons rfl (fun K hK => ?_) ?_
  ·go_simp
   go_wp2_with fail
   refine hK.out _ _ trivial fun _ => ?_
   clear hK K
   try simp only [nf]
   refine wpAnyH_ready (rs := [6]) (by kernel_rfl) (by simp) ?_;refine AllReadyH.cons rfl (fun K hK => ?_) ?_
   ·go_simp;refine (HRD.out (W.alloc (.cells #[.slice (some ⟨bb, o, none⟩) n c] 23)).drew (XW.out.trans ((xr W).alloc (.cells #[.slice (some ⟨bb, o, none⟩) n c] 23)).drew)).mono ?_;rintro e w2 ⟨g, rfl, hg, x2, r2⟩;have X2 := zh ((((xr W).alloc (.cells #[.slice (some ⟨bb, o, none⟩) n c] 23)).drew).trans x2);have R2 := zh r2;have HG2 : Hid (W.heap.size < g) := Nat.lt_of_succ_le (by simpa using hg);have BB := zh (x2.get (HA.out W));clear x2 r2 hg
    go_wp2_with fail
    refine hK.out _ _ trivial fun _ => ?_
    clear hK K
    try simp only [nf]
    refine wpAnyH_ready (rs := [7]) (by kernel_rfl) (by simp) ?_;refine AllReadyH.cons rfl (fun K hK => ?_) ?_
    ·go_simp;refine (HNM.out w2 g R2.out).mono ?_;rintro e w3 ⟨rfl, o3⟩;have X3 := zh ((X2.out).grow o3 (fun k hk => by cases hk; exact (Nat.le_of_lt HG2.out)));have BD := zh ((o3.block (W.heap.size) (by first | exact (Array.getElem?_eq_some_iff.1 (BB.out)).1) (by have := HG2.out; simp; omega)).trans (BB.out));clear o3
     go_wp2_with fail
     refine hK.out _ _ trivial fun _ => ?_
     clear hK K
     try simp only [nf]
     refine wpAnyH_ready (rs := [12]) (by kernel_rfl) (by simp) ?_;refine AllReadyH.cons rfl (fun K hK => ?_) ?_
     ·go_simp;refine (HCR.out w3 (.slice (some ⟨bb, o, none⟩) n c) (W.heap.size) (B1.out.ext (XW.out.trans (X3.out))) (BD.out)).mono ?_;rintro e w4 ⟨rfl, rfl⟩
      go_wp2_with fail
      refine hK.out _ _ trivial fun _ => ?_
      clear hK K;refine tk 13 ?_;refine tk 14 ?_;refine tk 15 ?_;refine wpAnyH_done (by kernel_rfl) ?_ _
      go_wp2_with fail
      go_meet;exact ⟨rfl, X3.out⟩
     exact AllReadyH.nil
    exact AllReadyH.nil
   exact AllReadyH.nil
  exact AllReadyH.nil
 case rest =>
 obtain ⟨rfl, xc⟩ := hcut
 obtain ⟨w0, rfl⟩ : ∃ x : World, x = wc := ⟨_, rfl⟩
 have XC := zh xc;clear xc hwr hfl
 have hfb : (zFx fs).length ≤ 3000000 := by
  have h1 := HN.out;rw [← HPE.out, pkgB_form] at h1;simp only [List.length_append, zBk, zBa] at h1;omega
 have HFB := zh hfb;clear hfb
 have HR0 := zh (show Calls Tryz.prog 79 #[.slice (some ⟨bb, o, none⟩) n c] w0 (fun e w' => ∃ g, e = .returned (.pointer (some ⟨g, 0, none⟩)) ∧ w0.heap.size ≤ g ∧ Ext w0 w' ∧ ReaderAt w' g (zBk nmA ++ (zBk (dig d) ++ (zBk [] ++ (zBk [] ++ (zBk (zFx fs) ++ zBk []))))) false) from by
  have := zJv _ _ w0 (B1.out.ext (XW.out.trans XC.out)) (by rw [HN.out]; omega);rw [← HPE.out, pkgB_form] at this
  exact this)
 have hd1 : (dig d).length = 1 := rfl
 go_wp2_with (first
  | (go_at_call 79; refine HR0.out.mono ?_; rintro e w1 ⟨gr, rfl, hgr, x1, r1⟩; have X1 := zh (XC.out.trans x1); have R1 := zh r1; have HGR : Hid (w0.heap.size ≤ gr ∧ gr < w1.heap.size) := ⟨hgr, r1.lt⟩; clear x1 r1 hgr))
 go_at_call 81
 refine (TextB R1.out (by decide) (by decide) (by have := HFB.out; simp [zBk, zBa]; omega)).mono ?_;rintro e w2 ⟨rfl, o2, r2⟩;have X2 := zh (X1.out.grow o2 (fun k hk => by cases hk; exact Nat.le_trans XC.out.sz HGR.out.1));have R2 := zh r2;have HS2 := zh o2.size;clear o2 r2
 go_wp2_with fail
 go_at_call 81
 refine (TextB R2.out (by rw [hd1]; decide) (by decide) (by have := HFB.out; simp [zBk, zBa]; omega)).mono ?_;rintro e w3 ⟨rfl, o3, r3⟩;have X3 := zh (X2.out.grow o3 (fun k hk => by cases hk; exact Nat.le_trans XC.out.sz HGR.out.1));have R3 := zh r3;have HS3 := zh (Nat.le_trans HS2.out o3.size);clear o3 r3
 obtain ⟨W4, hW4⟩ : ∃ W4, W4 = w3.alloc (.cells #[.string (ba nmA), .string (ba (dig d)), .slice none 0 0, .slice none 0 0, .slice none 0 0, .slice none 0 0] 35) := ⟨_, rfl⟩
 have x4 : Ext w3 W4 := by rw [hW4]; exact (xr w3).alloc _
 have X4 := zh (X3.out.trans x4);have R4 := zh (R3.out.ext x4);have BP4 := zh (show W4.heap[w3.heap.size]? = some (.cells #[.string (ba nmA), .string (ba (dig d)), .slice none 0 0, .slice none 0 0, .slice none 0 0, .slice none 0 0] 35 (0, 0)) by rw [hW4]; exact heap_alloc_new w3 _);have HGP : Hid (gr < w3.heap.size) := Nat.lt_of_lt_of_le HGR.out.2 HS3.out;have HS4 := zh (show W4.heap.size = w3.heap.size + 1 by rw [hW4]; simp);clear x4
 go_upto_region 6 with fail
 rw [← hW4];clear hW4
 go_wp2_with fail
 go_at_call 82
 refine (ListB R4.out (by simp) (by have := HFB.out; simp [zBk, zBa]; omega)).mono ?_;rintro e w5 ⟨g1, rfl, hg1, o5, r5, s5⟩;have X5 := zh (X4.out.grow o5 (fun k hk => by cases hk; exact Nat.le_trans XC.out.sz HGR.out.1));have R5 := zh r5;have S5 := zh s5;have BP5 := zh ((o5.block w3.heap.size (by have := HS4.out; omega) (by have := HGP.out; simp; omega)).trans BP4.out)
 have L5 : Hid (w3.heap.size < g1 ∧ g1 < w5.heap.size) := ⟨by have := HS4.out; omega, s5.lt⟩
 clear o5 r5 s5 hg1
 go_wp2_with fail
 go_at_call 82
 refine (ListB R5.out (by simp) (by have := HFB.out; simp [zBk, zBa]; omega)).mono ?_;rintro e w6 ⟨g2, rfl, hg2, o6, r6, s6⟩;have X6 := zh (X5.out.grow o6 (fun k hk => by cases hk; exact Nat.le_trans XC.out.sz HGR.out.1));have R6 := zh r6;have S6 := zh s6;have T61 := zh (R5.out.other S5.out (by have := HGP.out; have := L5.out; omega) o6);have BP6 := zh ((o6.block w3.heap.size (by have := L5.out; omega) (by have := HGP.out; simp; omega)).trans BP5.out)
 have L6 : Hid (g1 < g2 ∧ g2 < w6.heap.size) := ⟨by have := L5.out; omega, s6.lt⟩
 clear o6 r6 s6 hg2
 go_wp2_with fail
 go_at_call 82
 refine (ListB R6.out HFB.out (by simp [zBk, zBa])).mono ?_;rintro e w7 ⟨g3, rfl, hg3, o7, r7, s7⟩;have X7 := zh (X6.out.grow o7 (fun k hk => by cases hk; exact Nat.le_trans XC.out.sz HGR.out.1));have R7 := zh r7;have S7 := zh s7;have T71 := zh (R6.out.other T61.out (by have := HGP.out; have := L5.out; omega) o7);have T72 := zh (R6.out.other S6.out (by have := HGP.out; have := L5.out; have := L6.out; omega) o7);have BP7 := zh ((o7.block w3.heap.size (by have := L5.out; have := L6.out; omega) (by have := HGP.out; simp; omega)).trans BP6.out)
 have L7 : Hid (g2 < g3 ∧ g3 < w7.heap.size) := ⟨by have := L6.out; omega, s7.lt⟩
 clear o7 r7 s7 hg3
 go_wp2_with fail
 go_at_call 82
 refine (ListB (x := []) (r := []) (by rw [List.append_nil]; exact R7.out) (by simp) (by simp)).mono ?_;rintro e w8 ⟨g4, rfl, hg4, o8, r8, s8⟩;have X8 := zh (X7.out.grow o8 (fun k hk => by cases hk; exact Nat.le_trans XC.out.sz HGR.out.1));have R8 := zh r8;have S84 := zh s8;have S81 := zh (R7.out.other T71.out (by have := HGP.out; have := L5.out; omega) o8);have S82 := zh (R7.out.other T72.out (by have := HGP.out; have := L5.out; have := L6.out; omega) o8);have S83 := zh (R7.out.other S7.out (by have := HGP.out; have := L5.out; have := L6.out; have := L7.out; omega) o8);have BP8 := zh ((o8.block w3.heap.size (by have := L5.out; have := L6.out; have := L7.out; omega) (by have := HGP.out; simp; omega)).trans BP7.out)
 have L8 : Hid (g3 < g4 ∧ g4 < w8.heap.size) := ⟨by have := L7.out; omega, s8.lt⟩
 clear o8 r8 s8 hg4;obtain ⟨p0, p1, p2, p3, p4, p5, pf⟩ := cells6 BP8.out
 go_wp2_with fail
 go_at_call 83
 refine (Each83_nil _ S81.out).mono ?_;rintro e ww ⟨rfl, rfl⟩;have pf2 := pf 2;have pf3 := pf 3;clear pf
 go_wp2_with fail
 go_at_call 85
 have hnb := noB6 BP8.out;have HNB := zh hnb;clear hnb;have O81 := zh ((OnlyAt.refl w3.heap.size w8).set 2 (.slice none 0 0));refine (zPg _ (S82.out.off O81.out (by have := L5.out; have := L6.out; omega) HNB.out) _).mono ?_;rintro e ww ⟨rfl, rfl⟩
 go_wp2_with fail
 obtain ⟨V8, hV8⟩ : ∃ V8, V8 = (w8.setCell ⟨w3.heap.size, 2, none⟩ (.slice none 0 0)).setCell ⟨w3.heap.size, 3, none⟩ (.slice none 0 0) := ⟨_, rfl⟩
 have O82 := zh (show OnlyAt w3.heap.size w8 V8 by rw [hV8]; exact O81.out.set 3 (.slice none 0 0));have HZ8 := zh (show V8.heap.size = w8.heap.size by rw [hV8]; simp [World.setCell])
 have BPV := zh (show V8.heap[w3.heap.size]? = some (.cells #[.string (ba nmA), .string (ba (dig d)), .slice none 0 0, .slice none 0 0, .slice none 0 0, .slice none 0 0] 35 (0, 0)) by
  rw [hV8, zAd _ _ _ _ _ _ _ (zAd w8 w3.heap.size 2 (.slice none 0 0) _ _ _ BP8.out)]; rfl)
 have HFF := zh (fun f hf => (show f.path.length ≤ 40 ∧ f.data.length ≤ 512 from ⟨(HH.out.files f hf).path.len, (HH.out.files f hf).data⟩));have HB0 : Hid (W.heap.size ≤ w3.heap.size) := X3.out.sz;have h1 : ∀ k, W.heap.size ≤ (⟨w3.heap.size, k, none⟩ : Addr).block := fun _ => HB0.out
 have XV8 := zh (show Ext W V8 by rw [hV8]; exact (X8.out.setCell (h1 2) (.slice none 0 0)).setCell (h1 3) (.slice none 0 0));clear h1;rw [← hV8];clear hV8
 go_at_call 87
 refine (zQa V8 (S83.out.off O82.out (by have := L5.out; have := L6.out; have := L7.out; omega) HNB.out) HFF.out hfs (by have := HFB.out; omega)).mono ?_;rintro e w9 ⟨fv, xs, rfl, hxs, gf9, r93, o9⟩
 obtain ⟨a9, c9, rfl⟩ : ∃ a c, fv = .slice a xs.length c := by
  obtain ⟨a, c, e⟩ := gf9.row.form;rw [List.length_map] at e;exact ⟨a, c, e⟩
 have GF9 := zh gf9;have HXS := zh hxs;have R93 := zh r93;have rg3 := S83.out.off O82.out (by have := L5.out; have := L6.out; have := L7.out; omega) HNB.out;have R9r := zh (rg3.other (R8.out.off O82.out (by have := HGP.out; omega) HNB.out) (by have := HGP.out; have := L5.out; have := L6.out; have := L7.out; omega) o9);have R91 := zh (rg3.other (S81.out.off O82.out (by have := L5.out; omega) HNB.out) (by have := L6.out; have := L7.out; omega) o9);have R92 := zh (rg3.other (S82.out.off O82.out (by have := L5.out; have := L6.out; omega) HNB.out) (by have := L7.out; omega) o9);have R94 := zh (rg3.other (S84.out.off O82.out (by have := L5.out; have := L6.out; have := L7.out; have := L8.out; omega) HNB.out) (by have := L8.out; omega) o9);have BP9 := zh ((o9.block w3.heap.size (Array.getElem?_eq_some_iff.1 BPV.out).1 (by have := L5.out; have := L6.out; have := L7.out; simp; omega)).trans BPV.out);have hnb9 := noB6 BP9.out;have HNB9 := zh hnb9;have HG3 := zh (show W.heap.size ≤ g3 by have := L5.out; have := L6.out; have := L7.out; have := HGP.out; have := HGR.out; have := XC.out.sz; omega);have X9 := zh (XV8.out.grow o9 (fun k hk => by cases hk; exact HG3.out));clear gf9 hxs r93 rg3 hnb9 o9;obtain ⟨p0, p1, p2, p3, p4, p5, pf⟩ := cells6 BP9.out;have pf4 := pf 4;have pf5 := pf 5;clear pf
 go_wp2_with fail
 have O94 := zh ((OnlyAt.refl w3.heap.size w9).set 4 (.slice a9 xs.length c9))
 go_at_call 85
 refine (zPg _ (R94.out.off O94.out (by have := L5.out; have := L6.out; have := L7.out; have := L8.out; omega) HNB9.out) _).mono ?_;rintro e ww ⟨rfl, rfl⟩
 go_wp2_with fail
 obtain ⟨V9, hV9⟩ : ∃ V9, V9 = (w9.setCell ⟨w3.heap.size, 4, none⟩ (.slice a9 xs.length c9)).setCell ⟨w3.heap.size, 5, none⟩ (.slice none 0 0) := ⟨_, rfl⟩
 have O95 := zh (show OnlyAt w3.heap.size w9 V9 by rw [hV9]; exact O94.out.set 5 (.slice none 0 0))
 have BP10 := zh (show V9.heap[w3.heap.size]? = some (.cells #[.string (ba nmA), .string (ba (dig d)), .slice none 0 0, .slice none 0 0, .slice a9 xs.length c9, .slice none 0 0] 35 (0, 0)) by
  rw [hV9, zAd _ _ _ _ _ _ _ (zAd w9 w3.heap.size 4 (.slice a9 xs.length c9) _ _ _ BP9.out)]; rfl)
 have h1 : ∀ k, W.heap.size ≤ (⟨w3.heap.size, k, none⟩ : Addr).block := fun _ => HB0.out
 have XV9 := zh (show Ext W V9 by rw [hV9]; exact (X9.out.setCell (h1 4) (.slice a9 xs.length c9)).setCell (h1 5) (.slice none 0 0));clear h1;have GF10 := zh ((GF9.out.only O95.out (by have := HZ8.out; have := L5.out; have := L6.out; have := L7.out; have := L8.out; omega)).arc (by have := congrArg List.length HXS.out; simp at this; omega));have D0 := zh (zHv (R9r.out.off O95.out (by have := HGP.out; omega) HNB9.out));have D1 := zh (zHv (R91.out.off O95.out (by have := L5.out; omega) HNB9.out));have D2 := zh (zHv (R92.out.off O95.out (by have := L5.out; have := L6.out; omega) HNB9.out));have D3 := zh (zHv (R93.out.off O95.out (by have := L5.out; have := L6.out; have := L7.out; omega) HNB9.out));have D4 := zh (zHv (R94.out.off O95.out (by have := L5.out; have := L6.out; have := L7.out; have := L8.out; omega) HNB9.out));have HPR : Hid (Calls Tryz.prog 34 #[.agg (zA5 (dig d) (.slice a9 xs.length c9))] V9 (fun e w' => e = .returned (.bool true) ∧ Ext V9 w')) := zKt V9 GF10.out.weak (by rw [HXS.out]; exact HH.out) ((XW.out.trans XV9.out).cell HMX.out);simp only [zA5] at HPR;obtain ⟨q0, q1, q2, q3, q4, q5, qf⟩ := cells6 BP10.out;have RB := zh (XV9.out.get HB2.out);rw [← hV9];clear hV9 p0 p1 p2 p3 p4 p5 pf4 pf5 qf
 go_at_call 92
 refine D0.out.mono ?_;rintro e ww ⟨rfl, rfl⟩
 go_wp2_with fail
 go_at_call 92
 refine D1.out.mono ?_;rintro e ww ⟨rfl, rfl⟩
 go_wp2_with fail
 go_at_call 92
 refine D2.out.mono ?_;rintro e ww ⟨rfl, rfl⟩
 go_wp2_with fail
 go_at_call 92
 refine D3.out.mono ?_;rintro e ww ⟨rfl, rfl⟩
 go_wp2_with fail
 go_at_call 92
 refine D4.out.mono ?_;rintro e ww ⟨rfl, rfl⟩
 go_wp2_with fail
 go_at_call 34
 refine HPR.out.mono ?_;rintro e w11 ⟨rfl, x11⟩;have X11 := zh x11;obtain ⟨t0, t1, t2, t3, t4, t5, tf⟩ := cells6 (x11.get BP10.out);obtain ⟨r0, r1, r2, r3, r4, r5, rf⟩ := cells6 (x11.get RB.out);clear x11 q0 q1 q2 q3 q4 q5
 go_wp2_with fail
 refine bodyPost_ret (v := .tuple #[.agg #[.string (ba nmA), .string (ba (dig d)), .slice none 0 0, .slice none 0 0, .slice a9 xs.length c9, .slice none 0 0], .int .i64 0]) (by simp [results, zOf, r0, r1, r2, r3, r4, r5, go_sem, World.cell?_setCell_far]) rfl ?_;have h1 : ∀ k, w.heap.size ≤ (⟨w.heap.size, k, none⟩ : Addr).block := fun _ => Nat.le_refl _
 have x6 := ((((((XW.out.trans (XV9.out.trans X11.out)).setCell (h1 0) (.string (ba nmA))).setCell (h1 1) (.string (ba (dig d)))).setCell (h1 2) (.slice none 0 0)).setCell (h1 3) (.slice none 0 0)).setCell (h1 4) (.slice a9 xs.length c9)).setCell (h1 5) (.slice none 0 0);have m6 := set6 (.string (ba nmA)) (.string (ba (dig d))) (.slice none 0 0) (.slice none 0 0) (.slice a9 xs.length c9) (.slice none 0 0) (X11.out.get RB.out);exact ⟨_, xs, rfl, HXS.out, (GF10.out.ext X11.out).mut m6, x6⟩
end
end Go.Proofs.YtgnjjfdfoibdiaaGreatDoor
