/- A part of the proof of WholeUsers. -/
import Derived.Lib.SmallJoins
import Derived.Test.YtgnjjfdfoibdiaaGreatDoorUbb
import Derived.Test.YtgnjjfdfoibdiaaGreatDoorUbc
set_option linter.all false
namespace Go.Proofs.YtgnjjfdfoibdiaaGreatDoor
section
open Go.RowKit Go.Maps Go.Sort Go.Lib
set_option maxRecDepth 100000
theorem Busy.mut {w w' : World} {B o c : Nat} {x : Ob} {V : List (Pth × Nd)} {sh : List Pth} {t : Tx} {fs : List Af} {next : Option En} {sb : Nat} {B' : Nat} {S : List Nat} (h : Busy w B o x V sh c t fs next sb) (m : Mut B' S w w') (hs : ∀ t ∈ zE8, t ∉ S := by decide) : Busy w' B o x V sh c t fs next sb := by
 have k : ∀ t, t ∈ zE8 → t ∉ S := hs;obtain ⟨q, mv, cv, gv, q1, q2, q3⟩ := h.tx;obtain ⟨b, hb1, hb2⟩ := h.nx;obtain ⟨g, g1, g2, k1, k2, k3, k4, k5, k6⟩ := h.gr;obtain ⟨L, hL, hl⟩ := h.lg;refine ⟨m.get h.blk (k _ (by decide)), h.vol.mut m (fun t ht hm => ?_), ⟨q, mv, cv, gv, q1, m.get q2 (k _ (by decide)), q3.mut m (k _ (by decide)) (k _ (by decide))⟩, h.come.mut m (k _ (by decide)) (k _ (by decide)) (k _ (by decide)), ⟨b, hb1, hb2.mut m (k _ (by decide)) (k _ (by decide))⟩, ⟨g, g1, g2, k1.mut m (fun t ht hm => ?_), k2, k3, k4.mut m (k _ (by decide)) (k _ (by decide)), k5.mut m (k _ (by decide)) (k _ (by decide)), k6⟩, h.rows, ⟨L, hL.mut m (k _ (by decide)), hl⟩, h.lo.1, h.lo.2.1, Nat.le_trans h.lo.2.2 m.size⟩
 ·exact k t (by
   have : ∀ t ∈ (0 :: 7 :: 84 :: 87 :: 91 :: zCk), t ∈ zE8 := by decide
   exact this t hm) ht
 ·exact k t (by
   have : ∀ t ∈ [0, 125, 325], t ∈ zE8 := by decide
   exact this t hm) ht
def instRes (w : World) (B o c : Nat) (x : Ob) (V : List (Pth × Nd)) (sh : List Pth) (t : Tx) (fs : List Af) (next : Option En) (W0 : World) (p : Value) (wc : World) : Prop :=
 ∃ b12 x', p = .pointer (some ⟨b12, 0, none⟩) ∧ Hid (wc.heap[b12]? = some (.cells zDc 38 (0, 0))) ∧ Hid (Busy wc B o x' V sh c t fs next 0) ∧ x'.v = x.v ∧ x'.mg = x.mg ∧ Hid (Mut B zBd W0 wc) ∧ w = w
def ArchIn (w : World) (d n : Nat) (a : Option Addr) (fs : List Af) : Prop := (n = 0 ∧ fs = []) ∨ (n = 1 ∧ fs ≠ [] ∧ ∃ ab bv, a = some ⟨ab, 0, none⟩ ∧ w.cell? ⟨ab, 0, none⟩ = some bv ∧ Bytes w bv (arcB (dig d) fs) ∧ PkgOk d fs ∧ fs.length ≤ 2)
def instRel (w W3 : World) (b7 d n : Nat) (fs : List Af) (gV iv : Value) (wr : World) : Prop :=
 ∃ (k : Nat) (ca : Option Addr) (cn cc : Nat), k ≤ n ∧ iv = .int .i64 k ∧ (k = 0 → ca = none ∧ cn = 0 ∧ cc = 0) ∧ Hid (wr.heap[b7]? = some (.cells #[.slice ca cn cc, gV] 42 (0, 0))) ∧ (k = 1 → Hid (ComeIn wr d (.slice ca cn cc) fs)) ∧ Hid (Mut w.heap.size [44] W3 wr)
def zMz (w : World) (B o c : Nat) (x : Ob) (V : List (Pth × Nd)) (sh : List Pth) (t : Tx) (fs : List Af) (next : Option En) (e : Ending) (w' : World) : Prop :=
 e = .returned zC1 ∧ ∃ x', Busy w' B o x' V sh c t fs next 0 ∧ x'.v = x.v ∧ x'.mg = x.mg ∧ Mut B zBd w w'
theorem zOg : Tryz.f16.results = #[.cell 6 38] := by kernel_rfl
theorem bytes_sl {w : World} {v : Value} {l : List UInt8} (h : Bytes w v l) : ∃ a n c, v = .slice a n c := by
 obtain ⟨a, c, rfl, -⟩ := h;exact ⟨_, _, _, rfl⟩
set_option maxHeartbeats 4000000 in
theorem Install_any {w : World} {B h o c d n ac : Nat} {x : Ob} {V1 : List (Pth × Nd)} {sh1 : List Pth} {next : Option En} {gV : Value} {aa : Option Addr} {fs : List Af} {T : Tx} (hh : HostB w h o x.v) (hav : ArchIn w d n aa fs) (hgv : ∃ a n c, gV = .slice a n c) (hBo : B ≤ w.heap.size)
  (HBG : ∀ U cV, Ext w U → ComeIn U d cV fs → Calls Tryz.prog 39 #[.pointer (some ⟨o, 0, none⟩), .agg #[cV, gV]] U (zHl U B o (c + 1) x V1 sh1 T fs next)) (hV1 : V1.length ≤ 40) (hc : c < 110) {mx : Int} (hmx : w.cell? ⟨0, 0, none⟩ = some (.int .i64 mx)) :
  Calls Tryz.prog 16 #[.pointer (some ⟨h, 0, none⟩), gV, .slice aa n ac] w (zMz w B o (c + 1) x V1 sh1 T fs next) := by
 obtain ⟨ga, gn, gc, rfl⟩ := hgv;obtain ⟨h0, h2, h4, hf⟩ := (hh.ext ((xr w).alloc (.cells #[.int .i64 0, .string ⟨#[]⟩, .string ⟨#[]⟩] 38))).cells
 obtain ⟨W3, hW3⟩ : ∃ W3, W3 = (w.alloc (.cells #[.int .i64 0, .string ⟨#[]⟩, .string ⟨#[]⟩] 38)).alloc (.cells #[.slice none 0 0, .slice ga gn gc] 42) := ⟨_, rfl⟩
 have X3 := zh (show Ext w W3 by rw [hW3]; exact ((xr w).alloc _).alloc _);have B6 := zh (show W3.heap[w.heap.size]? = some (.cells zDc 38 (0, 0)) by rw [hW3]; exact ((xr _).alloc _).get (heap_alloc_new w (.cells #[.int .i64 0, .string ⟨#[]⟩, .string ⟨#[]⟩] 38)));have B7 := zh (show W3.heap[w.heap.size + 1]? = some (.cells #[.slice none 0 0, .slice ga gn gc] 42 (0, 0)) by rw [hW3]; exact zKa _ _ _);have HH := zh hh;have HAV := zh hav;have HBGN : Hid (∀ U cV, Ext w U → ComeIn U d cV fs → Calls Tryz.prog 39 #[.pointer (some ⟨o, 0, none⟩), .agg #[cV, .slice ga gn gc]] U (fun e w' => ∃ x', e = .returned (.agg #[.int .i64 0, .string ⟨#[]⟩, .string ⟨#[]⟩]) ∧ Busy w' B o x' V1 sh1 (c + 1) T fs next 0 ∧ x'.v = x.v ∧ x'.mg = x.mg ∧ Mut B zBd U w')) := HBG;have HMX := zh hmx;have HBO := zh hBo;clear hh hav HBG hmx hBo;go_enter Tryz.func16, Tryz.ntmps16
 go_upto_region 4 with fail
 rw [← hW3];clear hW3 h0 h2 h4 hf
 go_wp2_with fail
 go_loopw [23] (fun i wr => instRel w W3 (w.heap.size + 1) d n fs (.slice ga gn gc) i wr) (fun i _ => n - (intOf i).toNat)
 case atStart => exact ⟨0, none, 0, 0, Nat.zero_le _, rfl, fun _ => ⟨rfl, rfl, rfl⟩, B7, fun h => absurd h (by decide), zh (Mut.refl _ _ _)⟩
 case round =>
  obtain ⟨wq, rfl⟩ : ∃ x : World, x = wr := ⟨_, rfl⟩
  obtain ⟨k, ca, cn, cc, hk, rfl, hk0, HB7, hk1, HMQ⟩ := hrel;have XQ := zh (X3.out.then_mut HMQ.out (Nat.le_refl _))
  by_cases hlt : k < n
  ·rcases HAV.out with ⟨h1, -⟩ | ⟨h1, hfn, ab, bv, rfl, hcell, hbytes, hpk, hfl⟩
   ·omega
   obtain rfl : k = 0 := by omega
   subst h1;obtain ⟨rfl, rfl, rfl⟩ := hk0 rfl;clear hk0 hk1;obtain ⟨qa, qn, qc, rfl⟩ := bytes_sl hbytes;have hca := XQ.out.cell hcell
   have HRD : Hid (∀ U, Ext w U → Calls Tryz.prog 38 #[.slice qa qn qc] U (fun e w' => ∃ fa fc, ∃ xs : List (Af × Value), e = .returned (.tuple #[.agg #[.string (ba nmA), .string (ba (dig d)), .slice none 0 0, .slice none 0 0, .slice fa xs.length fc, .slice none 0 0], .int .i64 0]) ∧ xs.map Prod.fst = fs ∧ ArcFs w' (.slice fa xs.length fc) xs ∧ Ext U w')) := fun U y => (ARead_any U hpk hfl (hbytes.ext y) (y.cell HMX.out)).mono (by
    rintro e w' ⟨fv, xs, rfl, k1, k2, k3⟩;obtain ⟨fa, fc, rfl⟩ := k2.form
    exact ⟨fa, fc, xs, rfl, k1, k2, k3⟩)
   have HPK := zh hpk;have HFN := zh hfn;clear hcell hbytes hpk hfn
   go_upto_region 8 with (go_at_call 38; refine (HRD.out _ XQ.out).mono ?_; rintro e w7 ⟨fa, fc, xs, rfl, hxs, hax, x7⟩; have HAX := zh hax; have HXS := zh hxs; have X7 := zh x7; clear hax hxs x7)
   obtain ⟨W8, hW8⟩ : ∃ W8, W8 = w7.alloc (.cells #[.string (ba nmA), .string (ba (dig d)), .slice none 0 0, .slice none 0 0, .slice fa xs.length fc, .slice none 0 0] 35) := ⟨_, rfl⟩
   have X8 := zh (show Ext w7 W8 by rw [hW8]; exact (xr w7).alloc _);have P8 := zh (show W8.heap[w7.heap.size]? = some (.cells #[.string (ba nmA), .string (ba (dig d)), .slice none 0 0, .slice none 0 0, .slice fa xs.length fc, .slice none 0 0] 35 (0, 0)) by rw [hW8]; exact heap_alloc_new w7 _);rw [← hW8];clear hW8;have T8 := zh (X8.out.get (X7.out.get HB7.out));obtain ⟨t0, t1, tf⟩ := zAu T8.out;obtain ⟨r0, r1, r2, r3, r4, r5, rf⟩ := cells6 P8.out;have hwsz : w.heap.size ≤ W8.heap.size := (XQ.out.trans (X7.out.trans X8.out)).sz
   go_upto_region 11 with (at_builtin; refine zAr (W8.alloc (.cells #[.string (ba nmA), .string (ba (dig d)), .slice none 0 0, .slice none 0 0, .slice fa xs.length fc, .slice none 0 0] 35)) (by rfl) (.tmp 37) (.tmp 39) rPkg (by rfl) w.heap.size (.slice none 0 0) (.slice (some ⟨W8.heap.size, 0, none⟩) 1 1) [] [[.string (ba nmA), .string (ba (dig d)), .slice none 0 0, .slice none 0 0, .slice fa xs.length fc, .slice none 0 0]] (by rfl) (by rfl) (ORow.nil _ _ _) (zBi (heap_alloc_new W8 _)) (by simp [rPkg]) (by simp [Value.oneCell']) (by simp) ?hBp ?hKp; (case hBp => simp; omega); intro v9 w9 r9 g9 m9 n9; have R9 := zh r9; (obtain ⟨b9, c9, hv9⟩ := zI1 r9 (by simp)); simp only [List.nil_append, List.length_cons, List.length_nil, Nat.zero_add] at hv9; subst hv9; have X9 := zh (((xr W8).alloc (.cells #[.string (ba nmA), .string (ba (dig d)), .slice none 0 0, .slice none 0 0, .slice fa xs.length fc, .slice none 0 0] 35)).grow g9 (fun k hk => by cases hk)); (obtain ⟨u0, u1, uf⟩ := zAu (X9.out.get T8.out)); clear r9 g9 m9 n9)
   obtain ⟨W10, hW10⟩ : ∃ W10, W10 = w9.setCell ⟨w.heap.size + 1, 0, none⟩ (.slice (some ⟨b9, 0, none⟩) 1 c9) := ⟨_, rfl⟩
   have M10 := zh (show Mut w.heap.size [44] w9 W10 by rw [hW10]; exact zC4 (X9.out.get T8.out) _ (Nat.le_succ _));have T10 := zh (show W10.heap[w.heap.size + 1]? = some (.cells #[.slice (some ⟨b9, 0, none⟩) 1 c9, .slice ga gn gc] 42 (0, 0)) by rw [hW10, zAd _ _ _ _ _ _ _ (X9.out.get T8.out)]; rfl);rw [← hW10];clear hW10 t0 t1 tf u0 u1 uf r0 r1 r2 r3 r4 r5 rf
   go_wp2_with fail
   go_roundw
   case rel =>
    refine ⟨_, _, _, _, _, _, _, _, _, _, _, _, _, _, _, _, _, _, _, _, _, _, _, ?_, rfl⟩;refine ⟨1, some ⟨b9, 0, none⟩, 1, c9, Nat.le_refl _, by go_num, fun h => absurd h (by decide), T10.out, fun _ => zh ?_, zh (HMQ.out.trans ((X7.out.trans (X8.out.trans X9.out)).mut.trans M10.out))⟩
    have ha := ((HAX.out.ext (X8.out.trans X9.out)).mut M10.out (by decide) (by decide))
    have hr := (R9.out.mut M10.out (by decide)).le (Nat.zero_le w.heap.size);rw [← HXS.out];refine .one (hr.le (Nat.zero_le _)) ha ?_ (fun y hy => ?_)
    ·have := HFN.out;rw [← HXS.out] at this
     cases hx0 : xs with
     | nil => rw [hx0] at this; exact absurd rfl this
     | cons => simp
    ·exact (HPK.out.files y.1 (by rw [← HXS.out]; exact List.mem_map_of_mem hy)).data
   case measure => simp [intOf]
  ·obtain rfl : k = n := by omega
   have HCI := zh (show ComeIn wq d (.slice ca cn cc) fs by
    rcases HAV.out with ⟨h1, h2⟩ | ⟨h1, -⟩
    ·obtain ⟨rfl, rfl, rfl⟩ := hk0 h1;rw [h2];exact .nil
    ·exact (hk1 h1).out)
   clear hk0 hk1
   have KS : Hid (∀ U, Ext wq U → U.cell? ⟨h, 0, none⟩ = some (.pointer (some ⟨o, 0, none⟩)) ∧ U.cell? ⟨w.heap.size + 1, 0, none⟩ = some (.slice ca cn cc) ∧ U.cell? ⟨w.heap.size + 1, 1, none⟩ = some (.slice ga gn gc)) := fun U y => ⟨((HH.out.ext XQ.out).ext y).cells.1, (zAu (y.get HB7.out)).1, (zAu (y.get HB7.out)).2.1⟩
   have KM2 : Hid (∀ U U', Ext wq U → Mut B (40 :: zBd) U U' → U'.cell? ⟨h, 0, none⟩ = some (.pointer (some ⟨o, 0, none⟩)) ∧ U'.cell? ⟨w.heap.size + 1, 0, none⟩ = some (.slice ca cn cc) ∧ U'.cell? ⟨w.heap.size + 1, 1, none⟩ = some (.slice ga gn gc)) := fun U U' y m => ⟨(((HH.out.ext XQ.out).ext y).mut m (by decide)).cells.1, (zAu (m.get (y.get HB7.out))).1, (zAu (m.get (y.get HB7.out))).2.1⟩
   have KM : Hid (∀ U U', Ext wq U → Mut B zBd U U' → _) := fun U U' y m => KM2.out U U' y (m.to (by decide))
   go_upto_region 12 with fail
   go_cut [12] from 43 to 49 (fun p wc => instRes w B o (c + 1) x V1 sh1 T fs next wq p wc)
   case first =>
    refine wp_region_held_drew (S := (fun U => U.cell? ⟨h, 0, none⟩ = some (.pointer (some ⟨o, 0, none⟩)) ∧ U.cell? ⟨w.heap.size + 1, 0, none⟩ = some (.slice ca cn cc) ∧ U.cell? ⟨w.heap.size + 1, 1, none⟩ = some (.slice ga gn gc))) (by kernel_rfl) (by exact KS.out _ ((xr wq).drew)) fun _ => ?_
    refine tk 0 ?_;refine tk 1 ?_;refine tk 2 ?_;refine tk 3 ?_;refine tk 4 ?_;refine wpAnyH_ready (rs := [5, 6]) (by kernel_rfl) (by simp) ?_;refine AllReadyH.cons rfl (fun K hK => ?_) ?_
    ·go_simp
     (go_at_call 39; refine (HBGN.out _ _ (XQ.out.trans ((xr wq).drew)) (HCI.out.ext ((xr wq).drew))).mono ?_; rintro e u5 ⟨x5, rfl, y5, e5v, e5m, m5⟩; have Y5 := zh y5; have M5 := zh m5; have E5v := zh e5v; have E5m := zh e5m; clear y5 m5 e5v e5m)
     go_wp2_with fail
     refine hK.out _ _ ?_ fun _ => ?_
     ·exact KM.out _ _ ((xr wq).drew) (M5.out)
     clear hK K
     try simp only [nf]
     refine rd 6 fun K hK => ?_
     go_simp;have BX6 := zh (heap_alloc_new u5 (.cells #[.int .i64 0, .string ⟨#[]⟩, .string ⟨#[]⟩] 38));have M6 := zh (M5.out.trans ((xr u5).alloc (.cells #[.int .i64 0, .string ⟨#[]⟩, .string ⟨#[]⟩] 38)).mut);have Y6 := zh (Y5.out.mut (B' := 0) (S := []) ((xr u5).alloc (.cells #[.int .i64 0, .string ⟨#[]⟩, .string ⟨#[]⟩] 38)).mut (by simp))
     go_wp2_with fail
     refine hK.out _ _ ?_ fun _ => ?_
     ·exact KM.out _ _ ((xr wq).drew) (M6.out)
     clear hK K
     try simp only [nf]
     refine rd 7 fun K hK => ?_
     obtain ⟨z0, z1, z2, zf⟩ := zA2 (BX6.out);go_simp
     go_wp2_with fail
     refine hK.out _ _ ?_ fun _ => ?_
     ·exact KM.out _ _ ((xr wq).drew) (M6.out)
     clear hK K
     try simp only [nf]
     refine wpAnyH_done (by kernel_rfl) ?_ _
     go_wp2_with fail
     go_meet;exact ⟨_, x5, rfl, BX6, Y6, E5v.out, E5m.out, zh (((xr wq).drew).mut.trans M6.out), rfl⟩
    refine AllReadyH.cons rfl (fun K hK => ?_) ?_
    ·go_simp;have BX4 := zh (heap_alloc_new wq (.cells #[.int .i64 0, .string ⟨#[]⟩, .string ⟨#[]⟩] 38));have SX4 : Hid (w.heap.size ≤ wq.heap.size) := XQ.out.sz
     go_wp2_with fail
     refine hK.out _ _ ?_ fun _ => ?_
     ·exact KS.out _ (((xr wq).alloc (.cells #[.int .i64 0, .string ⟨#[]⟩, .string ⟨#[]⟩] 38)).drew)
     clear hK K
     try simp only [nf]
     refine rd 5 fun K hK => ?_
     go_simp
     (go_at_call 39; refine (HBGN.out _ _ (XQ.out.trans (((xr wq).alloc (.cells #[.int .i64 0, .string ⟨#[]⟩, .string ⟨#[]⟩] 38)).drew)) (HCI.out.ext (((xr wq).alloc (.cells #[.int .i64 0, .string ⟨#[]⟩, .string ⟨#[]⟩] 38)).drew))).mono ?_; rintro e u5 ⟨x5, rfl, y5, e5v, e5m, m5⟩; have Y5 := zh y5; have M5 := zh m5; have E5v := zh e5v; have E5m := zh e5m; have BX5 := zh (m5.get (BX4.out)); clear y5 m5 e5v e5m)
     go_wp2_with fail
     refine hK.out _ _ ?_ fun _ => ?_
     ·exact KM.out _ _ (((xr wq).alloc (.cells #[.int .i64 0, .string ⟨#[]⟩, .string ⟨#[]⟩] 38)).drew) (M5.out)
     clear hK K
     try simp only [nf]
     refine rd 7 fun K hK => ?_
     obtain ⟨z0, z1, z2, zf⟩ := zA2 (BX5.out);have T5 := zh (zDy (B := wq.heap.size) BX5.out (Nat.le_refl _));have M6 := zh ((M5.out.to (T' := 40 :: zBd) (by decide)).trans ((T5.out.1.weak (B' := B) (T' := [40]) (Nat.le_trans HBO.out XQ.out.sz) (fun _ h => h)).to (by decide)));go_simp
     go_wp2_with fail
     refine hK.out _ _ ?_ fun _ => ?_
     ·exact KM2.out _ _ (((xr wq).alloc (.cells #[.int .i64 0, .string ⟨#[]⟩, .string ⟨#[]⟩] 38)).drew) M6.out
     clear hK K
     try simp only [nf]
     refine wpAnyH_done (by kernel_rfl) ?_ _
     go_wp2_with fail
     go_meet;exact ⟨_, x5, rfl, zh T5.out.2, zh (Y5.out.mut T5.out.1 (by decide)), E5v.out, E5m.out, zh ((((((xr wq).alloc (.cells #[.int .i64 0, .string ⟨#[]⟩, .string ⟨#[]⟩] 38)).drew).mut.trans M5.out) : Mut B zBd wq u5).then_new T5.out.1 (Nat.le_refl _)), rfl⟩
    exact AllReadyH.nil
   case rest =>
   obtain ⟨b12, x5, rfl, HB12, HBY, e5v, e5m, HMR, -⟩ := hcut
   obtain ⟨w12, rfl⟩ : ∃ x : World, x = wc := ⟨_, rfl⟩
   obtain ⟨z0, z1, z2, zf⟩ := zA2 (show w12.heap[b12]? = some (.cells #[.int .i64 0, .string ⟨#[]⟩, .string ⟨#[]⟩] 38 (0, 0)) from HB12.out);have E6 := zh (HMR.out.get (HMQ.out.get B6.out));obtain ⟨y0, y1, y2, yf⟩ := zA2 (show w12.heap[w.heap.size]? = some (.cells #[.int .i64 0, .string ⟨#[]⟩, .string ⟨#[]⟩] 38 (0, 0)) from E6.out);obtain ⟨tr, lg, hb, hvb, -⟩ := HBY.out.vol.read (by omega) (by omega);have HSE := zh (See_any (show HostB w12 h o x5.v by rw [e5v]; exact (HH.out.ext XQ.out).mut HMR.out (by decide)) hvb 0);clear hvb
   obtain ⟨W14, hW14⟩ : ∃ W14, W14 = zLo w12 w.heap.size := ⟨_, rfl⟩
   have hs4 := zDy (B := w.heap.size) E6.out (Nat.le_refl _);rw [← hW14] at hs4;have S4 := zh hs4.1;have S4b := zh hs4.2;clear hs4;unfold zLo at hW14
   go_wp2_with (go_at_call 28; refine HSE.out.mono ?_; rintro e u ⟨rfl, hu⟩; subst hu)
   rw [← hW14];clear hW14 z0 z1 z2 zf y0 y1 y2 yf;obtain ⟨z0, z1, z2, zf⟩ := zA2 (show W14.heap[w.heap.size]? = some (.cells #[.int .i64 0, .string ⟨#[]⟩, .string ⟨#[]⟩] 38 (0, 0)) from S4b.out);refine bodyPost_ret (v := .agg #[.int .i64 0, .string ⟨#[]⟩, .string ⟨#[]⟩]) (by simp [results, zOg, go_sem, *]) rfl ?_;exact ⟨rfl, x5, HBY.out.mut S4.out (by decide), e5v, e5m, ((XQ.out.mut.trans HMR.out) : Mut B zBd w w12).then_new S4.out (Nat.le_refl _)⟩
def askRel (w W4 : World) (d n : Nat) (fs : List Af) (ov iv : Value) (wr : World) : Prop :=
 ∃ (k : Nat) (oa : Option Addr) (oc : Nat) (rows : List (List Value)), k ≤ n ∧ iv = .int .i64 k ∧ ov = .slice oa k oc ∧ Hid (ORow zOp wr w.heap.size (.slice oa k oc) rows) ∧ (k = 0 → rows = []) ∧ (k = 1 → Hid (ArchIn wr d 1 oa fs)) ∧ Hid (Mut w.heap.size [25] W4 wr)
inductive ComeW (w : World) (d : Nat) : Value → List Af → Prop
 | nil : ComeW w d (.slice none 0 0) []
 | one {g gc fv xs} : ORow rPkg w 0 (.slice (some ⟨g, 0, none⟩) 1 gc) [(zA5 (dig d) fv).toList] → ArcW w fv xs → 0 < xs.length → (∀ x ∈ xs, x.1.data.length ≤ 512) → ComeW w d (.slice (some ⟨g, 0, none⟩) 1 gc) (xs.map Prod.fst)
theorem ComeW.form {w : World} {d : Nat} {v : Value} {fs : List Af} (h : ComeW w d v fs) : ∃ a n c, v = .slice a n c ∧ n = if fs = [] then 0 else 1 := by
 cases h with
 | nil => exact ⟨none, 0, 0, rfl, by rw [if_pos rfl]⟩
 | @one g gc fv xs h1 h2 h3 h4 =>
   refine ⟨some ⟨g, 0, none⟩, 1, gc, rfl, ?_⟩;rw [if_neg];intro e;rw [List.map_eq_nil_iff] at e;rw [e] at h3;exact absurd h3 (by simp)
theorem ComeW.split {w : World} {d n c : Nat} {a : Option Addr} {fs : List Af} (h : ComeW w d (.slice a n c) fs) : (n = 0 ∧ fs = []) ∨ (n = 1 ∧ fs ≠ [] ∧ ∃ g fv xs, a = some ⟨g, 0, none⟩ ∧ ORow rPkg w 0 (.slice (some ⟨g, 0, none⟩) 1 c) [(zA5 (dig d) fv).toList] ∧ ArcW w fv xs ∧ 0 < xs.length ∧ (∀ x ∈ xs, x.1.data.length ≤ 512) ∧ xs.map Prod.fst = fs) := by
 cases h with
 | nil => exact .inl ⟨rfl, rfl⟩
 | @one g gc fv xs h1 h2 h3 h4 =>
   refine .inr ⟨rfl, fun e => ?_, g, fv, xs, rfl, h1, h2, h3, h4, rfl⟩;rw [List.map_eq_nil_iff] at e;rw [e] at h3;exact absurd h3 (by simp)
theorem row_cells6 {w : World} {g gc d : Nat} {fv : Value} (r : ORow rPkg w 0 (.slice (some ⟨g, 0, none⟩) 1 gc) [(zA5 (dig d) fv).toList]) :
  w.cell? ⟨g, 0, none⟩ = some (.string (ba nmA)) ∧ w.cell? ⟨g, 1, none⟩ = some (.string (ba (dig d))) ∧ w.cell? ⟨g, 2, none⟩ = some (.slice none 0 0) ∧ w.cell? ⟨g, 3, none⟩ = some (.slice none 0 0) ∧ w.cell? ⟨g, 4, none⟩ = some fv ∧ w.cell? ⟨g, 5, none⟩ = some (.slice none 0 0) ∧ ∀ i, w.frozen? ⟨g, i, none⟩ = false := by
 obtain ⟨b, e, hc⟩ := r.at 0 (by simp);cases e;exact ⟨hc 0 (by decide), hc 1 (by decide), hc 2 (by decide), hc 3 (by decide), hc 4 (by decide), hc 5 (by decide), fun i => World.ownsRow.frozenAt r.own i⟩
theorem zP5 : Tryz.f7.results = #[.cell 4 38] := by kernel_rfl
set_option maxHeartbeats 4000000 in
theorem Ask_any {w : World} {B h o c d : Nat} {x : Ob} {V1 : List (Pth × Nd)} {sh1 : List Pth} {next : Option En} {cV gV : Value} {fs : List Af} {T : Tx} (hh : HostB w h o x.v) (hcome : ComeW w d cV fs) (hpk : fs ≠ [] → PkgOk d fs ∧ fs.length ≤ 2) (hgv : ∃ a n c, gV = .slice a n c) (hBo : B ≤ w.heap.size)
  (HBG : ∀ U cV, Ext w U → ComeIn U d cV fs → Calls Tryz.prog 39 #[.pointer (some ⟨o, 0, none⟩), .agg #[cV, gV]] U (zHl U B o (c + 1) x V1 sh1 T fs next)) (hV1 : V1.length ≤ 40) (hc : c < 110) {mx : Int} (hmx : w.cell? ⟨0, 0, none⟩ = some (.int .i64 mx)) :
  Calls Tryz.prog 7 #[.pointer (some ⟨h, 0, none⟩), .agg #[cV, gV]] w (zMz w B o (c + 1) x V1 sh1 T fs next) := by
 obtain ⟨ca, cn, cc, rfl, hcn⟩ := hcome.form;obtain ⟨ga, gn, gc, rfl⟩ := hgv
 obtain ⟨W4, hW4⟩ : ∃ W4, W4 = ((w.alloc (.cells #[.slice ca cn cc, .slice ga gn gc] 42)).alloc (.cells #[.int .i64 0, .string ⟨#[]⟩, .string ⟨#[]⟩] 38)).alloc (.cells #[] 23) := ⟨_, rfl⟩
 have X4 := zh (show Ext w W4 by rw [hW4]; exact (((xr w).alloc _).alloc _).alloc _);have B3 := zh (show W4.heap[w.heap.size]? = some (.cells #[.slice ca cn cc, .slice ga gn gc] 42 (0, 0)) by rw [hW4]; exact (((xr _).alloc _).alloc _).get (heap_alloc_new w (.cells #[.slice ca cn cc, .slice ga gn gc] 42)));have B4 := zh (show W4.heap[w.heap.size + 1]? = some (.cells zDc 38 (0, 0)) by rw [hW4]; exact ((xr _).alloc _).get (zKa w (.cells #[.slice ca cn cc, .slice ga gn gc] 42) (.cells #[.int .i64 0, .string ⟨#[]⟩, .string ⟨#[]⟩] 38)))
 have HR0 := zh (show ORow zOp W4 w.heap.size (.slice (some ⟨w.heap.size + 1 + 1, 0, none⟩) 0 0) [] from by
  have hl := World.ownsRow_lit (base := w.heap.size) (size := 1) (e := 23) ((w.alloc (.cells #[.slice ca cn cc, .slice ga gn gc] 42)).alloc (.cells #[.int .i64 0, .string ⟨#[]⟩, .string ⟨#[]⟩] 38)) #[] 0 (((xr w).alloc _).alloc _).sz (by decide) rfl;rw [← hW4] at hl;have hl2 : W4.ownsRow w.heap.size 23 1 (.slice (some ⟨w.heap.size + 1 + 1, 0, none⟩) 0 0) 0 [] := by simpa using hl
  exact ⟨hl2, (fun r h => absurd h (by simp)), (fun r h => absurd h (by simp))⟩)
 have HH := zh hh;have HBGN := zh HBG;have HMX := zh hmx;have HCI := zh hcome;have HCN := zh hcn;have HPK := zh hpk;have HBO := zh hBo;clear hh hcome HBG hmx hBo hcn hpk;go_enter Tryz.func7, Tryz.ntmps7
 go_upto_region 2 with fail
 rw [← hW4];clear hW4;obtain ⟨b30, b31, b3f⟩ := zAu B3.out
 go_wp2_with fail
 go_loopw [5, 14] (fun v i wr => askRel w W4 d cn fs v i wr) (fun _ i _ => cn - (intOf i).toNat)
 case atStart => exact ⟨0, _, 0, [], Nat.zero_le _, rfl, rfl, HR0, fun _ => rfl, fun h => absurd h (by decide), zh (Mut.refl _ _ _)⟩
 case round =>
  obtain ⟨wq, rfl⟩ : ∃ x : World, x = wr := ⟨_, rfl⟩
  obtain ⟨k, oa, oc, rows, hk, rfl, rfl, HRO, hk0, hk1, HMQ⟩ := hrel;have XQ := zh (X4.out.then_mut HMQ.out (Nat.le_refl _))
  by_cases hlt : k < cn
  ·rcases HCI.out.split with ⟨h1, -⟩ | ⟨h1, hfn, g, fv, xs, rfl, hrow, hfs2, hxl, hsm, hxs⟩
   ·omega
   obtain rfl : k = 0 := by omega
   subst h1;obtain rfl := hk0 rfl;clear hk0 hk1;obtain ⟨fa, fc, rfl⟩ := hfs2.form;obtain ⟨hpk, hfl⟩ := HPK.out hfn;have HAT := zh hrow
   have HWR : Hid (∀ U, Ext w U → Calls Tryz.prog 15 #[.agg #[.string (ba nmA), .string (ba (dig d)), .slice none 0 0, .slice none 0 0, .slice fa xs.length fc, .slice none 0 0]] U (writePost U (arcB (dig d) fs))) := fun U y => by
    have := AWrite_any U (hfs2.ext y) (d := d) (by rw [hxs]; exact hpk) (y.cell HMX.out);rw [hxs] at this;exact this
   have HPO := zh hpk;have HFN := zh hfn;clear hrow hfs2 hxl hsm hxs hpk hfn;obtain ⟨r0, r1, r2, r3, r4, r5, rf⟩ := row_cells6 (HAT.out.ext XQ.out)
   obtain ⟨W6, hW6⟩ : ∃ W6, W6 = wq.alloc (.cells #[.string (ba nmA), .string (ba (dig d)), .slice none 0 0, .slice none 0 0, .slice fa xs.length fc, .slice none 0 0] 35) := ⟨_, rfl⟩
   have X6 := zh (show Ext wq W6 by rw [hW6]; exact (xr wq).alloc _);have P6 := zh (show W6.heap[wq.heap.size]? = some (.cells #[.string (ba nmA), .string (ba (dig d)), .slice none 0 0, .slice none 0 0, .slice fa xs.length fc, .slice none 0 0] 35 (0, 0)) by rw [hW6]; exact heap_alloc_new wq _)
   go_upto_region 5 with fail
   rw [← hW6];clear hW6 r0 r1 r2 r3 r4 r5 rf;obtain ⟨r0, r1, r2, r3, r4, r5, rf⟩ := cells6 P6.out
   go_wp2_with (first
    | (go_at_call 15; refine (HWR.out _ (XQ.out.trans X6.out)).mono ?_; rintro e w7 ⟨wv, rfl, ow, x7⟩; (obtain ⟨wa, wc, rfl⟩ := zAj ow); have OW := zh ow; have X7 := zh (X6.out.trans x7); clear ow x7)
    | (at_builtin; refine zAr (w7.alloc (.cells #[.slice wa (arcB (dig d) fs).length wc] 23)) (by rfl) (.tmp 23) (.tmp 25) zOp (by rfl) w.heap.size (.slice oa 0 oc) (.slice (some ⟨w7.heap.size, 0, none⟩) 1 1) [] [[.slice wa (arcB (dig d) fs).length wc]] (by rfl) (by rfl) (HRO.out.ext (X7.out.alloc _)) (zBi (heap_alloc_new w7 _)) (by simp [zOp]) (by simp [Value.oneCell']) (by simp) ?hBp ?hKp; (case hBp => have := (XQ.out.trans X7.out).sz; simp; omega); intro v9 w9 r9 g9 m9 n9; have R9 := zh r9; (obtain ⟨b9, c9, hv9⟩ := zI1 r9 (by simp)); simp only [List.nil_append, List.length_cons, List.length_nil, Nat.zero_add] at hv9; subst hv9; have M9 := zh m9; clear r9 g9 m9 n9))
   go_roundw
   case rel =>
    refine ⟨_, _, _, _, _, _, _, _, _, _, _, _, _, _, _, _, _, _, ?_, rfl⟩;refine ⟨1, some ⟨b9, 0, none⟩, c9, _, Nat.le_refl _, by go_num, rfl, zh R9.out, fun h => absurd h (by decide), fun _ => zh ?_, zh (HMQ.out.trans ((X7.out.alloc _).mut.trans M9.out))⟩;obtain ⟨b, e, hc⟩ := R9.out.at 0 (by simp);cases e;have hc0 : w9.cell? ⟨b9, 0, none⟩ = some (.slice wa (arcB (dig d) fs).length wc) := hc 0 (by decide);have ho : OwnBytes w9 0 (.slice wa (arcB (dig d) fs).length wc) (arcB (dig d) fs) := M9.out.own ((((xr w7).alloc _).own (zBm OW.out (Nat.zero_le _))));exact .inr ⟨rfl, HFN.out, b9, _, rfl, hc0, ho.bytes, HPO.out, hfl⟩
   case measure => simp [intOf]
  ·obtain rfl : k = cn := by omega
   have HAR := zh (show ArchIn wq d k oa fs by
    have h1 := HCN.out
    by_cases hf : fs = []
    ·rw [if_pos hf] at h1; exact .inl ⟨h1, hf⟩
    ·rw [if_neg hf] at h1; subst h1; exact (hk1 rfl).out)
   have HIN := zh (show Calls Tryz.prog 16 #[.pointer (some ⟨h, 0, none⟩), .slice ga gn gc, .slice oa k oc] wq (fun e w' => e = .returned (.agg #[.int .i64 0, .string ⟨#[]⟩, .string ⟨#[]⟩]) ∧ ∃ x', Busy w' B o x' V1 sh1 (c + 1) T fs next 0 ∧ x'.v = x.v ∧ x'.mg = x.mg ∧ Mut B zBd wq w') from
    Install_any (HH.out.ext XQ.out) HAR.out ⟨_, _, _, rfl⟩ (Nat.le_trans HBO.out XQ.out.sz) (fun U cV y hc => HBGN.out U cV (XQ.out.trans y) hc) hV1 hc (XQ.out.cell HMX.out))
   have C3 := zh (HMQ.out.get B3.out);have C4 := zh (HMQ.out.get B4.out);clear hk0 hk1 b30 b31 b3f;obtain ⟨b30, b31, b3f⟩ := zAu C3.out
   go_upto_region 8 with fail
   go_wp2_with (go_at_call 16; refine HIN.out.mono ?_; rintro e w8 ⟨rfl, x5, hby, e5v, e5m, m8⟩; have HBY := zh hby; have M8 := zh m8; have E4 := zh (m8.get C4.out); (obtain ⟨y0, y1, y2, yf⟩ := zA2 (show w8.heap[w.heap.size + 1]? = some (.cells #[.int .i64 0, .string ⟨#[]⟩, .string ⟨#[]⟩] 38 (0, 0)) from E4.out)); clear hby m8)
   obtain ⟨W9, hW9⟩ : ∃ W9, W9 = zLo w8 (w.heap.size + 1) := ⟨_, rfl⟩
   have hs4 := zDy (B := w.heap.size) E4.out (Nat.le_succ _);rw [← hW9] at hs4;have S4 := zh hs4.1;have S4b := zh hs4.2;clear hs4;unfold zLo at hW9;rw [← hW9];clear hW9 y0 y1 y2 yf;obtain ⟨z0, z1, z2, zf⟩ := zA2 (show W9.heap[w.heap.size + 1]? = some (.cells #[.int .i64 0, .string ⟨#[]⟩, .string ⟨#[]⟩] 38 (0, 0)) from S4b.out);refine bodyPost_ret (v := .agg #[.int .i64 0, .string ⟨#[]⟩, .string ⟨#[]⟩]) (by simp [results, zP5, go_sem, *]) rfl ?_;exact ⟨rfl, x5, HBY.out.mut S4.out (by decide), e5v, e5m, ((XQ.out.mut.trans M8.out) : Mut B zBd w w8).then_new S4.out (Nat.le_refl _)⟩
theorem ComeIn.nil_v {w : World} {d : Nat} {v : Value} (h : ComeIn w d v []) : v = .slice none 0 0 := by
 generalize hf : ([] : List Af) = fs at h
 cases h with
 | nil => rfl
 | @one g gc fv xs h1 h2 h3 h4 =>
   have := congrArg List.length hf;simp at this;omega
theorem Begin_come {w : World} {B o c d : Nat} {x : Ob} {V V1 : List (Pth × Nd)} {sh1 : List Pth} {base : Option En} {fs : List Af} {L M : Nat → List Mv} (hi : Idle w B o x V [] c base) (h0 : 0 < B) (hc : c < 110) (hV : V.length ≤ 40) (hne : fs ≠ []) (hpk : PkgOk d fs) (hen : EnOk (zCg d fs)) (hnew : NewerB base d) (hplan : ∀ xs : List (Af × Value), xs.map Prod.fst = fs → PlanOk V [] base (some (zCg d fs)) xs L M) (hok : TxOk (zB4 (M (zAn base).length) fs [])) (hd : DoOk V [] (zEm d fs ++ [zFn V (zB4 (M (zAn base).length) fs [])]) V1 sh1) {mx : Int} (hmx : w.cell? ⟨0, 0, none⟩ = some (.int .i64 mx)) :
  ∀ U cV, Ext w U → ComeIn U d cV fs → Calls Tryz.prog 39 #[.pointer (some ⟨o, 0, none⟩), .agg #[cV, .slice none 0 0]] U (zHl U B o (c + 1) x V1 sh1 (zB4 (M (zAn base).length) fs []) fs (some (zCg d fs))) := by
 intro U cV y hcome;have hiU := hi.ext y;obtain ⟨b, hb1, hb2⟩ := hiU.bm;obtain ⟨tr, lg, hb, hvb, htr⟩ := hiU.vol.read (by omega) (by omega);have hmU := y.cell hmx
 cases hcome with
 | nil => exact absurd rfl hne
 | @one g gc fv xs h1 h2 h3 h4 =>
   have hat : ComeAt U g d fv xs := ⟨⟨_, h1⟩, h2⟩
   exact Begin_any (g := 0) hiU hb1 hvb h0 hc hV (.one h1 h2 h3 h4) ⟨_, _, _, rfl⟩ hpk.few hpk.dig
    (fun U' y' => After_come U' (hb2.ext y') (hat.ext y') hpk hen hnew (y'.cell hmU))
    (fun U' y' => (zCp U').mono (by rintro e w' ⟨rfl, rfl⟩; exact ⟨_, rfl, OwnS.nil _ _, xr _⟩))
    (fun U' nb y' hbn => Plan_any (htr.ext y') (hb2.ext y') hbn (fun z hz => (h2.data z hz).ext y') (fun s W y2 => zKs W ((hat.ext y').ext y2) s) (hplan xs rfl) (y'.cell hmU))
    hok txn_ok (fun f hf => (hpk.files f hf).path.len) hd hmU
theorem Begin_gone {w : World} {B o c gb gc : Nat} {x : Ob} {V V1 : List (Pth × Nd)} {sh1 : List Pth} {en : En} {L M : Nat → List Mv} (hi : Idle w B o x V [] c (some en)) (h0 : 0 < B) (hc : c < 110) (hV : V.length ≤ 40) (hg : SRow w (.slice (some ⟨gb, 0, none⟩) 1 gc) [nmA]) (hgc : w.cell? ⟨gb, 0, none⟩ = some (.string (ba nmA))) (hplan : PlanOk V [] (some en) none [] L M) (hok : TxOk (zB4 (M (zAn (some en)).length) [] [nmA])) (hd : DoOk V [] (zEm 1 [] ++ [zFn V (zB4 (M (zAn (some en)).length) [] [nmA])]) V1 sh1) {mx : Int} (hmx : w.cell? ⟨0, 0, none⟩ = some (.int .i64 mx)) :
  ∀ U cV, Ext w U → ComeIn U 1 cV [] → Calls Tryz.prog 39 #[.pointer (some ⟨o, 0, none⟩), .agg #[cV, .slice (some ⟨gb, 0, none⟩) 1 gc]] U (zHl U B o (c + 1) x V1 sh1 (zB4 (M (zAn (some en)).length) [] [nmA]) [] none) := by
 intro U cV y hcome;have hiU := hi.ext y;obtain ⟨b, hb1, hb2⟩ := hiU.bm;obtain ⟨tr, lg, hb, hvb, htr⟩ := hiU.vol.read (by omega) (by omega);have hmU := y.cell hmx;obtain ⟨ca, cn, cc, rfl, hcn⟩ := hcome.form;rw [if_pos rfl] at hcn;subst hcn
 rcases hcome.split with ⟨-, -⟩ | ⟨h1, h2, -⟩
 ·have hcv := hcome.nil_v;rw [hcv]
  exact Begin_any (g := 0) hiU hb1 hvb h0 hc hV .nil ⟨_, _, _, rfl⟩ (by simp) (by omega)
   (fun U' y' => After_go U' (hb2.ext y') ((y.trans y').cell hgc) (y'.cell hmU))
   (fun U' y' => (clone_any (hg.ext (y.trans y')) (by simp)).mono (by rintro e w' ⟨v, rfl, k1, k2⟩; exact ⟨v, rfl, k1.base (Nat.zero_le _), k2⟩))
   (fun U' nb y' hbn => Plan_any (fs := []) (htr.ext y') (hb2.ext y') hbn (fun z hz => absurd hz (by simp)) (fun s W y2 => zPd W none 0 s) hplan (y'.cell hmU))
   hok txn_ok (fun f hf => absurd hf (by simp)) hd hmU
 ·omega
def HostI (w : World) (B h o v : Nat) (V : List (Pth × Nd)) (c : Nat) (base : Option En) : Prop := ∃ x : Ob, x.v = v ∧ HostB w h o v ∧ Idle w B o x V [] c base
def HostM (w : World) (B h o v : Nat) (V' : List (Pth × Nd)) (fs : List Af) (next : Option En) (cE m : Nat) : Prop := ∃ (x : Ob) (sh' : List Pth), x.v = v ∧ HostB w h o v ∧ Way w B o x V' sh' fs next cE m ∧ ∀ p ∈ sh', look V' p = none
theorem HostI.ext {w w' : World} {B h o v c : Nat} {V : List (Pth × Nd)} {base : Option En} (hi : HostI w B h o v V c base) (x : Ext w w') : HostI w' B h o v V c base := by
 obtain ⟨y, h1, h2, h3⟩ := hi;exact ⟨y, h1, h2.ext x, h3.ext x⟩
def zKm (w : World) (B h o v : Nat) (V' : List (Pth × Nd)) (fs : List Af) (next : Option En) (cE m : Nat) (e : Ending) (w' : World) : Prop := e = .returned (.agg #[.int .i64 0, .string ⟨#[]⟩, .string ⟨#[]⟩]) ∧ HostM w' B h o v V' fs next cE m ∧ Mut B zBd w w'
def donePost (w : World) (B h o v : Nat) (V' : List (Pth × Nd)) (next : Option En) (cE : Nat) (e : Ending) (w' : World) : Prop := e = .returned (.bool true) ∧ HostI w' B h o v V' cE next ∧ Mut B zBd w w'
theorem zJy {w : World} {B h o v c d n : Nat} {V V' : List (Pth × Nd)} {base : Option En} {fs : List Af} {L M : Nat → List Mv} {cV : Value} (hi : HostI w B h o v V c base) (hcv : ComeW w d cV fs) (h0 : 0 < B) (hc : c + 1 + n ≤ 110) (hV : V.length ≤ 40) (hne : fs ≠ []) (hpk : PkgOk d fs) (hfl : fs.length ≤ 2) (hen : EnOk (zCg d fs)) (hnew : NewerB base d) (hplan : ∀ xs : List (Af × Value), xs.map Prod.fst = fs → PlanOk V [] base (some (zCg d fs)) xs L M) (hok : TxOk (zB4 (M (zAn base).length) fs [])) (h10 : (M (zAn base).length).length ≤ 10) (hup : UpOk fs V (zB4 (M (zAn base).length) fs []) (zEm d fs) V' n) {mx : Int} (hmx : w.cell? ⟨0, 0, none⟩ = some (.int .i64 mx)) :
  Calls Tryz.prog 7 #[.pointer (some ⟨h, 0, none⟩), .agg #[cV, .slice none 0 0]] w (zKm w B h o v V' fs (some (zCg d fs)) (c + 1 + n) (n + 2)) := by
 obtain ⟨x, rfl, hh, hid⟩ := hi;obtain ⟨V1, sh1, sh', hd, hr, hl⟩ := hup;refine (Ask_any hh hcv (fun _ => ⟨hpk, hfl⟩) ⟨_, _, _, rfl⟩ hid.lo.2.2 (Begin_come hid h0 (by omega) hV hne hpk hen hnew hplan hok hd hmx) hr.few.1 (by omega) hmx).mono ?_;rintro e w' ⟨rfl, x', hb, e1, e2, m⟩;refine ⟨rfl, ⟨x', sh', e1, hh.mut m (by decide), ⟨V1, sh1, c + 1, _, 0, n, hb, hr, rfl, hok, h10, by omega, fun _ => rfl, by omega⟩, hl⟩, m⟩
theorem Ask_gone {w : World} {B h o v c gb gc n : Nat} {V V' : List (Pth × Nd)} {en : En} {L M : Nat → List Mv} (hi : HostI w B h o v V c (some en)) (hg : SRow w (.slice (some ⟨gb, 0, none⟩) 1 gc) [nmA]) (hgc : w.cell? ⟨gb, 0, none⟩ = some (.string (ba nmA))) (h0 : 0 < B) (hc : c + 1 + n ≤ 110) (hV : V.length ≤ 40) (hplan : PlanOk V [] (some en) none [] L M) (hok : TxOk (zB4 (M (zAn (some en)).length) [] [nmA])) (h10 : (M (zAn (some en)).length).length ≤ 10) (hup : UpOk [] V (zB4 (M (zAn (some en)).length) [] [nmA]) (zEm 1 []) V' n) {mx : Int} (hmx : w.cell? ⟨0, 0, none⟩ = some (.int .i64 mx)) :
  Calls Tryz.prog 7 #[.pointer (some ⟨h, 0, none⟩), .agg #[.slice none 0 0, .slice (some ⟨gb, 0, none⟩) 1 gc]] w (zKm w B h o v V' [] none (c + 1 + n) (n + 2)) := by
 obtain ⟨x, rfl, hh, hid⟩ := hi;obtain ⟨V1, sh1, sh', hd, hr, hl⟩ := hup;refine (Ask_any (d := 1) hh .nil (fun h => absurd rfl h) ⟨_, _, _, rfl⟩ hid.lo.2.2 (Begin_gone hid h0 (by omega) hV hg hgc hplan hok hd hmx) hr.few.1 (by omega) hmx).mono ?_;rintro e w' ⟨rfl, x', hb, e1, e2, m⟩;refine ⟨rfl, ⟨x', sh', e1, hh.mut m (by decide), ⟨V1, sh1, c + 1, _, 0, n, hb, hr, rfl, hok, h10, by omega, fun _ => rfl, by omega⟩, hl⟩, m⟩
theorem zNx {w : World} {B h o v cE m R : Nat} {V' : List (Pth × Nd)} {fs : List Af} {next : Option En} (hi : HostM w B h o v V' fs next cE m) (hm : m ≤ R) (hR : R ≤ 1000) (h0 : 0 < B) (hB : B ≤ w.heap.size) (hc : cE ≤ 110) (hV : V'.length ≤ 40) {mx : Int} (hmx : w.cell? ⟨0, 0, none⟩ = some (.int .i64 mx)) :
  Calls Tryz.prog 8 #[.pointer (some ⟨h, 0, none⟩), .int .i64 R] w (donePost w B h o v V' next cE) := by
 obtain ⟨x, sh', rfl, hh, hw, hl⟩ := hi;refine (Settle_any hh hw hm hR h0 hB hc hV txn_ok hmx).mono ?_;rintro e w' ⟨rfl, x', hid, e1, e2, mm⟩;exact ⟨rfl, ⟨x', e1, hh.mut mm (by decide), ⟨hid.blk, hid.vol.shrink (fun p hp _ => hl p hp), hid.tx, hid.bm, hid.gr, hid.lg, hid.lo⟩⟩, mm⟩
def enB (d : Nat) (b : List UInt8) : List UInt8 := zO8 (zCg d (fB b))
theorem zGd (e b en : List UInt8) : (zK1 e b en).length ≤ 40 := by
 have : (zK1 e b en).length = 11 := rfl;omega
theorem zJ9 (d0 d : Nat) (fs : List Af) (h : d0 < d) : NewerB (some (zCg d0 fs)) d := fun e he => by
 cases he;exact ⟨d0, h, rfl⟩
theorem zOv (d : Nat) : NewerB none d := fun e he => by cases he
theorem fB_ne (b : List UInt8) : fB b ≠ [] := by simp [fB]
section
variable {w : World} {B h o v c d d0 : Nat} {b b0 e : List UInt8} {cV : Value}
theorem Up_first (hi : HostI w B h o v zCi c none) (hcv : ComeW w d cV (fB b)) (h0 : 0 < B) (hc : c + 12 ≤ 110) (hd : d < 10) (hb : b.length ≤ 350) {mx : Int} (hmx : w.cell? ⟨0, 0, none⟩ = some (.int .i64 mx)) :
  Calls Tryz.prog 7 #[.pointer (some ⟨h, 0, none⟩), .agg #[cV, .slice none 0 0]] w (zKm w B h o v (zK1 b b (enB d b)) (fB b) (some (zCg d (fB b))) (c + 1 + 11) (11 + 2)) :=
 zJy hi hcv h0 (by omega) (by decide) (fB_ne b) (fB_pkg hd (by omega)) (by simp [fB]) fB_en (zOv d) (fun xs hx => planB hx) txIsB (by simp [mvB]) (runB hb fB_ent) hmx
theorem Up_next (hi : HostI w B h o v (zK1 e b0 (enB d0 b0)) c (some (zCg d0 (fB b0)))) (hcv : ComeW w d cV (fB b)) (h0 : 0 < B) (hc : c + 8 ≤ 110) (hd0 : d0 < d) (hd : d < 10) (hb : b.length ≤ 350) (hb0 : b0.length ≤ 350) (he : e.length ≤ 350) (tu : Bool) (ht : if tu then zA3 e ≠ zA3 b0 else e = b0) {mx : Int} (hmx : w.cell? ⟨0, 0, none⟩ = some (.int .i64 mx)) :
  ∃ n, n ≤ 7 ∧ Calls Tryz.prog 7 #[.pointer (some ⟨h, 0, none⟩), .agg #[cV, .slice none 0 0]] w (zKm w B h o v (zK1 (if tu then e else b) b (enB d b)) (fB b) (some (zCg d (fB b))) (c + 1 + n) (n + 2)) := by
 have hf2 : (zAn (some (zCg d0 (fB b0)))).length = 2 := by rw [zIf]; rfl
 by_cases hbb : b0 = b
 ·subst hbb;refine ⟨3, by omega, ?_⟩
  have hk : e = b0 ∨ zA3 e ≠ zA3 b0 := by
   cases tu with
   | true => exact .inr ht
   | false => exact .inl ht
  have hV : zK1 (if tu then e else b0) b0 (enB d b0) = zK1 e b0 (enB d b0) := by
   cases tu with
   | true => rfl
   | false => rw [show e = b0 from ht]; rfl
  rw [hV];exact zJy hi hcv h0 (by omega) (zGd _ _ _) (fB_ne b0) (fB_pkg hd (by omega)) (by simp [fB]) fB_en (zJ9 d0 d _ hd0) (fun xs hx => planN hx (by omega) (by omega) hk) txIsN (by simp [mvN]) (runN fB_ent) hmx
 ·cases tu with
  | true =>
    exact ⟨5, by omega, zJy hi hcv h0 (by omega) (zGd _ _ _) (fB_ne b) (fB_pkg hd (by omega)) (by simp [fB]) fB_en (zJ9 d0 d _ hd0) (fun xs hx => planD hx (by omega) (by omega) (by omega) hbb ht) txIsD (by simp [mvD]) (runD hb fB_ent) hmx⟩
  | false =>
    have hee : e = b0 := ht;subst hee;exact ⟨7, by omega, zJy hi hcv h0 (by omega) (zGd _ _ _) (fB_ne b) (fB_pkg hd (by omega)) (by simp [fB]) fB_en (zJ9 d0 d _ hd0) (fun xs hx => planC hx (by omega) (by omega) hbb) txIsC (by simp [mvC]) (runC hb fB_ent) hmx⟩
theorem Up_gone {gb gc : Nat} (hi : HostI w B h o v (zK1 e b0 (enB d0 b0)) c (some (zCg d0 (fB b0)))) (hg : SRow w (.slice (some ⟨gb, 0, none⟩) 1 gc) [nmA]) (hgc : w.cell? ⟨gb, 0, none⟩ = some (.string (ba nmA))) (h0 : 0 < B) (hc : c + 6 ≤ 110) (hb0 : b0.length ≤ 350) (he : e.length ≤ 350) (ht : zA3 e ≠ zA3 b0) {mx : Int} (hmx : w.cell? ⟨0, 0, none⟩ = some (.int .i64 mx)) :
  Calls Tryz.prog 7 #[.pointer (some ⟨h, 0, none⟩), .agg #[.slice none 0 0, .slice (some ⟨gb, 0, none⟩) 1 gc]] w (zKm w B h o v (vEnd e) [] none (c + 1 + 5) (5 + 2)) := by
 have hf2 : (zAn (some (zCg d0 (fB b0)))).length = 2 := by rw [zIf]; rfl
 have hm : mE (zAn (some (zCg d0 (fB b0)))).length = mvE := by rw [hf2]; rfl
 have hp := planE (d0 := d0) (en := enB d0 b0) (e := e) (b0 := b0) (by omega) (by omega) ht;exact Ask_gone (n := 5) (M := mE) hi hg hgc h0 (by omega) (zGd _ _ _) hp (by rw [hm]; exact txIsE) (by rw [hm]; simp [mvE]) (by rw [hm]; exact runE) hmx
theorem Up_sound (hi : HostI w B h o v zCi c none) (hcv : ComeW w 1 cV [⟨pF, false, [120]⟩]) (h0 : 0 < B) (hc : c + 6 ≤ 110) {mx : Int} (hmx : w.cell? ⟨0, 0, none⟩ = some (.int .i64 mx)) :
  Calls Tryz.prog 7 #[.pointer (some ⟨h, 0, none⟩), .agg #[cV, .slice none 0 0]] w (zKm w B h o v (zCi ++ [(names pF, fN [120]), (names (sub pDb nmA), fN (zO8 (zCg 1 [⟨pF, false, [120]⟩])))]) [⟨pF, false, [120]⟩] (some (zCg 1 [⟨pF, false, [120]⟩])) (c + 1 + 5) (5 + 2)) :=
 zJy hi hcv h0 (by omega) (by decide) (by simp) (fA_pkg (by omega) (by simp)) (by simp) fA_en (zOv 1) (fun xs hx => planA hx) txIsA (by simp [mvA]) (runA (by simp) fA_ent) hmx
end
def StU (w : World) (B h o v : Nat) (mine : List UInt8) (n k : Nat) : Prop :=
 (k = 0 ∧ HostI w B h o v zCi 1 none) ∨ (0 < k ∧ ∃ (b0 : List UInt8) (c : Nat), b0.length ≤ 100 ∧ zA3 mine ≠ zA3 b0 ∧ c ≤ 5 + 9 * k ∧ HostI w B h o v (zK1 (if n / 2 < k then mine else b0) b0 (enB k b0)) c (some (zCg k (fB b0))))
def StV (w : World) (B h o v : Nat) (mine b : List UInt8) (n k : Nat) : Prop :=
 ∃ c, c ≤ 4 + 9 * (k + 1) ∧ HostI w B h o v (zK1 (if n / 2 < k then mine else b) b (enB (k + 1) b)) c (some (zCg (k + 1) (fB b)))
def StM (w : World) (B h o v : Nat) (mine b : List UInt8) (n k : Nat) : Prop :=
 ∃ c m, c ≤ 4 + 9 * (k + 1) ∧ m ≤ 13 ∧ HostM w B h o v (zK1 (if n / 2 < k then mine else b) b (enB (k + 1) b)) (fB b) (some (zCg (k + 1) (fB b))) c m
section
variable {w w' : World} {B h o v n k : Nat} {mine b : List UInt8}
theorem StU.ext (s : StU w B h o v mine n k) (x : Ext w w') : StU w' B h o v mine n k := by
 rcases s with ⟨h1, h2⟩ | ⟨h1, b0, c, h2, h3, h4, h5⟩
 ·exact .inl ⟨h1, h2.ext x⟩
 ·exact .inr ⟨h1, b0, c, h2, h3, h4, h5.ext x⟩
theorem StV.ext (s : StV w B h o v mine b n k) (x : Ext w w') : StV w' B h o v mine b n k := by
 obtain ⟨c, h1, h2⟩ := s;exact ⟨c, h1, h2.ext x⟩
theorem users_ask (s : StU w B h o v mine n k) (hk : k < 8) (hb : b.length ≤ 100) (hm : mine.length ≤ 100) {cV : Value} (hcv : ComeW w (k + 1) cV (fB b)) (h0 : 0 < B) {mx : Int} (hmx : w.cell? ⟨0, 0, none⟩ = some (.int .i64 mx)) :
  Calls Tryz.prog 7 #[.pointer (some ⟨h, 0, none⟩), .agg #[cV, .slice none 0 0]] w fun e w' => e = .returned (.agg #[.int .i64 0, .string ⟨#[]⟩, .string ⟨#[]⟩]) ∧ StM w' B h o v mine b n k ∧ Mut B zBd w w' := by
 rcases s with ⟨rfl, h2⟩ | ⟨h1, b0, c, h2, h3, h4, h5⟩
 ·refine (Up_first h2 hcv h0 (by omega) (by omega) (by omega) hmx).mono ?_;rintro e w' ⟨he, hh, hmu⟩;exact ⟨he, ⟨1 + 1 + 11, 11 + 2, by omega, by omega, by rw [if_neg (by omega)]; exact hh⟩, hmu⟩
 ·by_cases ht : n / 2 < k
  ·rw [if_pos ht] at h5;obtain ⟨u, hu, hc⟩ := Up_next h5 hcv h0 (by omega) (by omega) (by omega) (by omega) (by omega) (by omega) true (by simpa using h3) hmx;refine hc.mono ?_;rintro e w' ⟨he, hh, hmu⟩;exact ⟨he, ⟨c + 1 + u, u + 2, by omega, by omega, by rw [if_pos ht]; exact hh⟩, hmu⟩
  ·rw [if_neg ht] at h5;obtain ⟨u, hu, hc⟩ := Up_next h5 hcv h0 (by omega) (by omega) (by omega) (by omega) (by omega) (by omega) false (by simp) hmx;refine hc.mono ?_;rintro e w' ⟨he, hh, hmu⟩;exact ⟨he, ⟨c + 1 + u, u + 2, by omega, by omega, by rw [if_neg ht]; exact hh⟩, hmu⟩
theorem users_settle (s : StM w B h o v mine b n k) (hk : k < 8) (h0 : 0 < B) (hB : B ≤ w.heap.size) {mx : Int} (hmx : w.cell? ⟨0, 0, none⟩ = some (.int .i64 mx)) :
  Calls Tryz.prog 8 #[.pointer (some ⟨h, 0, none⟩), .int .i64 500] w fun e w' => e = .returned (.bool true) ∧ StV w' B h o v mine b n k ∧ Mut B zBd w w' := by
 obtain ⟨c, m, h1, h2, h3⟩ := s;refine (zNx (R := 500) h3 (by omega) (by omega) h0 hB (by omega) (zGd _ _ _) hmx).mono ?_;rintro e w' ⟨he, hh, hmu⟩;exact ⟨he, ⟨c, h1, hh⟩, hmu⟩
theorem zF7 {V : List (Pth × Nd)} {c : Nat} {base : Option En} (s : HostI w B h o v V c base) (hc : c ≤ 1000) (hV : V.length ≤ 40) :
  Calls Tryz.prog 9 #[.pointer (some ⟨h, 0, none⟩)] w (zJ0 w V []) := by
 obtain ⟨x, rfl, hh, hi⟩ := s;obtain ⟨t, l, hb, h1, h2⟩ := hi.vol.read hc (by omega);exact zPf hh h1 h2
theorem zJ1 {t : Nat} {V : List (Pth × Nd)} (ht : TreeV w t V []) {s : Str} {ns : Pth} (hs : SplitOk s ns) {data : List UInt8} (hl : look V ns = some ⟨false, data⟩) {mx : Int} (hmx : w.cell? ⟨0, 0, none⟩ = some (.int .i64 mx)) :
  Calls Tryz.prog 10 #[.pointer (some ⟨t, 0, none⟩), .string (ba s)] w fun e w' => ∃ u, e = .returned (.tuple #[u, .int .i64 0]) ∧ BytesIs w' u data ∧ Ext w w' := by
 refine (zB7 ht hs hmx).mono ?_;rintro e w' ⟨x, hh⟩;rw [hl] at hh;obtain ⟨u, he, hd⟩ := hh;exact ⟨u, he, hd.weak, x⟩
theorem users_edit (s : StV w B h o v mine b n k) (hk : k < 8) (hnk : k = n / 2) (hb : b.length ≤ 100) (hm : mine.length ≤ 100) (hcr : zA3 mine ≠ zA3 b) {mv : Value} (hmv : Bytes w mv mine) {mx : Int} (hmx : w.cell? ⟨0, 0, none⟩ = some (.int .i64 mx)) :
  Calls Tryz.prog 11 #[.pointer (some ⟨h, 0, none⟩), .string (ba zA4), mv] w fun e w' => e = .returned (.int .i64 0) ∧ StU w' B h o v mine n (k + 1) ∧ Mut B zBj w w' := by
 obtain ⟨c, hc, hs⟩ := s;rw [if_neg (by omega)] at hs;obtain ⟨x, rfl, hh, hi⟩ := hs;refine (Edit_any hh hi (by omega) (zGd _ _ _) (zGd _ _ _) zKi (by decide) (by decide) (by rw [show [[101, 116, 99], [97]] = names zA4 from rfl, zGe]; rfl) hmv (edit_ok (by omega)) hmx).mono ?_;rintro e w' ⟨he, hj, hmu⟩;refine ⟨he, .inr ⟨by omega, b, c + 1, hb, hcr, by omega, ?_⟩, hmu⟩;rw [if_pos (by omega)];exact ⟨x, rfl, hh.mut hmu (by decide), hj⟩
theorem StV.next (s : StV w B h o v mine b n k) (hnk : k ≠ n / 2) (hb : b.length ≤ 100) (hcr : zA3 mine ≠ zA3 b) : StU w B h o v mine n (k + 1) := by
 obtain ⟨c, hc, hs⟩ := s;refine .inr ⟨by omega, b, c, hb, hcr, by omega, ?_⟩
 by_cases ht : n / 2 < k
 ·rw [if_pos ht] at hs;rw [if_pos (by omega)];exact hs
 ·rw [if_neg ht] at hs;rw [if_neg (by omega)];exact hs
def StE (w : World) (B h o v : Nat) (mine : List UInt8) : Prop := ∃ c, c ≤ 100 ∧ HostI w B h o v (vEnd mine) c none
def StF (w : World) (B h o v : Nat) (mine : List UInt8) : Prop := ∃ c m, c ≤ 100 ∧ m ≤ 13 ∧ HostM w B h o v (vEnd mine) [] none c m
theorem users_gone (s : StU w B h o v mine n n) (hn : 0 < n) (hk : n ≤ 8) (hm : mine.length ≤ 100) {gb gc : Nat} (hg : SRow w (.slice (some ⟨gb, 0, none⟩) 1 gc) [nmA]) (hgc : w.cell? ⟨gb, 0, none⟩ = some (.string (ba nmA))) (h0 : 0 < B) {mx : Int} (hmx : w.cell? ⟨0, 0, none⟩ = some (.int .i64 mx)) :
  Calls Tryz.prog 7 #[.pointer (some ⟨h, 0, none⟩), .agg #[.slice none 0 0, .slice (some ⟨gb, 0, none⟩) 1 gc]] w fun e w' => e = .returned (.agg #[.int .i64 0, .string ⟨#[]⟩, .string ⟨#[]⟩]) ∧ StF w' B h o v mine ∧ Mut B zBd w w' := by
 rcases s with ⟨h1, -⟩ | ⟨h1, b0, c, h2, h3, h4, h5⟩
 ·omega
 ·rw [if_pos (by omega)] at h5;refine (Up_gone h5 hg hgc h0 (by omega) (by omega) (by omega) h3 hmx).mono ?_;rintro e w' ⟨he, hh, hmu⟩;exact ⟨he, ⟨_, _, by omega, by omega, hh⟩, hmu⟩
theorem zPi (s : StF w B h o v mine) (h0 : 0 < B) (hB : B ≤ w.heap.size) {mx : Int} (hmx : w.cell? ⟨0, 0, none⟩ = some (.int .i64 mx)) :
  Calls Tryz.prog 8 #[.pointer (some ⟨h, 0, none⟩), .int .i64 500] w fun e w' => e = .returned (.bool true) ∧ StE w' B h o v mine ∧ Mut B zBd w w' := by
 obtain ⟨c, m, h1, h2, h3⟩ := s;refine (zNx (R := 500) h3 (by omega) (by omega) h0 hB (by omega) (by have : (vEnd mine).length = 9 := rfl; omega) hmx).mono ?_;rintro e w' ⟨he, hh, hmu⟩;exact ⟨he, ⟨c, h1, hh⟩, hmu⟩
theorem zMf {t : Nat} {V : List (Pth × Nd)} (ht : TreeV w t V []) {s : Str} {ns : Pth} (hs : SplitOk s ns) (hl : look V ns = none) {mx : Int} (hmx : w.cell? ⟨0, 0, none⟩ = some (.int .i64 mx)) :
  Calls Tryz.prog 10 #[.pointer (some ⟨t, 0, none⟩), .string (ba s)] w fun e w' => e = .returned (.tuple #[.slice none 0 0, .int .i64 8]) ∧ Ext w w' := by
 refine (zB7 ht hs hmx).mono ?_;rintro e w' ⟨x, hh⟩;rw [hl] at hh;exact ⟨hh, x⟩
theorem ref_any (l : List UInt8) (u : Value) (w : World) (hl : l.length ≤ 300) (hb : Bytes w u l) : Calls Tryz.prog 6 #[u] w fun e w' => e = .returned (.int .u32 (zA3 l : Nat)) ∧ Ext w w' :=
 (ref_of l u w hl hb).mono fun e w' ⟨h1, h2⟩ => ⟨by rw [h1, refSum_eq], h2⟩
end
theorem zJ8 {R : RT} {W : World} {g : Nat} (rs : List (List Value)) (h : W.heap[g]? = some (.cells rs.flatten.toArray R.et (0, 0))) (hl : ∀ r ∈ rs, r.length = R.s) (ho : ∀ r ∈ rs, ∀ u ∈ r, u.oneCell' = true) (hn : rs.length ≤ 1000) : ORow R W 0 (.slice (some ⟨g, 0, none⟩) rs.length rs.length) rs := by
 have hf : rs.flatten.length = rs.length * R.s := zEv hl;refine ⟨⟨hf, .inr ⟨g, rs.length, rs.flatten.toArray, rfl, Nat.zero_le _, h, Nat.le_refl _, by unfold maxLen; omega, by simpa using hf, ?_⟩⟩, hl, ho⟩;show rs.flatten.take (rs.length * R.s) = rs.flatten;rw [← hf];exact List.take_length
theorem zM0 (w : World) (o : Obj) : (w.alloc o).heap[w.heap.size]? = some o := by
 show (w.heap.push o)[w.heap.size]? = some o;exact Array.getElem?_push_size
theorem come_one {W : World} {g : Nat} {d : Nat} {fa : Option Addr} {fc : Nat} {xs : List (Af × Value)} (hg : W.heap[g]? = some (.cells #[.string (ba nmA), .string (ba (dig d)), .slice none 0 0, .slice none 0 0, .slice fa xs.length fc, .slice none 0 0] 35 (0, 0))) (hf : ArcW W (.slice fa xs.length fc) xs) (h0 : 0 < xs.length) (hd : ∀ x ∈ xs, x.1.data.length ≤ 512) :
  ComeW W d (.slice (some ⟨g, 0, none⟩) 1 1) (xs.map Prod.fst) :=
 .one (zJ8 (R := rPkg) [[.string (ba nmA), .string (ba (dig d)), .slice none 0 0, .slice none 0 0, .slice fa xs.length fc, .slice none 0 0]] hg (by simp [rPkg]) (by simp [Value.oneCell']) (by simp)) hf h0 hd
set_option maxHeartbeats 4000000 in
theorem Sound_any (w : World) (h0 : 0 < w.heap.size) {mx : Int} (hmx : w.cell? ⟨0, 0, none⟩ = some (.int .i64 mx)) :
  Calls Tryz.prog 4 #[] w fun e w' => e = .returned (.bool true) ∧ Ext w w' := by
 have HMD := zh (Made_any w h0 hmx);have HMX := zh hmx;clear hmx;go_enter Tryz.func4, Tryz.ntmps4
 go_upto_region 2 with (go_at_call 5; refine HMD.out.mono ?_; rintro e w2 ⟨h, rfl, p2, x2⟩; have P2 := zh p2; have X2 := zh x2; clear p2 x2)
 obtain ⟨o, x, hhb, hid⟩ := P2.out
 obtain ⟨W, hW⟩ : ∃ W, W = ((w2.alloc (.cells #[.int .u8 120] 5 (1, 2))).alloc (.cells #[.string ⟨#[47, 102]⟩, .bool false, .slice (some ⟨w2.heap.size, 0, none⟩) 1 1] 30)).alloc (.cells #[.string ⟨#[97]⟩, .string ⟨#[49]⟩, .slice none 0 0, .slice none 0 0, .slice (some ⟨w2.heap.size + 1, 0, none⟩) 1 1, .slice none 0 0] 35) := ⟨_, rfl⟩
 have XW := zh (show Ext w2 W by rw [hW]; exact (((xr w2).alloc _).alloc _).alloc _);have kc := Lib.run_convert_bytes_const (P := Tryz.prog) w2 23 5 #[.int .u8 120] 1 1 Tryz.underlying23 Tryz.underlying5;have k0 : W.heap[w2.heap.size]? = some (.cells #[.int .u8 120] 5 (1, 2)) := by rw [hW]; exact (((xr _).alloc _).alloc _).get (zM0 w2 (.cells #[.int .u8 120] 5 (1, 2)))
 have k1 : W.heap[w2.heap.size + 1]? = some (.cells #[.string (ba pF), .bool false, .slice (some ⟨w2.heap.size, 0, none⟩) 1 1] 30 (0, 0)) := by
  rw [hW];have := heap_alloc_new (w2.alloc (.cells #[.int .u8 120] 5 (1, 2))) (.cells #[.string ⟨#[47, 102]⟩, .bool false, .slice (some ⟨w2.heap.size, 0, none⟩) 1 1] 30);rw [show (w2.alloc (.cells #[.int .u8 120] 5 (1, 2))).heap.size = w2.heap.size + 1 by simp] at this;exact ((xr _).alloc _).get this
 have k2 : W.heap[w2.heap.size + 1 + 1]? = some (.cells #[.string (ba nmA), .string (ba (dig 1)), .slice none 0 0, .slice none 0 0, .slice (some ⟨w2.heap.size + 1, 0, none⟩) 1 1, .slice none 0 0] 35 (0, 0)) := by
  rw [hW];have := heap_alloc_new ((w2.alloc (.cells #[.int .u8 120] 5 (1, 2))).alloc (.cells #[.string ⟨#[47, 102]⟩, .bool false, .slice (some ⟨w2.heap.size, 0, none⟩) 1 1] 30)) (.cells #[.string ⟨#[97]⟩, .string ⟨#[49]⟩, .slice none 0 0, .slice none 0 0, .slice (some ⟨w2.heap.size + 1, 0, none⟩) 1 1, .slice none 0 0] 35)
  rwa [show ((w2.alloc (.cells #[.int .u8 120] 5 (1, 2))).alloc (.cells #[.string ⟨#[47, 102]⟩, .bool false, .slice (some ⟨w2.heap.size, 0, none⟩) 1 1] 30)).heap.size = w2.heap.size + 1 + 1 by simp] at this
 have ho : BytesIs W (.slice (some ⟨w2.heap.size, 0, none⟩) 1 1) [120] := ⟨_, _, rfl, by simp, by simp, (fun h => by cases h), fun i hi => by
  obtain rfl : i = 0 := by simpa using hi
  exact ⟨_, _, rfl, by rw [zAb k0]; rfl⟩⟩
 have ha : ArcW W (.slice (some ⟨w2.heap.size + 1, 0, none⟩) 1 1) [(⟨pF, false, [120]⟩, .slice (some ⟨w2.heap.size, 0, none⟩) 1 1)] :=
  ⟨zJ8 (R := rFile) [[.string (ba pF), .bool false, .slice (some ⟨w2.heap.size, 0, none⟩) 1 1]] k1 (by simp [rFile]) (by simp [Value.oneCell']) (by simp), fun y hy => by rw [List.mem_singleton] at hy; subst hy; exact ho, by simp⟩
 have HCI := zh (come_one (d := 1) (xs := [(⟨pF, false, [120]⟩, .slice (some ⟨w2.heap.size, 0, none⟩) 1 1)]) k2 ha (by simp) (by simp))
 have HI : Hid (HostI W w.heap.size h o x.v zCi 1 none) := ⟨x, rfl, hhb.ext XW.out, hid.ext XW.out⟩
 have HMW := zh ((X2.out.trans XW.out).cell HMX.out);have HASK := zh (Up_sound HI.out HCI.out h0 (by decide) HMW.out);clear hhb hid P2 k0 k1 k2 ho ha;have hsz := (X2.out.trans XW.out).sz
 go_wp2_with (first
  | (rw [← hW]; go_at_call 7; refine HASK.out.mono ?_; rintro e w3 ⟨rfl, hm3, m3⟩; have HM3 := zh hm3; have M3 := zh m3; clear hm3 m3)
  | (go_at_call 8; refine (zNx (R := 100) HM3.out (by decide) (by decide) h0 (Nat.le_trans hsz M3.out.size) (by decide) (by decide) (((M3.out.below hsz).cell h0).trans HMW.out)).mono ?_; rintro e w4 ⟨rfl, hi4, m4⟩; have HI4 := zh hi4; have M4 := zh m4; (obtain ⟨x4, hx4, hb4, hd4⟩ := hi4); (obtain ⟨c40, c42, c44, c4f⟩ := hb4.cells); have HD4 := zh hd4; clear hb4 hd4 hx4 m4)
  | (go_at_call 12; (obtain ⟨b, hb1, hb2⟩ := HD4.out.bm); have HB4 := zh hb2; refine (OBase_any HD4.out.blk hb1).mono ?_; rintro e w5 ⟨rfl, x5⟩; have X5 := zh x5; clear x5 hb1 hb2)
  | (go_at_call 13; refine (zE4 (HB4.out.ext X5.out)).mono ?_; rintro e w6 ⟨v6, rfl, o6, x6⟩; (obtain ⟨a6, c6, rfl⟩ := zAj o6); have X6 := zh x6; clear o6 x6))
 go_ret
 exact ⟨rfl, (((X2.out.trans XW.out).then_mut (M3.out.trans M4.out) (Nat.le_refl _)).trans X5.out).trans X6.out⟩
end
end Go.Proofs.YtgnjjfdfoibdiaaGreatDoor
