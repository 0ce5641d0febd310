/- A part of the proof of WholeUsers. -/
import Derived.Test.YtgnjjfdfoibdiaaGreatDoorUal
set_option linter.all false
namespace Go.Proofs.YtgnjjfdfoibdiaaGreatDoor
section
open Go.RowKit Go.Maps Go.Sort Go.Lib
set_option maxRecDepth 100000
def BytesIs (w : World) (v : Value) (l : List UInt8) : Prop := Bytes w v l
theorem BytesIs.bytes {w : World} {v : Value} {l : List UInt8} (h : BytesIs w v l) : Bytes w v l := h
theorem BytesIs.ext {w w' : World} {v : Value} {l : List UInt8} (h : BytesIs w v l) (x : Ext w w') : BytesIs w' v l := Bytes.ext h x
theorem BytesIs.form {w : World} {v : Value} {l : List UInt8} (h : BytesIs w v l) : ∃ a c, v = .slice a l.length c := by
 obtain ⟨a, c, rfl, _⟩ := h;exact ⟨a, c, rfl⟩
theorem DataIs.weak {w : World} {v : Value} {l : List UInt8} (h : DataIs w v l) : BytesIs w v l := h.bytes
section
variable {w : World} {B n m t mb : Nat} {pb kb : Int → Nat} {dv : Int → Value} {T : Tr}
def zCj (w : World) (B n m t mb : Nat) (T' : Tr) (e : Ending) (w' : World) : Prop :=
 e = .returned (.int .i64 0) ∧ (∃ pb kb dv, TreeAt w' B (n + 1) (m + 1) t mb pb kb dv T') ∧ Mut B zA7 w w'
theorem TreeAt.lookKidD (h : TreeAt w B n m t mb pb kb dv T) {d : Pth} {nm : Str} {di : Int} (hin : T.In (d ++ [nm]) d nm di) (hnm : nm.length ≤ 12) :
  (Instr.lookup 83 (.map (some (kb di))) (.string (ba nm)) false).run Tryz.prog w = .ok (.int .i64 (atN T (d ++ [nm]))) w ∧ w.cell? ⟨pb di, 3, none⟩ = some (.map (some (kb di))) := by
 obtain ⟨x, hx, hxd⟩ := hin.dir;have h1 := h.lookKid hin.at_ hx hnm;have h2 := (h.cells hx).2.2.2;rw [hxd] at h1 h2;exact ⟨h1, h2⟩
theorem PathOk.last {s : Str} (h : PathOk s) {d : Pth} {nm : Str} (e : names s = d ++ [nm]) : nm.length ≤ 12 :=
 (zPq (h.ok.names nm (by rw [e]; simp))).len
theorem TreeAt.pbNe (h : TreeAt w B n m t mb pb kb dv T) {j : Int} {y : NdF} (hj : nfT T j = some y) : pb j < w.heap.size ∧ (y.dir = true → kb j < w.heap.size) := by
 have hc := h.core;exact ⟨(Array.getElem?_eq_some_iff.1 (hc.node j y hj)).1, fun hd => (hc.kids j y hj hd).lt⟩
theorem step_create (h : TreeAt w B n m t mb pb kb dv T) (hok : TreeOk T) (hB : B ≤ w.heap.size) (hn : n < 1000000) (hm : m < 1000000) {o : OpP} (hpo : PathOk o.path) {d : Pth} {nm : Str} {di : Int} (hin : T.In (names o.path) d nm di) (hno : look T.R (d ++ [nm]) = none)
  {v : Value} (hv : BytesIs w v o.data) (hdl : o.data.length ≤ 500) {mx : Int} (hmx : w.cell? ⟨0, 0, none⟩ = some (.int .i64 mx)) :
  Calls Tryz.prog 116 #[.pointer (some ⟨t, 0, none⟩), .agg #[.int .i64 2, .string (ba o.path), .string (ba o.to), v]] w (zCj w B n m t mb (T.made (d ++ [nm]) ⟨false, o.data⟩)) := by
 have hin2 := hin;rw [hin.path] at hin2;have hnm := hpo.last hin.path;obtain ⟨a, c, rfl⟩ := hv.form;have x1 : Ext w (w.alloc (.cells #[.int .i64 2, .string (ba o.path), .string (ba o.to), .slice a o.data.length c] 96)) := (xr w).alloc _;have HP := zh (zFs (h.ext x1) hok hpo hin (x1.cell hmx));have X1 := zh x1
 have KB : Hid (∀ W, Ext (w.alloc (.cells #[.int .i64 2, .string (ba o.path), .string (ba o.to), .slice a o.data.length c] 96)) W → W.cell? ⟨w.heap.size, 0, none⟩ = some (.int .i64 2) ∧ W.cell? ⟨w.heap.size, 3, none⟩ = some (.slice a o.data.length c)) := fun W x => by
  have hb := x.get (heap_alloc_new w (.cells #[.int .i64 2, .string (ba o.path), .string (ba o.to), .slice a o.data.length c] 96));exact ⟨by rw [zAb hb]; rfl, by rw [zAb hb]; rfl⟩
 have e0 : atN T (d ++ [nm]) = 0 := by unfold atN; rw [hno]; rfl
 have HL : Hid (∀ W, Ext w W → (Instr.lookup 83 (.map (some (kb di))) (.string (ba nm)) false).run Tryz.prog W = .ok (.int .i64 0) W ∧ W.cell? ⟨pb di, 3, none⟩ = some (.map (some (kb di)))) := fun W x => by
  obtain ⟨h1, h2⟩ := (h.ext x).lookKidD hin2 hnm;rw [e0] at h1;exact ⟨h1, h2⟩
 have HC : Hid (∀ W, Ext w W → Calls Tryz.prog 25 #[.slice a o.data.length c] W (zF0 W o.data)) := fun W x => zGs (hv.ext x).bytes (by omega)
 have HT := zh h;have hnp := h.wf.nextPos;have hnx := hok.next;have hdn := h.wf.notNext hin.at_;obtain ⟨x, hx, hxd⟩ := hin.dir
 have HM := zh (show ∀ W v', Ext w W → DataIs W v' o.data → Calls Tryz.prog 189 #[.pointer (some ⟨t, 0, none⟩), .pointer (some ⟨pb di, 0, none⟩), .string (ba nm), .pointer (some ⟨W.heap.size, 0, none⟩)] (W.alloc (.cells #[.bool false, .int .i64 1, v', .map none] 85)) (zPs (W.alloc (.cells #[.bool false, .int .i64 1, v', .map none] 85)) B (n + 1) (m + 1) t mb (upd pb T.next W.heap.size) (upd kb T.next 0) (upd dv T.next v') (upd (nfT T) T.next (some ⟨false, 1, o.data⟩)) (zKb (fun a => if a = T.next then (fun _ => none) else kfT T a) di nm (some T.next)) (T.next + 1) T.quota) from by
  intro W v' xw hd';have xa : Ext W (W.alloc (.cells #[.bool false, .int .i64 1, v', .map none] 85)) := (xr W).alloc _;have hc := (h.ext (xw.trans xa)).core
  exact make_any hc hn hm (by omega) hnx (zCd hx) hxd hdn hnm ⟨false, 1, o.data⟩ (pn := W.heap.size) (kn := 0) (heap_alloc_new W _) (hd'.ext xa) (fun e => by cases e) (fun j y hj => by have := (h.pbNe hj).1; have := xw.sz; omega) (fun j z _ _ e => by cases e) (fun e => by cases e) (by have := xw.sz; omega) (fun e => by cases e))
 have HF : Hid (∀ W' n' m' pb' kb' dv', CoreAt W' B n' m' t mb pb' kb' dv' (upd (nfT T) T.next (some ⟨false, 1, o.data⟩)) (zKb (fun a => if a = T.next then (fun _ => none) else kfT T a) di nm (some T.next)) (T.next + 1) T.quota → TreeAt W' B n' m' t mb pb' kb' dv' (T.made (d ++ [nm]) ⟨false, o.data⟩)) := fun W' n' m' pb' kb' dv' hc => madeT h.wf hin2 hno ⟨false, o.data⟩ hc
 have hdl2 : (o.data.length : Int) ≤ 500 := by omega
 clear h hok hpo hin hin2 hno hv hmx e0 hx hxd x1 hdn hnx hnp hdl;generalize o.data.length = dl at *;go_enter Tryz.func116, Tryz.ntmps116
 go_wp2_with (first
  | (go_at_call 188; refine HP.out.mono ?_; rintro e w2 ⟨rfl, x2⟩; have X2 := zh (X1.out.trans x2); (obtain ⟨hl1, hc3⟩ := HL.out _ X2.out); (obtain ⟨hb0, hb3⟩ := KB.out _ x2); clear x2)
  | (go_at_call 25; refine (HC.out _ X2.out).mono ?_; rintro e w3 ⟨v3, rfl, d3, x3⟩; have X3 := zh (X2.out.trans x3); have D3 := zh d3; clear x3 d3; (obtain ⟨a3, c3, rfl⟩ := D3.out.form))
  | (go_at_call 189; refine (HM.out _ _ X3.out D3.out).mono ?_; rintro e w4 ⟨rfl, C4, g4⟩; have C4 := zh C4; have G4 := zh g4; clear g4))
 go_ret
 exact ⟨rfl, ⟨_, _, _, HF.out _ _ _ _ _ _ C4.out⟩, (X3.out.mut.trans ((xr w3).alloc _).mut).trans G4.out⟩
theorem step_mkdir (h : TreeAt w B n m t mb pb kb dv T) (hok : TreeOk T) (hB : B ≤ w.heap.size) (hn : n < 1000000) (hm : m < 1000000) {o : OpP} (hpo : PathOk o.path) {d : Pth} {nm : Str} {di : Int} (hin : T.In (names o.path) d nm di) (hno : look T.R (d ++ [nm]) = none)
  {v : Value} (hv : BytesIs w v o.data) (hdl : o.data.length ≤ 500) {mx : Int} (hmx : w.cell? ⟨0, 0, none⟩ = some (.int .i64 mx)) :
  Calls Tryz.prog 116 #[.pointer (some ⟨t, 0, none⟩), .agg #[.int .i64 0, .string (ba o.path), .string (ba o.to), v]] w (zCj w B n m t mb (T.made (d ++ [nm]) ⟨true, []⟩)) := by
 have hmm := @run_makeMap Tryz.prog;have hin2 := hin;rw [hin.path] at hin2;have hnm := hpo.last hin.path;obtain ⟨a, c, rfl⟩ := hv.form;have x1 : Ext w (w.alloc (.cells #[.int .i64 0, .string (ba o.path), .string (ba o.to), .slice a o.data.length c] 96)) := (xr w).alloc _;have HP := zh (zFs (h.ext x1) hok hpo hin (x1.cell hmx));have X1 := zh x1
 have KB : Hid (∀ W, Ext (w.alloc (.cells #[.int .i64 0, .string (ba o.path), .string (ba o.to), .slice a o.data.length c] 96)) W → W.cell? ⟨w.heap.size, 0, none⟩ = some (.int .i64 0) ∧ W.cell? ⟨w.heap.size, 3, none⟩ = some (.slice a o.data.length c)) := fun W x => by
  have hb := x.get (heap_alloc_new w (.cells #[.int .i64 0, .string (ba o.path), .string (ba o.to), .slice a o.data.length c] 96));exact ⟨by rw [zAb hb]; rfl, by rw [zAb hb]; rfl⟩
 have e0 : atN T (d ++ [nm]) = 0 := by unfold atN; rw [hno]; rfl
 have HL : Hid (∀ W, Ext w W → (Instr.lookup 83 (.map (some (kb di))) (.string (ba nm)) false).run Tryz.prog W = .ok (.int .i64 0) W ∧ W.cell? ⟨pb di, 3, none⟩ = some (.map (some (kb di)))) := fun W x => by
  obtain ⟨h1, h2⟩ := (h.ext x).lookKidD hin2 hnm;rw [e0] at h1;exact ⟨h1, h2⟩
 have HT := zh h;have hnp := h.wf.nextPos;have hnx := hok.next;have hdn := h.wf.notNext hin.at_;obtain ⟨x, hx, hxd⟩ := hin.dir
 have HM := zh (show ∀ W, Ext w W → Calls Tryz.prog 189 #[.pointer (some ⟨t, 0, none⟩), .pointer (some ⟨pb di, 0, none⟩), .string (ba nm), .pointer (some ⟨W.heap.size + 1, 0, none⟩)] ((W.alloc (.map #[] 0)).alloc (.cells #[.bool true, .int .i64 1, .slice none 0 0, .map (some W.heap.size)] 85)) (zPs ((W.alloc (.map #[] 0)).alloc (.cells #[.bool true, .int .i64 1, .slice none 0 0, .map (some W.heap.size)] 85)) B (n + 1) (m + 1) t mb (upd pb T.next (W.heap.size + 1)) (upd kb T.next W.heap.size) (upd dv T.next (.slice none 0 0)) (upd (nfT T) T.next (some ⟨true, 1, []⟩)) (zKb (fun a => if a = T.next then (fun _ => none) else kfT T a) di nm (some T.next)) (T.next + 1) T.quota) from by
  intro W xw;have xa : Ext W ((W.alloc (.map #[] 0)).alloc (.cells #[.bool true, .int .i64 1, .slice none 0 0, .map (some W.heap.size)] 85)) := ((xr W).alloc _).alloc _;have hc := (h.ext (xw.trans xa)).core;have hb := heap_alloc_new (W.alloc (.map #[] 0)) (.cells #[.bool true, .int .i64 1, .slice none 0 0, .map (some W.heap.size)] 85);rw [World.size_alloc] at hb;have hs := xw.sz
  exact make_any hc hn hm (by omega) hnx (zCd hx) hxd hdn hnm ⟨true, 1, []⟩ (pn := W.heap.size + 1) (kn := W.heap.size) hb (DataIs.nil _) (fun _ => (MapK.made strK W).mono (Nat.zero_le _) |>.ext ((xr _).alloc _)) (fun j y hj => by have := (h.pbNe hj).1; omega) (fun j z hj hz _ => by have := (h.pbNe hj).2 hz; omega) (fun _ => by have := h.nodes.lt; omega) (by omega) (fun _ => by omega))
 have HF : Hid (∀ W' n' m' pb' kb' dv', CoreAt W' B n' m' t mb pb' kb' dv' (upd (nfT T) T.next (some ⟨true, 1, []⟩)) (zKb (fun a => if a = T.next then (fun _ => none) else kfT T a) di nm (some T.next)) (T.next + 1) T.quota → TreeAt W' B n' m' t mb pb' kb' dv' (T.made (d ++ [nm]) ⟨true, []⟩)) := fun W' n' m' pb' kb' dv' hc => madeT h.wf hin2 hno ⟨true, []⟩ hc
 have hdl2 : (o.data.length : Int) ≤ 500 := by omega
 clear h hok hpo hin hin2 hno hv hmx e0 hx hxd x1 hdn hnx hnp hdl;generalize o.data.length = dl at *;go_enter Tryz.func116, Tryz.ntmps116
 go_wp2_with (first
  | (go_at_call 188; refine HP.out.mono ?_; rintro e w2 ⟨rfl, x2⟩; have X2 := zh (X1.out.trans x2); (obtain ⟨hl1, hc3⟩ := HL.out _ X2.out); (obtain ⟨hb0, hb3⟩ := KB.out _ x2); clear x2)
  | (go_at_call 189; refine (HM.out _ X2.out).mono ?_; rintro e w4 ⟨rfl, C4, g4⟩; have C4 := zh C4; have G4 := zh g4; clear g4))
 go_ret
 exact ⟨rfl, ⟨_, _, _, HF.out _ _ _ _ _ _ C4.out⟩, (X2.out.mut.trans (((xr w2).alloc _).alloc _).mut).trans G4.out⟩
end
section
variable {w : World} {B n m t mb : Nat} {pb kb : Int → Nat} {dv : Int → Value} {T : Tr}
theorem TreeAt.nodeFacts (h : TreeAt w B n m t mb pb kb dv T) (hok : TreeOk T) {p : Pth} {i : Int} {x : List UInt8} (hp : look T.R p = some i) (hi : look T.N i = some ⟨false, x⟩) :
  (Instr.lookup 87 (.map (some mb)) (.int .i64 i) false).run Tryz.prog w = .ok (.pointer (some ⟨pb i, 0, none⟩)) w ∧ w.cell? ⟨t, 0, none⟩ = some (.map (some mb)) ∧ w.cell? ⟨pb i, 0, none⟩ = some (.bool false) ∧ w.cell? ⟨pb i, 1, none⟩ = some (.int .i64 (cnt T.R i : Nat)) ∧ w.frozen? ⟨pb i, 1, none⟩ = false := by
 obtain ⟨h0, h1, _, _⟩ := h.cells hi;exact ⟨h.lookNode hok hp, h.mapCell, h0, h1, zAl (h.node hi) 1⟩
theorem file_write (h : TreeAt w B n m t mb pb kb dv T) (hok : TreeOk T) (hB : B ≤ w.heap.size) (hn : n < 1000000) {o : OpP} {p : Pth} {i : Int} {x : List UInt8} (hp : look T.R p = some i) (hi : look T.N i = some ⟨false, x⟩)
  {v : Value} (hv : BytesIs w v o.data) (hdl : o.data.length ≤ 500) (di : Value) (nm : Str) :
  Calls Tryz.prog 190 #[.pointer (some ⟨t, 0, none⟩), .agg #[.int .i64 3, .string (ba o.path), .string (ba o.to), v], di, .string (ba nm), .int .i64 i] w (zCj w B n m t mb (T.wrote i o.data)) := by
 obtain ⟨a, c, rfl⟩ := hv.form
 obtain ⟨ob, hob⟩ : ∃ ob : Obj, ob = .cells #[.int .i64 3, .string (ba o.path), .string (ba o.to), .slice a o.data.length c] 96 := ⟨_, rfl⟩
 have x1 : Ext w (w.alloc ob) := (xr w).alloc _
 have KT : Hid (∀ W, Ext (w.alloc ob) W → W.cell? ⟨t, 0, none⟩ = some (.map (some mb)) ∧ W.cell? ⟨pb i, 1, none⟩ = some (.int .i64 (cnt T.R i : Nat)) ∧ W.cell? ⟨w.heap.size, 3, none⟩ = some (.slice a o.data.length c)) := fun W xw => by
  obtain ⟨_, h0, _, h1, _⟩ := (h.ext (x1.trans xw)).nodeFacts hok hp hi;have hb := xw.get (show (w.alloc ob).heap[w.heap.size]? = some (.cells #[.int .i64 3, .string (ba o.path), .string (ba o.to), .slice a o.data.length c] 96) by rw [hob]; exact heap_alloc_new w _);exact ⟨h0, h1, by rw [zAb hb]; rfl⟩
 have hl1 := ((h.ext x1).nodeFacts hok hp hi).1;have hb0 : (w.alloc ob).cell? ⟨w.heap.size, 0, none⟩ = some (.int .i64 3) := by rw [zAb (show (w.alloc ob).heap[w.heap.size]? = some (.cells #[.int .i64 3, .string (ba o.path), .string (ba o.to), .slice a o.data.length c] 96) by rw [hob]; exact heap_alloc_new w _)]; rfl
 have HC : Hid (∀ W, Ext (w.alloc ob) W → Calls Tryz.prog 25 #[.slice a o.data.length c] W (zF0 W o.data)) := fun W xw => zGs (hv.ext (x1.trans xw)).bytes (by omega)
 have hmx : n < maxLen := by unfold maxLen; omega
 have hio := (h.wf.ok hok hp).1
 have HP := zh (show ∀ w3 v3, Ext (w.alloc ob) w3 → DataIs w3 v3 o.data → ∃ w6, (Instr.mapUpdate 87 (.map (some mb)) (.int .i64 i) (.pointer (some ⟨w3.heap.size, 0, none⟩))).run Tryz.prog (w3.alloc (.cells #[.bool false, .int .i64 (cnt T.R i : Nat), v3, .map none] 85)) = .ok () w6 ∧
   (∃ pb kb dv, TreeAt w6 B (n + 1) (m + 1) t mb pb kb dv (T.wrote i o.data)) ∧ Mut B zA7 w w6 ∧ (w3.alloc (.cells #[.bool false, .int .i64 (cnt T.R i : Nat), v3, .map none] 85)).grownBy w6 (some mb) from by
  intro w3 v3 x3 d3;have xa : Ext w3 (w3.alloc (.cells #[.bool false, .int .i64 (cnt T.R i : Nat), v3, .map none] 85)) := (xr w3).alloc _;have xw := (x1.trans x3).trans xa;have hc := (h.ext xw).core;have hs := x3.sz;have hs1 := x1.sz;obtain ⟨w6, hr, C6, g6, s6⟩ := hc.put (i := i) hio hmx ⟨false, (cnt T.R i : Nat), o.data⟩ (pn := w3.heap.size) (kn := 0) (heap_alloc_new w3 _) (d3.ext xa) (fun _ => none) (fun e => by cases e) (fun j y hj _ => by have := (h.pbNe hj).1; omega) (fun j y _ _ _ e => by cases e) (fun e => by cases e) (by omega) (fun e => by cases e)
  exact ⟨w6, hr, ⟨_, _, _, (wroteT h.wf hi o.data (fun a ha => if_neg ha) C6).mono (Nat.le_refl _) (Nat.le_succ m)⟩, xw.mut.trans (zFh hc.nodes g6 h.ns.bm), g6⟩)
 have KF : Hid (∀ V5 V6, Ext (w.alloc ob) V5 → V5.grownBy V6 (some mb) → V6.cell? ⟨t, 0, none⟩ = some (.map (some mb)) ∧ V6.cell? ⟨pb i, 1, none⟩ = some (.int .i64 (cnt T.R i : Nat)) ∧ V6.cell? ⟨w.heap.size, 3, none⟩ = some (.slice a o.data.length c)) := fun V5 V6 x5 g6 => by
  have hm := (h.ext (x1.trans x5)).nodes;have k1 := zCu hm g6 (h.ext (x1.trans x5)).blk;have k2 := zCu hm g6 ((h.ext (x1.trans x5)).node hi);have k3 := zCu hm g6 (x5.get (show (w.alloc ob).heap[w.heap.size]? = some (.cells #[.int .i64 3, .string (ba o.path), .string (ba o.to), .slice a o.data.length c] 96) by rw [hob]; exact heap_alloc_new w _));exact ⟨by rw [zAb k1]; rfl, by rw [zAb k2]; rfl, by rw [zAb k3]; rfl⟩
 obtain ⟨k0, k1, k3⟩ := KT.out _ (xr _);clear h hok hp hi hv x1 hdl hmx hio;rw [hob] at *;generalize hdl : o.data.length = dl at *;generalize cnt T.R i = ci at *;clear hdl;go_enter Tryz.func190, Tryz.ntmps190
 go_upto_region 4 with fail
 go_region_held3 (fun V => V.cell? ⟨t, 0, none⟩ = some (.map (some mb)) ∧ V.cell? ⟨pb i, 1, none⟩ = some (.int .i64 (ci : Nat)) ∧ V.cell? ⟨w.heap.size, 3, none⟩ = some (.slice a dl c))
  (first
   | exact KT.out _ (xr _)
   | exact KT.out _ (xr _).drew
   | exact KT.out _ X5.out
   | exact KT.out _ (X5.out.alloc _)
   | exact KF.out _ _ (X5.out.alloc _) G6.out)
  (first | (go_at_call 25; refine (HC.out _ (xr _).drew).mono ?_; rintro e w5 ⟨v5, rfl, d5, x5⟩; have X5 := zh ((xr _).drew.trans x5); (obtain ⟨a5, c5, rfl⟩ := d5.form); (obtain ⟨w6, hr6, t6, m6, g6⟩ := HP.out w5 _ X5.out d5); have T6 := zh t6; have M6 := zh m6; have G6 := zh g6; clear x5 d5 t6 m6 g6))
 all_goals
  go_wp2_with fail
  go_ret
  exact ⟨rfl, T6.out, M6.out⟩
theorem cnt_le (R : List (Pth × Int)) (i : Int) : cnt R i ≤ R.length := List.countP_le_length
theorem zG7 {nf : Int → Option NdF} {kf : Int → Str → Option Int} {next quota : Int} (h : CoreAt w B n m t mb pb kb dv nf kf next quota) {ops : Array Oper} {rest : List Oper} {o : Oper} {a : Act} {Q : Exit → Act → World → Prop}
  (hg : o.guard = none) (mo xo : Operand) (hop : o.op = Op.call { callee := Callee.builtin Builtin.delete, args := #[mo, xo], argTypes := #[83, 9] }) {di : Int} {x : NdF} (hdi : nf di = some x) (hd : x.dir = true) {nm : Str} (hnm : nm.length ≤ 12) (hm : a.eval mo = .map (some (kb di))) (hx : a.eval xo = .string (ba nm))
  (hK : ∀ w', CoreAt w' B n m t mb pb kb dv nf (zKb kf di nm none) next quota → w.grownBy w' (some (kb di)) → w'.heap.size = w.heap.size → wpList Tryz.prog ops Q rest (a.put o.dst (.tuple #[])) w') :
  wpList Tryz.prog ops Q (o :: rest) a w := by
 refine wpList_plain hg fun K' hK' => ?_
 obtain ⟨w', hrun, r1, r2, r3⟩ := h.unkid hdi hd hnm o.type;unfold Oper.wp;simp [execOp, hop, resolve, invoke, builtin, hm, hx, hrun, Result.andThen];exact hK' _ _ (hK w' r1 r2 r3)
set_option maxHeartbeats 2000000 in
theorem file_unlink (h : TreeAt w B n m t mb pb kb dv T) (hok : TreeOk T) {o : OpP} {d : Pth} {nm : Str} {di i : Int} {x : List UInt8} (hin : T.In (d ++ [nm]) d nm di) (hnm : nm.length ≤ 12) (hp : look T.R (d ++ [nm]) = some i) (hi : look T.N i = some ⟨false, x⟩)
  {v : Value} (hv : BytesIs w v o.data) :
  Calls Tryz.prog 190 #[.pointer (some ⟨t, 0, none⟩), .agg #[.int .i64 6, .string (ba o.path), .string (ba o.to), v], .pointer (some ⟨pb di, 0, none⟩), .string (ba nm), .int .i64 i] w (zCj w B n m t mb (T.unlinked (d ++ [nm]))) := by
 obtain ⟨a, c, rfl⟩ := hv.form
 obtain ⟨ob, hob⟩ : ∃ ob : Obj, ob = .cells #[.int .i64 6, .string (ba o.path), .string (ba o.to), .slice a o.data.length c] 96 := ⟨_, rfl⟩
 have x1 : Ext w (w.alloc ob) := (xr w).alloc _;have X1 := zh x1;have ht1 := h.ext x1;obtain ⟨hl1, hc0, _, hc1, _⟩ := ht1.nodeFacts hok hp hi;have hb0 : (w.alloc ob).cell? ⟨w.heap.size, 0, none⟩ = some (.int .i64 6) := by rw [zAb (show (w.alloc ob).heap[w.heap.size]? = some (.cells #[.int .i64 6, .string (ba o.path), .string (ba o.to), .slice a o.data.length c] 96) by rw [hob]; exact heap_alloc_new w _)]; rfl
 obtain ⟨y, hy, hyd⟩ := hin.dir;have hk3 := ((h.ext x1).lookKidD hin hnm).2;have HC1 := zh ht1.core;have HDI := zh (zCd hy);have HNI := zh (zCd hi);have hcl : ((cnt T.R i : Nat) : Int) ≤ 1000000 := by have := cnt_le T.R i; have := hok.paths; omega
 have HF : Hid (∀ W', CoreAt W' B n m t mb pb kb dv (upd (nfT T) i (some ⟨false, (cnt T.R i : Nat) - 1, x⟩)) (zKb (kfT T) di nm none) T.next T.quota → TreeAt W' B n m t mb pb kb dv (T.unlinked (d ++ [nm]))) := fun W' hc => unlinkedT h.wf hin hp hi hc
 have HMM : Hid (∀ W', (w.alloc ob).grownBy W' (some (kb di)) → Mut B zA7 w W') := fun W' g => x1.mut.trans (zFh (ht1.core.kids di _ (zCd hy) hyd) g (h.core.bk di _ (zCd hy) hyd))
 clear h hok hin hp hi hv x1 ht1 hy;rw [hob] at *;generalize o.data.length = dl at *;generalize cnt T.R i = ci at *;go_enter Tryz.func190, Tryz.ntmps190
 go_wp2_with (refine zG7 HC1.out rfl (.tmp 45) (.tmp 46) rfl HDI.out hyd hnm (by rfl) (by rfl) ?_; intro w6 C6 g6 s6; have C6 := zh C6; have M6 := zh (HMM.out _ g6); (have hc6 : w6.cell? ⟨pb i, 1, none⟩ = some (.int .i64 (ci : Nat)) := by rw [zAb (C6.out.node i _ HNI.out)]; rfl); (have hf6 := zAl (C6.out.node i _ HNI.out) 1); clear g6 s6)
 go_ret
 obtain ⟨C7, M7⟩ := C6.out.links HNI.out ((ci : Nat) - 1);exact ⟨rfl, ⟨_, _, _, (HF.out _ C7).mono (Nat.le_succ n) (Nat.le_succ m)⟩, M6.out.trans M7⟩
end
section
variable {w : World} {B n m t mb : Nat} {pb kb : Int → Nat} {dv : Int → Value} {T : Tr}
theorem zF6 {nf : Int → Option NdF} {kf : Int → Str → Option Int} {next quota : Int} (h : CoreAt w B n m t mb pb kb dv nf kf next quota) {ops : Array Oper} {rest : List Oper} {o : Oper} {a : Act} {Q : Exit → Act → World → Prop}
  (hg : o.guard = none) (mo xo vo : Operand) (hop : o.op = Op.mapUpdate 83 mo xo vo) {di : Int} {x : NdF} (hdi : nf di = some x) (hd : x.dir = true) (hmx : m < 1000000) {nm : Str} (hnm : nm.length ≤ 12) (j : Int) (hm : a.eval mo = .map (some (kb di))) (hx : a.eval xo = .string (ba nm)) (hv : a.eval vo = .int .i64 j)
  (hK : ∀ w', CoreAt w' B n (m + 1) t mb pb kb dv nf (zKb kf di nm (some j)) next quota → w.grownBy w' (some (kb di)) → w'.heap.size = w.heap.size → wpList Tryz.prog ops Q rest (a.put o.dst undef) w') :
  wpList Tryz.prog ops Q (o :: rest) a w := by
 refine wpList_plain hg fun K' hK' => ?_
 obtain ⟨w', hrun, r1, r2, r3⟩ := h.kid hdi hd (by unfold maxLen; omega) hnm j;unfold Oper.wp;simp [execOp, hop, hm, hx, hv, hrun, Result.andThen];exact hK' _ _ (hK w' r1 r2 r3)
set_option maxHeartbeats 2000000 in
theorem file_link (h : TreeAt w B n m t mb pb kb dv T) (hok : TreeOk T) (hmx : m < 1000000) {o : OpP} {p : Pth} {i : Int} {x : List UInt8} (hp : look T.R p = some i) (hi : look T.N i = some ⟨false, x⟩)
  {v : Value} (hv : BytesIs w v o.data) (hpo : PathOk o.to) {d' : Pth} {nm' : Str} {di' : Int} (hin : T.In (names o.to) d' nm' di') (hq : look T.R (d' ++ [nm']) = none) (dv0 : Value) (nm : Str) {mx : Int} (hm0 : w.cell? ⟨0, 0, none⟩ = some (.int .i64 mx)) :
  Calls Tryz.prog 190 #[.pointer (some ⟨t, 0, none⟩), .agg #[.int .i64 4, .string (ba o.path), .string (ba o.to), v], dv0, .string (ba nm), .int .i64 i] w (zCj w B n m t mb (T.linked (d' ++ [nm']) i)) := by
 have hnm := hpo.last hin.path;have hin2 := hin;rw [hin.path] at hin2;obtain ⟨a, c, rfl⟩ := hv.form
 obtain ⟨ob, hob⟩ : ∃ ob : Obj, ob = .cells #[.int .i64 4, .string (ba o.path), .string (ba o.to), .slice a o.data.length c] 96 := ⟨_, rfl⟩
 have x1 : Ext w (w.alloc ob) := (xr w).alloc _;have X1 := zh x1;have hl1 := ((h.ext x1).nodeFacts hok hp hi).1;have hbw : (w.alloc ob).heap[w.heap.size]? = some (.cells #[.int .i64 4, .string (ba o.path), .string (ba o.to), .slice a o.data.length c] 96 (0, 0)) := by rw [hob]; exact heap_alloc_new w _
 have hb0 : (w.alloc ob).cell? ⟨w.heap.size, 0, none⟩ = some (.int .i64 4) := by rw [zAb hbw]; rfl
 have hb2 : (w.alloc ob).cell? ⟨w.heap.size, 2, none⟩ = some (.string (ba o.to)) := by rw [zAb hbw]; rfl
 have hc0 : (w.alloc ob).cell? ⟨t, 0, none⟩ = some (.map (some mb)) := (h.ext x1).mapCell;have HP := zh (zFs (h.ext x1) hok hpo hin (x1.cell hm0));have hi1 := (h.wf.ok hok hp).2.1;have e0 : atN T (d' ++ [nm']) = 0 := by unfold atN; rw [hq]; rfl
 have KB : Hid (∀ W, Ext (w.alloc ob) W → (Instr.lookup 83 (.map (some (kb di'))) (.string (ba nm')) false).run Tryz.prog W = .ok (.int .i64 0) W ∧ W.cell? ⟨pb di', 3, none⟩ = some (.map (some (kb di'))) ∧ W.cell? ⟨w.heap.size, 0, none⟩ = some (.int .i64 4) ∧ W.cell? ⟨pb i, 1, none⟩ = some (.int .i64 (cnt T.R i : Nat)) ∧ W.frozen? ⟨pb i, 1, none⟩ = false) := fun W xw => by
  obtain ⟨h1, h2⟩ := (h.ext (x1.trans xw)).lookKidD hin2 hnm;rw [e0] at h1;obtain ⟨_, _, _, h4, h5⟩ := (h.ext (x1.trans xw)).nodeFacts hok hp hi;exact ⟨h1, h2, by rw [zAb (xw.get hbw)]; rfl, h4, h5⟩
 have HC : Hid (∀ W, Ext (w.alloc ob) W → CoreAt W B n m t mb pb kb dv (nfT T) (kfT T) T.next T.quota) := fun W xw => (h.ext (x1.trans xw)).core
 obtain ⟨y, hy, hyd⟩ := hin.dir;have hne : di' ≠ i := by rintro rfl; rw [hi] at hy; cases hy; cases hyd
 have HDI := zh (show upd (nfT T) i (some ⟨false, (cnt T.R i : Nat) + 1, x⟩) di' = some ⟨y.dir, (cnt T.R di' : Nat), y.data⟩ by rw [zAf _ _ hne]; exact zCd hy);have HNI := zh (zCd hi);have hcl : ((cnt T.R i : Nat) : Int) ≤ 1000000 := by have := cnt_le T.R i; have := hok.paths; omega
 have HF : Hid (∀ W' m', CoreAt W' B n m' t mb pb kb dv (upd (nfT T) i (some ⟨false, (cnt T.R i : Nat) + 1, x⟩)) (zKb (kfT T) di' nm' (some i)) T.next T.quota → TreeAt W' B n m' t mb pb kb dv (T.linked (d' ++ [nm']) i)) := fun W' m' hc => linkedT h.wf hin2 hq hp hi hc
 have hi0 : ((0 : Int) == i) = false := by rw [beq_eq_false_iff_ne]; omega
 have hi2 : ¬ (0 : Int) = i := by omega
 clear h hok hp hi hv x1 hin hin2 hq hpo hm0 e0 hbw hi1;rw [hob] at *;generalize o.data.length = dl at *;go_enter Tryz.func190, Tryz.ntmps190
 go_upto_region 25 with (go_at_call 188; refine HP.out.mono ?_; rintro e w2 ⟨rfl, x2⟩; have X2 := zh x2; (obtain ⟨hk1, hk2, hk3, hk4, hk5⟩ := KB.out _ x2); clear x2)
 have C3 := zh ((HC.out w2 X2.out).links HNI.out ((cnt T.R i : Nat) + 1))
 obtain ⟨W3, hW3⟩ : ∃ W3, W3 = w2.setCell ⟨pb i, 1, none⟩ (.int .i64 ((cnt T.R i : Nat) + 1)) := ⟨_, rfl⟩
 rw [← hW3] at C3 ⊢
 have hk3' : W3.cell? ⟨pb di', 3, none⟩ = some (.map (some (kb di'))) := by
  have := C3.out.1.node di' _ HDI.out;rw [hyd] at this;rw [zAb this]; rfl
 have S3 : Hid (Mut B zA7 w W3) := (X1.out.trans X2.out).mut.trans C3.out.2;have C3' := zh C3.out.1;clear hW3 C3 hk1 hk2 hk4 hk5 hb0 hb2 hc0 hl1
 go_wp2_with (refine zF6 C3'.out rfl (.tmp 130) (.tmp 131) (.tmp 132) rfl HDI.out hyd hmx hnm i (by rfl) (by rfl) (by rfl) ?_; intro w6 C6 g6 s6; have C6 := zh C6; have M6 := zh (S3.out.trans (zFh (C3'.out.kids di' _ HDI.out hyd) g6 (C3'.out.bk di' _ HDI.out hyd))); clear g6 s6)
 go_ret
 exact ⟨rfl, ⟨_, _, _, (HF.out _ _ C6.out).mono (Nat.le_succ n) (Nat.le_refl _)⟩, M6.out⟩
end
section
variable {w : World} {B n m t mb : Nat} {pb kb : Int → Nat} {dv : Int → Value} {T : Tr}
set_option maxHeartbeats 2000000 in
theorem file_move0 (h : TreeAt w B n m t mb pb kb dv T) (hok : TreeOk T) (hmx : m < 1000000) {o : OpP} {d : Pth} {nm : Str} {di i : Int} {x : List UInt8} (hin : T.In (d ++ [nm]) d nm di) (hnm : nm.length ≤ 12) (hp : look T.R (d ++ [nm]) = some i) (hi : look T.N i = some ⟨false, x⟩)
  {v : Value} (hv : BytesIs w v o.data) (hpo : PathOk o.to) {d' : Pth} {nm' : Str} {di' : Int} (hin' : T.In (names o.to) d' nm' di') (hq : look T.R (d' ++ [nm']) = none) {mx : Int} (hm0 : w.cell? ⟨0, 0, none⟩ = some (.int .i64 mx)) :
  Calls Tryz.prog 190 #[.pointer (some ⟨t, 0, none⟩), .agg #[.int .i64 5, .string (ba o.path), .string (ba o.to), v], .pointer (some ⟨pb di, 0, none⟩), .string (ba nm), .int .i64 i] w (zCj w B n m t mb (T.moved (d ++ [nm]) (d' ++ [nm']) i)) := by
 have hnm' := hpo.last hin'.path;have hin2 := hin';rw [hin'.path] at hin2;obtain ⟨a, c, rfl⟩ := hv.form
 obtain ⟨ob, hob⟩ : ∃ ob : Obj, ob = .cells #[.int .i64 5, .string (ba o.path), .string (ba o.to), .slice a o.data.length c] 96 := ⟨_, rfl⟩
 have x1 : Ext w (w.alloc ob) := (xr w).alloc _;have X1 := zh x1;have hl1 := ((h.ext x1).nodeFacts hok hp hi).1;have hbw : (w.alloc ob).heap[w.heap.size]? = some (.cells #[.int .i64 5, .string (ba o.path), .string (ba o.to), .slice a o.data.length c] 96 (0, 0)) := by rw [hob]; exact heap_alloc_new w _
 have hb0 : (w.alloc ob).cell? ⟨w.heap.size, 0, none⟩ = some (.int .i64 5) := by rw [zAb hbw]; rfl
 have hb2 : (w.alloc ob).cell? ⟨w.heap.size, 2, none⟩ = some (.string (ba o.to)) := by rw [zAb hbw]; rfl
 have hc0 : (w.alloc ob).cell? ⟨t, 0, none⟩ = some (.map (some mb)) := (h.ext x1).mapCell;have HP := zh (zFs (h.ext x1) hok hpo hin' (x1.cell hm0));have hi1 := (h.wf.ok hok hp).2.1;have e0 : atN T (d' ++ [nm']) = 0 := by unfold atN; rw [hq]; rfl
 have KB : Hid (∀ W, Ext (w.alloc ob) W → (Instr.lookup 83 (.map (some (kb di'))) (.string (ba nm')) false).run Tryz.prog W = .ok (.int .i64 0) W ∧ W.cell? ⟨pb di', 3, none⟩ = some (.map (some (kb di'))) ∧ W.cell? ⟨w.heap.size, 0, none⟩ = some (.int .i64 5) ∧ W.cell? ⟨pb di, 3, none⟩ = some (.map (some (kb di)))) := fun W xw => by
  obtain ⟨h1, h2⟩ := (h.ext (x1.trans xw)).lookKidD hin2 hnm';rw [e0] at h1;exact ⟨h1, h2, by rw [zAb (xw.get hbw)]; rfl, ((h.ext (x1.trans xw)).lookKidD hin hnm).2⟩
 have HC : Hid (∀ W, Ext (w.alloc ob) W → CoreAt W B n m t mb pb kb dv (nfT T) (kfT T) T.next T.quota) := fun W xw => (h.ext (x1.trans xw)).core
 obtain ⟨y, hy, hyd⟩ := hin'.dir;obtain ⟨z, hz, hzd⟩ := hin.dir;have HDI := zh (zCd hy);have HDZ := zh (zCd hz);have hpq : d ++ [nm] ≠ d' ++ [nm'] := by intro e; rw [e, hq] at hp; cases hp
 have HF : Hid (∀ W' m', CoreAt W' B n m' t mb pb kb dv (nfT T) (zKb (zKb (kfT T) di nm none) di' nm' (some i)) T.next T.quota → TreeAt W' B n m' t mb pb kb dv (T.moved (d ++ [nm]) (d' ++ [nm']) i)) := fun W' m' hc =>
  movedT h.wf hin hp hi hin2 hpq (fun j _ hj _ => by rw [hq] at hj; cases hj) (fun j => by rw [hq]; cases nfT T j <;> simp) hc
 have hi0 : ((0 : Int) == i) = false := by rw [beq_eq_false_iff_ne]; omega
 have hi2 : ¬ (0 : Int) = i := by omega
 clear h hok hp hi hv x1 hin hin2 hin' hq hpo hm0 e0 hbw hi1 hy hz hpq;rw [hob] at *;generalize o.data.length = dl at *;go_enter Tryz.func190, Tryz.ntmps190
 go_wp2_with (first
  | (go_at_call 188; refine HP.out.mono ?_; rintro e w2 ⟨rfl, x2⟩; have X2 := zh x2; (obtain ⟨hk1, hk2, hk3, hk4⟩ := KB.out _ x2); clear x2)
  | (refine zG7 (HC.out w2 X2.out) rfl (.tmp 88) (.tmp 89) rfl HDZ.out hzd hnm (by rfl) (by rfl) ?_; intro w5 C5 g5 s5; have C5 := zh C5; have M5 := zh ((X1.out.trans X2.out).mut.trans (zFh ((HC.out w2 X2.out).kids di _ HDZ.out hzd) g5 ((HC.out w2 X2.out).bk di _ HDZ.out hzd))); (have hk5 : w5.cell? ⟨pb di', 3, none⟩ = some (.map (some (kb di'))) := by (have q := C5.out.node di' _ HDI.out); rw [hyd] at q; rw [zAb q]; rfl); clear g5 s5)
  | (refine zF6 C5.out rfl (.tmp 130) (.tmp 131) (.tmp 132) rfl HDI.out hyd hmx hnm' i (by rfl) (by rfl) (by rfl) ?_; intro w6 C6 g6 s6; have C6 := zh C6; have M6 := zh (M5.out.trans (zFh (C5.out.kids di' _ HDI.out hyd) g6 (C5.out.bk di' _ HDI.out hyd))); clear g6 s6))
 go_ret
 exact ⟨rfl, ⟨_, _, _, (HF.out _ _ C6.out).mono (Nat.le_succ n) (Nat.le_refl _)⟩, M6.out⟩
set_option maxHeartbeats 2000000 in
theorem file_move1 (h : TreeAt w B n m t mb pb kb dv T) (hok : TreeOk T) (hmx : m < 1000000) {o : OpP} {d : Pth} {nm : Str} {di i : Int} {x : List UInt8} (hin : T.In (d ++ [nm]) d nm di) (hnm : nm.length ≤ 12) (hp : look T.R (d ++ [nm]) = some i) (hi : look T.N i = some ⟨false, x⟩)
  {v : Value} (hv : BytesIs w v o.data) (hpo : PathOk o.to) {d' : Pth} {nm' : Str} {di' : Int} (hin' : T.In (names o.to) d' nm' di') {j : Int} {u : List UInt8} (hq : look T.R (d' ++ [nm']) = some j) (hj : look T.N j = some ⟨false, u⟩) (hji : j ≠ i) {mx : Int} (hm0 : w.cell? ⟨0, 0, none⟩ = some (.int .i64 mx)) :
  Calls Tryz.prog 190 #[.pointer (some ⟨t, 0, none⟩), .agg #[.int .i64 5, .string (ba o.path), .string (ba o.to), v], .pointer (some ⟨pb di, 0, none⟩), .string (ba nm), .int .i64 i] w (zCj w B n m t mb (T.moved (d ++ [nm]) (d' ++ [nm']) i)) := by
 have hnm' := hpo.last hin'.path;have hin2 := hin';rw [hin'.path] at hin2;obtain ⟨a, c, rfl⟩ := hv.form
 obtain ⟨ob, hob⟩ : ∃ ob : Obj, ob = .cells #[.int .i64 5, .string (ba o.path), .string (ba o.to), .slice a o.data.length c] 96 := ⟨_, rfl⟩
 have x1 : Ext w (w.alloc ob) := (xr w).alloc _;have X1 := zh x1;have hl1 := ((h.ext x1).nodeFacts hok hp hi).1;have hbw : (w.alloc ob).heap[w.heap.size]? = some (.cells #[.int .i64 5, .string (ba o.path), .string (ba o.to), .slice a o.data.length c] 96 (0, 0)) := by rw [hob]; exact heap_alloc_new w _
 have hb0 : (w.alloc ob).cell? ⟨w.heap.size, 0, none⟩ = some (.int .i64 5) := by rw [zAb hbw]; rfl
 have hb2 : (w.alloc ob).cell? ⟨w.heap.size, 2, none⟩ = some (.string (ba o.to)) := by rw [zAb hbw]; rfl
 have hc0 : (w.alloc ob).cell? ⟨t, 0, none⟩ = some (.map (some mb)) := (h.ext x1).mapCell;have HP := zh (zFs (h.ext x1) hok hpo hin' (x1.cell hm0));have hj1 := (h.wf.ok hok hq).2.1;have e0 : atN T (d' ++ [nm']) = j := by unfold atN; rw [hq]; rfl
 have KB : Hid (∀ W, Ext (w.alloc ob) W → (Instr.lookup 83 (.map (some (kb di'))) (.string (ba nm')) false).run Tryz.prog W = .ok (.int .i64 j) W ∧ W.cell? ⟨pb di', 3, none⟩ = some (.map (some (kb di'))) ∧ W.cell? ⟨w.heap.size, 0, none⟩ = some (.int .i64 5) ∧ (Instr.lookup 87 (.map (some mb)) (.int .i64 j) false).run Tryz.prog W = .ok (.pointer (some ⟨pb j, 0, none⟩)) W ∧ W.cell? ⟨t, 0, none⟩ = some (.map (some mb)) ∧ W.cell? ⟨pb j, 0, none⟩ = some (.bool false) ∧ W.cell? ⟨pb j, 1, none⟩ = some (.int .i64 (cnt T.R j : Nat)) ∧ W.frozen? ⟨pb j, 1, none⟩ = false) := fun W xw => by
  obtain ⟨h1, h2⟩ := (h.ext (x1.trans xw)).lookKidD hin2 hnm';rw [e0] at h1;obtain ⟨g1, g2, g3, g4, g5⟩ := (h.ext (x1.trans xw)).nodeFacts hok hq hj;exact ⟨h1, h2, by rw [zAb (xw.get hbw)]; rfl, g1, g2, g3, g4, g5⟩
 have HC : Hid (∀ W, Ext (w.alloc ob) W → CoreAt W B n m t mb pb kb dv (nfT T) (kfT T) T.next T.quota) := fun W xw => (h.ext (x1.trans xw)).core
 obtain ⟨y, hy, hyd⟩ := hin'.dir;obtain ⟨z, hz, hzd⟩ := hin.dir;have hne1 : di' ≠ j := by rintro rfl; rw [hj] at hy; cases hy; cases hyd
 have hne2 : di ≠ j := by rintro rfl; rw [hj] at hz; cases hz; cases hzd
 have HDI := zh (show upd (nfT T) j (some ⟨false, (cnt T.R j : Nat) - 1, u⟩) di' = some ⟨y.dir, (cnt T.R di' : Nat), y.data⟩ by rw [zAf _ _ hne1]; exact zCd hy);have HDZ := zh (show upd (nfT T) j (some ⟨false, (cnt T.R j : Nat) - 1, u⟩) di = some ⟨z.dir, (cnt T.R di : Nat), z.data⟩ by rw [zAf _ _ hne2]; exact zCd hz);have HNJ := zh (zCd hj);have hpq : d ++ [nm] ≠ d' ++ [nm'] := by intro e; rw [e, hq] at hp; cases hp; exact hji rfl
 have HF : Hid (∀ W' m', CoreAt W' B n m' t mb pb kb dv (upd (nfT T) j (some ⟨false, (cnt T.R j : Nat) - 1, u⟩)) (zKb (zKb (kfT T) di nm none) di' nm' (some i)) T.next T.quota → TreeAt W' B n m' t mb pb kb dv (T.moved (d ++ [nm]) (d' ++ [nm']) i)) := fun W' m' hc =>
  movedT h.wf hin hp hi hin2 hpq (fun k y hk hy => by rw [hq] at hk; cases hk; rw [hj] at hy; cases hy; rfl) (fun k => by
   rw [hq]
   by_cases e : k = j
   ·subst e; rw [zAv, zCd hj]; simp
   ·rw [zAf _ _ e];have : ¬ (some j = some k) := fun e' => e (Option.some.inj e').symm
    cases nfT T k <;> simp [Ne.symm e]) hc
 have hcl : ((cnt T.R j : Nat) : Int) ≤ 1000000 := by have := cnt_le T.R j; have := hok.paths; omega
 have hi0 : (j == i) = false := by rw [beq_eq_false_iff_ne]; exact hji
 have hi3 : (j != 0) = true := by rw [bne_iff_ne]; omega
 have hi4 : ¬ j = 0 := by omega
 have hi5 : (j == 0) = false := by rw [beq_eq_false_iff_ne]; omega
 clear h hok hp hi hv x1 hin hin2 hin' hq hpo hm0 e0 hbw hj1 hy hz hpq hj hne1 hne2;rw [hob] at *;generalize o.data.length = dl at *;go_enter Tryz.func190, Tryz.ntmps190
 go_upto_region 16 with (go_at_call 188; refine HP.out.mono ?_; rintro e w2 ⟨rfl, x2⟩; have X2 := zh x2; (obtain ⟨hk1, hk2, hk3, hk4, hk5, hk6, hk7, hk8⟩ := KB.out _ x2); clear x2)
 have C3 := zh ((HC.out w2 X2.out).links HNJ.out ((cnt T.R j : Nat) - 1))
 obtain ⟨W3, hW3⟩ : ∃ W3, W3 = w2.setCell ⟨pb j, 1, none⟩ (.int .i64 ((cnt T.R j : Nat) - 1)) := ⟨_, rfl⟩
 rw [← hW3] at C3 ⊢
 have hk4' : W3.cell? ⟨pb di, 3, none⟩ = some (.map (some (kb di))) := by
  have := C3.out.1.node di _ HDZ.out;rw [hzd] at this;rw [zAb this]; rfl
 have S3 : Hid (Mut B zA7 w W3) := (X1.out.trans X2.out).mut.trans C3.out.2;have C3' := zh C3.out.1;clear hW3 C3 hk1 hk2 hk3 hk4 hk5 hk6 hk7 hk8 hb0 hb2 hc0 hl1
 go_wp2_with (first
  | (refine zG7 C3'.out rfl (.tmp 88) (.tmp 89) rfl HDZ.out hzd hnm (by rfl) (by rfl) ?_; intro w5 C5 g5 s5; have C5 := zh C5; have M5 := zh (S3.out.trans (zFh (C3'.out.kids di _ HDZ.out hzd) g5 (C3'.out.bk di _ HDZ.out hzd))); (have hk5 : w5.cell? ⟨pb di', 3, none⟩ = some (.map (some (kb di'))) := by (have q := C5.out.node di' _ HDI.out); rw [hyd] at q; rw [zAb q]; rfl); clear g5 s5)
  | (refine zF6 C5.out rfl (.tmp 130) (.tmp 131) (.tmp 132) rfl HDI.out hyd hmx hnm' i (by rfl) (by rfl) (by rfl) ?_; intro w6 C6 g6 s6; have C6 := zh C6; have M6 := zh (M5.out.trans (zFh (C5.out.kids di' _ HDI.out hyd) g6 (C5.out.bk di' _ HDI.out hyd))); clear g6 s6))
 go_ret
 exact ⟨rfl, ⟨_, _, _, (HF.out _ _ C6.out).mono (Nat.le_succ n) (Nat.le_refl _)⟩, M6.out⟩
end
section
variable {w : World} {B n m t mb : Nat} {pb kb : Int → Nat} {dv : Int → Value} {T : Tr}
set_option maxHeartbeats 1000000 in
theorem zHb (h : TreeAt w B n m t mb pb kb dv T) (hok : TreeOk T) {o : OpP} (hpo : PathOk o.path) {d : Pth} {nm : Str} {di i : Int} {x : List UInt8} (hin : T.In (names o.path) d nm di) (hp : look T.R (d ++ [nm]) = some i) (hi : look T.N i = some ⟨false, x⟩)
  {v : Value} (hv : BytesIs w v o.data) (hdl : o.data.length ≤ 500) (kd : Int) (hk1 : 3 ≤ kd) (hk2 : kd ≤ 6) {T' : Tr} {mx : Int} (hmx : w.cell? ⟨0, 0, none⟩ = some (.int .i64 mx))
  (hf : ∀ W, Ext w W → Calls Tryz.prog 190 #[.pointer (some ⟨t, 0, none⟩), .agg #[.int .i64 kd, .string (ba o.path), .string (ba o.to), v], .pointer (some ⟨pb di, 0, none⟩), .string (ba nm), .int .i64 i] W (zCj W B n m t mb T')) :
  Calls Tryz.prog 116 #[.pointer (some ⟨t, 0, none⟩), .agg #[.int .i64 kd, .string (ba o.path), .string (ba o.to), v]] w (zCj w B n m t mb T') := by
 have hin2 := hin;rw [hin.path] at hin2;have hnm := hpo.last hin.path;obtain ⟨a, c, rfl⟩ := hv.form
 obtain ⟨ob, hob⟩ : ∃ ob : Obj, ob = .cells #[.int .i64 kd, .string (ba o.path), .string (ba o.to), .slice a o.data.length c] 96 := ⟨_, rfl⟩
 have x1 : Ext w (w.alloc ob) := (xr w).alloc _;have X1 := zh x1;have HP := zh (zFs (h.ext x1) hok hpo hin (x1.cell hmx));have hbw : (w.alloc ob).heap[w.heap.size]? = some (.cells #[.int .i64 kd, .string (ba o.path), .string (ba o.to), .slice a o.data.length c] 96 (0, 0)) := by rw [hob]; exact heap_alloc_new w _
 have hb0 : (w.alloc ob).cell? ⟨w.heap.size, 0, none⟩ = some (.int .i64 kd) := by rw [zAb hbw]; rfl
 have hb1 : (w.alloc ob).cell? ⟨w.heap.size, 1, none⟩ = some (.string (ba o.path)) := by rw [zAb hbw]; rfl
 have e0 : atN T (d ++ [nm]) = i := by unfold atN; rw [hp]; rfl
 have hi1 := (h.wf.ok hok hp).2.1
 have KB := zh (show ∀ W, Ext (w.alloc ob) W → (Instr.lookup 83 (.map (some (kb di))) (.string (ba nm)) false).run Tryz.prog W = .ok (.int .i64 i) W ∧ W.cell? ⟨pb di, 3, none⟩ = some (.map (some (kb di))) ∧ (Instr.lookup 87 (.map (some mb)) (.int .i64 i) false).run Tryz.prog W = .ok (.pointer (some ⟨pb i, 0, none⟩)) W ∧ W.cell? ⟨t, 0, none⟩ = some (.map (some mb)) ∧ W.cell? ⟨pb i, 0, none⟩ = some (.bool false) ∧
   W.cell? ⟨w.heap.size, 0, none⟩ = some (.int .i64 kd) ∧ W.cell? ⟨w.heap.size, 1, none⟩ = some (.string (ba o.path)) ∧ W.cell? ⟨w.heap.size, 2, none⟩ = some (.string (ba o.to)) ∧ W.cell? ⟨w.heap.size, 3, none⟩ = some (.slice a o.data.length c) from fun W xw => by
  obtain ⟨h1, h2⟩ := (h.ext (x1.trans xw)).lookKidD hin2 hnm;rw [e0] at h1;obtain ⟨g1, g2, g3, _, _⟩ := (h.ext (x1.trans xw)).nodeFacts hok hp hi;have hbx := xw.get hbw
  exact ⟨h1, h2, g1, g2, g3, by rw [zAb hbx]; rfl, by rw [zAb hbx]; rfl, by rw [zAb hbx]; rfl, by rw [zAb hbx]; rfl⟩)
 have HF := zh hf;have hi3 : (i != 0) = true := by rw [bne_iff_ne]; omega
 have hi4 : ¬ i = 0 := by omega
 have hi5 : (i == 0) = false := by rw [beq_eq_false_iff_ne]; omega
 have hq0 : (kd == 0) = false := by rw [beq_eq_false_iff_ne]; omega
 have hq1 : (kd == 1) = false := by rw [beq_eq_false_iff_ne]; omega
 have hq2 : (kd == 2) = false := by rw [beq_eq_false_iff_ne]; omega
 have hr0 : ¬ kd = 0 := by omega
 have hr1 : ¬ kd = 1 := by omega
 have hr2 : ¬ kd = 2 := by omega
 have ht1 : decide (kd < 0) = false := by rw [decide_eq_false_iff_not]; omega
 have ht2 : decide (6 < kd) = false := by rw [decide_eq_false_iff_not]; omega
 have hdl2 : (o.data.length : Int) ≤ 500 := by omega
 clear h hok hpo hin hin2 hp hi hv hmx e0 hbw hi1 hdl hf x1;rw [hob] at *;generalize o.data.length = dl at *;go_enter Tryz.func116, Tryz.ntmps116
 go_wp2_with (first
  | (go_at_call 188; refine HP.out.mono ?_; rintro e w2 ⟨rfl, x2⟩; have X2 := zh (X1.out.trans x2); (obtain ⟨g1, g2, g3, g4, g5, g6, g7, g8, g9⟩ := KB.out _ x2); clear x2)
  | (go_at_call 190; refine (HF.out _ X2.out).mono ?_; rintro e w4 ⟨rfl, t4, m4⟩; have T4 := zh t4; have M4 := zh m4; clear t4 m4))
 go_ret
 exact ⟨rfl, T4.out, X2.out.mut.trans M4.out⟩
structure OpOk (o : OpP) : Prop where
 path : PathOk o.path
 dest : o.kind = 4 ∨ o.kind = 5 → PathOk o.to
 data : o.data.length ≤ 500
 toL : o.to.length ≤ 1000
theorem tstep_any (h : TreeAt w B n m t mb pb kb dv T) (hok : TreeOk T) (hB : B ≤ w.heap.size) (hn : n < 1000000) (hm : m < 1000000) {o : OpP} (ho : OpOk o) {T' : Tr} (hs : StepT T o T') {v : Value} (hv : BytesIs w v o.data) {mx : Int} (hmx : w.cell? ⟨0, 0, none⟩ = some (.int .i64 mx)) :
  Calls Tryz.prog 116 #[.pointer (some ⟨t, 0, none⟩), .agg #[.int .i64 (o.kind : Nat), .string (ba o.path), .string (ba o.to), v]] w (zCj w B n m t mb T') := by
 have nm12 : ∀ {d : Pth} {n : Str} {di : Int}, T.In (names o.path) d n di → n.length ≤ 12 := fun hin => ho.path.last hin.path
 have in2 : ∀ {d : Pth} {n : Str} {di : Int}, T.In (names o.path) d n di → T.In (d ++ [n]) d n di := fun hin => ⟨rfl, hin.at_, hin.dir⟩
 cases hs with
 | mkdir hk hin hno => rw [hk]; exact step_mkdir h hok hB hn hm ho.path hin hno hv ho.data hmx
 | create hk hin hno => rw [hk]; exact step_create h hok hB hn hm ho.path hin hno hv ho.data hmx
 | write hk hin hp hi =>
   rw [hk];exact zHb h hok ho.path hin hp hi hv ho.data 3 (by omega) (by omega) hmx fun W x => file_write (h.ext x) hok (Nat.le_trans hB x.sz) hn hp hi (hv.ext x) ho.data _ _
 | unlink hk hin hp hi =>
   rw [hk];exact zHb h hok ho.path hin hp hi hv ho.data 6 (by omega) (by omega) hmx fun W x => file_unlink (h.ext x) hok (in2 hin) (nm12 hin) hp hi (hv.ext x)
 | link hk hin hp hi hin' hq =>
   rw [hk];exact zHb h hok ho.path hin hp hi hv ho.data 4 (by omega) (by omega) hmx fun W x => file_link (h.ext x) hok hm hp hi (hv.ext x) (ho.dest (.inl hk)) hin' hq _ _ (x.cell hmx)
 | move0 hk hin hp hi hin' hq =>
   rw [hk];exact zHb h hok ho.path hin hp hi hv ho.data 5 (by omega) (by omega) hmx fun W x => file_move0 (h.ext x) hok hm (in2 hin) (nm12 hin) hp hi (hv.ext x) (ho.dest (.inr hk)) hin' hq (x.cell hmx)
 | move1 hk hin hp hi hin' hq hj hji =>
   rw [hk];exact zHb h hok ho.path hin hp hi hv ho.data 5 (by omega) (by omega) hmx fun W x => file_move1 (h.ext x) hok hm (in2 hin) (nm12 hin) hp hi (hv.ext x) (ho.dest (.inr hk)) hin' hq hj hji (x.cell hmx)
end
def zAs (x : OpP × Value) : List Value := [.int .i64 (x.1.kind : Nat), .string (ba x.1.path), .string (ba x.1.to), x.2]
structure OwnOps (w : World) (base : Nat) (v : Value) (l : List (OpP × Value)) : Prop where
 row : w.ownsRow base 96 4 v l.length (l.flatMap zAs)
 data : ∀ x ∈ l, DataIs w x.2 x.1.data
section
variable {w w' : World} {base : Nat} {v : Value} {l : List (OpP × Value)}
theorem OwnOps.mut {B : Nat} {S : List Nat} (h : OwnOps w base v l) (x : Mut B S w w') (h1 : 98 ∉ S := by decide) (h2 : 7 ∉ S := by decide) : OwnOps w' base v l := ⟨x.own h.row h1, fun y hy => (h.data y hy).mut x h2⟩
theorem OwnOps.ext (h : OwnOps w base v l) (x : Ext w w') : OwnOps w' base v l := ⟨x.own h.row, fun y hy => (h.data y hy).ext x⟩
theorem OwnOps.nil (w : World) (base : Nat) : OwnOps w base (.slice none 0 0) [] := ⟨World.ownsRow_nil _ _ _ _, fun y hy => by cases hy⟩
structure OpsW (w : World) (base : Nat) (v : Value) (l : List (OpP × Value)) : Prop where
 row : w.ownsRow base 96 4 v l.length (l.flatMap zAs)
 data : ∀ x ∈ l, BytesIs w x.2 x.1.data
theorem OwnOps.weak (h : OwnOps w base v l) : OpsW w base v l := ⟨h.row, fun y hy => (h.data y hy).weak⟩
theorem OpsW.ext (h : OpsW w base v l) (x : Ext w w') : OpsW w' base v l := ⟨x.own h.row, fun y hy => (h.data y hy).ext x⟩
theorem OpsW.form (h : OpsW w base v l) : ∃ a c, v = .slice a l.length c ∧ l.length ≤ c ∧ c ≤ 9223372036854775807 := by
 rcases h.row.2 with ⟨rfl, h0⟩ | ⟨g, cap, cur, rfl, hb, hg, hn, hm, _⟩
 ·exact ⟨none, 0, by rw [h0], by omega, by omega⟩
 ·exact ⟨_, _, rfl, hn, by unfold maxLen at hm; omega⟩
theorem OwnOps.form (h : OwnOps w base v l) : ∃ a c, v = .slice a l.length c ∧ l.length ≤ c ∧ c ≤ 9223372036854775807 := h.weak.form
theorem flat4 (l : List (OpP × Value)) (k j : Nat) (hk : k < l.length) (hj : j < 4) : (l.flatMap zAs)[k * 4 + j]? = (zAs l[k])[j]? :=
 zGj zAs 4 l (fun _ _ => rfl) k j hk hj
theorem OpsW.at {a : Option Addr} {n c : Nat} (h : OpsW w base (.slice a n c) l) (k : Nat) (hk : k < l.length) : ∃ b, a = some ⟨b, 0, none⟩ ∧ ∀ j, (hj : j < 4) → w.cell? ⟨b, k * 4 + j, none⟩ = (zAs l[k])[j]? := by
 rcases h.row.2 with ⟨e, h0⟩ | ⟨g, cap, cur, e, hb, hg, hn, hm, hs, ht⟩
 ·omega
 ·cases e;refine ⟨g, rfl, fun j hj => ?_⟩;rw [zAb hg, ← flat4 l k j hk hj, ← ht, List.getElem?_take, if_pos (by omega), Array.getElem?_toList]
theorem OwnOps.at {a : Option Addr} {n c : Nat} (h : OwnOps w base (.slice a n c) l) (k : Nat) (hk : k < l.length) : ∃ b, a = some ⟨b, 0, none⟩ ∧ ∀ j, (hj : j < 4) → w.cell? ⟨b, k * 4 + j, none⟩ = (zAs l[k])[j]? := h.weak.at k hk
end
inductive StepsT : Tr → List OpP → Tr → Prop
 | nil (T : Tr) : StepsT T [] T
 | cons {T T1 T2 : Tr} {o : OpP} {r : List OpP} : StepT T o T1 → StepsT T1 r T2 → StepsT T (o :: r) T2
def zLn (T : Tr) : Prop := ∀ i x, look T.N i = some x → x.data.length ≤ 500
theorem StepT.small {T T' : Tr} {o : OpP} (s : StepT T o T') (h : zLn T) (ho : o.data.length ≤ 500) : zLn T' := fun i x hx => by
 rcases s.facts.2.2.2.2 i x hx with h1 | h1 | h1
 ·exact h i x h1
 ·rw [h1]; simp
 ·rw [h1]; exact ho
theorem StepT.paths {T T' : Tr} {o : OpP} (s : StepT T o T') : T'.R.length ≤ T.R.length + 1 := by
 have hi : ∀ p j, (ins T.R p j).length ≤ T.R.length + 1 := fun p j => by rw [zKc]; split <;> omega
 have hm : ∀ p q j, (ins (del T.R p) q j).length ≤ T.R.length + 1 := fun p q j => by
  rw [zKc]; have := zPz T.R p; split <;> omega
 cases s with
 | mkdir => exact hi _ _
 | create => exact hi _ _
 | write => show T.R.length ≤ _; omega
 | unlink => have := zPz T.R; exact Nat.le_succ_of_le (this _)
 | link => exact hi _ _
 | move0 => exact hm _ _ _
 | move1 => exact hm _ _ _
theorem wpList_lenK {α : Type} [DecidableEq α] {k : TypeId} (w : World) {ops : Array Oper} {rest : List Oper} {o : Oper} {a : Act} {Q : Exit → Act → World → Prop}
  (hg : o.guard = none) (mo : Operand) (t : TypeId) (hop : o.op = Op.call { callee := Callee.builtin Builtin.len, args := #[mo], argTypes := #[t] }) (e : TypeId) (ht : Tryz.prog.underlying t = some (.map k e)) (S : KeyS α k) (b n : Nat) (get : α → Option Value) (hm : a.eval mo = .map (some b)) (h : MapK S w b n get)
  (hK : ∀ mm : Nat, mm ≤ n → wpList Tryz.prog ops Q rest (a.put o.dst (.int .i64 mm)) w) :
  wpList Tryz.prog ops Q (o :: rest) a w := by
 refine wpList_plain hg fun K' hK' => ?_
 obtain ⟨mm, hle, hrun⟩ := h.len ht o.type;unfold Oper.wp;simp [execOp, hop, resolve, invoke, builtin, hm, hrun, Result.andThen];exact hK' _ _ (hK mm hle)
section
variable {w : World} {B n m t mb : Nat} {pb kb : Int → Nat} {dv : Int → Value} {T : Tr}
def tdoPost (w : World) (B n m t : Nat) (T' : Tr) (e : Ending) (w' : World) : Prop :=
 e = .returned (.int .i64 0) ∧ (∃ mb pb kb dv, TreeAt w' B n m t mb pb kb dv T') ∧ Mut B [91] w w'
def tdoRel (w w1 : World) (m u : Nat) (T : Tr) (ops : List (OpP × Value)) (T' : Tr) (i : Value) (wr : World) : Prop :=
 ∃ (k : Nat) (Tk : Tr), k ≤ ops.length ∧ i = .int .i64 k ∧ Hid (Mut w.heap.size zA7 w1 wr) ∧ Hid (∃ mb pb kb dv, TreeAt wr w.heap.size (T.N.length + k) (m + k) u mb pb kb dv Tk) ∧ Hid (StepsT Tk ((ops.drop k).map Prod.fst) T') ∧
  Hid (zLn Tk ∧ Tk.next ≤ T.next + k ∧ Tk.R.length ≤ T.R.length + k ∧ Tk.N.length ≤ T.N.length + k ∧ Tk.quota = T.quota)
set_option maxHeartbeats 2000000 in
theorem TDo_any (h : TreeAt w B n m t mb pb kb dv T) (hok : TreeOk T) (hB : B ≤ w.heap.size) (hsm : zLn T) {v : Value} {ops : List (OpP × Value)} {base : Nat} (hops : OpsW w base v ops) (hoo : ∀ x ∈ ops, OpOk x.1) {T' : Tr} (hs : StepsT T (ops.map Prod.fst) T')
  (hN : T.N.length + ops.length ≤ 128) (hq : 500 * ((T.N.length + ops.length : Nat) : Int) ≤ T.quota) (hnx : T.next + ops.length < 4611686018427387904) (hR : T.R.length + ops.length < 1000000) (hm : m + ops.length < 1000000) {mx : Int} (hmx : w.cell? ⟨0, 0, none⟩ = some (.int .i64 mx)) :
  Calls Tryz.prog 51 #[.pointer (some ⟨t, 0, none⟩), v] w (tdoPost w B (T.N.length + ops.length) (m + ops.length) t T') := by
 have HT := zh h;have HO := zh hops;have HC := zh (zKr h hok (by omega));have HOO := zh hoo;have HS := zh hs;have HSM := zh hsm;have HMX := zh hmx;obtain ⟨a, c, rfl, -, -⟩ := hops.form;have hol : (ops.length : Int) ≤ 128 := by omega
 have hq2 : T.quota = T.quota := rfl;clear h hops hoo hs hsm hmx hok hq2;go_enter Tryz.func51, Tryz.ntmps51
 go_wp2_with (go_at_call 23; refine HC.out.mono ?_; rintro e w1 ⟨u, mb1, pb1, kb1, rfl, t1, x1⟩; have T1 := zh t1; have X1 := zh x1; clear t1 x1)
 clear HC
 go_loopw [13] (fun i wr => tdoRel w w1 m u T ops T' i wr) (fun i _ => ops.length - (intOf i).toNat)
 case atStart => exact ⟨0, T, Nat.zero_le _, rfl, zh (Mut.refl _ _ _), zh ⟨_, _, _, _, T1.out⟩, zh (by simpa using HS.out), zh ⟨HSM.out, by simp, by simp, by simp, rfl⟩⟩
 case round =>
  obtain ⟨wq, rfl⟩ : ∃ x : World, x = wr := ⟨_, rfl⟩
  obtain ⟨k, Tk, hk, rfl, HG, HTk, HSk, HF⟩ := hrel;have XQ := zh (X1.out.then_mut HG.out (Nat.le_refl _))
  by_cases hlt : k < ops.length
  ·obtain ⟨b, e, hc⟩ := (HO.out.ext XQ.out).at k hlt;subst e;have hc0 : wq.cell? ⟨b, k * 4, none⟩ = some (.int .i64 (ops[k].1.kind : Nat)) := hc 0 (by omega);have hc1 : wq.cell? ⟨b, k * 4 + 1, none⟩ = some (.string (ba ops[k].1.path)) := hc 1 (by omega);have hc2 : wq.cell? ⟨b, k * 4 + 2, none⟩ = some (.string (ba ops[k].1.to)) := hc 2 (by omega);have hc3 : wq.cell? ⟨b, k * 4 + 3, none⟩ = some ops[k].2 := hc 3 (by omega);have hmem := List.getElem_mem hlt;have HOk := zh (HOO.out _ hmem);have HDk := zh ((HO.out.ext XQ.out).data _ hmem);have HDR := zh (List.drop_eq_getElem_cons hlt)
   obtain ⟨T2, hst, hrest⟩ : ∃ T2, StepT Tk ops[k].1 T2 ∧ StepsT T2 ((ops.drop (k + 1)).map Prod.fst) T' := by
    have := HSk.out;rw [HDR.out, List.map_cons] at this
    cases this with
    | cons h1 h2 => exact ⟨_, h1, h2⟩
   have HST := zh hst;have HRE := zh hrest;obtain ⟨mbk, pbk, kbk, dvk, tk⟩ := HTk.out;have TK := zh tk;obtain ⟨ad, cd, hdv⟩ := HDk.out.form;rw [hdv] at hc3;have HDV := zh hdv
   have hokk : TreeOk Tk := ⟨by have := HF.out.2.1; omega, by have := HF.out.2.2.1; omega⟩
   have HOKK := zh hokk;clear hst hrest tk hc hdv hmem hokk
   have HSTEP : Hid (∀ W, Ext wq W → Calls Tryz.prog 116 #[.pointer (some ⟨u, 0, none⟩), .agg #[.int .i64 (ops[k].1.kind : Nat), .string (ba ops[k].1.path), .string (ba ops[k].1.to), .slice ad ops[k].1.data.length cd]] W (zCj W w.heap.size (T.N.length + k) (m + k) u mbk T2)) := fun W xw => by
    have := tstep_any (TK.out.ext xw) HOKK.out (Nat.le_trans XQ.out.sz xw.sz) (by omega) (by omega) HOk.out HST.out (HDk.out.ext xw) ((XQ.out.trans xw).cell HMX.out);rw [HDV.out] at this;exact this
   have HD5 := HOk.out.data;generalize ops[k].1.data.length = dl at *
   go_wp2_with (go_at_call 116; refine (HSTEP.out _ ((xr wq).alloc _)).mono ?_; rintro e w5 ⟨rfl, t5, g5⟩; have T5 := zh t5; have G5 := zh g5; clear t5 g5)
   go_roundw
   case rel =>
    have hf := HST.out.facts;refine ⟨k + 1, T2, hlt, by go_num, zh ((HG.out.trans ((xr wq).alloc _).mut).trans G5.out), zh ?_, zh HRE.out, zh ⟨HST.out.small HF.out.1 HOk.out.data, ?_, ?_, ?_, ?_⟩⟩
    ·obtain ⟨p5, k5, d5, t5⟩ := T5.out;exact ⟨_, p5, k5, d5, t5⟩
    ·have := hf.2.2.1; have := HF.out.2.1; omega
    ·have := HST.out.paths; have := HF.out.2.2.1; omega
    ·have := hf.1; have := HF.out.2.2.2.1; omega
    ·exact hf.2.2.2.1.trans HF.out.2.2.2.2
   case measure => simp [intOf]; omega
  ·have hkl : k = ops.length := by omega
   subst hkl
   have hT : Tk = T' := by
    have := HSk.out;rw [List.drop_length] at this;cases this; rfl
   subst hT;obtain ⟨mbk, pbk, kbk, dvk, tk⟩ := HTk.out;have TK := zh tk;have hu0 : wq.cell? ⟨u, 0, none⟩ = some (.map (some mbk)) := tk.mapCell;have HUS := zh (Used_any tk (by have := HF.out.2.2.2.1; omega) 500 (by omega) HF.out.1)
   have KQ : Hid (∀ W, Ext wq W → W.cell? ⟨u, 0, none⟩ = some (.map (some mbk)) ∧ W.cell? ⟨u, 1, none⟩ = some (.int .i64 Tk.next) ∧ W.cell? ⟨u, 2, none⟩ = some (.int .i64 T.quota)) := fun W xw => by
    have hb := xw.get tk.blk;rw [HF.out.2.2.2.2] at hb;exact ⟨by rw [zAb hb]; rfl, by rw [zAb hb]; rfl, by rw [zAb hb]; rfl⟩
   have HM := zh tk.nodes;have KT : Hid (∀ W, Ext wq W → W.heap[t]? = some (.cells #[.map (some mb), .int .i64 T.next, .int .i64 T.quota] 89 (0, 0))) := fun W xw => (XQ.out.trans xw).get HT.out.blk
   have htu : t < w.heap.size := (Array.getElem?_eq_some_iff.1 HT.out.blk).1;clear tk
   go_upto_region 11 with (refine wpList_lenK wq rfl (.tmp 27) 87 rfl 86 zAz intK mbk (T.N.length + ops.length) _ (by rfl) HM.out ?_; intro mm hmm; have hmd : decide ((128 : Int) < (mm : Int)) = false := by rw [decide_eq_false_iff_not]; omega)
   go_region_held3 (fun V => V.cell? ⟨u, 2, none⟩ = some (.int .i64 T.quota))
    (first
     | exact (KQ.out _ (xr wq)).2.2
     | exact (KQ.out _ (xr wq).drew).2.2
     | exact (KQ.out _ X5.out).2.2)
    (first | (go_at_call 117; refine ((show ∀ W, Ext wq W → Calls Tryz.prog 117 #[.pointer (some ⟨u, 0, none⟩)] W (usedPost W Tk 500) from fun W xw => Used_any (TK.out.ext xw) (by have := HF.out.2.2.2.1; omega) 500 (by omega) HF.out.1) _ (xr wq).drew).mono ?_; rintro e w5 ⟨uu, rfl, hu0', hu1', x5⟩; have X5 : Hid (Ext wq w5) := (xr wq).drew.trans x5; (have hud : decide (T.quota < uu) = false := by rw [decide_eq_false_iff_not]; have := HF.out.2.2.2.1; omega); clear x5))
   all_goals
    obtain ⟨q0, q1, q2⟩ := KQ.out _ X5.out;have hb5 := KT.out _ X5.out;have HB5 := zh hb5;have f0 := zAl hb5 0;have f1 := zAl hb5 1;have f2 := zAl hb5 2;have g0 : w5.cell? ⟨t, 0, none⟩ = some (.map (some mb)) := by rw [zAb hb5]; rfl
    have g1 : w5.cell? ⟨t, 1, none⟩ = some (.int .i64 T.next) := by rw [zAb hb5]; rfl
    have g2 : w5.cell? ⟨t, 2, none⟩ = some (.int .i64 T.quota) := by rw [zAb hb5]; rfl
    clear hb5
    go_wp2_with fail
    go_ret
    have T5 := TK.out.ext X5.out;have e1 := zAd w5 t 0 (.map (some mbk)) _ _ _ HB5.out;have e2 := zAd _ t 1 (.int .i64 Tk.next) _ _ _ e1;have e3 := zAd _ t 2 (.int .i64 T.quota) _ _ _ e2
    have M5 : Mut B [91] w5 (((w5.setCell ⟨t, 0, none⟩ (.map (some mbk))).setCell ⟨t, 1, none⟩ (.int .i64 Tk.next)).setCell ⟨t, 2, none⟩ (.int .i64 T.quota)) :=
     (((Mut.refl B [91] w5).set HB5.out _ (by simp) HT.out.bt).set e1 _ (by simp) HT.out.bt).set e2 _ (by simp) HT.out.bt
    refine ⟨rfl, ⟨mbk, pbk, kbk, dvk, ?_, (T5.ns.mut M5 (by simp) (by simp) (by simp)).le hB, HT.out.bt, T5.wf⟩, (XQ.out.trans X5.out).mut.trans M5⟩;rw [e3, HF.out.2.2.2.2]; rfl
end
end
end Go.Proofs.YtgnjjfdfoibdiaaGreatDoor
