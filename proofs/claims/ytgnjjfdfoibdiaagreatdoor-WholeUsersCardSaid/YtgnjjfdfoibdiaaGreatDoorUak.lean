/- A part of the proof of WholeUsers. -/
import Derived.Ground.GgzProg
import Derived.Ground.SlgmProg
import Derived.Lib.OwnBridge
import Derived.Shelf.SlIter.Nil
import Derived.Sort.OwnSorted
import Derived.Test.YtgnjjfdfoibdiaaGreatDoorUaj
set_option linter.all false
namespace Go.Proofs.YtgnjjfdfoibdiaaGreatDoor
section
open Go.RowKit Go.Maps
set_option maxRecDepth 100000
theorem mclone_raw (w : World) (b : Nat) (es : Array MapEntry) (clock : Nat) (hb : w.heap[b]? = some (.map es clock)) :
  Calls Tryz.prog 48 #[.map (some b)] w fun e w' => e = .returned (.map (some w.heap.size)) ∧ w' = w.alloc (.map es clock) := by
 have hq := fun w => run_eql_map_nil_sl (P := Tryz.prog) w 83 _ _ (some b) zBb
 go_enter Tryz.func48, Tryz.ntmps48
 go_wp2
 rw [run_callFunc_extern Tryz.func113 (by kernel_rfl) (by kernel_rfl) (by kernel_rfl) (e := Extern.MapsClone.clone) (by kernel_rfl), run_maps_clone_sl w 83 hb];simp only [Result.andThen];rw [Oper.upon_value]
 go_wp2
 rw [run_typeAssert_map_sl _ 83 20 _ _ _ zBb];simp only [Result.andThen];rw [Oper.upon_value]
 go_wp2
 go_ret
 exact ⟨rfl, rfl⟩
theorem mclone_nil (w : World) : Calls Tryz.prog 48 #[.map none] w fun e w' => e = .returned (.map none) ∧ w' = w := by
 have hq := fun w => run_eql_map_nil_sl (P := Tryz.prog) w 83 _ _ none zBb
 go_enter Tryz.func48, Tryz.ntmps48
 go_wp2
 go_ret
 exact ⟨rfl, rfl⟩
theorem zOx {w : World} {b n : Nat} {get : Str → Option Value} {x : Bool} (h : x = true → MapK strK w b n get) :
  Calls Tryz.prog 48 #[.map (if x then some b else none)] w fun e w' => e = .returned (.map (if x then some w.heap.size else none)) ∧ (x = true → MapK strK w' w.heap.size n get) ∧ Ext w w' := by
 cases x with
 | true =>
   obtain ⟨D, ⟨es, clock, hb, F, hs, hD⟩, hr⟩ := h rfl;refine (mclone_raw w b es clock hb).mono ?_;rintro e w' ⟨rfl, rfl⟩;exact ⟨rfl, fun _ => ⟨D, ⟨es, clock, (MapKept.heap_alloc w _).1, F, hs, hD⟩, hr⟩, (xr w).alloc _⟩
 | false =>
   refine (mclone_nil w).mono ?_;rintro e w' ⟨rfl, rfl⟩;exact ⟨rfl, (fun e => by cases e), xr _⟩
section
variable {w : World} {B n m t mb : Nat} {pb kb : Int → Nat} {dv : Int → Value} {T : Tr}
theorem RngK.mut {α : Type} [DecidableEq α] {k : TypeId} {S : KeyS α k} {w w' : World} {b r n c : Nat} {get : α → Option Value} {left : α → Bool} (h : RngK S w b r n get left c) (g : w.grownBy w' (some r)) : Mut 0 [1] w w' := by
 obtain ⟨D, L, ⟨es, clock, since, seen, c0, _, _, _, _, hr, _⟩, _⟩ := h;refine ⟨g.os, g.tape, g.output, g.size, fun k o hk hn => (g.block k (Array.getElem?_eq_some_iff.1 hk).1 fun e => ?_).trans hk⟩;cases e;rw [hr] at hk;cases hk
 rcases hn with h | h
 ·omega
 ·exact h (by simp [tagOf])
def cloneRel (w : World) (T : Tr) (n m mb r mb' t' : Nat) (get : Int → Option Value) (dv : Int → Value) (wr : World) : Prop :=
 ∃ (vs : List Int) (pb kb : Int → Nat) (left : Int → Bool) (c : Nat), Hid (Ext w wr) ∧ Hid (wr.heap[t']? = some (.cells #[.map (some mb'), .int .i64 T.next, .int .i64 T.quota] 89 (0, 0))) ∧
  Hid (NodesAt wr w.heap.size vs.length m mb' pb kb dv T (fun i => decide (i ∈ vs))) ∧ Hid (RngK intK wr mb r n get left c) ∧ Hid (vs.Nodup ∧ vs.length ≤ T.N.length ∧ (∀ i ∈ vs, (look T.N i).isSome = true) ∧ ∀ i, left i = ((look T.N i).isSome && !decide (i ∈ vs)))
theorem vs_len {T : Tr} {vs : List Int} (h : vs.Nodup) (hs : ∀ i ∈ vs, (look T.N i).isSome = true) : vs.length ≤ T.N.length := by
 have := List.Nodup.length_le_of_subset h (l₂ := T.N.map Prod.fst) (fun i hi => mem_keys.2 (hs i hi));simpa using this
theorem NodesAt.none (w : World) (B m mb : Nat) (pb kb : Int → Nat) (dv : Int → Value) (T : Tr) (hm : MapK intK w mb 0 (fun _ => none)) (hB : B ≤ mb) : NodesAt w B 0 m mb pb kb dv T (fun i => decide (i ∈ ([] : List Int))) where
 nodes := hm.congr fun i => by simp
 node := fun i x _ h => by simp at h
 data := fun i x _ h => by simp at h
 kids := fun p i x _ _ h => by simp at h
 inj := fun i j x y _ _ h => by simp at h
 kinj := fun i j x y _ _ h => by simp at h
 kmb := fun i x _ h => by simp at h
 bm := hB
 bp := fun i x _ h => by simp at h
 bk := fun i x _ h => by simp at h
def tclonePost (w : World) (m : Nat) (dv : Int → Value) (T : Tr) (e : Ending) (w' : World) : Prop :=
 ∃ t' mb' pb' kb', e = .returned (.pointer (some ⟨t', 0, none⟩)) ∧ TreeAt w' w.heap.size T.N.length m t' mb' pb' kb' dv T ∧ Ext w w'
theorem zKr (h : TreeAt w B n m t mb pb kb dv T) (hok : TreeOk T) (hlen : T.N.length ≤ 1000000) : Calls Tryz.prog 23 #[.pointer (some ⟨t, 0, none⟩)] w (tclonePost w m dv T) := by
 have hmm := @run_makeMap Tryz.prog;have HT := zh h;have HO := zh hok;have c1 : w.cell? ⟨t, 1, none⟩ = some (.int .i64 T.next) := by rw [zAb h.blk]; rfl
 have c2 : w.cell? ⟨t, 2, none⟩ = some (.int .i64 T.quota) := by rw [zAb h.blk]; rfl
 have KC : Hid (∀ W, Ext w W → W.cell? ⟨t, 1, none⟩ = some (.int .i64 T.next) ∧ W.cell? ⟨t, 2, none⟩ = some (.int .i64 T.quota)) := fun W x => ⟨x.cell c1, x.cell c2⟩
 clear h hok;go_enter Tryz.func23, Tryz.ntmps23
 go_upto_region 1 with fail
 go_region_held3 (fun W => W.cell? ⟨t, 1, none⟩ = some (.int .i64 T.next) ∧ W.cell? ⟨t, 2, none⟩ = some (.int .i64 T.quota))
  (first
   | exact KC.out _ (xr _)
   | exact KC.out _ ((xr _).drew)
   | exact KC.out _ ((xr _).alloc _)
   | exact KC.out _ (((xr _).alloc _).alloc _)
   | exact KC.out _ (((xr _).drew).alloc _)
   | exact KC.out _ ((((xr _).drew).alloc _).alloc _)) (fail)
 obtain ⟨W1, hW1⟩ : ∃ W1, W1 = ((w.alloc (.map #[] 0)).alloc (.cells #[.map (some w.heap.size), .int .i64 T.next, .int .i64 T.quota] 89)).drew := ⟨_, rfl⟩
 rw [← hW1];have X1 := zh (show Ext w W1 by rw [hW1]; exact (((xr w).alloc _).alloc _).drew)
 have B1 := zh (show W1.heap[w.heap.size + 1]? = some (.cells #[.map (some w.heap.size), .int .i64 T.next, .int .i64 T.quota] 89 (0, 0)) by
  rw [hW1, drew_heap, ← World.size_alloc w (.map #[] 0)]; exact heap_alloc_new _ _)
 have M1 := zh (show MapK intK W1 w.heap.size 0 (fun _ => none) by
  rw [hW1]; exact ((MapK.made intK w).ext (((xr _).alloc _).drew)))
 have Z1 := zh (show W1.heap.size = w.heap.size + 2 by rw [hW1, drew_heap]; simp);clear hW1 c1 c2 KC;have c0 := (HT.out.ext X1.out).mapCell;have HN := zh (HT.out.ext X1.out).nodes
 go_wp2_with (refine zCq _ rfl _ 87 rfl 86 zAz intK mb n _ rfl HN.out ?_; intro w2 cnt0 r2 x2 z2; have R2 := zh r2; have X2 := zh x2; have Z2 := zh z2; clear r2 x2 z2)
 go_frame
 go_loopw [] (fun wr => cloneRel w T n m mb W1.heap.size w.heap.size (w.heap.size + 1) (fun i => (look T.N i).map fun _ => .pointer (some ⟨pb i, 0, none⟩)) dv wr) (fun wr => wr.rangeLeft mb W1.heap.size)
 case atStart =>
  refine ⟨[], pb, kb, _, cnt0, zh (X1.out.trans X2.out), zh (X2.out.get B1.out), zh (NodesAt.none _ _ _ _ _ _ _ _ (M1.out.ext X2.out) (Nat.le_refl _)), R2, zh ⟨List.nodup_nil, Nat.zero_le _, (fun i hi => by cases hi), fun i => ?_⟩⟩;simp
 case round =>
  obtain ⟨wq, rfl⟩ : ∃ x : World, x = wr := ⟨_, rfl⟩
  obtain ⟨vs, pb', kb', left, c, HX, HB, HN2, HR, HV⟩ := hrel
  go_wp2_with (refine zG9 _ rfl _ rfl mb W1.heap.size n _ left c rfl HR.out ?_ ?_)
  ·intro hd;have HD := zh hd;clear hd
   go_wp2_with fail
   go_ret
   refine ⟨_, _, pb', kb', rfl, ⟨HB.out, ?_, by omega, HT.out.wf⟩, HX.out⟩
   have hall : ∀ i x, look T.N i = some x → decide (i ∈ vs) = true := by
    intro i x hx;have := HV.out.2.2.2 i;rw [HD.out i, hx] at this;simpa using this.symm
   have := HN2.out.congr (d' := fun _ => true) hall;exact { this with nodes := this.nodes.mono HV.out.2.1 }
  ·intro i v w3 c3 hok hl x hx hv r3 hlt g3 s3 hen;subst hv
   have hin : decide (i ∈ vs) = false := by
    have := HV.out.2.2.2 i;rw [hl, hx] at this;simpa using this.symm
   have hws : w.heap.size + 2 ≤ wq.heap.size := by have := (X1.out.trans X2.out).sz; have := Z1.out; have := Z2.out; have := HR.out.lt; omega
   have X3 := zh (HX.out.grow g3 (fun k hk => by cases hk; have := Z1.out; omega));have HT3 := zh (HT.out.ext X3.out);have N3 := zh (HN2.out.mut (HR.out.mut g3) (by simp) (by simp) (by simp))
   have HB3 := zh (show w3.heap[w.heap.size + 1]? = some (.cells #[.map (some w.heap.size), .int .i64 T.next, .int .i64 T.quota] 89 (0, 0)) from
    (g3.block _ (Array.getElem?_eq_some_iff.1 HB.out).1 (fun e => by have := Option.some.inj e; have := Z1.out; omega)).trans HB.out)
   obtain ⟨ad, cd, hdv⟩ := (HT3.out.data hx).form
   have KT : Hid (∀ W, Ext w3 W → W.cell? ⟨w.heap.size + 1, 0, none⟩ = some (.map (some w.heap.size)) ∧ W.cell? ⟨pb i, 0, none⟩ = some (.bool x.dir) ∧ W.cell? ⟨pb i, 1, none⟩ = some (.int .i64 (cnt T.R i)) ∧ W.cell? ⟨pb i, 2, none⟩ = some (.slice ad x.data.length cd) ∧ W.cell? ⟨pb i, 3, none⟩ = some (.map (if x.dir then some (kb i) else none))) := fun W xw => by
    obtain ⟨h0, h1, h2, h3⟩ := (HT3.out.ext xw).cells hx;rw [hdv] at h2;exact ⟨by rw [zAb (xw.get HB3.out)]; rfl, h0, h1, h2, h3⟩
   have hpbl : pb i < w.heap.size := HT.out.ns.pbLt hx rfl
   have KF : Hid (∀ V5 V6, Ext w3 V5 → V5.grownBy V6 (some w.heap.size) → V6.cell? ⟨w.heap.size + 1, 0, none⟩ = some (.map (some w.heap.size)) ∧ V6.cell? ⟨pb i, 0, none⟩ = some (.bool x.dir) ∧ V6.cell? ⟨pb i, 1, none⟩ = some (.int .i64 (cnt T.R i)) ∧ V6.cell? ⟨pb i, 2, none⟩ = some (.slice ad x.data.length cd) ∧ V6.cell? ⟨pb i, 3, none⟩ = some (.map (if x.dir then some (kb i) else none))) := fun V5 V6 x5 g6 => by
    obtain ⟨h0, h1, h2, h3, h4⟩ := KT.out V5 x5
    have far : ∀ {b o : Nat} {u : Value}, b ≠ w.heap.size → V5.cell? ⟨b, o, none⟩ = some u → V6.cell? ⟨b, o, none⟩ = some u := fun {b o u} hb hc =>
     (World.cell?_of_block (w := V5) (g6.block b (World.block_lt_of_cell? V5 _ hc) (by simp; exact hb))).trans hc
    exact ⟨far (by omega) h0, far (by omega) h1, far (by omega) h2, far (by omega) h3, far (by omega) h4⟩
   obtain ⟨km, hkm⟩ : ∃ km, km = if x.dir then some (kb i) else none := ⟨_, rfl⟩
   rw [← hkm] at KT KF
   have HC : Hid (∀ W, Ext w3 W → Calls Tryz.prog 48 #[.map km] W (fun e w' => ∃ km2, e = .returned (.map km2) ∧ Hid (km2 = if x.dir then some W.heap.size else none) ∧ Hid (∀ p, look T.R p = some i → x.dir = true → MapK strK w' W.heap.size m (fun k => (look T.R (p ++ [k])).map fun j => .int .i64 j)) ∧ Ext W w')) := fun W xw => by
    rw [hkm]
    cases hxd : x.dir with
    | false => exact (zOx (b := kb i) (n := m) (get := fun _ => none) (x := false) (fun e => by cases e)).mono fun e w' h => ⟨_, h.1, zh rfl, zh (fun p _ e => by cases e), h.2.2⟩
    | true =>
      obtain ⟨p, hp⟩ := HT.out.wf.has i x hx hxd;have hk := (HT3.out.ext xw).kids hp hx hxd
      refine (zOx (x := true) (fun _ => hk)).mono fun e w' h => ⟨_, h.1, zh rfl, zh (fun q hq _ => ?_), h.2.2⟩
      obtain rfl := HT.out.wf.one p q i x hp hq hx hxd;exact h.2.1 rfl
   have HX3 := zh hx;have HIN := zh hin;have HR3 := zh r3;have HL3 := zh (r3.left_eq);have HLq := zh (HR.out.left_eq);have HDV := zh hdv;have hvl : vs.length < maxLen := by have := HV.out.2.1; unfold maxLen; omega
   have HP := zh (show ∀ w5 km2, Ext w3 w5 → (km2 = if x.dir then some w3.heap.size else none) → (∀ p, look T.R p = some i → x.dir = true → MapK strK w5 w3.heap.size m (fun k => (look T.R (p ++ [k])).map fun j => .int .i64 j)) →
     ∃ w6, (Instr.mapUpdate 87 (.map (some w.heap.size)) (.int .i64 i) (.pointer (some ⟨w5.heap.size, 0, none⟩))).run Tryz.prog (w5.alloc (.cells #[.bool x.dir, .int .i64 (cnt T.R i), .slice ad x.data.length cd, .map km2] 85)) = .ok () w6 ∧
      NodesAt w6 w.heap.size (vs.length + 1) m w.heap.size (upd pb' i w5.heap.size) (upd kb' i w3.heap.size) dv T (fun j => decide (j ∈ vs) || decide (j = i)) ∧ (w5.alloc (.cells #[.bool x.dir, .int .i64 (cnt T.R i), .slice ad x.data.length cd, .map km2] 85)).grownBy w6 (some w.heap.size) ∧ w6.heap.size = (w5.alloc (.cells #[.bool x.dir, .int .i64 (cnt T.R i), .slice ad x.data.length cd, .map km2] 85)).heap.size from by
    intro w5 km2 x5 hk5 hm5;have hw3 : w.heap.size + 2 ≤ w3.heap.size := by rw [s3]; exact hws
    refine ((N3.out.ext x5).ext ((xr w5).alloc _)).put HX3.out HIN.out hok hvl ?_ ?_ ?_ ?_ ?_ ?_ ?_ ?_
    ·rw [heap_alloc_new, hk5, HDV.out]
    ·exact ((HT3.out.data HX3.out).ext x5).ext ((xr w5).alloc _)
    ·exact fun p hp hxd => (hm5 p hp hxd).ext ((xr w5).alloc _)
    ·intro j y hy hj;have := N3.out.pbLt hy hj;have := x5.sz;omega
    ·intro j y hy hj hyd;obtain ⟨p, hp⟩ := HT.out.wf.has j y hy hyd;have := (N3.out.kids p j y hp hy hj hyd).lt;omega
    ·intro _; omega
    ·have := x5.sz; omega
    ·intro _; omega)
   obtain ⟨k0, k1, k2, k3, k4⟩ := KT.out w3 (xr w3);have hcn : ((cnt T.R i : Nat) : Int) = ((cnt T.R i : Nat) : Int) := rfl;clear hkm hx hin r3 hdv hl g3 hcn
   go_upto_region 5 with fail
   go_region_held3 (fun V => V.cell? ⟨w.heap.size + 1, 0, none⟩ = some (.map (some w.heap.size)) ∧ V.cell? ⟨pb i, 0, none⟩ = some (.bool x.dir) ∧ V.cell? ⟨pb i, 1, none⟩ = some (.int .i64 (cnt T.R i)) ∧ V.cell? ⟨pb i, 2, none⟩ = some (.slice ad x.data.length cd) ∧ V.cell? ⟨pb i, 3, none⟩ = some (.map km))
    (first
     | exact KT.out _ (xr w3)
     | exact KT.out _ (xr w3).drew
     | exact KT.out _ X5.out
     | exact KT.out _ (X5.out.alloc _)
     | exact KF.out _ _ (X5.out.alloc _) G6.out)
    (first | (go_at_call 48; refine (HC.out _ (xr w3).drew).mono ?_; rintro e w5 ⟨km2, rfl, hk5, hm5, x5⟩; have X5 : Hid (Ext w3 w5) := (xr w3).drew.trans x5; (obtain ⟨w6, hr6, n6, g6, s6⟩ := HP.out w5 km2 X5.out hk5.out hm5.out); have N6 := zh n6; have G6 := zh g6; have S6 := zh s6; clear n6 x5 g6 s6))
   all_goals
    go_wp2_with fail
    go_roundw
    all_goals
     have X6 := (X3.out.trans X5.out).trans ((xr w5).alloc (.cells #[.bool x.dir, .int .i64 (cnt T.R i), .slice ad x.data.length cd, .map km2] 85));have R6 := (HR3.out.ext (X5.out.trans ((xr w5).alloc (.cells #[.bool x.dir, .int .i64 (cnt T.R i), .slice ad x.data.length cd, .map km2] 85)))).kept G6.out (fun e => by have := Option.some.inj e; have := HT.out.nodes.lt; omega) (fun e => by have := Option.some.inj e; have := Z1.out; omega)
    case rel =>
     have hnv : i ∉ vs := by simpa using HIN.out
     refine ⟨vs ++ [i], upd pb' i w5.heap.size, upd kb' i w3.heap.size, _, c3, zh (X6.grow G6.out (fun k hk => by cases hk; exact Nat.le_refl _)), zh ?_, zh ?_, zh R6, zh ⟨?_, ?_, ?_, ?_⟩⟩
     ·refine (G6.out.block _ ?_ (fun e => by have := Option.some.inj e; omega)).trans ((X5.out.trans ((xr w5).alloc _)).get HB3.out)
      have := ((X5.out.trans ((xr w5).alloc (.cells #[.bool x.dir, .int .i64 (cnt T.R i), .slice ad x.data.length cd, .map km2] 85))).get HB3.out)
      exact (Array.getElem?_eq_some_iff.1 this).1
     ·rw [List.length_append];refine N6.out.congr fun j y _ => ?_
      rw [Bool.eq_iff_iff]; simp
     ·rw [List.nodup_append];refine ⟨HV.out.1, by simp, fun a ha b hb e => ?_⟩;rw [List.mem_singleton] at hb;subst hb; subst e;exact hnv ha
     ·refine vs_len ?_ ?_
      ·rw [List.nodup_append];refine ⟨HV.out.1, by simp, fun a ha b hb e => ?_⟩;rw [List.mem_singleton] at hb;subst hb; subst e;exact hnv ha
      ·intro a ha
       rcases List.mem_append.1 ha with h | h
       ·exact HV.out.2.2.1 a h
       ·rw [List.mem_singleton] at h; rw [h, HX3.out]; rfl
     ·intro a ha
      rcases List.mem_append.1 ha with h | h
      ·exact HV.out.2.2.1 a h
      ·rw [List.mem_singleton] at h; rw [h, HX3.out]; rfl
     ·intro j;rw [HV.out.2.2.2 j]
      by_cases e1 : j ∈ vs <;> by_cases e2 : j = i <;> simp [e1, e2]
    case measure =>
     rw [R6.left_eq, HLq.out];exact hlt
end
end
end Go.Proofs.YtgnjjfdfoibdiaaGreatDoor
namespace Go.Proofs
open Go.Shelf
def zHs : Go.Shelf.Ren := ⟨fun | 7 => 31 | 10 => 58 | n => n, fun | 23 => 50 | 26 => 9 | 3 => 103 | 28 => 99 | 0 => 0 | 27 => 98 | 33 => 144 | 4 => 4 | n => n, fun | n => n⟩
theorem zNu : Go.Proofs.SlLaysZ.n7 Tryz.prog zHs := {
 mixed := by kernel_rfl
 f7 := ⟨Tryz.f31.name, by decide, Tryz.func31.trans (congrArg some (by kernel_rfl))⟩
 f10 := ⟨Tryz.f58.name, by decide, Tryz.func58.trans (congrArg some (by kernel_rfl))⟩
 t0 := Tryz.underlying0
 a0 := Tryz.isAgg0
 z0 := Tryz.sizeOf0
 v0 := Tryz.zeroValue0
 t4 := Tryz.underlying4
 a4 := Tryz.isAgg4
 z4 := Tryz.sizeOf4
 v4 := Tryz.zeroValue4
 t23 := Tryz.underlying50
 a23 := Tryz.isAgg50
 z23 := Tryz.sizeOf50
 v23 := Tryz.zeroValue50
 t26 := Tryz.underlying9
 a26 := Tryz.isAgg9
 z26 := Tryz.sizeOf9
 v26 := Tryz.zeroValue9
 t27 := Tryz.underlying98
 a27 := Tryz.isAgg98
 z27 := Tryz.sizeOf98
 v27 := Tryz.zeroValue98
 t28 := Tryz.underlying99
 a28 := Tryz.isAgg99
 z28 := Tryz.sizeOf99
 v28 := Tryz.zeroValue99
 t33 := Tryz.underlying144
 a33 := Tryz.isAgg144
 z33 := Tryz.sizeOf144
 v33 := Tryz.zeroValue144 }
def zF3 : Go.Shelf.Ren := ⟨fun | 6 => 30 | 8 => 56 | 9 => 57 | 11 => 129 | 13 => 131 | 12 => 130 | 23 => 208 | 24 => 209 | 14 => 199 | 15 => 200 | 16 => 201 | 17 => 202 | 18 => 203 | 19 => 204 | 20 => 205 | 21 => 206 | 22 => 207 | 25 => 265 | 26 => 266 | 27 => 267 | 28 => 268 | 29 => 269 | 30 => 270 | 31 => 310 | n => n, fun | 26 => 9 | 28 => 99 | 24 => 33 | 0 => 0 | 3 => 3 | 37 => 69 | 48 => 27 | 50 => 147 | 4 => 4 | 40 => 301 | 39 => 300 | 45 => 72 | 5 => 5 | 9 => 9 | 51 => 356 | 55 => 360 | 57 => 394 | 58 => 395 | 33 => 144 | n => n, fun | n => n⟩
theorem zDo : Go.Proofs.SlLaysZ.n6 Tryz.prog zF3 := {
 mixed := by kernel_rfl
 f6 := ⟨Tryz.f30.name, by decide, Tryz.func30.trans (congrArg some (by kernel_rfl))⟩
 f8 := ⟨Tryz.f56.name, by decide, Tryz.func56.trans (congrArg some (by kernel_rfl))⟩
 f11 := ⟨Tryz.f129.name, by decide, Tryz.func129.trans (congrArg some (by kernel_rfl))⟩
 t0 := Tryz.underlying0
 a0 := Tryz.isAgg0
 z0 := Tryz.sizeOf0
 v0 := Tryz.zeroValue0
 t24 := Tryz.underlying33
 a24 := Tryz.isAgg33
 z24 := Tryz.sizeOf33
 v24 := Tryz.zeroValue33
 t26 := Tryz.underlying9
 a26 := Tryz.isAgg9
 z26 := Tryz.sizeOf9
 v26 := Tryz.zeroValue9
 t28 := Tryz.underlying99
 a28 := Tryz.isAgg99
 z28 := Tryz.sizeOf99
 v28 := Tryz.zeroValue99
 i26 := by kernel_rfl }
def zNh : Go.Shelf.Ren := ⟨fun | 6 => 57 | 8 => 131 | 9 => 130 | 19 => 208 | 20 => 209 | 21 => 199 | 22 => 200 | 23 => 201 | 24 => 202 | 25 => 203 | 26 => 204 | 27 => 205 | 28 => 206 | 29 => 207 | 36 => 265 | 31 => 266 | 32 => 267 | 37 => 268 | 38 => 269 | 39 => 270 | 41 => 310 | n => n, fun | 27 => 33 | 29 => 9 | 3 => 3 | 32 => 69 | 26 => 33 | 0 => 0 | 44 => 27 | 46 => 147 | 4 => 4 | 36 => 301 | 35 => 300 | 41 => 72 | 5 => 5 | 9 => 9 | 53 => 356 | 57 => 360 | 63 => 394 | 64 => 395 | n => n, fun | n => n⟩
theorem zNi : Go.Proofs.SlLaysM.n6 Tryz.prog zNh := {
 mixed := by kernel_rfl
 f6 := ⟨Tryz.f57.name, by decide, Tryz.func57.trans (congrArg some (by kernel_rfl))⟩
 f8 := Tryz.func131.trans (congrArg some (by kernel_rfl))
 f9 := ⟨Tryz.f130.name, by decide, Tryz.func130.trans (congrArg some (by kernel_rfl))⟩
 f19 := Tryz.func208.trans (congrArg some (by kernel_rfl))
 f20 := Tryz.func209.trans (congrArg some (by kernel_rfl))
 f21 := ⟨Tryz.f199.name, by decide, Tryz.func199.trans (congrArg some (by kernel_rfl))⟩
 f22 := ⟨Tryz.f200.name, by decide, Tryz.func200.trans (congrArg some (by kernel_rfl))⟩
 f23 := ⟨Tryz.f201.name, by decide, Tryz.func201.trans (congrArg some (by kernel_rfl))⟩
 f24 := ⟨Tryz.f202.name, by decide, Tryz.func202.trans (congrArg some (by kernel_rfl))⟩
 f25 := ⟨Tryz.f203.name, by decide, Tryz.func203.trans (congrArg some (by kernel_rfl))⟩
 f26 := ⟨Tryz.f204.name, by decide, Tryz.func204.trans (congrArg some (by kernel_rfl))⟩
 f27 := ⟨Tryz.f205.name, by decide, Tryz.func205.trans (congrArg some (by kernel_rfl))⟩
 f28 := ⟨Tryz.f206.name, by decide, Tryz.func206.trans (congrArg some (by kernel_rfl))⟩
 f29 := ⟨Tryz.f207.name, by decide, Tryz.func207.trans (congrArg some (by kernel_rfl))⟩
 f31 := Tryz.func266.trans (congrArg some (by kernel_rfl))
 f32 := Tryz.func267.trans (congrArg some (by kernel_rfl))
 f36 := ⟨Tryz.f265.name, by decide, Tryz.func265.trans (congrArg some (by kernel_rfl))⟩
 f37 := ⟨Tryz.f268.name, by decide, Tryz.func268.trans (congrArg some (by kernel_rfl))⟩
 f38 := ⟨Tryz.f269.name, by decide, Tryz.func269.trans (congrArg some (by kernel_rfl))⟩
 f39 := ⟨Tryz.f270.name, by decide, Tryz.func270.trans (congrArg some (by kernel_rfl))⟩
 f41 := ⟨Tryz.f310.name, by decide, Tryz.func310.trans (congrArg some (by kernel_rfl))⟩
 t0 := Tryz.underlying0
 a0 := Tryz.isAgg0
 z0 := Tryz.sizeOf0
 v0 := Tryz.zeroValue0
 t3 := Tryz.underlying3
 a3 := Tryz.isAgg3
 z3 := Tryz.sizeOf3
 v3 := Tryz.zeroValue3
 t4 := Tryz.underlying4
 a4 := Tryz.isAgg4
 z4 := Tryz.sizeOf4
 v4 := Tryz.zeroValue4
 t5 := Tryz.underlying5
 a5 := Tryz.isAgg5
 z5 := Tryz.sizeOf5
 v5 := Tryz.zeroValue5
 t9 := Tryz.underlying9
 a9 := Tryz.isAgg9
 z9 := Tryz.sizeOf9
 v9 := Tryz.zeroValue9
 t26 := Tryz.underlying33
 a26 := Tryz.isAgg33
 z26 := Tryz.sizeOf33
 v26 := Tryz.zeroValue33
 t27 := Tryz.underlying33
 a27 := Tryz.isAgg33
 z27 := Tryz.sizeOf33
 v27 := Tryz.zeroValue33
 t29 := Tryz.underlying9
 a29 := Tryz.isAgg9
 z29 := Tryz.sizeOf9
 v29 := Tryz.zeroValue9
 t32 := Tryz.underlying69
 a32 := Tryz.isAgg69
 z32 := Tryz.sizeOf69
 v32 := Tryz.zeroValue69
 t35 := Tryz.underlying300
 a35 := Tryz.isAgg300
 z35 := Tryz.sizeOf300
 v35 := Tryz.zeroValue300
 t36 := Tryz.underlying301
 a36 := Tryz.isAgg301
 z36 := Tryz.sizeOf301
 v36 := Tryz.zeroValue301
 t41 := Tryz.underlying72
 a41 := Tryz.isAgg72
 z41 := Tryz.sizeOf72
 v41 := Tryz.zeroValue72
 t44 := Tryz.underlying27
 a44 := Tryz.isAgg27
 z44 := Tryz.sizeOf27
 v44 := Tryz.zeroValue27
 t46 := Tryz.underlying147
 a46 := Tryz.isAgg147
 z46 := Tryz.sizeOf147
 v46 := Tryz.zeroValue147
 t53 := Tryz.underlying356
 a53 := Tryz.isAgg356
 z53 := Tryz.sizeOf356
 v53 := Tryz.zeroValue356
 t57 := Tryz.underlying360
 a57 := Tryz.isAgg360
 z57 := Tryz.sizeOf360
 v57 := Tryz.zeroValue360
 t63 := Tryz.underlying394
 a63 := Tryz.isAgg394
 z63 := Tryz.sizeOf394
 v63 := Tryz.zeroValue394
 t64 := Tryz.underlying395
 a64 := Tryz.isAgg395
 z64 := Tryz.sizeOf395
 v64 := Tryz.zeroValue395 }
def zHr : Go.Shelf.Ren := ⟨fun | 7 => 41 | 10 => 109 | n => n, fun | 23 => 118 | 26 => 9 | 3 => 119 | 28 => 99 | 0 => 0 | 27 => 98 | 33 => 144 | 4 => 4 | n => n, fun | n => n⟩
theorem zNt : Go.Proofs.SlLaysZ.n7 Tryz.prog zHr := {
 mixed := by kernel_rfl
 f7 := ⟨Tryz.f41.name, by decide, Tryz.func41.trans (congrArg some (by kernel_rfl))⟩
 f10 := ⟨Tryz.f109.name, by decide, Tryz.func109.trans (congrArg some (by kernel_rfl))⟩
 t0 := Tryz.underlying0
 a0 := Tryz.isAgg0
 z0 := Tryz.sizeOf0
 v0 := Tryz.zeroValue0
 t4 := Tryz.underlying4
 a4 := Tryz.isAgg4
 z4 := Tryz.sizeOf4
 v4 := Tryz.zeroValue4
 t23 := Tryz.underlying118
 a23 := Tryz.isAgg118
 z23 := Tryz.sizeOf118
 v23 := Tryz.zeroValue118
 t26 := Tryz.underlying9
 a26 := Tryz.isAgg9
 z26 := Tryz.sizeOf9
 v26 := Tryz.zeroValue9
 t27 := Tryz.underlying98
 a27 := Tryz.isAgg98
 z27 := Tryz.sizeOf98
 v27 := Tryz.zeroValue98
 t28 := Tryz.underlying99
 a28 := Tryz.isAgg99
 z28 := Tryz.sizeOf99
 v28 := Tryz.zeroValue99
 t33 := Tryz.underlying144
 a33 := Tryz.isAgg144
 z33 := Tryz.sizeOf144
 v33 := Tryz.zeroValue144 }
def zG0 : Go.Shelf.Ren := ⟨fun | 7 => 196 | 10 => 263 | n => n, fun | 23 => 83 | 26 => 9 | 3 => 3 | 28 => 99 | 0 => 0 | 27 => 98 | 33 => 144 | 4 => 4 | n => n, fun | n => n⟩
theorem zLj : Go.Proofs.SlLaysZ.n7 Tryz.prog zG0 := {
 mixed := by kernel_rfl
 f7 := ⟨Tryz.f196.name, by decide, Tryz.func196.trans (congrArg some (by kernel_rfl))⟩
 f10 := ⟨Tryz.f263.name, by decide, Tryz.func263.trans (congrArg some (by kernel_rfl))⟩
 t0 := Tryz.underlying0
 a0 := Tryz.isAgg0
 z0 := Tryz.sizeOf0
 v0 := Tryz.zeroValue0
 t4 := Tryz.underlying4
 a4 := Tryz.isAgg4
 z4 := Tryz.sizeOf4
 v4 := Tryz.zeroValue4
 t23 := Tryz.underlying83
 a23 := Tryz.isAgg83
 z23 := Tryz.sizeOf83
 v23 := Tryz.zeroValue83
 t26 := Tryz.underlying9
 a26 := Tryz.isAgg9
 z26 := Tryz.sizeOf9
 v26 := Tryz.zeroValue9
 t27 := Tryz.underlying98
 a27 := Tryz.isAgg98
 z27 := Tryz.sizeOf98
 v27 := Tryz.zeroValue98
 t28 := Tryz.underlying99
 a28 := Tryz.isAgg99
 z28 := Tryz.sizeOf99
 v28 := Tryz.zeroValue99
 t33 := Tryz.underlying144
 a33 := Tryz.isAgg144
 z33 := Tryz.sizeOf144
 v33 := Tryz.zeroValue144 }
def zGz : Go.Shelf.Ren := ⟨fun | 7 => 255 | 10 => 295 | n => n, fun | 23 => 350 | 26 => 9 | 3 => 4 | 28 => 99 | 0 => 0 | 27 => 98 | 33 => 144 | 4 => 4 | n => n, fun | n => n⟩
theorem zLi : Go.Proofs.SlLaysZ.n7 Tryz.prog zGz := {
 mixed := by kernel_rfl
 f7 := ⟨Tryz.f255.name, by decide, Tryz.func255.trans (congrArg some (by kernel_rfl))⟩
 f10 := ⟨Tryz.f295.name, by decide, Tryz.func295.trans (congrArg some (by kernel_rfl))⟩
 t0 := Tryz.underlying0
 a0 := Tryz.isAgg0
 z0 := Tryz.sizeOf0
 v0 := Tryz.zeroValue0
 t4 := Tryz.underlying4
 a4 := Tryz.isAgg4
 z4 := Tryz.sizeOf4
 v4 := Tryz.zeroValue4
 t23 := Tryz.underlying350
 a23 := Tryz.isAgg350
 z23 := Tryz.sizeOf350
 v23 := Tryz.zeroValue350
 t26 := Tryz.underlying9
 a26 := Tryz.isAgg9
 z26 := Tryz.sizeOf9
 v26 := Tryz.zeroValue9
 t27 := Tryz.underlying98
 a27 := Tryz.isAgg98
 z27 := Tryz.sizeOf98
 v27 := Tryz.zeroValue98
 t28 := Tryz.underlying99
 a28 := Tryz.isAgg99
 z28 := Tryz.sizeOf99
 v28 := Tryz.zeroValue99
 t33 := Tryz.underlying144
 a33 := Tryz.isAgg144
 z33 := Tryz.sizeOf144
 v33 := Tryz.zeroValue144 }
def zGy : Go.Shelf.Ren := ⟨fun | 7 => 273 | 10 => 311 | n => n, fun | 23 => 320 | 26 => 9 | 3 => 248 | 28 => 99 | 0 => 0 | 27 => 98 | 33 => 144 | 4 => 4 | n => n, fun | n => n⟩
theorem zLh : Go.Proofs.SlLaysZ.n7 Tryz.prog zGy := {
 mixed := by kernel_rfl
 f7 := ⟨Tryz.f273.name, by decide, Tryz.func273.trans (congrArg some (by kernel_rfl))⟩
 f10 := ⟨Tryz.f311.name, by decide, Tryz.func311.trans (congrArg some (by kernel_rfl))⟩
 t0 := Tryz.underlying0
 a0 := Tryz.isAgg0
 z0 := Tryz.sizeOf0
 v0 := Tryz.zeroValue0
 t4 := Tryz.underlying4
 a4 := Tryz.isAgg4
 z4 := Tryz.sizeOf4
 v4 := Tryz.zeroValue4
 t23 := Tryz.underlying320
 a23 := Tryz.isAgg320
 z23 := Tryz.sizeOf320
 v23 := Tryz.zeroValue320
 t26 := Tryz.underlying9
 a26 := Tryz.isAgg9
 z26 := Tryz.sizeOf9
 v26 := Tryz.zeroValue9
 t27 := Tryz.underlying98
 a27 := Tryz.isAgg98
 z27 := Tryz.sizeOf98
 v27 := Tryz.zeroValue98
 t28 := Tryz.underlying99
 a28 := Tryz.isAgg99
 z28 := Tryz.sizeOf99
 v28 := Tryz.zeroValue99
 t33 := Tryz.underlying144
 a33 := Tryz.isAgg144
 z33 := Tryz.sizeOf144
 v33 := Tryz.zeroValue144 }
end Go.Proofs
namespace Go.Proofs
open Go.RowKit Go.Maps Go.Sort Go.Shelf
theorem zD3 (m : Nat) : AnyZ.SortsIn Tryz.prog zF3 Fence.wide m :=
 ⟨fun blk off cap ss W hH hblk hsz => callsIn_wide.2 (AnyM.slices_Sort_string zNi blk off cap ss W hH hblk hsz),
  fun p cap W => callsIn_wide.2 (AnyM.slices_Sort_string_none zNi p cap W)⟩
theorem zKp (mb : Option Nat) (W : World) : CallsIn Fence.wide 5 Tryz.prog 31 #[.map mb] W fun e w' => e = .returned (.func (.func 58) #[] #[.pointer (some ⟨W.heap.size, 0, none⟩)]) ∧ w' = W.alloc (.cells #[.map mb] 50) :=
 AnyZ.keys_in zNu Fence.wide 5 trivial rfl mb W
theorem zEc {H : Type} (b nn : Nat) (D0 : DataW H) (R : Value → Option (DataW H × List MemPlace)) (w : World) (hown : w.ownsMap Tryz.prog 9 R b nn D0) (hmax : Maps.size D0 ≤ maxLen) (hbytes : Maps.size D0 * 16 ≤ 140737488355328) :
  CallsIn Fence.wide 5 Tryz.prog 30 #[.func (.func 58) #[] #[.pointer (some ⟨w.heap.size, 0, none⟩)]] (w.alloc (.cells #[.map (some b)] 50)) fun e w' => ∃ (v : Value) (ss : List (List UInt8)), e = .returned v ∧ ss.Perm (strKeys D0) ∧
   w'.ownsRow (w.alloc (.cells #[.map (some b)] 50)).heap.size 9 1 v ss.length ((ss.mergeSort (fun x y => decide (x ≤ y))).map encStr) ∧ (v = .slice none 0 0 ↔ ss = []) ∧ Below (w.alloc (.cells #[.map (some b)] 50)).heap.size (w.alloc (.cells #[.map (some b)] 50)) w' := by
 have hbl := hown.lt
 have hseq : SeqGives Fence.wide 2 Tryz.prog 58 #[.pointer (some ⟨w.heap.size, 0, none⟩)] encStr (fun ss => ss.Perm (strKeys D0)) (Maps.size D0) (w.alloc (.cells #[.map (some b)] 50)) :=
  AnyZ.keys_gives (ρ := zHs) { zNu with } Fence.wide _ trivial rfl (by omega) w.heap.size b nn D0 _ (by simp) (by simp) (by
   obtain ⟨es, clock, hb, Ft, hs, hD⟩ := hown
   exact ⟨es, clock, (Below.heap_alloc _ _ b hbl).trans hb, Ft, hs, hD⟩)
 exact AnyZ.sorted_in zDo Fence.wide 5 trivial trivial trivial trivial rfl (by omega) (zD3 _) (enters_of Tryz.func57 (by kernel_rfl) rfl) 58 #[.pointer (some ⟨w.heap.size, 0, none⟩)] trivial (enters_of Tryz.func58 (by kernel_rfl) rfl) _ _ hmax hbytes _ hseq
theorem zKo (mb : Option Nat) (W : World) : CallsIn Fence.wide 5 Tryz.prog 41 #[.map mb] W fun e w' => e = .returned (.func (.func 109) #[] #[.pointer (some ⟨W.heap.size, 0, none⟩)]) ∧ w' = W.alloc (.cells #[.map mb] 118) :=
 AnyZ.keys_in zNt Fence.wide 5 trivial rfl mb W
theorem zEb {H : Type} (b nn : Nat) (D0 : DataW H) (R : Value → Option (DataW H × List MemPlace)) (w : World) (hown : w.ownsMap Tryz.prog 9 R b nn D0) (hmax : Maps.size D0 ≤ maxLen) (hbytes : Maps.size D0 * 16 ≤ 140737488355328) :
  CallsIn Fence.wide 5 Tryz.prog 30 #[.func (.func 109) #[] #[.pointer (some ⟨w.heap.size, 0, none⟩)]] (w.alloc (.cells #[.map (some b)] 118)) fun e w' => ∃ (v : Value) (ss : List (List UInt8)), e = .returned v ∧ ss.Perm (strKeys D0) ∧
   w'.ownsRow (w.alloc (.cells #[.map (some b)] 118)).heap.size 9 1 v ss.length ((ss.mergeSort (fun x y => decide (x ≤ y))).map encStr) ∧ (v = .slice none 0 0 ↔ ss = []) ∧ Below (w.alloc (.cells #[.map (some b)] 118)).heap.size (w.alloc (.cells #[.map (some b)] 118)) w' := by
 have hbl := hown.lt
 have hseq : SeqGives Fence.wide 2 Tryz.prog 109 #[.pointer (some ⟨w.heap.size, 0, none⟩)] encStr (fun ss => ss.Perm (strKeys D0)) (Maps.size D0) (w.alloc (.cells #[.map (some b)] 118)) :=
  AnyZ.keys_gives (ρ := zHr) { zNt with } Fence.wide _ trivial rfl (by omega) w.heap.size b nn D0 _ (by simp) (by simp) (by
   obtain ⟨es, clock, hb, Ft, hs, hD⟩ := hown
   exact ⟨es, clock, (Below.heap_alloc _ _ b hbl).trans hb, Ft, hs, hD⟩)
 exact AnyZ.sorted_in zDo Fence.wide 5 trivial trivial trivial trivial rfl (by omega) (zD3 _) (enters_of Tryz.func57 (by kernel_rfl) rfl) 109 #[.pointer (some ⟨w.heap.size, 0, none⟩)] trivial (enters_of Tryz.func109 (by kernel_rfl) rfl) _ _ hmax hbytes _ hseq
theorem zJr (mb : Option Nat) (W : World) : CallsIn Fence.wide 5 Tryz.prog 196 #[.map mb] W fun e w' => e = .returned (.func (.func 263) #[] #[.pointer (some ⟨W.heap.size, 0, none⟩)]) ∧ w' = W.alloc (.cells #[.map mb] 83) :=
 AnyZ.keys_in zLj Fence.wide 5 trivial rfl mb W
theorem zD6 {H : Type} (b nn : Nat) (D0 : DataW H) (R : Value → Option (DataW H × List MemPlace)) (w : World) (hown : w.ownsMap Tryz.prog 9 R b nn D0) (hmax : Maps.size D0 ≤ maxLen) (hbytes : Maps.size D0 * 16 ≤ 140737488355328) :
  CallsIn Fence.wide 5 Tryz.prog 30 #[.func (.func 263) #[] #[.pointer (some ⟨w.heap.size, 0, none⟩)]] (w.alloc (.cells #[.map (some b)] 83)) fun e w' => ∃ (v : Value) (ss : List (List UInt8)), e = .returned v ∧ ss.Perm (strKeys D0) ∧
   w'.ownsRow (w.alloc (.cells #[.map (some b)] 83)).heap.size 9 1 v ss.length ((ss.mergeSort (fun x y => decide (x ≤ y))).map encStr) ∧ (v = .slice none 0 0 ↔ ss = []) ∧ Below (w.alloc (.cells #[.map (some b)] 83)).heap.size (w.alloc (.cells #[.map (some b)] 83)) w' := by
 have hbl := hown.lt
 have hseq : SeqGives Fence.wide 2 Tryz.prog 263 #[.pointer (some ⟨w.heap.size, 0, none⟩)] encStr (fun ss => ss.Perm (strKeys D0)) (Maps.size D0) (w.alloc (.cells #[.map (some b)] 83)) :=
  AnyZ.keys_gives (ρ := zG0) { zLj with } Fence.wide _ trivial rfl (by omega) w.heap.size b nn D0 _ (by simp) (by simp) (by
   obtain ⟨es, clock, hb, Ft, hs, hD⟩ := hown
   exact ⟨es, clock, (Below.heap_alloc _ _ b hbl).trans hb, Ft, hs, hD⟩)
 exact AnyZ.sorted_in zDo Fence.wide 5 trivial trivial trivial trivial rfl (by omega) (zD3 _) (enters_of Tryz.func57 (by kernel_rfl) rfl) 263 #[.pointer (some ⟨w.heap.size, 0, none⟩)] trivial (enters_of Tryz.func263 (by kernel_rfl) rfl) _ _ hmax hbytes _ hseq
theorem zJq (mb : Option Nat) (W : World) : CallsIn Fence.wide 5 Tryz.prog 255 #[.map mb] W fun e w' => e = .returned (.func (.func 295) #[] #[.pointer (some ⟨W.heap.size, 0, none⟩)]) ∧ w' = W.alloc (.cells #[.map mb] 350) :=
 AnyZ.keys_in zLi Fence.wide 5 trivial rfl mb W
theorem zD5 {H : Type} (b nn : Nat) (D0 : DataW H) (R : Value → Option (DataW H × List MemPlace)) (w : World) (hown : w.ownsMap Tryz.prog 9 R b nn D0) (hmax : Maps.size D0 ≤ maxLen) (hbytes : Maps.size D0 * 16 ≤ 140737488355328) :
  CallsIn Fence.wide 5 Tryz.prog 30 #[.func (.func 295) #[] #[.pointer (some ⟨w.heap.size, 0, none⟩)]] (w.alloc (.cells #[.map (some b)] 350)) fun e w' => ∃ (v : Value) (ss : List (List UInt8)), e = .returned v ∧ ss.Perm (strKeys D0) ∧
   w'.ownsRow (w.alloc (.cells #[.map (some b)] 350)).heap.size 9 1 v ss.length ((ss.mergeSort (fun x y => decide (x ≤ y))).map encStr) ∧ (v = .slice none 0 0 ↔ ss = []) ∧ Below (w.alloc (.cells #[.map (some b)] 350)).heap.size (w.alloc (.cells #[.map (some b)] 350)) w' := by
 have hbl := hown.lt
 have hseq : SeqGives Fence.wide 2 Tryz.prog 295 #[.pointer (some ⟨w.heap.size, 0, none⟩)] encStr (fun ss => ss.Perm (strKeys D0)) (Maps.size D0) (w.alloc (.cells #[.map (some b)] 350)) :=
  AnyZ.keys_gives (ρ := zGz) { zLi with } Fence.wide _ trivial rfl (by omega) w.heap.size b nn D0 _ (by simp) (by simp) (by
   obtain ⟨es, clock, hb, Ft, hs, hD⟩ := hown
   exact ⟨es, clock, (Below.heap_alloc _ _ b hbl).trans hb, Ft, hs, hD⟩)
 exact AnyZ.sorted_in zDo Fence.wide 5 trivial trivial trivial trivial rfl (by omega) (zD3 _) (enters_of Tryz.func57 (by kernel_rfl) rfl) 295 #[.pointer (some ⟨w.heap.size, 0, none⟩)] trivial (enters_of Tryz.func295 (by kernel_rfl) rfl) _ _ hmax hbytes _ hseq
theorem zJp (mb : Option Nat) (W : World) : CallsIn Fence.wide 5 Tryz.prog 273 #[.map mb] W fun e w' => e = .returned (.func (.func 311) #[] #[.pointer (some ⟨W.heap.size, 0, none⟩)]) ∧ w' = W.alloc (.cells #[.map mb] 320) :=
 AnyZ.keys_in zLh Fence.wide 5 trivial rfl mb W
theorem zD4 {H : Type} (b nn : Nat) (D0 : DataW H) (R : Value → Option (DataW H × List MemPlace)) (w : World) (hown : w.ownsMap Tryz.prog 9 R b nn D0) (hmax : Maps.size D0 ≤ maxLen) (hbytes : Maps.size D0 * 16 ≤ 140737488355328) :
  CallsIn Fence.wide 5 Tryz.prog 30 #[.func (.func 311) #[] #[.pointer (some ⟨w.heap.size, 0, none⟩)]] (w.alloc (.cells #[.map (some b)] 320)) fun e w' => ∃ (v : Value) (ss : List (List UInt8)), e = .returned v ∧ ss.Perm (strKeys D0) ∧
   w'.ownsRow (w.alloc (.cells #[.map (some b)] 320)).heap.size 9 1 v ss.length ((ss.mergeSort (fun x y => decide (x ≤ y))).map encStr) ∧ (v = .slice none 0 0 ↔ ss = []) ∧ Below (w.alloc (.cells #[.map (some b)] 320)).heap.size (w.alloc (.cells #[.map (some b)] 320)) w' := by
 have hbl := hown.lt
 have hseq : SeqGives Fence.wide 2 Tryz.prog 311 #[.pointer (some ⟨w.heap.size, 0, none⟩)] encStr (fun ss => ss.Perm (strKeys D0)) (Maps.size D0) (w.alloc (.cells #[.map (some b)] 320)) :=
  AnyZ.keys_gives (ρ := zGy) { zLh with } Fence.wide _ trivial rfl (by omega) w.heap.size b nn D0 _ (by simp) (by simp) (by
   obtain ⟨es, clock, hb, Ft, hs, hD⟩ := hown
   exact ⟨es, clock, (Below.heap_alloc _ _ b hbl).trans hb, Ft, hs, hD⟩)
 exact AnyZ.sorted_in zDo Fence.wide 5 trivial trivial trivial trivial rfl (by omega) (zD3 _) (enters_of Tryz.func57 (by kernel_rfl) rfl) 311 #[.pointer (some ⟨w.heap.size, 0, none⟩)] trivial (enters_of Tryz.func311 (by kernel_rfl) rfl) _ _ hmax hbytes _ hseq
end Go.Proofs
namespace Go.Proofs.YtgnjjfdfoibdiaaGreatDoor
section
open Go.RowKit Go.Maps Go.Sort Go.Lib
theorem encStr_ba (s : Str) : encStr s = .string (ba s) := rfl
theorem SRow.parts {w : World} {v : Value} {l : List Str} (h : SRow w v l) : (l = [] ∧ ∃ a c, v = .slice a 0 c) ∨ ∃ b o c, v = .slice (some ⟨b, o, none⟩) l.length c ∧ l.length ≤ 9223372036854775807 ∧ ∀ i, (hi : i < l.length) → w.cell? ⟨b, o + i, none⟩ = some (encStr l[i]) := by
 obtain ⟨a, cap, rfl, hl, hm, hn, hc⟩ := h
 cases l with
 | nil => exact .inl ⟨rfl, _, _, rfl⟩
 | cons x r =>
   obtain ⟨b, o, rfl, _⟩ := hc 0 (by simp);refine .inr ⟨b, o, cap, rfl, by omega, fun i hi => ?_⟩;obtain ⟨b', o', e, h⟩ := hc i hi;cases e;exact h
theorem contains_any {w : World} {v : Value} {l : List Str} (h : SRow w v l) (s : Str) : Calls Tryz.prog 151 #[v, encStr s] w fun e w' => e = .returned (.bool (decide (s ∈ l))) ∧ w = w' := by
 rcases h.parts with ⟨rfl, a, c, rfl⟩ | ⟨b, o, c, rfl, hl, hc⟩
 ·exact (Tryz.slices_Contains_string_empty a c (ba s) w).mono fun e w' ⟨h1, h2⟩ => ⟨by rw [h1]; simp, h2.symm⟩
 ·refine (Tryz.slices_Contains_string b o l.length c (l.map ba) (ba s) w (by simp) hl fun j hj => ?_).mono fun e w' ⟨h1, h2⟩ => ⟨?_, h2.symm⟩
  ·have hj' : j < l.length := by simpa using hj
   rw [hc j hj'];simp [List.getD, hj', encStr_ba]
  ·rw [h1];congr 2;rw [List.take_of_length_le (by simp), Bool.eq_iff_iff, Lib.containsS_iff, List.mem_map, decide_eq_true_iff];exact ⟨fun ⟨x, hx, e⟩ => ba_inj e ▸ hx, fun h => ⟨s, h, rfl⟩⟩
abbrev NStr := {s : List UInt8 // s.length ≤ maxLen}
instance : Inhabited NStr := ⟨⟨[], by decide⟩⟩
theorem clone_any {w : World} {v : Value} {l : List Str} (h : SRow w v l) (hl16 : l.length * 16 ≤ 140737488355328) : Calls Tryz.prog 96 #[v] w fun e w' => ∃ v', e = .returned v' ∧ OwnS w' w.heap.size v' l ∧ Ext w w' := by
 obtain ⟨a, cap, rfl, hl, hm, hn, hc⟩ := h
 cases a with
 | none =>
   obtain rfl := hn rfl;obtain rfl : l = [] := List.eq_nil_of_length_eq_zero (by omega)
   exact (Tryz.slices_Clone_string_nil _ _ w).mono fun e w' ⟨h1, h2⟩ => ⟨_, h1, by rw [h2]; exact OwnS.nil _ _, by rw [h2]; exact xr _⟩
 | some a =>
   cases l with
   | nil => exact (Tryz.slices_Clone_string_zero a _ w).mono fun e w' ⟨v', h1, h2, _, h3⟩ => ⟨v', h1, h2, h3⟩
   | cons x r =>
     obtain ⟨b, o, e, _⟩ := hc 0 (by simp);cases e
     refine (Tryz.slices_Clone_string b o _ cap ((x :: r).map ba) w (by simp) hl16 fun j hj => ?_).mono fun e w' ⟨v', h1, h2, _, h3⟩ => ⟨v', h1, ?_, h3⟩
     ·have hj' : j < (x :: r).length := by simpa using hj
      obtain ⟨b', o', e, h⟩ := hc j hj';cases e;rw [h];simp only [List.getD, List.getElem?_map, List.getElem?_eq_getElem hj', Option.map_some, Option.getD_some];rfl
     ·rw [List.take_of_length_le (by simp)] at h2;unfold OwnS;have : List.map Value.string (List.map ba (x :: r)) = zBh (x :: r) := by rw [List.map_map]; rfl
      rw [this] at h2;exact h2
theorem zIe {α : Type} [Inhabited α] (enc : α → Value) {w : World} {g n : Nat} (d : Array α) : w.grownBy (putRow enc (Sort.ahead w n) g 0 d) (some g) := by
 refine ⟨rfl, rfl, rfl, by simp [putRow, mapBlock, Sort.ahead], fun k hk hne => ?_⟩;have : g ≠ k := fun e => hne (by rw [e])
 simp [putRow, mapBlock, Sort.ahead, Array.getElem?_modify, this]
theorem below_grown {w W : World} (b : Below w.heap.size w W) (row : Option Nat) : w.grownBy W row := ⟨b.os, b.tape, b.output, b.size, fun k hk _ => b.block k hk⟩
theorem sort_any {w : World} {base : Nat} {v : Value} {l : List Str} (h : OwnS w base v l) (hl16 : l.length < 4611686018427387904) : Calls Tryz.prog 57 #[v] w fun e w' => e = .returned (.tuple #[]) ∧ OwnS w' base v (zCx l) ∧ w.grownBy w' v.ownBlock := by
 rcases h.2 with ⟨rfl, h0⟩ | ⟨gb, cap, cur, rfl, hb, hg, hn, hm, hs, ht⟩
 ·obtain rfl : l = [] := List.eq_nil_of_length_eq_zero h0
  exact (Tryz.slices_Sort_string_none none 0 w).mono fun e w' ⟨h1, h2⟩ => ⟨h1, by rw [h2]; simp only [zCx, List.mergeSort_nil]; exact OwnS.nil _ _, by rw [h2]; exact World.grownBy.refl _ _⟩
 ·obtain ⟨_, _, e, _, hlt, _, _, _, hH⟩ := holds_of_ownsRow (enc := encStr) (zs := l) h (by simp);cases e;refine (Tryz.slices_Sort_string gb 0 cap l w hH hlt hl16).mono ?_;rintro e w' ⟨rfl, n, os, rfl⟩;refine ⟨rfl, ?_, grownBy_sorted _⟩;have := ownsRow_sorted (n := n) (os := os) (ss := l) (ts := zCx l) (by simp [zCx, List.length_mergeSort]) hb hg hn hm hs;unfold OwnS;rw [show (zCx l).length = l.length by simp [zCx, List.length_mergeSort]];exact this
theorem compact_any {w : World} {base : Nat} {v : Value} {l : List Str} (h : OwnS w base v l) : Calls Tryz.prog 237 #[v] w fun e w' => ∃ v', e = .returned v' ∧ OwnS w' base v' (Lib.compact l) ∧ w.grownBy w' v.ownBlock := by
 by_cases hv : v = .slice none 0 0
 ·subst hv
  obtain rfl : l = [] := by
   rcases h.2 with ⟨_, h0⟩ | ⟨g, cap, cur, e, _⟩
   ·exact List.eq_nil_of_length_eq_zero h0
   ·cases e
  exact (Tryz.slices_Compact_string_empty none 0 w).mono fun e w' ⟨h1, h2⟩ => ⟨_, h1, by rw [h2]; exact OwnS.nil _ _, by rw [h2]; exact World.grownBy.refl _ _⟩
 ·obtain ⟨gb, cap, rfl, hb, hlt, hn, hm, hl, hH⟩ := holds_of_ownsRow (enc := encStr) (zs := l) h hv;refine (Tryz.slices_Compact_string gb 0 cap l w hH (by unfold maxLen at hm; omega) hn).mono ?_;rintro e w' ⟨rfl, q, rfl⟩
  have hle : (Lib.compact l).length ≤ l.length := by
   have h1 : (Lib.compact l).length = ((List.range l.length).filter (Lib.keeps l.toArray)).length := List.length_map ..;have h2 := List.length_filter_le (Lib.keeps l.toArray) (List.range l.length);rw [List.length_range] at h2;omega
  have := ownsRow_putRow (enc := encStr) (zs := l) (q := q) (ys := Lib.compact l ++ List.replicate (l.length - (Lib.compact l).length) []) (k := (Lib.compact l).length) h (by simp; omega) hle;rw [List.take_append_of_le_length (Nat.le_refl _), List.take_of_length_le (Nat.le_refl _)] at this;exact ⟨_, rfl, this, zIe encStr _⟩
end
section
open Go.RowKit Go.Maps Go.Sort Go.Lib
set_option maxRecDepth 100000
def OwnI (w : World) (base : Nat) (v : Value) (l : List Int) : Prop := w.ownsRow base 3 1 v l.length (l.map (Value.int .i64))
theorem Tryz.info3' : (Tryz.prog.info? 3).map (fun i => (i.zero, i.size, i.bytes)) = some (some (.int .i64 0), 1, 8) := by kernel_rfl
theorem zJn : Tryz.prog.underlying 68 = some (.slice 3) := by kernel_rfl
section
variable {w w' : World} {base : Nat} {v : Value} {l : List Int}
theorem OwnI.nil (w : World) (base : Nat) : OwnI w base (.slice none 0 0) [] := World.ownsRow_nil _ _ _ _
theorem OwnI.mut {B : Nat} {T : List Nat} (h : OwnI w base v l) (x : Mut B T w w') (ht : 5 ∉ T := by decide) : OwnI w' base v l := x.own h ht
theorem OwnI.lt (h : OwnI w base v l) : ∀ k, v.ownBlock = some k → base ≤ k ∧ k < w.heap.size := World.ownsRow.lt h
theorem OwnI.form (h : OwnI w base v l) : ∃ a c, v = .slice a l.length c ∧ l.length ≤ c ∧ c ≤ 9223372036854775807 := by
 rcases h.2 with ⟨rfl, h0⟩ | ⟨g, cap, cur, rfl, hb, hg, hn, hm, _⟩
 ·exact ⟨none, 0, by rw [h0], by omega, by omega⟩
 ·exact ⟨_, _, rfl, hn, by unfold maxLen at hm; omega⟩
theorem OwnI.at {a : Option Addr} {n c : Nat} (h : OwnI w base (.slice a n c) l) (k : Nat) (hk : k < l.length) : ∃ b, a = some ⟨b, 0, none⟩ ∧ w.cell? ⟨b, k, none⟩ = some (.int .i64 l[k]) := by
 rcases h.2 with ⟨e, h0⟩ | ⟨g, cap, cur, e, hb, hg, hn, hm, _⟩
 ·omega
 ·cases e;refine ⟨g, rfl, ?_⟩;rw [World.ownsRow.cellAt h k (by omega)];simp [hk]
theorem sortI_any (h : OwnI w base v l) (hl : l.length ≤ 1000000) : Calls Tryz.prog 198 #[v] w fun e w' => e = .returned (.tuple #[]) ∧ OwnI w' base v (l.mergeSort fun x y => decide (x ≤ y)) ∧ w.grownBy w' v.ownBlock := by
 rcases h.2 with ⟨rfl, h0⟩ | ⟨gb, cap, cur, rfl, hb, hg, hn, hm, hs, ht⟩
 ·obtain rfl : l = [] := List.eq_nil_of_length_eq_zero h0
  exact (Tryz.slices_Sort_int_none none 0 w).mono fun e w' ⟨h1, h2⟩ => ⟨h1, by rw [h2]; simp only [List.mergeSort_nil]; exact OwnI.nil _ _, by rw [h2]; exact World.grownBy.refl _ _⟩
 ·obtain ⟨_, _, e, _, hlt, _, _, _, hH⟩ := holds_of_ownsRow (enc := Value.int .i64) (zs := l) h (by simp);cases e;refine (Tryz.slices_Sort_int gb 0 cap l w hH hlt (by omega)).mono ?_;rintro e w' ⟨rfl, n, os, rfl⟩;have hlen : (l.mergeSort fun x y => decide (x ≤ y)).length = l.length := List.length_mergeSort _;have h1 := ownsRow_putRow (enc := Value.int .i64) (zs := l) (q := n) (ys := l.mergeSort fun x y => decide (x ≤ y)) (k := l.length) h hlen (Nat.le_refl _);rw [List.take_of_length_le (by omega)] at h1
  have x1 : Ext (putRow (Value.int .i64) (Sort.ahead w n) gb 0 (l.mergeSort fun x y => decide (x ≤ y)).toArray) (grow (putRow (Value.int .i64) (Sort.ahead w n) gb 0 (l.mergeSort fun x y => decide (x ≤ y)).toArray) os) :=
   ⟨rfl, rfl, rfl, by simp [grow], fun k hk => heap_grow_old _ _ hk⟩
  refine ⟨rfl, ?_, ?_⟩
  ·unfold OwnI; rw [hlen]; exact x1.own h1
  ·have := zIe (Value.int .i64) (w := w) (g := gb) (n := n) (l.mergeSort fun x y => decide (x ≤ y)).toArray;exact ⟨this.os, this.tape, this.output, Nat.le_trans this.size x1.size, fun k hk hne => (x1.block k (Nat.lt_of_lt_of_le hk this.size)).trans (this.block k hk hne)⟩
end
theorem zFm (w : World) {ops : Array Oper} {rest : List Oper} {o : Oper} {a : Act} {Q : Exit → Act → World → Prop}
  (hg : o.guard = none) (s x : Operand) (hop : o.op = Op.call { callee := Callee.builtin Builtin.append, args := #[s, x], argTypes := #[68, 68] })
  (base : Nat) (v : Value) (l : List Int) (i : Int) (hs : a.eval s = v) (hx : a.eval x = .slice (some ⟨w.heap.size, 0, none⟩) 1 1) (hown : OwnI w base v l) (hl : l.length ≤ 1000000) (hbase : base ≤ w.heap.size)
  (hK : ∀ v' w', OwnI w' base v' (l ++ [i]) → (w.alloc (.cells #[.int .i64 i] 3)).grownBy w' v.ownBlock → wpList Tryz.prog ops Q rest (a.put o.dst v') w') :
  wpList Tryz.prog ops Q (o :: rest) a (w.alloc (.cells #[.int .i64 i] 3)) := by
 obtain ⟨i0, hi, hz0, hz1, hz2⟩ := info_parts Tryz.info3'
 exact zDu w hg s x 68 hop base 3 i0 _ 8 zJn hi hz0 hz1 hz2 rfl v l.length _ hs hown _ hx rfl (by unfold maxLen; omega) (by omega) hbase
  (fun v' w' h1 h2 => hK v' w' (by unfold OwnI; rw [List.length_append, List.map_append]; exact h1) h2)
section
variable {w : World} {B n m t mb : Nat} {pb kb : Int → Nat} {dv : Int → Value} {T : Tr}
def looseRel (w : World) (T : Tr) (n mb : Nat) (get : Int → Option Value) (v : Value) (wr : World) : Prop :=
 ∃ (vs l : List Int) (left : Int → Bool) (c : Nat), Hid (Ext w wr) ∧ Hid (RngK intK wr mb w.heap.size n get left c) ∧ Hid (OwnI wr (w.heap.size + 1) v l) ∧ Hid (vs.Nodup ∧ l.length ≤ vs.length ∧ (∀ i ∈ vs, (look T.N i).isSome = true) ∧ (∀ i, left i = ((look T.N i).isSome && !decide (i ∈ vs))) ∧ (∀ i, i ∈ l ↔ i ∈ vs ∧ cnt T.R i = 0) ∧ l.Nodup)
def loosePost (w : World) (T : Tr) (e : Ending) (w' : World) : Prop :=
 ∃ v l, e = .returned v ∧ OwnI w' w.heap.size v l ∧ Ext w w' ∧ l.length ≤ T.N.length ∧ (∀ i, i ∈ l ↔ (look T.N i).isSome = true ∧ cnt T.R i = 0) ∧ l.Nodup
theorem Loose_any (h : TreeAt w B n m t mb pb kb dv T) (hlen : T.N.length ≤ 1000000) : Calls Tryz.prog 127 #[.pointer (some ⟨t, 0, none⟩)] w (loosePost w T) := by
 have HT := zh h;have c0 := h.mapCell;have HN := zh h.nodes;clear h;go_enter Tryz.func127, Tryz.ntmps127
 go_wp2_with (refine zCq _ rfl _ 87 rfl 86 zAz intK mb n _ rfl HN.out ?_; intro w2 cnt0 r2 x2 z2; have R2 := zh r2; have X2 := zh x2; have Z2 := zh z2; clear r2 x2 z2)
 go_frame
 go_loopw [3] (fun v wr => looseRel w T n mb (fun i => (look T.N i).map fun _ => .pointer (some ⟨pb i, 0, none⟩)) v wr) (fun _ wr => wr.rangeLeft mb w.heap.size)
 case atStart =>
  refine ⟨[], [], _, cnt0, X2, R2, zh (OwnI.nil _ _), zh ⟨List.nodup_nil, Nat.zero_le _, (fun i hi => by cases hi), (fun i => ?_), (fun i => ?_), List.nodup_nil⟩⟩
  ·simp
  ·simp
 case round =>
  obtain ⟨wq, rfl⟩ : ∃ x : World, x = wr := ⟨_, rfl⟩
  obtain ⟨vs, l, left, c, HX, HR, HO, HV⟩ := hrel;obtain ⟨a3, c3, rfl, -⟩ := HO.out.form;have hvl : l.length ≤ 1000000 := by have := vs_len HV.out.1 HV.out.2.2.1; have := HV.out.2.1; omega
  go_wp2_with (refine zG9 _ rfl _ rfl mb w.heap.size n _ left c rfl HR.out ?_ ?_)
  ·intro hd;have HD := zh hd;have HS := zh (sortI_any HO.out hvl);clear hd
   go_wp2_with (go_at_call 198; refine HS.out.mono ?_; rintro e w4 ⟨rfl, o4, g4⟩; have O4 := zh o4; have G4 := zh g4; clear o4 g4)
   go_ret
   have hp : (l.mergeSort fun x y => decide (x ≤ y)).Perm l := List.mergeSort_perm l _;refine ⟨_, _, rfl, zBm O4.out (Nat.le_succ _), HX.out.grow G4.out (fun k hk => by have := (HO.out.lt k hk).1; omega), ?_, (fun i => ?_), hp.nodup_iff.2 HV.out.2.2.2.2.2⟩
   ·rw [hp.length_eq]; have := vs_len HV.out.1 HV.out.2.2.1; have := HV.out.2.1; omega
   ·rw [hp.mem_iff, HV.out.2.2.2.2.1 i];have h1 := HV.out.2.2.2.1 i;rw [HD.out i] at h1;constructor
    ·exact fun h => ⟨HV.out.2.2.1 i h.1, h.2⟩
    ·rintro ⟨h2, h3⟩;rw [h2] at h1;exact ⟨by simpa using h1.symm, h3⟩
  ·intro i v w3 c3' hok hl x hx hv r3 hlt g3 s3 hen;subst hv
   have hnv : i ∉ vs := by
    have := HV.out.2.2.2.1 i;rw [hl, hx] at this;simpa using this.symm
   have X3 := zh (HX.out.grow g3 (fun k hk => by cases hk; exact Nat.le_refl _));have O3 := zh (HO.out.mut (HR.out.mut g3) (by simp));have hc1 := ((HT.out.ext X3.out).cells hx).2.1;have HR3 := zh r3;have HL3 := zh (r3.left_eq);have HLq := zh (HR.out.left_eq);have HXN := zh (show (look T.N i).isSome = true by rw [hx]; rfl);have hmbl : mb < w.heap.size := HT.out.nodes.lt;have hw3 : w.heap.size < w3.heap.size := r3.lt
   have hnd : (vs ++ [i]).Nodup := by
    rw [List.nodup_append];refine ⟨HV.out.1, by simp, fun a ha b hb e => ?_⟩;rw [List.mem_singleton] at hb;subst hb; subst e;exact hnv ha
   have HND := zh hnd
   have HV1 : Hid (∀ j ∈ vs ++ [i], (look T.N j).isSome = true) := fun a ha => by
    rcases List.mem_append.1 ha with h | h
    ·exact HV.out.2.2.1 a h
    ·rw [List.mem_singleton] at h; rw [h]; exact HXN.out
   have HV2 : Hid (∀ j, (left j && !decide (j = i)) = ((look T.N j).isSome && !decide (j ∈ vs ++ [i]))) := fun j => by
    rw [HV.out.2.2.2.1 j]
    by_cases e1 : j ∈ vs <;> by_cases e2 : j = i <;> simp [e1, e2]
   have HNV := zh hnv;clear hx r3 hl hnv hnd g3 s3
   by_cases hc : cnt T.R i = 0
   ·have HL : Hid (∀ j, j ∈ l ++ [i] ↔ j ∈ vs ++ [i] ∧ cnt T.R j = 0) := fun j => by
     rw [List.mem_append, List.mem_append, HV.out.2.2.2.2.1 j, List.mem_singleton];constructor
     ·rintro (h | rfl)
      ·exact ⟨.inl h.1, h.2⟩
      ·exact ⟨.inr rfl, hc⟩
     ·rintro ⟨h | h, h2⟩
      ·exact .inl ⟨h, h2⟩
      ·exact .inr h
    have HLN := zh (show (l ++ [i]).Nodup from by
     rw [List.nodup_append];refine ⟨HV.out.2.2.2.2.2, by simp, fun a ha b hb e => ?_⟩;rw [List.mem_singleton] at hb;subst hb; subst e
     exact HNV.out ((HV.out.2.2.2.2.1 a).1 ha).1)
    rw [hc] at hc1;clear hc
    go_wp2_with (refine zFm w3 rfl (.tmp 21) (.tmp 23) rfl (w.heap.size + 1) (.slice a3 l.length c3) l i (by rfl) (by rfl) O3.out hvl (by omega) ?_; intro v' w5 o5 g5; have O5 := zh o5; have G5 := zh g5; clear o5 g5)
    obtain ⟨a5, c5, rfl, -⟩ := O5.out.form
    go_roundw
    all_goals
     have R5 := (HR3.out.ext ((xr w3).alloc _)).kept G5.out (fun e => by have := (O3.out.lt mb e.symm).1; omega) (fun e => by have := (O3.out.lt _ e.symm).1; omega)
    case rel =>
     refine ⟨vs ++ [i], l ++ [i], _, c3', zh ((X3.out.trans ((xr w3).alloc _)).grow G5.out (fun k hk => by have := (O3.out.lt k hk).1; omega)), zh R5, zh ?_, zh ⟨HND.out, ?_, HV1.out, HV2.out, HL.out, HLN.out⟩⟩
     ·exact O5.out
     ·have := HV.out.2.1;simp; omega
    case measure =>
     rw [R5.left_eq, HLq.out];exact hlt
   ·have HL : Hid (∀ j, j ∈ l ↔ j ∈ vs ++ [i] ∧ cnt T.R j = 0) := fun j => by
     rw [List.mem_append, HV.out.2.2.2.2.1 j, List.mem_singleton];constructor
     ·exact fun h => ⟨.inl h.1, h.2⟩
     ·rintro ⟨h | rfl, h2⟩
      ·exact ⟨h, h2⟩
      ·exact absurd h2 hc
    have HLN := zh HV.out.2.2.2.2.2;have hq : ((((cnt T.R i : Nat) : Int)) == 0) = false := by rw [beq_eq_false_iff_ne]; omega
    have hq2 : ¬ (((cnt T.R i : Nat) : Int)) = 0 := by omega
    clear hc;generalize cnt T.R i = ci at *
    go_wp2_with fail
    go_roundw
    case rel =>
     refine ⟨vs ++ [i], l, _, c3', X3, HR3, O3, zh ⟨HND.out, ?_, HV1.out, HV2.out, HL.out, HLN.out⟩⟩;have := HV.out.2.1;simp; omega
    case measure =>
     rw [HL3.out, HLq.out];exact hlt
def usedRel (w : World) (T : Tr) (n mb b : Nat) (get : Int → Option Value) (v : Value) (wr : World) : Prop :=
 ∃ (vs : List Int) (u : Int) (left : Int → Bool) (c : Nat), v = .int .i64 u ∧ 0 ≤ u ∧ u ≤ (b : Int) * vs.length ∧ Hid (Ext w wr) ∧ Hid (RngK intK wr mb w.heap.size n get left c) ∧ Hid (vs.Nodup ∧ (∀ i ∈ vs, (look T.N i).isSome = true) ∧ ∀ i, left i = ((look T.N i).isSome && !decide (i ∈ vs)))
def usedPost (w : World) (T : Tr) (b : Nat) (e : Ending) (w' : World) : Prop := ∃ u : Int, e = .returned (.int .i64 u) ∧ 0 ≤ u ∧ u ≤ (b : Int) * T.N.length ∧ Ext w w'
theorem Used_any (h : TreeAt w B n m t mb pb kb dv T) (hlen : T.N.length ≤ 1000) (b : Nat) (hb : b ≤ 1000) (hd : ∀ i x, look T.N i = some x → x.data.length ≤ b) : Calls Tryz.prog 117 #[.pointer (some ⟨t, 0, none⟩)] w (usedPost w T b) := by
 have HT := zh h;have HD0 := zh hd;have c0 := h.mapCell;have HN := zh h.nodes;clear h hd;go_enter Tryz.func117, Tryz.ntmps117
 go_wp2_with (refine zCq _ rfl _ 87 rfl 86 zAz intK mb n _ rfl HN.out ?_; intro w2 cnt0 r2 x2 z2; have R2 := zh r2; have X2 := zh x2; have Z2 := zh z2; clear r2 x2 z2)
 go_frame
 go_loopw [3] (fun v wr => usedRel w T n mb b (fun i => (look T.N i).map fun _ => .pointer (some ⟨pb i, 0, none⟩)) v wr) (fun _ wr => wr.rangeLeft mb w.heap.size)
 case atStart =>
  refine ⟨[], 0, _, cnt0, rfl, by omega, by simp, X2, R2, zh ⟨List.nodup_nil, (fun i hi => by cases hi), fun i => ?_⟩⟩;simp
 case round =>
  obtain ⟨wq, rfl⟩ : ∃ x : World, x = wr := ⟨_, rfl⟩
  obtain ⟨vs, u, left, c, rfl, hu0, hu1, HX, HR, HV⟩ := hrel;have hvl : vs.length ≤ T.N.length := vs_len HV.out.1 HV.out.2.1;have hub : u ≤ (b : Int) * T.N.length := Int.le_trans hu1 (Int.mul_le_mul_of_nonneg_left (by omega) (by omega));have hbb : (b : Int) * T.N.length ≤ 1000 * 1000 := Int.mul_le_mul (by omega) (by omega) (by omega) (by omega)
  go_wp2_with (refine zG9 _ rfl _ rfl mb w.heap.size n _ left c rfl HR.out ?_ ?_)
  ·intro hd;clear hd
   go_wp2_with fail
   go_ret
   exact ⟨u, rfl, hu0, hub, HX.out⟩
  ·intro i v w3 c3' hok hl x hx hv r3 hlt g3 s3 hen;subst hv
   have hnv : i ∉ vs := by
    have := HV.out.2.2 i;rw [hl, hx] at this;simpa using this.symm
   have X3 := zh (HX.out.grow g3 (fun k hk => by cases hk; exact Nat.le_refl _));have hc2 := ((HT.out.ext X3.out).cells hx).2.2.1;obtain ⟨ad, cd, hdv⟩ := (HT.out.data hx).form;rw [hdv] at hc2;have hxb := HD0.out i x hx;have HR3 := zh r3;have HL3 := zh (r3.left_eq);have HLq := zh (HR.out.left_eq);have HXN := zh (show (look T.N i).isSome = true by rw [hx]; rfl)
   have HND := zh (show (vs ++ [i]).Nodup by
    rw [List.nodup_append];refine ⟨HV.out.1, by simp, fun a ha b hb e => ?_⟩;rw [List.mem_singleton] at hb;subst hb; subst e
    exact hnv ha)
   have HV1 : Hid (∀ j ∈ vs ++ [i], (look T.N j).isSome = true) := fun a ha => by
    rcases List.mem_append.1 ha with h | h
    ·exact HV.out.2.1 a h
    ·rw [List.mem_singleton] at h; rw [h]; exact HXN.out
   have HV2 : Hid (∀ j, (left j && !decide (j = i)) = ((look T.N j).isSome && !decide (j ∈ vs ++ [i]))) := fun j => by
    rw [HV.out.2.2 j]
    by_cases e1 : j ∈ vs <;> by_cases e2 : j = i <;> simp [e1, e2]
   have hxl : x.data.length ≤ 1000 := by omega
   have hus : u + (x.data.length : Int) ≤ 2000000 := by omega
   clear hx r3 hl hnv g3 s3 hdv;generalize x.data.length = dl at *
   go_wp2_with fail
   go_roundw
   case rel =>
    refine ⟨vs ++ [i], u + dl, _, c3', rfl, by omega, ?_, X3, HR3, zh ⟨HND.out, HV1.out, HV2.out⟩⟩;have : ((vs ++ [i]).length : Int) = vs.length + 1 := by simp
    rw [this, Int.mul_add];omega
   case measure =>
    rw [HL3.out, HLq.out];exact hlt
end
end
end Go.Proofs.YtgnjjfdfoibdiaaGreatDoor
