/- A part of the proof of WholeUsers. -/
import Derived.StillTailTactics
import Derived.Test.YtgnjjfdfoibdiaaGreatDoorUae
set_option linter.all false
namespace Go.Proofs.YtgnjjfdfoibdiaaGreatDoor
section
open Go.RowKit
set_option maxRecDepth 100000
theorem zFl {P : Program} {ops : Array Oper} {rest : List Oper} {o : Oper} {a : Act} {w : World} {Q : Exit → Act → World → Prop} (hg : o.guard = none) (t : TypeId) (x lo : Operand) (ho : o.op = .slice t x (some lo) none none)
  (ht : P.underlying t = some (.slice (P.elem t))) (hs : ∀ w, (sizeOf (P.elem t)).run P w = .ok 1 w) (ad : Option Addr) (n c m : Nat) (hx : a.eval x = .slice ad n c) (hl : a.eval lo = .int .i64 (m : Int)) (hm : m ≤ n)
  (V : Value) (hV : V = Go.sliced ad m n c 1) (h : wpList P ops Q rest (a.put o.dst V) w) : wpList P ops Q (o :: rest) a w := by
 subst hV;refine wpList_plain hg fun K hK => ?_
 unfold Oper.wp
 have hr : (Instr.slice t (.slice ad n c) (some (.int .i64 (m : Int))) none none).run P w = .ok (Go.sliced ad m n c 1) w := by
  rw [run_slice_l w t ad n c ht .i64 (m : Int) (by omega) (by omega), hs];rfl
 have hr2 := (run_sliceAt_slice (w := w) t (.slice ad n c) (some (.int .i64 (m : Int))) none none ht).trans hr;simp only [execOp, ho, hx, hl, Option.map_some, Option.map_none, Sem.run_bind, hr2, Result.andThen, Sem.run_pure, Oper.upon];exact hK _ _ h
theorem Bytes.inBlock {wq W : World} {q o n c : Nat} {l : List UInt8} (h : Bytes wq (.slice (some ⟨q, o, none⟩) n c) l) (hb : W.heap[q]? = wq.heap[q]?) : Bytes W (.slice (some ⟨q, o, none⟩) n c) l := by
 obtain ⟨a, cap, he, hl, hm, hn, hc⟩ := h;simp only [Value.slice.injEq] at he;obtain ⟨rfl, rfl, rfl⟩ := he;refine ⟨_, _, rfl, hl, hm, hn, fun i hi => ?_⟩;obtain ⟨b, o', e, hcell⟩ := hc i hi;cases e;exact ⟨q, o, rfl, (World.cell?_of_block (a := ⟨q, o + i, none⟩) hb).trans hcell⟩
theorem step_kept (D : Dk) : (Dk.step D).1.kept.length = D.kept.length ∧ (Dk.step D).1.steps = D.steps + 1 ∧ (Dk.step D).1.cache.length ≤ D.cache.length := by
 unfold Dk.step
 split
 ·split
  ·exact ⟨by simp [Dk.crash, zDb], rfl, by simp [Dk.crash]⟩
  ·exact ⟨rfl, rfl, Nat.le_refl _⟩
 ·exact ⟨rfl, rfl, Nat.le_refl _⟩
theorem zHx (D : Dk) (a : Int) (s : List UInt8) : (D.write a s).1.kept.length = D.kept.length ∧ (D.write a s).1.steps ≤ D.steps + 1 ∧ (D.write a s).1.cache.length ≤ D.cache.length + 1 := by
 unfold Dk.write;obtain ⟨h1, h2, h3⟩ := step_kept { D with cache := D.cache ++ [(a.toNat, s)] };simp only [List.length_append, List.length_cons, List.length_nil] at h3
 split
 ·exact ⟨rfl, Nat.le_succ _, Nat.le_succ _⟩
 ·split
  ·exact ⟨rfl, Nat.le_succ _, Nat.le_succ _⟩
  ·split
   ·exact ⟨h1, Nat.le_of_eq h2, h3⟩
   ·exact ⟨h1, Nat.le_of_eq h2, h3⟩
theorem zHm : Tryz.prog.underlying 23 = some (.slice (Tryz.prog.elem 23)) := by kernel_rfl
theorem zGo (w : World) : (sizeOf (Tryz.prog.elem 23)).run Tryz.prog w = .ok 1 w := by kernel_rfl
theorem zH7 : (Tryz.prog.info? 5).map (·.size) = some 1 := by kernel_rfl
theorem cut_bytes {w : World} {q o n c : Nat} {l : List UInt8} (h : Bytes w (.slice (some ⟨q, o, none⟩) n c) l) (hn : l.length = n) (m : Nat) (hm : m ≤ n) :
  ∃ o', .slice (some ⟨q, o', none⟩) (n - m) (c - m) = Go.sliced (some ⟨q, o, none⟩) m n c 1 ∧ Hid (Bytes w (.slice (some ⟨q, o', none⟩) (n - m) (c - m)) (l.drop m)) := by
 have h2 := h.sliced m n hm (by omega) _ rfl;rw [show l.take n = l by rw [← hn, List.take_length]] at h2
 by_cases hc : c = m
 ·exact ⟨o, by simp [Go.sliced, hc], zh (by simpa [Go.sliced, hc] using h2)⟩
 ·have e : Go.sliced (some ⟨q, o, none⟩) m n c 1 = .slice (some ⟨q, o + m, none⟩) (n - m) (c - m) := by simp [Go.sliced, hc, Addr.add_lit]
  exact ⟨o + m, e.symm, zh (by rw [e] at h2; exact h2)⟩
theorem Bytes.cellsAt {w : World} {q o n c : Nat} {l : List UInt8} (h : Bytes w (.slice (some ⟨q, o, none⟩) n c) l) (m j : Nat) (v : Value) (hv : (zAa (l.take m))[j]? = some v) : w.cell? ((⟨q, o, none⟩ : Addr).add j) = some v := by
 obtain ⟨a, c', e, hl, hm, hn, hc⟩ := h;simp only [Value.slice.injEq] at e;obtain ⟨rfl, rfl, rfl⟩ := e;have hj : j < (l.take m).length := by have := (List.getElem?_eq_some_iff.1 hv).1; rwa [zAc] at this
 have hj2 : j < l.length := by rw [List.length_take] at hj; omega
 rw [zDd _ j hj] at hv;obtain ⟨b, o', e, hcell⟩ := hc j hj2;cases e;rw [Addr.add_lit, hcell, ← hv];simp
theorem zOm (mk : UInt8) (t : List UInt8) (ht : t.length ≤ 63) : splice (.int .u8 mk.toNat :: zAa (List.replicate 63 0)) 1 (zAa t) = zAa (pad64 (mk :: t)) := by
 have e : (zAa (List.replicate 63 0)).drop t.length = zAa (List.replicate (63 - t.length) 0) := by
  unfold zAa; rw [← List.map_drop, List.drop_replicate]
 unfold splice pad64;rw [zAc, show 1 + t.length = t.length + 1 by omega, List.drop_succ_cons, e];simp [zAa]
theorem zOn (k : Nat) (all : List UInt8) : (zEe k all).length = 64 := by
 unfold zEe pad64;simp;omega
theorem zOq (p f k : Nat) (all : List UInt8) (E : Dk) (r : Dk × Nat) (h : E.write ((p + k : Nat) : Int) (zEe k all) = r) : zI2 p (f + 1) k all E = if r.2 = 0 then zI2 p f (k + 1) (all.drop 63) r.1 else r := by
 rw [zI2, h]
theorem zFa {n : Nat} (h : n ≠ 0) : ((n : Int) != 0) = true := by rw [bne_iff_ne]; omega
theorem drop_step {Rc rest : List UInt8} {k m n : Nat} (h : rest = Rc.drop (63 * k)) (hl : rest.length = n) (hm : m = min 63 n) : rest.drop m = Rc.drop (63 * (k + 1)) ∧ rest.drop 63 = Rc.drop (63 * (k + 1)) := by
 have h1 : rest.drop 63 = Rc.drop (63 * (k + 1)) := by rw [h, List.drop_drop, show 63 * k + 63 = 63 * (k + 1) by omega]
 refine ⟨?_, h1⟩
 rcases Nat.lt_or_ge 63 n with h2 | h2
 ·rw [show m = 63 by omega, h1]
 ·rw [← h1, List.drop_eq_nil_of_le (by omega), List.drop_eq_nil_of_le (by omega)]
def PutRel (base g kb l : Nat) (lv : Value) (D : Dk) (L : Lg) (w wq : World) (p f : Nat) (rec : List UInt8) (q : Nat) (all i : Value) (wr : World) : Prop :=
 ∃ (k : Nat) (E : Dk) (o n c : Nat), i = .int .i64 k ∧ k ≤ f ∧ all = .slice (some ⟨q, o, none⟩) n c ∧ n ≤ c ∧ c ≤ 9223372036854775807 ∧ n = rec.length - 63 * k ∧ Hid (Bytes wq (.slice (some ⟨q, o, none⟩) n c) (rec.drop (63 * k))) ∧ Hid (wr.heap[q]? = wq.heap[q]?) ∧
  Hid (LogAt base wr g kb l lv E L) ∧ Hid (DOnly base g kb w wr) ∧ Hid (zI2 p (f - k) k (rec.drop (63 * k)) E = zI2 p f 0 rec D) ∧ E.steps ≤ 900000000 + k ∧ E.cache.length ≤ 900000000 + k ∧ E.kept.length = D.kept.length
def putPost (base g kb : Nat) (w : World) (r : Dk × Nat) (e : Ending) (w' : World) : Prop := e = .returned (.int .i64 (r.2 : Nat)) ∧ DOnly base g kb w w' ∧ Disk base w' g kb r.1
theorem rec_len (seq epoch : Nat) (b : List UInt8) : (zEh seq epoch b).length = 16 + b.length := by unfold zEh; simp [zBa]; omega
theorem hxs (n m : Nat) (h : n < m) : n ≠ m := by omega
set_option maxRecDepth 100000 in
set_option maxHeartbeats 4000000 in
theorem put_any (base g kb l : Nat) (lv : Value) (D : Dk) (L : Lg) (at_ seq : Nat) (bv : Value) (b : List UInt8) (w : World) (h : LogAt base w g kb l lv D L) (hb : Bytes w bv b) (hbl : b.length ≤ 4096) (hat : at_ ≤ 100000)
  (hseq : seq < 4294967296) (hep : L.epoch < 4294967296) (hst : D.steps ≤ 900000000) (hc : D.cache.length ≤ 900000000) (hB : base ≤ w.heap.size) :
  Calls Tryz.prog 120 #[.pointer (some ⟨l, 0, none⟩), .int .i64 (at_ : Int), .int .i64 (seq : Int), bv] w (putPost base g kb w (zE6 D L at_ seq b)) := by
 have HC := zh h.cells;have HL := zh h;have HBB := zh hb;have KC : Hid (∀ W, Ext w W → W.cell? ⟨l, 1, none⟩ = some (.int .i64 L.epoch)) := fun W x => x.cell HC.out.2.1
 obtain ⟨ab, capb, rfl, -⟩ := hb;clear h;go_enter Tryz.func120, Tryz.ntmps120
 go_upto_region 1 with (fail)
 go_cut [9] from 9 to 26 (fun p wc => p = .int .u32 (zA3 (le4 seq ++ le4 L.epoch ++ b) : Nat) ∧ Ext w wc)
 case first =>
  go_region_held3 (fun W => W.cell? ⟨l, 1, none⟩ = some (.int .i64 L.epoch))
   (first
    | exact KC.out _ (xr _)
    | exact KC.out _ ((xr _).drew)
    | exact KC.out _ (((xr _).alloc _).drew)
    | exact KC.out _ ((((xr _).alloc _).alloc _).drew)
    | exact KC.out _ (((((xr _).alloc _).alloc _).alloc _).drew)
    | exact KC.out _ X4.out
    | exact KC.out _ (X4.out.alloc _))
   (first
    | ((go_at_call 36); (refine (zNy _ _).mono ?_); (rintro e w' ⟨rfl, rfl⟩))
    | ((go_at_call 76); (first | (refine (zP7 seq L.epoch hseq hep _ _ _ _ (hd0 _ _ _ _) (hd1 _ _ _ _) (hd2 _ _ _ _)).mono ?_) | (refine (zP7 seq L.epoch hseq hep _ _ _ _ (hd1 _ _ _ _) (hd0 _ _ _ _) (hd2 _ _ _ _)).mono ?_)); (rintro e w4 ⟨a4, c4, rfl, x4, B4⟩); (have X4 : Hid (Ext w w4) := ((((xr w).alloc _).alloc _).alloc _).drew.trans x4); clear x4)
    | ((go_at_call 37); (refine (zIr (RowsN.two B4.out (HBB.out.ext X4.out) ((xr _).alloc _) (heap_alloc_new _ _)) (by omega)).mono ?_); (rintro e w5 ⟨rfl, rfl⟩)))
  all_goals
   go_wp2_with fail
   go_meet;exact ⟨by rw [List.append_assoc], X4.out.alloc _⟩
 case rest =>
 obtain ⟨rfl, xc⟩ := hcut
 obtain ⟨wa, rfl⟩ : ∃ x : World, x = wc := ⟨_, rfl⟩
 have XC := zh xc
 obtain ⟨sm, hsm⟩ : ∃ sm, sm = zA3 (le4 seq ++ le4 L.epoch ++ b) := ⟨_, rfl⟩
 have hsl : sm < 4294967296 := by rw [hsm]; exact zH5 _
 rw [← hsm];have HSM := zh hsm;have hwr : IntKind.i64.wrap (sm : Int) = (sm : Int) := IntWalk.i64_in _ (by omega);have KD : Hid (∀ W, Ext wa W → W.cell? ⟨l, 1, none⟩ = some (.int .i64 L.epoch)) := fun W x => KC.out W (XC.out.trans x)
 have HBC := zh (HBB.out.ext xc);clear hsm xc
 go_upto_region 2 with (fail)
 go_cut [10] from 10 to 42 (fun p wd => ∃ v, p = v ∧ Hid (Fresh wa wd v (zEh seq L.epoch b)))
 case first =>
  go_region_held3 (fun W => W.cell? ⟨l, 1, none⟩ = some (.int .i64 L.epoch))
   (first
    | exact KD.out _ (xr _)
    | exact KD.out _ ((xr _).drew)
    | exact KD.out _ (((xr _).alloc _).drew)
    | exact KD.out _ ((((xr _).alloc _).alloc _).drew)
    | exact KD.out _ (((((xr _).alloc _).alloc _).alloc _).drew)
    | exact KD.out _ ((((((xr _).alloc _).alloc _).alloc _).alloc _).drew)
    | exact KD.out _ (((((((xr _).alloc _).alloc _).alloc _).alloc _).alloc _).drew)
    | exact KD.out _ X4.out
    | exact KD.out _ (X4.out.alloc _))
   (first
    | ((go_at_call 36); (refine (zNy _ _).mono ?_); (rintro e w' ⟨rfl, rfl⟩))
    | ((go_at_call 76); (refine (Pack_five b.length seq L.epoch sm b _ (by omega) hseq hep hsl hbl _ _ _ _ _ _ ?_ ?_ ?_ ?_ (HBC.out.ext (((((((xr _).alloc _).alloc _).alloc _).alloc _).alloc _).drew)) (hy _ _ _ _ _ _).2.2.2.2).mono ?_); (iterate 4 (first | exact (hy _ _ _ _ _ _).1 | exact (hy _ _ _ _ _ _).2.1 | exact (hy _ _ _ _ _ _).2.2.1 | exact (hy _ _ _ _ _ _).2.2.2.1)); (rintro e w4 ⟨v4, rfl, f4⟩); (have F4 := zh f4); (have X4 : Hid (Ext wa w4) := ((((((xr wa).alloc _).alloc _).alloc _).alloc _).alloc _).drew.trans f4.1); clear f4))
  all_goals
   go_wp2_with fail
   go_meet;refine ⟨_, rfl, X4.out, ?_⟩;have e : zEh seq L.epoch b = le4 b.length ++ le4 seq ++ le4 L.epoch ++ le4 sm ++ b := by unfold zEh; rw [← HSM.out]
   rw [e];exact F4.out.2.le ((((((xr wa).alloc _).alloc _).alloc _).alloc _).alloc _).drew.size
 case rest =>
 obtain ⟨v, rfl, fr⟩ := hcut
 obtain ⟨wd, rfl⟩ : ∃ x : World, x = wc := ⟨_, rfl⟩
 have XD := zh (XC.out.trans fr.out.1);have hRL := zh (rec_len seq L.epoch b);obtain ⟨q, cq, rfl, hq1, hq2⟩ := owns_some fr.out.2 (by rw [hRL.out]; omega);rw [hRL.out]
 obtain ⟨fcs, hqb⟩ : ∃ fcs, wd.heap[q]? = some (.cells fcs 5 (0, 0)) := by
  rcases fr.out.2.2 with ⟨e, _⟩ | ⟨q', cap, cur, e, _, hh, _⟩
  ·simp at e
  ·simp only [Value.slice.injEq, Option.some.injEq, Addr.mk.injEq, true_and] at e;obtain ⟨⟨rfl, _⟩, _⟩ := e;exact ⟨cur, hh⟩
 have HQB := zh hqb;have HBD := zh (fr.out.bytes);have HLD := zh (HL.out.ext XD.out)
 obtain ⟨Rc, hRc⟩ : ∃ Rc, Rc = zEh seq L.epoch b := ⟨_, rfl⟩
 have HPUT := zh (show zE6 D L at_ seq b = zI2 (zBx D L.half at_) (zAg b.length) 0 Rc D by rw [hRc]; rfl);have HRL : Hid (Rc.length = 16 + b.length) := by rw [hRc]; exact hRL
 rw [← hRc] at HBD;rw [HRL.out] at HBD
 have hcq : 16 + b.length ≤ cq ∧ cq ≤ 9223372036854775807 := by
  obtain ⟨a', c', e, h1, h2, -⟩ := HBD.out;simp only [Value.slice.injEq] at e;obtain ⟨-, -, rfl⟩ := e;rw [HRL.out] at h1;exact ⟨h1, h2⟩
 obtain ⟨hcq1, hcq2⟩ := hcq;have hm := HL.out.disk.wf.most;have h6 := HL.out.six;have hh1 := HL.out.half;have hh : zAp D ≤ 4096 := by unfold zAp; omega
 have hmul : L.half * zAp D ≤ 4096 := by
  rcases Nat.lt_or_ge L.half 1 with h0 | h0
  ·rw [show L.half = 0 by omega, Nat.zero_mul]; omega
  ·rw [show L.half = 1 by omega, Nat.one_mul]; exact hh
 obtain ⟨p0, hp0⟩ : ∃ p0 : Nat, p0 = L.half * zAp D := ⟨_, rfl⟩
 obtain ⟨p1, hp1⟩ : ∃ p1 : Nat, p1 = 2 + p0 := ⟨_, rfl⟩
 obtain ⟨p2, hp2⟩ : ∃ p2 : Nat, p2 = p1 + at_ := ⟨_, rfl⟩
 have hpl : zBx D L.half at_ = p2 := by unfold zBx; omega
 rw [hpl] at HPUT;have hp2l : p2 ≤ 200000 := by omega
 have HS1 := zh (show IntKind.i64.wrap ((L.half : Int) * ((zAp D : Nat) : Int)) = (p0 : Int) by
  rw [show ((L.half : Int) * ((zAp D : Nat) : Int)) = ((L.half * zAp D : Nat) : Int) by push_cast; rfl, ← hp0]
  exact IntWalk.i64_in _ (by omega))
 have HS2 := zh (show IntKind.i64.wrap (2 + (p0 : Int)) = (p1 : Int) by
  rw [IntWalk.i64_in _ (by omega)]; omega)
 have HS3 := zh (show IntKind.i64.wrap ((p1 : Int) + (at_ : Int)) = (p2 : Int) by
  rw [IntWalk.i64_in _ (by omega)]; omega)
 obtain ⟨f, hf⟩ : ∃ f, f = zAg b.length := ⟨_, rfl⟩
 rw [← hf] at HPUT;have hf1 : f ≤ 100 ∧ 63 * f ≥ 16 + b.length ∧ 63 * f < 16 + b.length + 63 := by unfold zAg at hf; omega
 obtain ⟨hf1, hf2, hf3⟩ := hf1;have HF := zh hf;have HPS := zh (And.intro hp0 (And.intro hp1 hp2))
 obtain ⟨Z, hZ⟩ : ∃ Z, Z = (zAa zero64).toArray := ⟨_, rfl⟩
 have HI : Hid (zJk Z) := by rw [hZ]; exact zKw
 have HZ := zh hZ;clear hqb hRc hp0 hp1 hp2 hpl hmul hh hm hf hZ fr
 go_upto_region 3 with (fail)
 go_wp2_with (refine (zC5 b.length (by omega) _).mono ?_; rintro e w' ⟨rfl, rfl⟩)
 rw [← HF.out]
 go_loopw [10, 45] (fun all i wr => PutRel base g kb l lv D L w wd p2 f Rc q all i wr) (fun _ i _ => f - (intOf i).toNat)
 case atStart => exact ⟨0, D, 0, 16 + b.length, cq, rfl, Nat.zero_le _, rfl, hcq1, hcq2, by rw [HRL.out]; rfl, HBD, rfl, HLD, (DOnly.refl _ _ _ _).ext XD.out, rfl, by omega, by omega, rfl⟩
 case round =>
  obtain ⟨k, E, o, n, c, rfl, hk, rfl, hnc, hcm, hn, hbq, hqq, hla, hdo, hpg, hes, hec, hek⟩ := hrel;rw [HRL.out] at hn
  by_cases hlt : k < f
  ·obtain ⟨mk, hmk⟩ : ∃ mk : UInt8, mk = (if k = 0 then 2 else 3) := ⟨_, rfl⟩
   have hbr := Nat.le_trans hB hdo.out.size;have hm63 : min 63 (16 + b.length - 63 * k) ≤ 63 := Nat.min_le_left _ _
   obtain ⟨m, hm⟩ : ∃ m, m = min 63 (16 + b.length - 63 * k) := ⟨_, rfl⟩
   have hm2 : m ≤ n ∧ 1 ≤ m ∧ m ≤ 63 ∧ (n ≤ 63 → m = n) ∧ (63 < n → m = 63) := by omega
   obtain ⟨hm2, hm3, hm4, hm5, hm6⟩ := hm2
   obtain ⟨rest, hrest⟩ : ∃ rest, rest = Rc.drop (63 * k) := ⟨_, rfl⟩
   have hrl : rest.length = n := by rw [hrest, List.length_drop, HRL.out]; exact hn.symm
   rw [← hrest] at hbq hpg;have HMM := zh (And.intro hn (And.intro hm (And.intro hrest hrl)));have HCS := zh (show (zAa (rest.take m)).length = m by rw [zAc, List.length_take]; omega)
   obtain ⟨ZM, hZM⟩ : ∃ ZM, ZM = (.int .u8 mk.toNat :: zAa (List.replicate 63 0)) := ⟨_, rfl⟩
   have hZM2 : Z.setIfInBounds 0 (.int .u8 mk.toNat) = ZM.toArray := by rw [HZ.out, hZM]; rfl
   have HZL := zh (show ZM.length = 64 by rw [hZM]; rfl);have HMK := zh hmk;have HZM := zh hZM;have hmm1 : (m : Int) ≤ (n : Int) := by omega
   clear hmk hn hm hrest hrl hZM hm63;have hz0 : Z[0]? = some (.int .u8 0) := by rw [HZ.out]; rfl
   have hz1 : (Z.setIfInBounds 0 (.int .u8 3))[0]? = some (.int .u8 3) := by rw [HZ.out]; rfl
   obtain ⟨o', hV, HBV⟩ := cut_bytes hbq.out HMM.out.2.2.2 m hm2;have HN63 := zh (show (zAa (rest.take m)).length = Nat.min n 63 by rw [HCS.out]; have := HMM.out.2.1; have := HMM.out.1; show m = min n 63; omega);have HSRC : Hid (∀ j v, (zAa (rest.take m))[j]? = some v → (wr.alloc (.cells ZM.toArray 288)).cell? ((⟨q, o, none⟩ : Addr).add j) = some v) := fun j v hj => ((xr wr).alloc _).cell ((hbq.out.inBlock hqq.out).cellsAt m j v hj)
   have HFIT := zh (show 1 + (zAa (rest.take m)).length ≤ ZM.length by rw [HCS.out, HZL.out]; omega);have HBEL : Hid (Below wr.heap.size wr (wr.alloc (.cells ZM.toArray 288))) := (xr wr).alloc _;have HGO := zh (show goInt (zAa (rest.take m)).length = .int .i64 (m : Int) by rw [HCS.out]; rfl)
   obtain ⟨n', hn'⟩ : ∃ n', n' = n - m := ⟨_, rfl⟩
   obtain ⟨c', hc'⟩ : ∃ c', c' = c - m := ⟨_, rfl⟩
   rw [← hn', ← hc'] at hV HBV;have HV := zh hV;have HNC := zh (And.intro hn' hc');clear hV hn' hc'
   rcases Nat.eq_zero_or_pos k with hk0 | hk0
   all_goals
    have HK := zh hk0
   ·have hkt : ((k : Int) == 0) = true := by rw [hk0]; rfl
    have hmk2 : (mk.toNat : Int) = 2 := by rw [HMK.out, if_pos hk0]; rfl
    rw [hmk2] at hZM2;clear hk0 hmk2
    go_upto_region 10 with (first | (refine zAt rfl 288 rfl Z HI.out.1 ?_))
    go_wp2_with ((refine wpList_copy_splice rfl (.tmp 53) (.tmp 54) 23 23 rfl 5 Tryz.underlying23 zH7 (some ⟨wr.heap.size, 1, none⟩) (some ⟨q, o, none⟩) 63 63 n c rfl rfl wr.heap.size 1 ZM 288 (heap_alloc_new wr _) (zAa (rest.take m)) HN63.out (fun _ => ⟨rfl, _, rfl, HSRC.out⟩) HFIT.out (zAm _) wr.heap.size wr HBEL.out (Nat.le_refl _) ?_; intro w2 HG2 hB2; refine zFl rfl 23 (.tmp 52) (.tmp 55) rfl zHm zGo (some ⟨q, o, none⟩) n c m rfl HGO.out hm2 _ HV.out ?_))
    have LA2 := zh (hla.out.ext hB2);have DO2 := zh (hdo.out.ext hB2);have HQ2 := zh ((hB2.block q (by have := (Array.getElem?_eq_some_iff.1 (hqq.out.trans HQB.out)).1; exact this)).trans hqq.out)
    obtain ⟨sec, hsec⟩ : ∃ sec, sec = zEe k rest := ⟨_, rfl⟩
    have HSEC := zh hsec;have hs64 : sec.length = 64 := by rw [hsec]; exact zOn k rest
    have HG3 := zh (show w2.heap[wr.heap.size]? = some (.cells (zAa sec).toArray 288 (0, 0)) by
     rw [HG2.out, HZM.out, zOm mk _ (by rw [List.length_take]; omega), hsec];unfold zEe
     rw [HMK.out, show rest.take m = rest.take 63 by
      rcases Nat.lt_or_ge 63 n with h1 | h1
      ·rw [hm6 h1]
      ·rw [hm5 h1, List.take_of_length_le (Nat.le_of_eq HMM.out.2.2.2), List.take_of_length_le (by rw [HMM.out.2.2.2]; exact h1)]])
    obtain ⟨d0, d1, d2, d3, d4, d5, d6, d7⟩ := LA2.out.cells;have hlt2 := LA2.out.disk
    have HBB2 := zh (show wr.heap.size ≠ g ∧ wr.heap.size ≠ kb from by
     obtain ⟨cv, hd⟩ := hla.out.disk;have h1 := hd.lt g (.inl rfl);have h2 := hd.lt kb (.inr (.inl rfl))
     exact ⟨by omega, by omega⟩)
    have hrg : w2.rangeAt wr.heap.size 0 (zAa sec) := fun j v hj => by
     rw [Nat.zero_add, cell_of_row _ _ _ _ _ _ HG3.out, List.getElem?_toArray]; exact hj
    obtain ⟨p3, hp3⟩ : ∃ p3 : Nat, p3 = p2 + k := ⟨_, rfl⟩
    have hs4 : IntKind.i64.wrap ((p2 : Int) + (k : Int)) = (p3 : Int) := by
     rw [IntWalk.i64_in _ (by omega)]; omega
    have hs1 := HS1.out;have hs2 := HS2.out;have hs3 := HS3.out;have hhE : zAp E = zAp D := by unfold zAp; rw [hek]
    have hu := Tryz.underlying288;have hi : (Tryz.prog.info? 288).map (·.size) = some (zAa sec).length := by rw [zAc, hs64]; exact zAx
    have hB2s := hB2.size;have HP3 := zh hp3;have HB2 := zh hB2;have HQR := zh hqq.out;clear hsec d1 d2 d4 d5 d6 d7 hp3 hB2;refine wp_region_noPanic ?_;refine wp_region_held_drew (S := fun W => W.cell? ⟨l, 0, none⟩ = some (.pointer (some ⟨g, 0, none⟩)) ∧ W.cell? ⟨l, 3, none⟩ = some (.int .i64 L.half) ∧ W.rangeAt wr.heap.size 0 (zAa sec)) (by kernel_rfl) ⟨d0, d3, hrg⟩ (fun hHeld => ?_);refine tq 0 (.pointer (some ⟨l, 0, none⟩)) ?_;refine tq 1 (.pointer (some ⟨l, 0, none⟩)) ?_;refine tq 2 (.pointer (some ⟨l, 0, none⟩)) ?_;refine tq 3 (.pointer (some ⟨g, 0, none⟩)) ?_;refine tq 4 (.pointer (some ⟨l, 0, none⟩)) ?_;refine tq 5 (.pointer (some ⟨l, 0, none⟩)) ?_;refine tq 6 (.pointer (some ⟨l, 3, none⟩)) ?_;refine tq 7 (.int .i64 L.half) ?_;refine tq 8 (.pointer (some ⟨l, 0, none⟩)) ?_;refine tq 9 (.pointer (some ⟨l, 0, none⟩)) ?_;refine tq 10 (.pointer (some ⟨l, 0, none⟩)) ?_;refine tq 11 (.pointer (some ⟨g, 0, none⟩)) ?_;refine tq 15 (.int .i64 (at_ : Int)) ?_;refine tq 17 (.int .i64 (k : Int)) ?_;refine wpAnyH_take (i := 19) (v := .agg (zAa sec).toArray) rfl (by kernel_rfl) (by kernel_rfl) (by kernel_rfl) (fun _ _ _ h => h) (yieldsIf_load_mid (by rfl) 288 (.tmp 12) rfl wr.heap.size 0 rfl (zAa sec) _ (fun _ h => h.2.2) hu rfl hi) (by assumption) ?_
    try simp only [nf]
    refine wpAnyH_ready (rs := [12]) (by kernel_rfl) (by simp) (AllReadyH.cons rfl (fun K hK => ?_) AllReadyH.nil);go_simp;refine (zL7 base g kb E _ (hlt2.ext ((xr w2).drew)) (by rw [hek]; omega)).mono ?_;rintro e w3 ⟨rfl, rfl⟩;rw [hhE];refine hK.out _ _ hHeld (fun hHeld2 => ?_);clear hK K
    try simp only [nf]
    refine tq 13 (.int .i64 (p0 : Int)) ?_;refine tq 14 (.int .i64 (p1 : Int)) ?_;refine tq 16 (.int .i64 (p2 : Int)) ?_;refine tq 18 (.int .i64 (p3 : Int)) ?_;refine wpAnyH_ready (rs := [20]) (by kernel_rfl) (by simp) (AllReadyH.cons rfl (fun K hK => ?_) AllReadyH.nil);go_simp;refine (zNg base g kb E (p3 : Int) sec _ (hlt2.ext ((xr w2).drew)) (by omega) (by omega) hs64 (Nat.le_trans hbr hB2s)).mono ?_;rintro e w6 ⟨rfl, o6, r6⟩;dsimp only;have hkw := zHx E (p3 : Int) sec;have HPS := zh (zOq p2 (f - (k + 1)) k rest E _ (show E.write ((p2 + k : Nat) : Int) (zEe k rest) = E.write (p3 : Int) sec by rw [← HP3.out, ← HSEC.out]));rw [show f - (k + 1) + 1 = f - k by omega] at HPS;generalize hr : E.write (p3 : Int) sec = r at *;obtain ⟨E2, en⟩ := r;obtain ⟨hkw1, hkw2', hkw3'⟩ := hkw;have hkw4 : E2.kept.length = E.kept.length := hkw1;have hkw2 : E2.steps ≤ E.steps + 1 := hkw2';have hkw3 : E2.cache.length ≤ E.cache.length + 1 := hkw3';clear hkw2' hkw3';have o6' : DOnly base g kb w2 w6 := ((DOnly.refl base g kb w2).drew).trans o6;have LA6 := zh (LA2.out.only o6' r6 hkw1);have DO6 := zh (DO2.out.trans o6')
    have hqn : q ≠ g ∧ q ≠ kb := by
     obtain ⟨cv, hd⟩ := hla.out.disk;have hq := hqq.out.trans HQB.out;refine ⟨?_, ?_⟩
     ·rintro rfl; have := hq.symm.trans hd.blk; simp at this
     ·rintro rfl; have := hq.symm.trans hd.row; simp at this
    have HQ6 := zh ((o6'.keep (HQ2.out.trans HQB.out) (by decide) hqn.1 hqn.2).trans HQB.out.symm)
    have hS6 : w6.cell? ⟨l, 0, none⟩ = some (.pointer (some ⟨g, 0, none⟩)) ∧ w6.cell? ⟨l, 3, none⟩ = some (.int .i64 L.half) ∧ w6.rangeAt wr.heap.size 0 (zAa sec) :=
     ⟨LA6.out.cells.1, LA6.out.cells.2.2.2.1, zDv hrg ((o6'.keep HG3.out (by decide) HBB2.out.1 HBB2.out.2).trans HG3.out.symm)⟩
    refine hK.out _ _ hS6 (fun hHeld6 => ?_);clear hK K
    try simp only [nf]
    refine wpAnyH_ready (rs := [21]) (by kernel_rfl) (by simp) (AllReadyH.cons rfl (fun K hK => ?_) AllReadyH.nil);go_simp;refine hK.out _ _ hS6 (fun hHeld7 => ?_);clear hK K
    try simp only [nf]
    refine wpAnyH_done (by kernel_rfl) ?_ _;refine NoPanic.normal ?_;clear hHeld hHeld2 hHeld6 hHeld7 hS6 hrg d0 d3 hs1 hs2 hs3 hs4;have HDS := zh (drop_step (m := m) HMM.out.2.2.1 HMM.out.2.2.2 (by have := HMM.out.2.1; have := HMM.out.1; omega));clear hu hi hB2s hhE
    by_cases hen : en = 0
    ·subst hen
     go_wp2_with fail
     go_roundw
     case rel =>
      refine ⟨k + 1, E2, o', n', c', by go_num, by omega, rfl, ?_, ?_, ?_, ?_, HQ6, LA6, DO6, ?_, by omega, by omega, by omega⟩
      ·have h1 := HNC.out; omega
      ·have h1 := HNC.out; omega
      ·have h1 := HNC.out; have h2 := HMM.out.1; have h3 := HMM.out.2.1; have h4 := HRL.out; omega
      ·rw [← HDS.out.1]; exact HBV
      ·have h1 := HPS.out;rw [if_pos rfl, HDS.out.2] at h1;rw [show f - (k + 1) = f - (k + 1) from rfl];exact zh (h1.symm.trans hpg.out)
     case measure => simp [intOf]; omega
    ·have hne := zFa hen
     go_wp2_with fail
     go_ret
     have h1 := HPS.out;rw [if_neg hen] at h1;have h2 : zE6 D L at_ seq b = (E2, en) := HPUT.out.trans (hpg.out.symm.trans h1);rw [h2];exact ⟨rfl, DO6.out, LA6.out.disk⟩
   ·have hkt : ((k : Int) == 0) = false := by rw [beq_eq_false_iff_ne]; omega
    have hmk2 : (mk.toNat : Int) = 3 := by rw [HMK.out, if_neg (by omega)]; rfl
    rw [hmk2] at hZM2;clear hk0 hmk2
    go_upto_region 10 with (first | (refine zAt rfl 288 rfl Z HI.out.1 ?_))
    go_wp2_with ((refine wpList_copy_splice rfl (.tmp 53) (.tmp 54) 23 23 rfl 5 Tryz.underlying23 zH7 (some ⟨wr.heap.size, 1, none⟩) (some ⟨q, o, none⟩) 63 63 n c rfl rfl wr.heap.size 1 ZM 288 (heap_alloc_new wr _) (zAa (rest.take m)) HN63.out (fun _ => ⟨rfl, _, rfl, HSRC.out⟩) HFIT.out (zAm _) wr.heap.size wr HBEL.out (Nat.le_refl _) ?_; intro w2 HG2 hB2; refine zFl rfl 23 (.tmp 52) (.tmp 55) rfl zHm zGo (some ⟨q, o, none⟩) n c m rfl HGO.out hm2 _ HV.out ?_))
    have LA2 := zh (hla.out.ext hB2);have DO2 := zh (hdo.out.ext hB2);have HQ2 := zh ((hB2.block q (by have := (Array.getElem?_eq_some_iff.1 (hqq.out.trans HQB.out)).1; exact this)).trans hqq.out)
    obtain ⟨sec, hsec⟩ : ∃ sec, sec = zEe k rest := ⟨_, rfl⟩
    have HSEC := zh hsec;have hs64 : sec.length = 64 := by rw [hsec]; exact zOn k rest
    have HG3 := zh (show w2.heap[wr.heap.size]? = some (.cells (zAa sec).toArray 288 (0, 0)) by
     rw [HG2.out, HZM.out, zOm mk _ (by rw [List.length_take]; omega), hsec];unfold zEe
     rw [HMK.out, show rest.take m = rest.take 63 by
      rcases Nat.lt_or_ge 63 n with h1 | h1
      ·rw [hm6 h1]
      ·rw [hm5 h1, List.take_of_length_le (Nat.le_of_eq HMM.out.2.2.2), List.take_of_length_le (by rw [HMM.out.2.2.2]; exact h1)]])
    obtain ⟨d0, d1, d2, d3, d4, d5, d6, d7⟩ := LA2.out.cells;have hlt2 := LA2.out.disk
    have HBB2 := zh (show wr.heap.size ≠ g ∧ wr.heap.size ≠ kb from by
     obtain ⟨cv, hd⟩ := hla.out.disk;have h1 := hd.lt g (.inl rfl);have h2 := hd.lt kb (.inr (.inl rfl))
     exact ⟨by omega, by omega⟩)
    have hrg : w2.rangeAt wr.heap.size 0 (zAa sec) := fun j v hj => by
     rw [Nat.zero_add, cell_of_row _ _ _ _ _ _ HG3.out, List.getElem?_toArray]; exact hj
    obtain ⟨p3, hp3⟩ : ∃ p3 : Nat, p3 = p2 + k := ⟨_, rfl⟩
    have hs4 : IntKind.i64.wrap ((p2 : Int) + (k : Int)) = (p3 : Int) := by
     rw [IntWalk.i64_in _ (by omega)]; omega
    have hs1 := HS1.out;have hs2 := HS2.out;have hs3 := HS3.out;have hhE : zAp E = zAp D := by unfold zAp; rw [hek]
    have hu := Tryz.underlying288;have hi : (Tryz.prog.info? 288).map (·.size) = some (zAa sec).length := by rw [zAc, hs64]; exact zAx
    have hB2s := hB2.size;have HP3 := zh hp3;have HB2 := zh hB2;have HQR := zh hqq.out;clear hsec d1 d2 d4 d5 d6 d7 hp3 hB2;refine wp_region_noPanic ?_;refine wp_region_held_drew (S := fun W => W.cell? ⟨l, 0, none⟩ = some (.pointer (some ⟨g, 0, none⟩)) ∧ W.cell? ⟨l, 3, none⟩ = some (.int .i64 L.half) ∧ W.rangeAt wr.heap.size 0 (zAa sec)) (by kernel_rfl) ⟨d0, d3, hrg⟩ (fun hHeld => ?_);refine tq 0 (.pointer (some ⟨l, 0, none⟩)) ?_;refine tq 1 (.pointer (some ⟨l, 0, none⟩)) ?_;refine tq 2 (.pointer (some ⟨l, 0, none⟩)) ?_;refine tq 3 (.pointer (some ⟨g, 0, none⟩)) ?_;refine tq 4 (.pointer (some ⟨l, 0, none⟩)) ?_;refine tq 5 (.pointer (some ⟨l, 0, none⟩)) ?_;refine tq 6 (.pointer (some ⟨l, 3, none⟩)) ?_;refine tq 7 (.int .i64 L.half) ?_;refine tq 8 (.pointer (some ⟨l, 0, none⟩)) ?_;refine tq 9 (.pointer (some ⟨l, 0, none⟩)) ?_;refine tq 10 (.pointer (some ⟨l, 0, none⟩)) ?_;refine tq 11 (.pointer (some ⟨g, 0, none⟩)) ?_;refine tq 15 (.int .i64 (at_ : Int)) ?_;refine tq 17 (.int .i64 (k : Int)) ?_;refine wpAnyH_take (i := 19) (v := .agg (zAa sec).toArray) rfl (by kernel_rfl) (by kernel_rfl) (by kernel_rfl) (fun _ _ _ h => h) (yieldsIf_load_mid (by rfl) 288 (.tmp 12) rfl wr.heap.size 0 rfl (zAa sec) _ (fun _ h => h.2.2) hu rfl hi) (by assumption) ?_
    try simp only [nf]
    refine wpAnyH_ready (rs := [12]) (by kernel_rfl) (by simp) (AllReadyH.cons rfl (fun K hK => ?_) AllReadyH.nil);go_simp;refine (zL7 base g kb E _ (hlt2.ext ((xr w2).drew)) (by rw [hek]; omega)).mono ?_;rintro e w3 ⟨rfl, rfl⟩;rw [hhE];refine hK.out _ _ hHeld (fun hHeld2 => ?_);clear hK K
    try simp only [nf]
    refine tq 13 (.int .i64 (p0 : Int)) ?_;refine tq 14 (.int .i64 (p1 : Int)) ?_;refine tq 16 (.int .i64 (p2 : Int)) ?_;refine tq 18 (.int .i64 (p3 : Int)) ?_;refine wpAnyH_ready (rs := [20]) (by kernel_rfl) (by simp) (AllReadyH.cons rfl (fun K hK => ?_) AllReadyH.nil);go_simp;refine (zNg base g kb E (p3 : Int) sec _ (hlt2.ext ((xr w2).drew)) (by omega) (by omega) hs64 (Nat.le_trans hbr hB2s)).mono ?_;rintro e w6 ⟨rfl, o6, r6⟩;dsimp only;have hkw := zHx E (p3 : Int) sec;have HPS := zh (zOq p2 (f - (k + 1)) k rest E _ (show E.write ((p2 + k : Nat) : Int) (zEe k rest) = E.write (p3 : Int) sec by rw [← HP3.out, ← HSEC.out]));rw [show f - (k + 1) + 1 = f - k by omega] at HPS;generalize hr : E.write (p3 : Int) sec = r at *;obtain ⟨E2, en⟩ := r;obtain ⟨hkw1, hkw2', hkw3'⟩ := hkw;have hkw4 : E2.kept.length = E.kept.length := hkw1;have hkw2 : E2.steps ≤ E.steps + 1 := hkw2';have hkw3 : E2.cache.length ≤ E.cache.length + 1 := hkw3';clear hkw2' hkw3';have o6' : DOnly base g kb w2 w6 := ((DOnly.refl base g kb w2).drew).trans o6;have LA6 := zh (LA2.out.only o6' r6 hkw1);have DO6 := zh (DO2.out.trans o6')
    have hqn : q ≠ g ∧ q ≠ kb := by
     obtain ⟨cv, hd⟩ := hla.out.disk;have hq := hqq.out.trans HQB.out;refine ⟨?_, ?_⟩
     ·rintro rfl; have := hq.symm.trans hd.blk; simp at this
     ·rintro rfl; have := hq.symm.trans hd.row; simp at this
    have HQ6 := zh ((o6'.keep (HQ2.out.trans HQB.out) (by decide) hqn.1 hqn.2).trans HQB.out.symm)
    have hS6 : w6.cell? ⟨l, 0, none⟩ = some (.pointer (some ⟨g, 0, none⟩)) ∧ w6.cell? ⟨l, 3, none⟩ = some (.int .i64 L.half) ∧ w6.rangeAt wr.heap.size 0 (zAa sec) :=
     ⟨LA6.out.cells.1, LA6.out.cells.2.2.2.1, zDv hrg ((o6'.keep HG3.out (by decide) HBB2.out.1 HBB2.out.2).trans HG3.out.symm)⟩
    refine hK.out _ _ hS6 (fun hHeld6 => ?_);clear hK K
    try simp only [nf]
    refine wpAnyH_ready (rs := [21]) (by kernel_rfl) (by simp) (AllReadyH.cons rfl (fun K hK => ?_) AllReadyH.nil);go_simp;refine hK.out _ _ hS6 (fun hHeld7 => ?_);clear hK K
    try simp only [nf]
    refine wpAnyH_done (by kernel_rfl) ?_ _;refine NoPanic.normal ?_;clear hHeld hHeld2 hHeld6 hHeld7 hS6 hrg d0 d3 hs1 hs2 hs3 hs4;have HDS := zh (drop_step (m := m) HMM.out.2.2.1 HMM.out.2.2.2 (by have := HMM.out.2.1; have := HMM.out.1; omega));clear hu hi hB2s hhE
    by_cases hen : en = 0
    ·subst hen
     go_wp2_with fail
     go_roundw
     case rel =>
      refine ⟨k + 1, E2, o', n', c', by go_num, by omega, rfl, ?_, ?_, ?_, ?_, HQ6, LA6, DO6, ?_, by omega, by omega, by omega⟩
      ·have h1 := HNC.out; omega
      ·have h1 := HNC.out; omega
      ·have h1 := HNC.out; have h2 := HMM.out.1; have h3 := HMM.out.2.1; have h4 := HRL.out; omega
      ·rw [← HDS.out.1]; exact HBV
      ·have h1 := HPS.out;rw [if_pos rfl, HDS.out.2] at h1;rw [show f - (k + 1) = f - (k + 1) from rfl];exact zh (h1.symm.trans hpg.out)
     case measure => simp [intOf]; omega
    ·have hne := zFa hen
     go_wp2_with fail
     go_ret
     have h1 := HPS.out;rw [if_neg hen] at h1;have h2 : zE6 D L at_ seq b = (E2, en) := HPUT.out.trans (hpg.out.symm.trans h1);rw [h2];exact ⟨rfl, DO6.out, LA6.out.disk⟩
  ·go_wp2_with fail
   go_ret
   have hkf : k = f := by omega
   have h1 := hpg.out;rw [hkf, Nat.sub_self] at h1;have h2 : zE6 D L at_ seq b = (E, 0) := HPUT.out.trans (h1.symm.trans rfl);rw [h2];exact ⟨rfl, hdo.out, hla.out.disk⟩
theorem zCf : Tryz.prog.underlying 22 = some (.slice 23) := by kernel_rfl
theorem zFe : (Tryz.prog.info? 23).map (fun i => (i.zero, i.size, i.bytes)) = some (some (.slice none 0 0), 1, 24) := by kernel_rfl
theorem own_apart {w : World} {b1 b2 : Nat} {e1 e2 : TypeId} {s1 s2 : Nat} {v u : Value} {n m : Nat} {xs ys : List Value} (hne : e1 ≠ e2) (h1 : w.ownsRow b1 e1 s1 v n xs) (h2 : w.ownsRow b2 e2 s2 u m ys) : v.ownBlock = none ∨ v.ownBlock ≠ u.ownBlock := by
 rcases h1.2 with ⟨rfl, _⟩ | ⟨g, c, cur, rfl, _, hg, _⟩
 ·exact .inl rfl
 ·refine .inr fun e => ?_
  rcases h2.2 with ⟨rfl, _⟩ | ⟨g', c', cur', rfl, _, hg', _⟩
  ·simp [Value.ownBlock] at e
  ·simp only [Value.ownBlock, Option.some.injEq] at e;subst e;rw [hg] at hg';simp only [Option.some.injEq, Obj.cells.injEq] at hg';exact hne hg'.2.1
theorem zL0 (w : World) (v : Value) (t : TypeId) (c : Nat) : Src (w.alloc (.cells #[v] t)) (.slice (some ⟨w.heap.size, 0, none⟩) 1 c) 1 [v] := by
 refine ⟨_, _, rfl, (fun h => by cases h), fun ad had j y hy => ?_⟩;cases had;rw [Addr.add_lit, zHh, Nat.zero_add];simpa using hy
theorem RecRow.push {base : Nat} {w w2 : World} {lv lv' v : Value} {ls : List (List UInt8)} {b : List UInt8} {vs : List Value} (hr : w.ownsRow base 23 1 lv ls.length vs) (hi : ∀ i, (h : i < ls.length) → ∃ v, vs[i]? = some v ∧ OwnBytes w base v ls[i]) (hv : OwnBytes w base v b)
  (o2 : w2.ownsRow base 23 1 lv' (ls.length + 1) (vs ++ [v])) (g2 : (w.alloc (.cells #[v] 23)).grownBy w2 lv.ownBlock) : RecRow base w2 lv' (ls ++ [b]) := by
 have hrl := hr.1;refine ⟨vs ++ [v], by rw [List.length_append]; exact o2, fun i hi' => ?_⟩
 have keep : ∀ {u : Value} {x : List UInt8}, OwnBytes w base u x → OwnBytes w2 base u x := fun {u x} ho =>
  (ho.alloc _).kept g2 (own_apart (by decide) (ho.alloc _) (hr.alloc (.cells #[v] 23)))
 by_cases h : i < ls.length
 ·obtain ⟨u, hu, ho⟩ := hi i h;exact ⟨u, by rw [List.getElem?_append_left (by omega)]; exact hu, by rw [List.getElem_append_left h]; exact keep ho⟩
 ·have hl : i = ls.length := by simp at hi'; omega
  subst hl;refine ⟨v, ?_, by simpa using keep hv⟩;rw [List.getElem?_append_right (by omega)];simp [show vs.length = ls.length by omega]
theorem RecRow.shape {base : Nat} {w : World} {lv : Value} {ls : List (List UInt8)} (h : RecRow base w lv ls) : ∃ a c, lv = .slice a ls.length c := by
 obtain ⟨vs, h, -⟩ := h
 rcases h.2 with ⟨rfl, h0⟩ | ⟨g, cap, cur, rfl, _⟩
 ·exact ⟨_, _, by rw [h0]⟩
 ·exact ⟨_, _, rfl⟩
theorem FreshBytes.ownb {w w' : World} {v' : Value} {m : List UInt8} {base : Nat} (h : FreshBytes w w' (.slice none 0 0) v' m) (hb : base ≤ w.heap.size) : OwnBytes w' base v' m := by
 rcases h.own with ⟨rfl, rfl⟩ | ⟨_, h, _⟩
 ·exact OwnBytes.nil _ _
 ·exact h.le hb
section
variable {base g kb l : Nat} {w w' : World} {lv : Value} {D : Dk} {L : Lg}
theorem LogAt.pushed (h : LogAt base w g kb l lv D L) {v lv' : Value} {b : List UInt8} (hv : OwnBytes w base v b) {vs : List Value} (hr : w.ownsRow base 23 1 lv L.list.length vs) (hi : ∀ i, (h : i < L.list.length) → ∃ v, vs[i]? = some v ∧ OwnBytes w base v L.list[i])
  (o2 : w'.ownsRow base 23 1 lv' (L.list.length + 1) (vs ++ [v])) (g2 : (w.alloc (.cells #[v] 23)).grownBy w' lv.ownBlock) :
  LogAt base (w'.setCell ⟨l, 5, none⟩ lv') g kb l lv' D { L with list := L.list ++ [b] } ∧ LOnly base g kb l lv.ownBlock w (w'.setCell ⟨l, 5, none⟩ lv') ∧ w'.cell? ⟨l, 5, none⟩ = some lv ∧ w'.frozen? ⟨l, 5, none⟩ = false := by
 have hne : ∀ (k : Nat) (cs : Array Value) (t : TypeId) (fz : Nat × Nat), t ≠ 23 → w.heap[k]? = some (.cells cs t fz) → w'.heap[k]? = some (.cells cs t fz) := by
  intro k cs t fz ht hh;have hk : k < w.heap.size := (Array.getElem?_eq_some_iff.1 hh).1
  have e1 := g2.block k (by simp; omega) (by
   intro e
   rcases hr.2 with ⟨rfl, _⟩ | ⟨q, cap, cur, rfl, _, hq, _⟩
   ·simp [Value.ownBlock] at e
   ·simp only [Value.ownBlock, Option.some.injEq] at e;subst e;rw [hh] at hq;simp only [Option.some.injEq, Obj.cells.injEq] at hq
    exact ht hq.2.1)
  rw [e1, zC8 _ _ _ hk, hh]
 have hb := hne l _ 211 _ (by decide) h.blk;have hrow := RecRow.push hr hi hv o2 g2;obtain ⟨cv, d⟩ := h.disk
 have d' : DiskAt base w' g kb cv D := d.same fun k hk => by
  rcases hk with rfl | rfl | hk
  ·exact (hne _ _ 149 _ (by decide) d.blk).trans d.blk.symm
  ·exact (hne _ _ 288 _ (by decide) d.row).trans d.row.symm
  ·rcases d.cache.2 with ⟨rfl, _⟩ | ⟨q, cap, cur, rfl, _, hq, _⟩
   ·simp [Value.ownBlock] at hk
   ·simp only [Value.ownBlock, Option.some.injEq] at hk;subst hk;exact (hne _ _ 291 _ (by decide) hq).trans hq.symm
 refine ⟨?_, ?_, by simp only [World.cell?, hb]; rfl, by simp [World.frozen?, hb]⟩
 ·have hl' : ∀ k, k ≠ l → (w'.setCell ⟨l, 5, none⟩ lv').heap[k]? = w'.heap[k]? := fun k hk => Below.heap_setCell w' _ lv' k hk
  refine ⟨⟨cv, d'.same fun k hk => hl' k ?_⟩, h.hl, ?_, hrow.same fun k cs t ht hh => hl' k ?_, h.six, h.half, h.at_⟩
  ·rintro rfl
   rcases hk with rfl | rfl | hk
   ·have := hb.symm.trans d'.blk; simp at this
   ·have := hb.symm.trans d'.row; simp at this
   ·rcases d'.cache.2 with ⟨rfl, _⟩ | ⟨q, cap, cur, rfl, _, hq, _⟩
    ·simp [Value.ownBlock] at hk
    ·simp only [Value.ownBlock, Option.some.injEq] at hk;subst hk;have := hb.symm.trans hq;simp at this
  ·rw [zAd w' l 5 lv' _ _ _ hb]; rfl
  ·rintro rfl;have := hb.symm.trans hh;simp only [Option.some.injEq, Obj.cells.injEq] at this
   rcases ht with rfl | rfl <;> simp at this
 ·refine LOnly.setL ⟨?_, ?_, ?_, ?_, ?_⟩ 5 lv'
  ·exact g2.os.trans rfl
  ·exact g2.tape.trans rfl
  ·exact g2.output.trans rfl
  ·exact Nat.le_trans (by simp) g2.size
  ·intro k hk _ _ _ h4 _;rw [g2.block k (by simp; omega) h4, zC8 _ _ _ hk]
end
theorem zOr (p : Nat) : ∀ (f i : Nat) (all : List UInt8) (D : Dk), (zI2 p f i all D).1.kept.length = D.kept.length ∧ (zI2 p f i all D).1.steps ≤ D.steps + f ∧ (zI2 p f i all D).1.cache.length ≤ D.cache.length + f
 | 0, _, _, _ => ⟨rfl, Nat.le_refl _, Nat.le_refl _⟩
 | f + 1, i, all, D => by
   obtain ⟨h1, h2, h3⟩ := zHx D ((p + i : Nat) : Int) (zEe i all);rw [zI2]
   split
   ·obtain ⟨k1, k2, k3⟩ := zOr p f (i + 1) (all.drop 63) (D.write ((p + i : Nat) : Int) (zEe i all)).1;exact ⟨k1.trans h1, by omega, by omega⟩
   ·exact ⟨h1, by omega, by omega⟩
theorem putP_kept (D : Dk) (L : Lg) (a s : Nat) (b : List UInt8) (hb : b.length ≤ 4096) : (zE6 D L a s b).1.kept.length = D.kept.length ∧ (zE6 D L a s b).1.steps ≤ D.steps + 66 ∧ (zE6 D L a s b).1.cache.length ≤ D.cache.length + 66 := by
 obtain ⟨h1, h2, h3⟩ := zOr (zBx D L.half a) (zAg b.length) 0 (zEh s L.epoch b) D;have : zAg b.length ≤ 66 := by unfold zAg; omega
 unfold zE6;exact ⟨h1, by omega, by omega⟩
theorem zKg (D : Dk) : (D.flush).1.kept.length = D.kept.length ∧ (D.flush).1.steps ≤ D.steps + 1 ∧ (D.flush).1.cache.length ≤ D.cache.length := by
 obtain ⟨h1, h2, h3⟩ := step_kept D;unfold Dk.flush
 split
 ·exact ⟨rfl, Nat.le_succ _, Nat.le_refl _⟩
 ·split
  ·exact ⟨by simp [Dk.flushed, zDb, h1], Nat.le_of_eq h2, by simp [Dk.flushed]⟩
  ·exact ⟨h1, Nat.le_of_eq h2, h3⟩
theorem LOnly.drewN {base g kb l : Nat} {lb : Option Nat} {a b : World} (h : LOnly base g kb l lb a b) (n : Nat) : LOnly base g kb l lb a (b.drewN n) := ⟨h.os, h.tape, h.output, h.size, h.block⟩
theorem zD9 (base g kb : Nat) (D : Dk) (ho : Nat) (hh : ho = zAp D) (w : World) (h : Disk base w g kb D) (h2 : 2 ≤ D.kept.length) : Calls Tryz.prog 119 #[.pointer (some ⟨g, 0, none⟩)] w fun e w' => e = .returned (.int .i64 (ho : Nat)) ∧ w = w' := by
 subst hh; exact zL7 base g kb D w h h2
theorem zJ7 (n ks : Nat) (hk : ks = zAg n) (hn : n ≤ 140737488355328) (w : World) : Calls Tryz.prog 118 #[.int .i64 (n : Int)] w fun e w' => e = .returned (.int .i64 (ks : Nat)) ∧ w' = w := by
 subst hk; exact (zC5 n hn w).mono fun e w' h => ⟨h.1, h.2.symm⟩
theorem zFz {n : Nat} (h : n ≠ 0) : ((n : Int) == 0) = false := by rw [beq_eq_false_iff_ne]; omega
theorem LOnly.of_none {base g kb l : Nat} {lb : Option Nat} {a b : World} (h : LOnly base g kb l none a b) : LOnly base g kb l lb a b := ⟨h.os, h.tape, h.output, h.size, fun k hk h1 h2 h3 _ h5 => h.block k hk h1 h2 h3 (by simp) h5⟩
theorem new_le {w W : World} {v v' : Value} (h : zB8 W v v') (hs : w.heap.size ≤ W.heap.size) : v'.ownBlock = v.ownBlock ∨ ∀ q, v'.ownBlock = some q → w.heap.size ≤ q :=
 h.imp id fun ⟨k, hk, hle⟩ q hq => by rw [hk] at hq; obtain rfl := Option.some.inj hq; omega
def appPost (base g kb l : Nat) (lv : Value) (w : World) (r : Dk × Lg × Nat) (e : Ending) (w' : World) : Prop :=
 e = .returned (.int .i64 (r.2.2 : Nat)) ∧ ∃ lv', LOnly base g kb l lv.ownBlock w w' ∧ LogAt base w' g kb l lv' r.1 r.2.1 ∧ (lv'.ownBlock = lv.ownBlock ∨ ∀ q, lv'.ownBlock = some q → w.heap.size ≤ q)
set_option maxRecDepth 100000 in
set_option maxHeartbeats 4000000 in
theorem Append_any (base g kb l : Nat) (lv : Value) (D : Dk) (L : Lg) (bv : Value) (b : List UInt8) (w : World) (h : LogAt base w g kb l lv D L) (hb : ∀ W, LOnly base g kb l none w W → Bytes W bv b) (hbl : b.length ≤ 16777216)
  (hseq : L.list.length ≤ 1000000) (hep : L.epoch < 4294967296) (hst : D.steps ≤ 800000000) (hc : D.cache.length ≤ 800000000) (hB : base ≤ w.heap.size) :
  Calls Tryz.prog 52 #[.pointer (some ⟨l, 0, none⟩), bv] w (appPost base g kb l lv w (zE0 D L b)) := by
 have HL := zh h;have HB := zh hb;obtain ⟨ab, capb, rfl, -⟩ := hb w LOnly.refl;obtain ⟨al, cl, rfl⟩ := h.rows.shape;obtain ⟨c0, c1, c2, c3, c4, c5, c6, hf⟩ := h.cells;have hf4 := hf 4;have hm := h.disk.wf.most;have h6 := h.six;have hat := h.at_;have hh : zAp D ≤ 4096 := by unfold zAp; omega
 have hat4 : L.at_ ≤ 4096 := by omega
 have hsec : zAg b.length ≤ 16777216 := by unfold zAg; omega
 clear h hb hf;cases hd : L.dead
 ·rw [hd] at c6
  by_cases hlong : 4096 < b.length
  ·have HS := zh (show zE0 D L b = (D, L, 6) by unfold zE0; rw [if_neg (by rw [hd]; decide), if_pos hlong]);have hlt : ((4096 : Int) < (b.length : Int)) := by omega
   clear hd;go_enter Tryz.func52, Tryz.ntmps52
   go_wp2_with ((go_at_call 118); refine (zC5 b.length (by omega) _).mono ?_; rintro e w' ⟨rfl, rfl⟩)
   go_ret
   rw [HS.out];exact ⟨rfl, _, LOnly.refl, HL.out, .inl rfl⟩
  ·have hlong' : ¬ ((4096 : Int) < (b.length : Int)) := by omega
   obtain ⟨ks, hks⟩ : ∃ ks, ks = zAg b.length := ⟨_, rfl⟩
   obtain ⟨ak, hak⟩ : ∃ ak, ak = L.at_ + ks := ⟨_, rfl⟩
   have HSU := zh (show IntKind.i64.wrap ((L.at_ : Int) + (ks : Int)) = (ak : Int) by rw [IntWalk.i64_in _ (by omega)]; omega);have HKS := zh hks;have HAK := zh hak
   obtain ⟨ho, hho⟩ : ∃ ho, ho = zAp D := ⟨_, rfl⟩
   have HHO := zh hho
   by_cases hfull : zAp D < L.at_ + zAg b.length
   ·have HS := zh (show zE0 D L b = (D, L, 7) by unfold zE0; rw [if_neg (by rw [hd]; decide), if_neg hlong, if_pos hfull]);have hfd : decide (ho < ak) = true := by rw [decide_eq_true_iff]; omega
    clear hd hlong hks hak hfull hh hho;go_enter Tryz.func52, Tryz.ntmps52
    go_upto_region 6 with ((go_at_call 118); refine (zC5 b.length (by omega) _).mono ?_; rintro e w' ⟨rfl, rfl⟩; rw [← HKS.out])
    have hsu := HSU.out
    go_quiet (first | ((go_at_call 119); exact Calls.quiet_of_same ((zD9 base g kb D ho HHO.out _ (Disk.drewN HL.out.disk _) (by omega)).mono fun e w' h => ⟨h.1, h.2.symm⟩)))
    clear hsu
    go_wp2_with fail
    go_ret
    rw [HS.out];exact ⟨rfl, _, LOnly.refl.drewN nq, HL.out.ext ((xr w).drewN nq), .inl rfl⟩
   ·have hfd : decide (ho < ak) = false := by rw [decide_eq_false_iff_not]; omega
    have HPK := zh (putP_kept D L L.at_ L.list.length b (by omega))
    have HS := zh (show zE0 D L b = (if (zBs D L L.at_ L.list.length b).2 = 0 then ((zBs D L L.at_ L.list.length b).1, { L with at_ := L.at_ + zAg b.length, list := L.list ++ [b] }, 0)
     else ((zBs D L L.at_ L.list.length b).1, L.die (zBs D L L.at_ L.list.length b).2, (zBs D L L.at_ L.list.length b).2)) by
      unfold zE0; rw [if_neg (by rw [hd]; decide), if_neg hlong, if_neg hfull])
    have hll : L.list.length ≤ 9223372036854775807 := by omega
    have HFU := zh hfull;clear hd hlong hks hak hfull hh hho;go_enter Tryz.func52, Tryz.ntmps52
    go_upto_region 6 with ((go_at_call 118); refine (zC5 b.length (by omega) _).mono ?_; rintro e w' ⟨rfl, rfl⟩; rw [← HKS.out])
    have hsu := HSU.out
    go_quiet (first | ((go_at_call 119); exact Calls.quiet_of_same ((zD9 base g kb D ho HHO.out _ (Disk.drewN HL.out.disk _) (by omega)).mono fun e w' h => ⟨h.1, h.2.symm⟩)))
    clear hsu;have H1 := zh (HL.out.ext ((xr w).drewN nq));have X1 := zh ((DOnly.refl base g kb w).ext ((xr w).drewN nq));generalize hw1 : w.drewN nq = w1 at *;have HW1 := zh hw1;clear hw1 c0 c1 c2 c3 c4 c5 c6 hf4;obtain ⟨c0, c1, c2, c3, c4, c5, c6, hf⟩ := H1.out.cells;clear hf c1 c2 c3 c6
    go_upto_region 8 with (fail)
    go_still_tail 11, (by kernel_rfl)
    change wpList _ _ _ _ _ w1.drew
    have H2 := zh (H1.out.ext ((xr w1).drew));have X2 := zh (X1.out.drew);generalize hw2 : w1.drew = w2 at *;clear hw2 c0 c4 c5
    go_wp2_with fail
    refine (put_any base g kb l _ D L L.at_ L.list.length _ b _ H2.out (HB.out _ X2.out.lonly) (by omega) (by omega) (by omega) hep (by omega) (by omega) (Nat.le_trans hB X2.out.size)).mono ?_;rintro e w3 ⟨rfl, o3, d3⟩;have LA3 := zh (H2.out.only o3 d3 HPK.out.1);have X3 := zh (X2.out.trans o3);have hpk := HPK.out;generalize hr : zE6 D L L.at_ L.list.length b = r at *;obtain ⟨D3, en⟩ := r;have hpk2 : D3.kept.length = D.kept.length ∧ D3.steps ≤ D.steps + 66 ∧ D3.cache.length ≤ D.cache.length + 66 := hpk;obtain ⟨hp1, hp2, hp3⟩ := hpk2;have HR := zh hr;clear o3 d3 hpk hr HPK;obtain ⟨c0, c1, c2, c3, c4, c5, c6, hf⟩ := LA3.out.cells;clear hf c1 c2 c3 c4 c5 c6
    by_cases hen : en = 0
    ·subst hen;have HPF := zh (show zBs D L L.at_ L.list.length b = D3.flush by unfold zBs; rw [HR.out]; rfl);have hfk := zKg D3
     go_wp2_with fail
     refine (zN0 base g kb D3 _ LA3.out.disk (by omega) (Nat.le_trans hB X3.out.size)).mono ?_;rintro e w4 ⟨rfl, o4, d4⟩;generalize hr4 : D3.flush = r4 at *;obtain ⟨D4, fn⟩ := r4;have hfk1 : D4.kept.length = D3.kept.length := hfk.1;have LA4 := zh (LA3.out.only o4 d4 hfk1);have X4 := zh (X3.out.trans o4);clear o4 d4 hfk hr4 c0;obtain ⟨c0, c1, c2, c3, c4, c5, c6, hf⟩ := LA4.out.cells;have hf4 := hf 4;clear hf c0 c1 c2 c3 c5 c6
     by_cases hfn : fn = 0
     ·subst hfn
      go_upto_region 13 with (fail)
      refine wp_region_still_tail 10 (by kernel_rfl) (by kernel_rfl) ?_;simp only [List.take_succ_cons, List.take_zero, List.drop_succ_cons, List.drop_zero]
      repeat still_step
      have hsu := HSU.out
      still_call (zJ7 b.length ks HKS.out (by omega) _)
      repeat still_step
      refine wpStill_nil ?_;clear hsu
      change wpList _ _ _ _ _ w4.drew
      have hhE : zAp D4 = zAp D := by unfold zAp; rw [hfk1, hp1]
      have LA5 := zh ((LA4.out.ext ((xr w4).drew)).put 4 (.int .i64 (ak : Int)) { L with at_ := ak } _ rfl (LA4.out.ext ((xr w4).drew)).rows LA4.out.half (by rw [hhE]; have h1 := HFU.out; have h2 := HAK.out; have h3 := HKS.out; show ak ≤ zAp D; omega));have X5 := zh ((X4.out.drew.lonly (l := l) (lb := none)).setL 4 (.int .i64 (ak : Int)));clear hhE
      go_upto_region 14 with (fail)
      have e45 : (w4.drew).setCell ⟨l, 4, none⟩ (.int .i64 (ak : Int)) = (w4.setCell ⟨l, 4, none⟩ (.int .i64 (ak : Int))).drew := rfl;rw [e45] at LA5 X5;generalize hw5 : (w4.setCell ⟨l, 4, none⟩ (.int .i64 (ak : Int))).drew = w5 at *;have HB5 := zh (HB.out _ X5.out.drew);clear hw5 e45 c4 hf4;obtain ⟨c0, c1, c2, c3, c4, c5, c6, hf⟩ := LA5.out.cells;clear hf c0 c1 c2 c3 c4 c6;obtain ⟨i0, hi0, hz0, hz1, hz2⟩ := info_parts zFe;have HI := zh (And.intro hi0 (And.intro hz0 (And.intro hz1 hz2)));clear hi0 hz0 hz1 hz2
      go_region_law (first
       | (refine zDe rfl (.const (.slice none 0 0)) (.tmp 71) 23 rfl Tryz.underlying23 _ _ rfl rfl b HB5.out (by omega) ?_; intro v7 w7 f7; have x7 : Ext w5 w7 := (xr w5).drew.trans f7.below; have X7 := zh x7; have F7 := zh (f7.ownb (Nat.le_trans hB X5.out.size)); (obtain ⟨a7, c7, rfl, -⟩ := f7.bytes); have c57 := x7.cell c5; have c58 := (x7.alloc (.cells #[.slice a7 b.length c7] 23)).cell c5; have LA7 := zh (LA5.out.ext x7); (obtain ⟨vs, hr7, hi7⟩ := LA7.out.rows); have HR7 := zh hr7; have HI7 := zh hi7; clear f7 x7 hr7 hi7)
       | (refine zA8 rfl (.tmp 70) (.tmp 73) 22 rfl base 23 i0 _ 1 24 zCf HI.out.1 HI.out.2.1 HI.out.2.2.1 HI.out.2.2.2 rfl (by decide) _ _ rfl rfl L.list.length vs (HR7.out.alloc _) 1 [.slice a7 b.length c7] rfl (zL0 _ _ _ _) (by simp [Value.oneCell']) (by unfold maxLen; omega) (by omega) (by have := X5.out.size; have := X7.out.size; simp; omega) ?_; intro v8 w8 o8 g8 n8; (obtain ⟨a8, m8, c8, rfl⟩ := zFq o8); have P8 := LA7.out.pushed F7.out HR7.out HI7.out o8 g8; have q1 := P8.2.2.1; have q2 := P8.2.2.2; have P81 := zh P8.1; have P82 := zh P8.2.1; have N8 := zh (new_le n8 (show w.heap.size ≤ _ from Nat.le_trans X5.out.size (Nat.le_trans X7.out.size (by simp)))); clear P8 o8 g8 n8))
      all_goals
       go_wp2_with fail
       go_ret
       rw [HS.out, HPF.out];rw [if_pos rfl];have e := HAK.out;rw [HKS.out] at e;rw [← e];refine ⟨rfl, _, ?_, P81.out, N8.out⟩;exact (X5.out.of_none.trans (X7.out.lonly (lb := none)).of_none (.inl rfl)).trans P82.out (.inl rfl)
     ·
      have hne := zFz hfn;have hne2 := zFa hfn
      go_wp2_with fail
      refine (zKj base g kb l _ D4 L fn _ LA4.out).mono ?_;rintro e w9 ⟨rfl, o9, d9⟩;have O9 := zh o9;have D9 := zh d9;clear o9 d9
      go_wp2_with fail
      go_ret
      rw [HS.out, HPF.out];rw [if_neg hfn];exact ⟨rfl, _, X4.out.lonly.trans O9.out (.inl rfl), D9.out, .inl rfl⟩
    ·have HPF := zh (show zBs D L L.at_ L.list.length b = (D3, en) by unfold zBs; rw [HR.out]; exact if_neg hen);have hne := zFz hen;have hne2 := zFa hen
     go_wp2_with fail
     refine (zKj base g kb l _ D3 L en _ LA3.out).mono ?_;rintro e w9 ⟨rfl, o9, d9⟩;have O9 := zh o9;have D9 := zh d9;clear o9 d9
     go_wp2_with fail
     go_ret
     rw [HS.out, HPF.out];rw [if_neg hen];exact ⟨rfl, _, X3.out.lonly.trans O9.out (.inl rfl), D9.out, .inl rfl⟩
 ·have HS := zh (show zE0 D L b = (D, L, 3) by unfold zE0; rw [if_pos hd]);rw [hd] at c6;clear hd;go_enter Tryz.func52, Tryz.ntmps52
  go_wp2_with ((go_at_call 118); refine (zC5 b.length (by omega) _).mono ?_; rintro e w' ⟨rfl, rfl⟩)
  go_ret
  rw [HS.out];exact ⟨rfl, _, LOnly.refl, HL.out, .inl rfl⟩
end
end Go.Proofs.YtgnjjfdfoibdiaaGreatDoor
