/- A log: put. -/
import Derived.Test.YtgkoblgpadpcjaaLogP
namespace Go.Proofs.Ytgkoblgpadpcjaa
open Go.RowKit

/-- A slice expression x[lo:] at the list of a plain region's operations: the value is handed in under a name. -/
theorem wpList_slice_from {P : Program} {ops : Array Oper} {rest : List Oper} {o : Oper} {a : Act} {w : World} {Q : Exit → Act → World → Prop} (hg : o.guard = none) (t : TypeId) (x lo : Operand) (ho : o.op = .slice t x (some lo) none none)
    (ht : P.underlying t = some (.slice (P.elem t))) (hs : ∀ w, (sizeOf (P.elem t)).run P w = .ok 1 w) (ad : Option Addr) (n c m : Nat) (hx : a.eval x = .slice ad n c) (hl : a.eval lo = .int .i64 (m : Int)) (hm : m ≤ n)
    (V : Value) (hV : V = Go.sliced ad m n c 1) (h : wpList P ops Q rest (a.put o.dst V) w) : wpList P ops Q (o :: rest) a w := by
  subst hV
  refine wpList_plain hg fun K hK => ?_
  unfold Oper.wp
  have hr : (Instr.slice t (.slice ad n c) (some (.int .i64 (m : Int))) none none).run P w = .ok (Go.sliced ad m n c 1) w := by
    rw [run_slice_l w t ad n c ht .i64 (m : Int) (by omega) (by omega), hs]
    rfl
  have hr2 := (run_sliceAt_slice (w := w) t (.slice ad n c) (some (.int .i64 (m : Int))) none none ht).trans hr
  simp only [execOp, ho, hx, hl, Option.map_some, Option.map_none, Sem.run_bind, hr2, Result.andThen, Sem.run_pure, Oper.upon]
  exact hK _ _ h
theorem Bytes.inBlock {wq W : World} {q o n c : Nat} {l : List UInt8} (h : Bytes wq (.slice (some ⟨q, o, none⟩) n c) l) (hb : W.heap[q]? = wq.heap[q]?) : Bytes W (.slice (some ⟨q, o, none⟩) n c) l := by
  obtain ⟨a, cap, he, hl, hm, hn, hc⟩ := h
  simp only [Value.slice.injEq] at he
  obtain ⟨rfl, rfl, rfl⟩ := he
  refine ⟨_, _, rfl, hl, hm, hn, fun i hi => ?_⟩
  obtain ⟨b, o', e, hcell⟩ := hc i hi
  cases e
  exact ⟨q, o, rfl, (World.cell?_of_block (a := ⟨q, o + i, none⟩) hb).trans hcell⟩
theorem step_kept (D : Dk) : (Dk.step D).1.kept.length = D.kept.length ∧ (Dk.step D).1.steps = D.steps + 1 ∧ (Dk.step D).1.cache.length ≤ D.cache.length := by
  unfold Dk.step
  split
  · split
    · exact ⟨by simp [Dk.crash, lay_length], rfl, by simp [Dk.crash]⟩
    · exact ⟨rfl, rfl, Nat.le_refl _⟩
  · exact ⟨rfl, rfl, Nat.le_refl _⟩
theorem write_kept (D : Dk) (a : Int) (s : List UInt8) : (D.write a s).1.kept.length = D.kept.length ∧ (D.write a s).1.steps ≤ D.steps + 1 ∧ (D.write a s).1.cache.length ≤ D.cache.length + 1 := by
  unfold Dk.write
  obtain ⟨h1, h2, h3⟩ := step_kept { D with cache := D.cache ++ [(a.toNat, s)] }
  simp only [List.length_append, List.length_cons, List.length_nil] at h3
  split
  · exact ⟨rfl, Nat.le_succ _, Nat.le_succ _⟩
  · split
    · exact ⟨rfl, Nat.le_succ _, Nat.le_succ _⟩
    · split
      · exact ⟨h1, Nat.le_of_eq h2, h3⟩
      · exact ⟨h1, Nat.le_of_eq h2, h3⟩
theorem Try.slice22 : Try.prog.underlying 22 = some (.slice (Try.prog.elem 22)) := by kernel_rfl
theorem Try.sizeOf22 (w : World) : (sizeOf (Try.prog.elem 22)).run Try.prog w = .ok 1 w := by kernel_rfl
theorem Try.size5 : (Try.prog.info? 5).map (·.size) = some 1 := by kernel_rfl
/-- What is left of bytes behind a cut. -/
theorem cut_bytes {w : World} {q o n c : Nat} {l : List UInt8} (h : Bytes w (.slice (some ⟨q, o, none⟩) n c) l) (hn : l.length = n) (m : Nat) (hm : m ≤ n) :
    ∃ o', .slice (some ⟨q, o', none⟩) (n - m) (c - m) = Go.sliced (some ⟨q, o, none⟩) m n c 1 ∧ Hid (Bytes w (.slice (some ⟨q, o', none⟩) (n - m) (c - m)) (l.drop m)) := by
  have h2 := h.sliced m n hm (by omega) _ rfl
  rw [show l.take n = l by rw [← hn, List.take_length]] at h2
  by_cases hc : c = m
  · exact ⟨o, by simp [Go.sliced, hc], Lib.hid (by simpa [Go.sliced, hc] using h2)⟩
  · have e : Go.sliced (some ⟨q, o, none⟩) m n c 1 = .slice (some ⟨q, o + m, none⟩) (n - m) (c - m) := by simp [Go.sliced, hc, Addr.add_lit]
    exact ⟨o + m, e.symm, Lib.hid (by rw [e] at h2; exact h2)⟩
theorem Bytes.cellsAt {w : World} {q o n c : Nat} {l : List UInt8} (h : Bytes w (.slice (some ⟨q, o, none⟩) n c) l) (m j : Nat) (v : Value) (hv : (byteVals (l.take m))[j]? = some v) : w.cell? ((⟨q, o, none⟩ : Addr).add j) = some v := by
  obtain ⟨a, c', e, hl, hm, hn, hc⟩ := h
  simp only [Value.slice.injEq] at e
  obtain ⟨rfl, rfl, rfl⟩ := e
  have hj : j < (l.take m).length := by have := (List.getElem?_eq_some_iff.1 hv).1; rwa [byteVals_length] at this
  have hj2 : j < l.length := by rw [List.length_take] at hj; omega
  rw [byteVals_get _ j hj] at hv
  obtain ⟨b, o', e, hcell⟩ := hc j hj2
  cases e
  rw [Addr.add_lit, hcell, ← hv]
  simp
theorem splice_sec (mk : UInt8) (t : List UInt8) (ht : t.length ≤ 63) : splice (.int .u8 mk.toNat :: byteVals (List.replicate 63 0)) 1 (byteVals t) = byteVals (pad64 (mk :: t)) := by
  have e : (byteVals (List.replicate 63 0)).drop t.length = byteVals (List.replicate (63 - t.length) 0) := by
    unfold byteVals; rw [← List.map_drop, List.drop_replicate]
  unfold splice pad64
  rw [byteVals_length, show 1 + t.length = t.length + 1 by omega, List.drop_succ_cons, e]
  simp [byteVals]
theorem recSec_len (k : Nat) (all : List UInt8) : (recSec k all).length = 64 := by
  unfold recSec pad64
  simp
  omega
theorem putGo_succ (p f k : Nat) (all : List UInt8) (E : Dk) (r : Dk × Nat) (h : E.write ((p + k : Nat) : Int) (recSec k all) = r) : putGo p (f + 1) k all E = if r.2 = 0 then putGo p f (k + 1) (all.drop 63) r.1 else r := by
  rw [putGo, h]
theorem ne_int {n : Nat} (h : n ≠ 0) : ((n : Int) != 0) = true := by rw [bne_iff_ne]; omega
theorem drop_step {Rc rest : List UInt8} {k m n : Nat} (h : rest = Rc.drop (63 * k)) (hl : rest.length = n) (hm : m = min 63 n) : rest.drop m = Rc.drop (63 * (k + 1)) ∧ rest.drop 63 = Rc.drop (63 * (k + 1)) := by
  have h1 : rest.drop 63 = Rc.drop (63 * (k + 1)) := by rw [h, List.drop_drop, show 63 * k + 63 = 63 * (k + 1) by omega]
  refine ⟨?_, h1⟩
  rcases Nat.lt_or_ge 63 n with h2 | h2
  · rw [show m = 63 by omega, h1]
  · rw [← h1, List.drop_eq_nil_of_le (by omega), List.drop_eq_nil_of_le (by omega)]
def PutRel (base g kb l : Nat) (lv : Value) (D : Dk) (L : Lg) (w wq : World) (p f : Nat) (rec : List UInt8) (q : Nat) (all i : Value) (wr : World) : Prop :=
  ∃ (k : Nat) (E : Dk) (o n c : Nat), i = .int .i64 k ∧ k ≤ f ∧ all = .slice (some ⟨q, o, none⟩) n c ∧ n ≤ c ∧ c ≤ 9223372036854775807 ∧ n = rec.length - 63 * k ∧ Hid (Bytes wq (.slice (some ⟨q, o, none⟩) n c) (rec.drop (63 * k))) ∧ Hid (wr.heap[q]? = wq.heap[q]?) ∧
    Hid (LogAt base wr g kb l lv E L) ∧ Hid (DOnly base g kb w wr) ∧ Hid (putGo p (f - k) k (rec.drop (63 * k)) E = putGo p f 0 rec D) ∧ E.steps ≤ 900000000 + k ∧ E.cache.length ≤ 900000000 + k ∧ E.kept.length = D.kept.length
def putPost (base g kb : Nat) (w : World) (r : Dk × Nat) (e : Ending) (w' : World) : Prop := e = .returned (.int .i64 (r.2 : Nat)) ∧ DOnly base g kb w w' ∧ Disk base w' g kb r.1
theorem rec_len (seq epoch : Nat) (b : List UInt8) : (recBytes seq epoch b).length = 16 + b.length := by unfold recBytes; simp [le4_len]; omega
theorem hxs (n m : Nat) (h : n < m) : n ≠ m := by omega

set_option maxRecDepth 100000 in
set_option maxHeartbeats 4000000 in
theorem put_any (base g kb l : Nat) (lv : Value) (D : Dk) (L : Lg) (at_ seq : Nat) (bv : Value) (b : List UInt8) (w : World) (h : LogAt base w g kb l lv D L) (hb : Bytes w bv b) (hbl : b.length ≤ 4096) (hat : at_ ≤ 100000)
    (hseq : seq < 4294967296) (hep : L.epoch < 4294967296) (hst : D.steps ≤ 900000000) (hc : D.cache.length ≤ 900000000) (hB : base ≤ w.heap.size) :
    Calls Try.prog 73 #[.pointer (some ⟨l, 0, none⟩), .int .i64 (at_ : Int), .int .i64 (seq : Int), bv] w (putPost base g kb w (putP D L at_ seq b)) := by
  have HC := Lib.hid h.cells
  have HL := Lib.hid h
  have HBB := Lib.hid hb
  have KC := Lib.hid (show ∀ W, Ext w W → W.cell? ⟨l, 1, none⟩ = some (.int .i64 L.epoch) from fun W x => x.cell HC.out.2.1)
  obtain ⟨ab, capb, rfl, -⟩ := hb
  clear h
  go_enter Try.func73, Try.ntmps73
  go_upto_region 1 with (fail)
  go_cut [9] from 9 to 26 (fun p wc => p = .int .u32 (crcOf (le4 seq ++ le4 L.epoch ++ b) : Nat) ∧ Ext w wc)
  case first =>
    go_region_held3 (fun W => W.cell? ⟨l, 1, none⟩ = some (.int .i64 L.epoch))
      (first
        | exact KC.out _ (Ext.refl _)
        | exact KC.out _ ((Ext.refl _).drew)
        | exact KC.out _ (((Ext.refl _).alloc _).drew)
        | exact KC.out _ ((((Ext.refl _).alloc _).alloc _).drew)
        | exact KC.out _ (((((Ext.refl _).alloc _).alloc _).alloc _).drew)
        | exact KC.out _ X4.out
        | exact KC.out _ (X4.out.alloc _))
      (first
        | ((go_at_call 62); (refine (Num_new _ _).mono ?_); (rintro e w' ⟨rfl, rfl⟩))
        | ((go_at_call 21); (first | (refine (Pack_two seq L.epoch hseq hep _ _ _ _ (hd0 _ _ _ _) (hd1 _ _ _ _) (hd2 _ _ _ _)).mono ?_) | (refine (Pack_two seq L.epoch hseq hep _ _ _ _ (hd1 _ _ _ _) (hd0 _ _ _ _) (hd2 _ _ _ _)).mono ?_)); (rintro e w4 ⟨a4, c4, rfl, x4, B4⟩); (have X4 := Lib.hid (show Ext w w4 from ((((Ext.refl w).alloc _).alloc _).alloc _).drew.trans x4)); clear x4)
        | ((go_at_call 18); (refine (crc_any (RowsN.two B4.out (HBB.out.ext X4.out) ((Ext.refl _).alloc _) (heap_alloc_new _ _)) (by omega)).mono ?_); (rintro e w5 ⟨rfl, rfl⟩)))
    all_goals
      go_wp2_with fail
      go_meet
      exact ⟨by rw [List.append_assoc], X4.out.alloc _⟩
  case rest =>
  obtain ⟨rfl, xc⟩ := hcut
  obtain ⟨wa, rfl⟩ : ∃ x : World, x = wc := ⟨_, rfl⟩
  have XC := Lib.hid xc
  obtain ⟨sm, hsm⟩ : ∃ sm, sm = crcOf (le4 seq ++ le4 L.epoch ++ b) := ⟨_, rfl⟩
  have hsl : sm < 4294967296 := by rw [hsm]; exact crcOf_lt _
  rw [← hsm]
  have HSM := Lib.hid hsm
  have hwr : IntKind.i64.wrap (sm : Int) = (sm : Int) := IntWalk.i64_in _ (by omega)
  have KD := Lib.hid (show ∀ W, Ext wa W → W.cell? ⟨l, 1, none⟩ = some (.int .i64 L.epoch) from fun W x => KC.out W (XC.out.trans x))
  have HBC := Lib.hid (HBB.out.ext xc)
  clear hsm xc
  go_upto_region 2 with (fail)
  go_cut [10] from 10 to 42 (fun p wd => ∃ v, p = v ∧ Hid (Fresh wa wd v (recBytes seq L.epoch b)))
  case first =>
    go_region_held3 (fun W => W.cell? ⟨l, 1, none⟩ = some (.int .i64 L.epoch))
      (first
        | exact KD.out _ (Ext.refl _)
        | exact KD.out _ ((Ext.refl _).drew)
        | exact KD.out _ (((Ext.refl _).alloc _).drew)
        | exact KD.out _ ((((Ext.refl _).alloc _).alloc _).drew)
        | exact KD.out _ (((((Ext.refl _).alloc _).alloc _).alloc _).drew)
        | exact KD.out _ ((((((Ext.refl _).alloc _).alloc _).alloc _).alloc _).drew)
        | exact KD.out _ (((((((Ext.refl _).alloc _).alloc _).alloc _).alloc _).alloc _).drew)
        | exact KD.out _ X4.out
        | exact KD.out _ (X4.out.alloc _))
      (first
        | ((go_at_call 62); (refine (Num_new _ _).mono ?_); (rintro e w' ⟨rfl, rfl⟩))
        | ((go_at_call 21); (refine (Pack_five b.length seq L.epoch sm b _ (by omega) hseq hep hsl hbl _ _ _ _ _ _ ?_ ?_ ?_ ?_ (HBC.out.ext (((((((Ext.refl _).alloc _).alloc _).alloc _).alloc _).alloc _).drew)) (hy _ _ _ _ _ _).2.2.2.2).mono ?_); (iterate 4 (first | exact (hy _ _ _ _ _ _).1 | exact (hy _ _ _ _ _ _).2.1 | exact (hy _ _ _ _ _ _).2.2.1 | exact (hy _ _ _ _ _ _).2.2.2.1)); (rintro e w4 ⟨v4, rfl, f4⟩); (have F4 := Lib.hid f4); (have X4 := Lib.hid (show Ext wa w4 from ((((((Ext.refl wa).alloc _).alloc _).alloc _).alloc _).alloc _).drew.trans f4.1)); clear f4))
    all_goals
      go_wp2_with fail
      go_meet
      refine ⟨_, rfl, X4.out, ?_⟩
      have e : recBytes seq L.epoch b = le4 b.length ++ le4 seq ++ le4 L.epoch ++ le4 sm ++ b := by unfold recBytes; rw [← HSM.out]
      rw [e]
      exact F4.out.2.le ((((((Ext.refl wa).alloc _).alloc _).alloc _).alloc _).alloc _).drew.size
  case rest =>
  obtain ⟨v, rfl, fr⟩ := hcut
  obtain ⟨wd, rfl⟩ : ∃ x : World, x = wc := ⟨_, rfl⟩
  have XD := Lib.hid (XC.out.trans fr.out.1)
  have hRL := Lib.hid (rec_len seq L.epoch b)
  obtain ⟨q, cq, rfl, hq1, hq2⟩ := owns_some fr.out.2 (by rw [hRL.out]; omega)
  rw [hRL.out]
  obtain ⟨fcs, hqb⟩ : ∃ fcs, wd.heap[q]? = some (.cells fcs 5 (0, 0)) := by
    rcases fr.out.2.2 with ⟨e, _⟩ | ⟨q', cap, cur, e, _, hh, _⟩
    · simp at e
    · simp only [Value.slice.injEq, Option.some.injEq, Addr.mk.injEq, true_and] at e
      obtain ⟨⟨rfl, _⟩, _⟩ := e
      exact ⟨cur, hh⟩
  have HQB := Lib.hid hqb
  have HBD := Lib.hid (fr.out.bytes)
  have HLD := Lib.hid (HL.out.ext XD.out)
  obtain ⟨Rc, hRc⟩ : ∃ Rc, Rc = recBytes seq L.epoch b := ⟨_, rfl⟩
  have HPUT := Lib.hid (show putP D L at_ seq b = putGo (placeOf D L.half at_) (sectorsOf b.length) 0 Rc D by rw [hRc]; rfl)
  have HRL : Hid (Rc.length = 16 + b.length) := by rw [hRc]; exact hRL
  rw [← hRc] at HBD
  rw [HRL.out] at HBD
  have hcq : 16 + b.length ≤ cq ∧ cq ≤ 9223372036854775807 := by
    obtain ⟨a', c', e, h1, h2, -⟩ := HBD.out
    simp only [Value.slice.injEq] at e
    obtain ⟨-, -, rfl⟩ := e
    rw [HRL.out] at h1
    exact ⟨h1, h2⟩
  obtain ⟨hcq1, hcq2⟩ := hcq
  have hm := HL.out.disk.wf.most
  have h6 := HL.out.six
  have hh1 := HL.out.half
  have hh : halfOf D ≤ 4096 := by unfold halfOf; omega
  have hmul : L.half * halfOf D ≤ 4096 := by
    rcases Nat.lt_or_ge L.half 1 with h0 | h0
    · rw [show L.half = 0 by omega, Nat.zero_mul]; omega
    · rw [show L.half = 1 by omega, Nat.one_mul]; exact hh
  obtain ⟨p0, hp0⟩ : ∃ p0 : Nat, p0 = L.half * halfOf D := ⟨_, rfl⟩
  obtain ⟨p1, hp1⟩ : ∃ p1 : Nat, p1 = 2 + p0 := ⟨_, rfl⟩
  obtain ⟨p2, hp2⟩ : ∃ p2 : Nat, p2 = p1 + at_ := ⟨_, rfl⟩
  have hpl : placeOf D L.half at_ = p2 := by unfold placeOf; omega
  rw [hpl] at HPUT
  have hp2l : p2 ≤ 200000 := by omega
  have HS1 := Lib.hid (show IntKind.i64.wrap ((L.half : Int) * ((halfOf D : Nat) : Int)) = (p0 : Int) by
    rw [show ((L.half : Int) * ((halfOf D : Nat) : Int)) = ((L.half * halfOf D : Nat) : Int) by push_cast; rfl, ← hp0]
    exact IntWalk.i64_in _ (by omega))
  have HS2 := Lib.hid (show IntKind.i64.wrap (2 + (p0 : Int)) = (p1 : Int) by
    rw [IntWalk.i64_in _ (by omega)]; omega)
  have HS3 := Lib.hid (show IntKind.i64.wrap ((p1 : Int) + (at_ : Int)) = (p2 : Int) by
    rw [IntWalk.i64_in _ (by omega)]; omega)
  obtain ⟨f, hf⟩ : ∃ f, f = sectorsOf b.length := ⟨_, rfl⟩
  rw [← hf] at HPUT
  have hf1 : f ≤ 100 ∧ 63 * f ≥ 16 + b.length ∧ 63 * f < 16 + b.length + 63 := by unfold sectorsOf at hf; omega
  obtain ⟨hf1, hf2, hf3⟩ := hf1
  have HF := Lib.hid hf
  have HPS := Lib.hid (And.intro hp0 (And.intro hp1 hp2))
  obtain ⟨Z, hZ⟩ : ∃ Z, Z = (byteVals zero64).toArray := ⟨_, rfl⟩
  have HI : Hid (ZFacts Z) := by rw [hZ]; exact zfacts
  have HZ := Lib.hid hZ
  clear hqb hRc hp0 hp1 hp2 hpl hmul hh hm hf hZ fr
  go_upto_region 3 with (fail)
  go_wp2_with (refine (sectors_any b.length (by omega) _).mono ?_; rintro e w' ⟨rfl, rfl⟩)
  rw [← HF.out]
  go_loopw [10, 45] (fun all i wr => PutRel base g kb l lv D L w wd p2 f Rc q all i wr) (fun _ i _ => f - (intOf i).toNat)
  case atStart => exact ⟨0, D, 0, 16 + b.length, cq, rfl, Nat.zero_le _, rfl, hcq1, hcq2, by rw [HRL.out]; rfl, HBD, rfl, HLD, (DOnly.refl _ _ _ _).ext XD.out, rfl, by omega, by omega, rfl⟩
  case round =>
    obtain ⟨k, E, o, n, c, rfl, hk, rfl, hnc, hcm, hn, hbq, hqq, hla, hdo, hpg, hes, hec, hek⟩ := hrel
    rw [HRL.out] at hn
    by_cases hlt : k < f
    · obtain ⟨mk, hmk⟩ : ∃ mk : UInt8, mk = (if k = 0 then 2 else 3) := ⟨_, rfl⟩
      have hbr := Nat.le_trans hB hdo.out.size
      have hm63 : min 63 (16 + b.length - 63 * k) ≤ 63 := Nat.min_le_left _ _
      obtain ⟨m, hm⟩ : ∃ m, m = min 63 (16 + b.length - 63 * k) := ⟨_, rfl⟩
      have hm2 : m ≤ n ∧ 1 ≤ m ∧ m ≤ 63 ∧ (n ≤ 63 → m = n) ∧ (63 < n → m = 63) := by omega
      obtain ⟨hm2, hm3, hm4, hm5, hm6⟩ := hm2
      obtain ⟨rest, hrest⟩ : ∃ rest, rest = Rc.drop (63 * k) := ⟨_, rfl⟩
      have hrl : rest.length = n := by rw [hrest, List.length_drop, HRL.out]; exact hn.symm
      rw [← hrest] at hbq hpg
      have HMM := Lib.hid (And.intro hn (And.intro hm (And.intro hrest hrl)))
      have HCS := Lib.hid (show (byteVals (rest.take m)).length = m by rw [byteVals_length, List.length_take]; omega)
      obtain ⟨ZM, hZM⟩ : ∃ ZM, ZM = (.int .u8 mk.toNat :: byteVals (List.replicate 63 0)) := ⟨_, rfl⟩
      have hZM2 : Z.setIfInBounds 0 (.int .u8 mk.toNat) = ZM.toArray := by rw [HZ.out, hZM]; rfl
      have HZL := Lib.hid (show ZM.length = 64 by rw [hZM]; rfl)
      have HMK := Lib.hid hmk
      have HZM := Lib.hid hZM
      have hmm1 : (m : Int) ≤ (n : Int) := by omega
      clear hmk hn hm hrest hrl hZM hm63
      have hz0 : Z[0]? = some (.int .u8 0) := by rw [HZ.out]; rfl
      have hz1 : (Z.setIfInBounds 0 (.int .u8 3))[0]? = some (.int .u8 3) := by rw [HZ.out]; rfl
      obtain ⟨o', hV, HBV⟩ := cut_bytes hbq.out HMM.out.2.2.2 m hm2
      have HN63 := Lib.hid (show (byteVals (rest.take m)).length = Nat.min n 63 by rw [HCS.out]; have := HMM.out.2.1; have := HMM.out.1; show m = min n 63; omega)
      have HSRC := Lib.hid (show ∀ j v, (byteVals (rest.take m))[j]? = some v → (wr.alloc (.cells ZM.toArray 63)).cell? ((⟨q, o, none⟩ : Addr).add j) = some v from fun j v hj => ((Ext.refl wr).alloc _).cell ((hbq.out.inBlock hqq.out).cellsAt m j v hj))
      have HFIT := Lib.hid (show 1 + (byteVals (rest.take m)).length ≤ ZM.length by rw [HCS.out, HZL.out]; omega)
      have HBEL := Lib.hid (show Below wr.heap.size wr (wr.alloc (.cells ZM.toArray 63)) from (Ext.refl wr).alloc _)
      have HGO := Lib.hid (show goInt (byteVals (rest.take m)).length = .int .i64 (m : Int) by rw [HCS.out]; rfl)
      obtain ⟨n', hn'⟩ : ∃ n', n' = n - m := ⟨_, rfl⟩
      obtain ⟨c', hc'⟩ : ∃ c', c' = c - m := ⟨_, rfl⟩
      rw [← hn', ← hc'] at hV HBV
      have HV := Lib.hid hV
      have HNC := Lib.hid (And.intro hn' hc')
      clear hV hn' hc'
      rcases Nat.eq_zero_or_pos k with hk0 | hk0
      all_goals
        have HK := Lib.hid hk0
      · have hkt : ((k : Int) == 0) = true := by rw [hk0]; rfl
        have hmk2 : (mk.toNat : Int) = 2 := by rw [HMK.out, if_pos hk0]; rfl
        rw [hmk2] at hZM2
        clear hk0 hmk2
        go_upto_region 10 with (first | (refine wpList_alloc_z rfl 63 rfl Z HI.out.1 ?_))
        go_wp2_with ((refine wpList_copy_splice rfl (.tmp 53) (.tmp 54) 22 22 rfl 5 Try.underlying22 Try.size5 (some ⟨wr.heap.size, 1, none⟩) (some ⟨q, o, none⟩) 63 63 n c rfl rfl wr.heap.size 1 ZM 63 (heap_alloc_new wr _) (byteVals (rest.take m)) HN63.out (fun _ => ⟨rfl, _, rfl, HSRC.out⟩) HFIT.out (byteVals_oneCell _) wr.heap.size wr HBEL.out (Nat.le_refl _) ?_; intro w2 HG2 hB2; refine wpList_slice_from rfl 22 (.tmp 52) (.tmp 55) rfl Try.slice22 Try.sizeOf22 (some ⟨q, o, none⟩) n c m rfl HGO.out hm2 _ HV.out ?_))
        have LA2 := Lib.hid (hla.out.ext hB2)
        have DO2 := Lib.hid (hdo.out.ext hB2)
        have HQ2 := Lib.hid ((hB2.block q (by have := (Array.getElem?_eq_some_iff.1 (hqq.out.trans HQB.out)).1; exact this)).trans hqq.out)
        obtain ⟨sec, hsec⟩ : ∃ sec, sec = recSec k rest := ⟨_, rfl⟩
        have HSEC := Lib.hid hsec
        have hs64 : sec.length = 64 := by rw [hsec]; exact recSec_len k rest
        have HG3 := Lib.hid (show w2.heap[wr.heap.size]? = some (.cells (byteVals sec).toArray 63 (0, 0)) by
          rw [HG2.out, HZM.out, splice_sec mk _ (by rw [List.length_take]; omega), hsec]
          unfold recSec
          rw [HMK.out, show rest.take m = rest.take 63 by
            rcases Nat.lt_or_ge 63 n with h1 | h1
            · rw [hm6 h1]
            · rw [hm5 h1, List.take_of_length_le (Nat.le_of_eq HMM.out.2.2.2), List.take_of_length_le (by rw [HMM.out.2.2.2]; exact h1)]])
        obtain ⟨d0, d1, d2, d3, d4, d5, d6, d7⟩ := LA2.out.cells
        have hlt2 := LA2.out.disk
        have HBB2 := Lib.hid (show wr.heap.size ≠ g ∧ wr.heap.size ≠ kb from by
          obtain ⟨cv, hd⟩ := hla.out.disk
          have h1 := hd.lt g (.inl rfl)
          have h2 := hd.lt kb (.inr (.inl rfl))
          exact ⟨by omega, by omega⟩)
        have hrg : w2.rangeAt wr.heap.size 0 (byteVals sec) := fun j v hj => by
          rw [Nat.zero_add, cell_of_row _ _ _ _ _ _ HG3.out, List.getElem?_toArray]; exact hj
        obtain ⟨p3, hp3⟩ : ∃ p3 : Nat, p3 = p2 + k := ⟨_, rfl⟩
        have hs4 : IntKind.i64.wrap ((p2 : Int) + (k : Int)) = (p3 : Int) := by
          rw [IntWalk.i64_in _ (by omega)]; omega
        have hs1 := HS1.out
        have hs2 := HS2.out
        have hs3 := HS3.out
        have hhE : halfOf E = halfOf D := by unfold halfOf; rw [hek]
        have hu := Try.underlying63
        have hi : (Try.prog.info? 63).map (·.size) = some (byteVals sec).length := by rw [byteVals_length, hs64]; exact Try.info63
        have hB2s := hB2.size
        have HP3 := Lib.hid hp3
        have HB2 := Lib.hid hB2
        have HQR := Lib.hid hqq.out
        clear hsec d1 d2 d4 d5 d6 d7 hp3 hB2
        refine wp_region_noPanic ?_
        refine wp_region_held_drew (S := fun W => W.cell? ⟨l, 0, none⟩ = some (.pointer (some ⟨g, 0, none⟩)) ∧ W.cell? ⟨l, 3, none⟩ = some (.int .i64 L.half) ∧ W.rangeAt wr.heap.size 0 (byteVals sec)) (by kernel_rfl) ⟨d0, d3, hrg⟩ (fun hHeld => ?_)
        refine wpAnyH_take (i := 0) (v := .pointer (some ⟨l, 0, none⟩)) rfl (by kernel_rfl) (by kernel_rfl) (by kernel_rfl) (fun _ _ _ h => h) (Or.inl ⟨by rfl, (by intro w hSw; first | (go_simp; done) | (obtain ⟨hq1, hq2⟩ := hSw; go_simp; done) | (obtain ⟨hq1, hq2, hq3⟩ := hSw; go_simp; done) | (obtain ⟨hq1, hq2, hq3, hq4⟩ := hSw; go_simp; done) | (obtain ⟨hq1, hq2, hq3, hq4, hq5⟩ := hSw; go_simp; done))⟩) (by assumption) ?_
        try simp only [List.getElem_toArray, List.getElem_cons_zero, List.getElem_cons_succ, Act.put, List.setIfInBounds_toArray, List.set_cons_zero, List.set_cons_succ]
        refine wpAnyH_take (i := 1) (v := .pointer (some ⟨l, 0, none⟩)) rfl (by kernel_rfl) (by kernel_rfl) (by kernel_rfl) (fun _ _ _ h => h) (Or.inl ⟨by rfl, (by intro w hSw; first | (go_simp; done) | (obtain ⟨hq1, hq2⟩ := hSw; go_simp; done) | (obtain ⟨hq1, hq2, hq3⟩ := hSw; go_simp; done) | (obtain ⟨hq1, hq2, hq3, hq4⟩ := hSw; go_simp; done) | (obtain ⟨hq1, hq2, hq3, hq4, hq5⟩ := hSw; go_simp; done))⟩) (by assumption) ?_
        try simp only [List.getElem_toArray, List.getElem_cons_zero, List.getElem_cons_succ, Act.put, List.setIfInBounds_toArray, List.set_cons_zero, List.set_cons_succ]
        refine wpAnyH_take (i := 2) (v := .pointer (some ⟨l, 0, none⟩)) rfl (by kernel_rfl) (by kernel_rfl) (by kernel_rfl) (fun _ _ _ h => h) (Or.inl ⟨by rfl, (by intro w hSw; first | (go_simp; done) | (obtain ⟨hq1, hq2⟩ := hSw; go_simp; done) | (obtain ⟨hq1, hq2, hq3⟩ := hSw; go_simp; done) | (obtain ⟨hq1, hq2, hq3, hq4⟩ := hSw; go_simp; done) | (obtain ⟨hq1, hq2, hq3, hq4, hq5⟩ := hSw; go_simp; done))⟩) (by assumption) ?_
        try simp only [List.getElem_toArray, List.getElem_cons_zero, List.getElem_cons_succ, Act.put, List.setIfInBounds_toArray, List.set_cons_zero, List.set_cons_succ]
        refine wpAnyH_take (i := 3) (v := .pointer (some ⟨g, 0, none⟩)) rfl (by kernel_rfl) (by kernel_rfl) (by kernel_rfl) (fun _ _ _ h => h) (Or.inl ⟨by rfl, (by intro w hSw; first | (go_simp; done) | (obtain ⟨hq1, hq2⟩ := hSw; go_simp; done) | (obtain ⟨hq1, hq2, hq3⟩ := hSw; go_simp; done) | (obtain ⟨hq1, hq2, hq3, hq4⟩ := hSw; go_simp; done) | (obtain ⟨hq1, hq2, hq3, hq4, hq5⟩ := hSw; go_simp; done))⟩) (by assumption) ?_
        try simp only [List.getElem_toArray, List.getElem_cons_zero, List.getElem_cons_succ, Act.put, List.setIfInBounds_toArray, List.set_cons_zero, List.set_cons_succ]
        refine wpAnyH_take (i := 4) (v := .pointer (some ⟨l, 0, none⟩)) rfl (by kernel_rfl) (by kernel_rfl) (by kernel_rfl) (fun _ _ _ h => h) (Or.inl ⟨by rfl, (by intro w hSw; first | (go_simp; done) | (obtain ⟨hq1, hq2⟩ := hSw; go_simp; done) | (obtain ⟨hq1, hq2, hq3⟩ := hSw; go_simp; done) | (obtain ⟨hq1, hq2, hq3, hq4⟩ := hSw; go_simp; done) | (obtain ⟨hq1, hq2, hq3, hq4, hq5⟩ := hSw; go_simp; done))⟩) (by assumption) ?_
        try simp only [List.getElem_toArray, List.getElem_cons_zero, List.getElem_cons_succ, Act.put, List.setIfInBounds_toArray, List.set_cons_zero, List.set_cons_succ]
        refine wpAnyH_take (i := 5) (v := .pointer (some ⟨l, 0, none⟩)) rfl (by kernel_rfl) (by kernel_rfl) (by kernel_rfl) (fun _ _ _ h => h) (Or.inl ⟨by rfl, (by intro w hSw; first | (go_simp; done) | (obtain ⟨hq1, hq2⟩ := hSw; go_simp; done) | (obtain ⟨hq1, hq2, hq3⟩ := hSw; go_simp; done) | (obtain ⟨hq1, hq2, hq3, hq4⟩ := hSw; go_simp; done) | (obtain ⟨hq1, hq2, hq3, hq4, hq5⟩ := hSw; go_simp; done))⟩) (by assumption) ?_
        try simp only [List.getElem_toArray, List.getElem_cons_zero, List.getElem_cons_succ, Act.put, List.setIfInBounds_toArray, List.set_cons_zero, List.set_cons_succ]
        refine wpAnyH_take (i := 6) (v := .pointer (some ⟨l, 3, none⟩)) rfl (by kernel_rfl) (by kernel_rfl) (by kernel_rfl) (fun _ _ _ h => h) (Or.inl ⟨by rfl, (by intro w hSw; first | (go_simp; done) | (obtain ⟨hq1, hq2⟩ := hSw; go_simp; done) | (obtain ⟨hq1, hq2, hq3⟩ := hSw; go_simp; done) | (obtain ⟨hq1, hq2, hq3, hq4⟩ := hSw; go_simp; done) | (obtain ⟨hq1, hq2, hq3, hq4, hq5⟩ := hSw; go_simp; done))⟩) (by assumption) ?_
        try simp only [List.getElem_toArray, List.getElem_cons_zero, List.getElem_cons_succ, Act.put, List.setIfInBounds_toArray, List.set_cons_zero, List.set_cons_succ]
        refine wpAnyH_take (i := 7) (v := .int .i64 L.half) rfl (by kernel_rfl) (by kernel_rfl) (by kernel_rfl) (fun _ _ _ h => h) (Or.inl ⟨by rfl, (by intro w hSw; first | (go_simp; done) | (obtain ⟨hq1, hq2⟩ := hSw; go_simp; done) | (obtain ⟨hq1, hq2, hq3⟩ := hSw; go_simp; done) | (obtain ⟨hq1, hq2, hq3, hq4⟩ := hSw; go_simp; done) | (obtain ⟨hq1, hq2, hq3, hq4, hq5⟩ := hSw; go_simp; done))⟩) (by assumption) ?_
        try simp only [List.getElem_toArray, List.getElem_cons_zero, List.getElem_cons_succ, Act.put, List.setIfInBounds_toArray, List.set_cons_zero, List.set_cons_succ]
        refine wpAnyH_take (i := 8) (v := .pointer (some ⟨l, 0, none⟩)) rfl (by kernel_rfl) (by kernel_rfl) (by kernel_rfl) (fun _ _ _ h => h) (Or.inl ⟨by rfl, (by intro w hSw; first | (go_simp; done) | (obtain ⟨hq1, hq2⟩ := hSw; go_simp; done) | (obtain ⟨hq1, hq2, hq3⟩ := hSw; go_simp; done) | (obtain ⟨hq1, hq2, hq3, hq4⟩ := hSw; go_simp; done) | (obtain ⟨hq1, hq2, hq3, hq4, hq5⟩ := hSw; go_simp; done))⟩) (by assumption) ?_
        try simp only [List.getElem_toArray, List.getElem_cons_zero, List.getElem_cons_succ, Act.put, List.setIfInBounds_toArray, List.set_cons_zero, List.set_cons_succ]
        refine wpAnyH_take (i := 9) (v := .pointer (some ⟨l, 0, none⟩)) rfl (by kernel_rfl) (by kernel_rfl) (by kernel_rfl) (fun _ _ _ h => h) (Or.inl ⟨by rfl, (by intro w hSw; first | (go_simp; done) | (obtain ⟨hq1, hq2⟩ := hSw; go_simp; done) | (obtain ⟨hq1, hq2, hq3⟩ := hSw; go_simp; done) | (obtain ⟨hq1, hq2, hq3, hq4⟩ := hSw; go_simp; done) | (obtain ⟨hq1, hq2, hq3, hq4, hq5⟩ := hSw; go_simp; done))⟩) (by assumption) ?_
        try simp only [List.getElem_toArray, List.getElem_cons_zero, List.getElem_cons_succ, Act.put, List.setIfInBounds_toArray, List.set_cons_zero, List.set_cons_succ]
        refine wpAnyH_take (i := 10) (v := .pointer (some ⟨l, 0, none⟩)) rfl (by kernel_rfl) (by kernel_rfl) (by kernel_rfl) (fun _ _ _ h => h) (Or.inl ⟨by rfl, (by intro w hSw; first | (go_simp; done) | (obtain ⟨hq1, hq2⟩ := hSw; go_simp; done) | (obtain ⟨hq1, hq2, hq3⟩ := hSw; go_simp; done) | (obtain ⟨hq1, hq2, hq3, hq4⟩ := hSw; go_simp; done) | (obtain ⟨hq1, hq2, hq3, hq4, hq5⟩ := hSw; go_simp; done))⟩) (by assumption) ?_
        try simp only [List.getElem_toArray, List.getElem_cons_zero, List.getElem_cons_succ, Act.put, List.setIfInBounds_toArray, List.set_cons_zero, List.set_cons_succ]
        refine wpAnyH_take (i := 11) (v := .pointer (some ⟨g, 0, none⟩)) rfl (by kernel_rfl) (by kernel_rfl) (by kernel_rfl) (fun _ _ _ h => h) (Or.inl ⟨by rfl, (by intro w hSw; first | (go_simp; done) | (obtain ⟨hq1, hq2⟩ := hSw; go_simp; done) | (obtain ⟨hq1, hq2, hq3⟩ := hSw; go_simp; done) | (obtain ⟨hq1, hq2, hq3, hq4⟩ := hSw; go_simp; done) | (obtain ⟨hq1, hq2, hq3, hq4, hq5⟩ := hSw; go_simp; done))⟩) (by assumption) ?_
        try simp only [List.getElem_toArray, List.getElem_cons_zero, List.getElem_cons_succ, Act.put, List.setIfInBounds_toArray, List.set_cons_zero, List.set_cons_succ]
        refine wpAnyH_take (i := 15) (v := .int .i64 (at_ : Int)) rfl (by kernel_rfl) (by kernel_rfl) (by kernel_rfl) (fun _ _ _ h => h) (Or.inl ⟨by rfl, (by intro w hSw; first | (go_simp; done) | (obtain ⟨hq1, hq2⟩ := hSw; go_simp; done) | (obtain ⟨hq1, hq2, hq3⟩ := hSw; go_simp; done) | (obtain ⟨hq1, hq2, hq3, hq4⟩ := hSw; go_simp; done) | (obtain ⟨hq1, hq2, hq3, hq4, hq5⟩ := hSw; go_simp; done))⟩) (by assumption) ?_
        try simp only [List.getElem_toArray, List.getElem_cons_zero, List.getElem_cons_succ, Act.put, List.setIfInBounds_toArray, List.set_cons_zero, List.set_cons_succ]
        refine wpAnyH_take (i := 17) (v := .int .i64 (k : Int)) rfl (by kernel_rfl) (by kernel_rfl) (by kernel_rfl) (fun _ _ _ h => h) (Or.inl ⟨by rfl, (by intro w hSw; first | (go_simp; done) | (obtain ⟨hq1, hq2⟩ := hSw; go_simp; done) | (obtain ⟨hq1, hq2, hq3⟩ := hSw; go_simp; done) | (obtain ⟨hq1, hq2, hq3, hq4⟩ := hSw; go_simp; done) | (obtain ⟨hq1, hq2, hq3, hq4, hq5⟩ := hSw; go_simp; done))⟩) (by assumption) ?_
        try simp only [List.getElem_toArray, List.getElem_cons_zero, List.getElem_cons_succ, Act.put, List.setIfInBounds_toArray, List.set_cons_zero, List.set_cons_succ]
        refine wpAnyH_take (i := 19) (v := .agg (byteVals sec).toArray) rfl (by kernel_rfl) (by kernel_rfl) (by kernel_rfl) (fun _ _ _ h => h) (yieldsIf_load_mid (by rfl) 63 (.tmp 12) rfl wr.heap.size 0 rfl (byteVals sec) _ (fun _ h => h.2.2) hu rfl hi) (by assumption) ?_
        try simp only [List.getElem_toArray, List.getElem_cons_zero, List.getElem_cons_succ, Act.put, List.setIfInBounds_toArray, List.set_cons_zero, List.set_cons_succ]
        refine wpAnyH_ready (rs := [12]) (by kernel_rfl) (by simp) (AllReadyH.cons rfl (fun K hK => ?_) AllReadyH.nil)
        go_simp
        refine (half_any base g kb E _ (hlt2.ext ((Ext.refl w2).drew)) (by rw [hek]; omega)).mono ?_
        rintro e w3 ⟨rfl, rfl⟩
        rw [hhE]
        refine hK.out _ _ hHeld (fun hHeld2 => ?_)
        clear hK K
        try simp only [List.getElem_toArray, List.getElem_cons_zero, List.getElem_cons_succ, Act.put, List.setIfInBounds_toArray, List.set_cons_zero, List.set_cons_succ]
        refine wpAnyH_take (i := 13) (v := .int .i64 (p0 : Int)) rfl (by kernel_rfl) (by kernel_rfl) (by kernel_rfl) (fun _ _ _ h => h) (Or.inl ⟨by rfl, (by intro w hSw; first | (go_simp; done) | (obtain ⟨hq1, hq2⟩ := hSw; go_simp; done) | (obtain ⟨hq1, hq2, hq3⟩ := hSw; go_simp; done) | (obtain ⟨hq1, hq2, hq3, hq4⟩ := hSw; go_simp; done) | (obtain ⟨hq1, hq2, hq3, hq4, hq5⟩ := hSw; go_simp; done))⟩) (by assumption) ?_
        try simp only [List.getElem_toArray, List.getElem_cons_zero, List.getElem_cons_succ, Act.put, List.setIfInBounds_toArray, List.set_cons_zero, List.set_cons_succ]
        refine wpAnyH_take (i := 14) (v := .int .i64 (p1 : Int)) rfl (by kernel_rfl) (by kernel_rfl) (by kernel_rfl) (fun _ _ _ h => h) (Or.inl ⟨by rfl, (by intro w hSw; first | (go_simp; done) | (obtain ⟨hq1, hq2⟩ := hSw; go_simp; done) | (obtain ⟨hq1, hq2, hq3⟩ := hSw; go_simp; done) | (obtain ⟨hq1, hq2, hq3, hq4⟩ := hSw; go_simp; done) | (obtain ⟨hq1, hq2, hq3, hq4, hq5⟩ := hSw; go_simp; done))⟩) (by assumption) ?_
        try simp only [List.getElem_toArray, List.getElem_cons_zero, List.getElem_cons_succ, Act.put, List.setIfInBounds_toArray, List.set_cons_zero, List.set_cons_succ]
        refine wpAnyH_take (i := 16) (v := .int .i64 (p2 : Int)) rfl (by kernel_rfl) (by kernel_rfl) (by kernel_rfl) (fun _ _ _ h => h) (Or.inl ⟨by rfl, (by intro w hSw; first | (go_simp; done) | (obtain ⟨hq1, hq2⟩ := hSw; go_simp; done) | (obtain ⟨hq1, hq2, hq3⟩ := hSw; go_simp; done) | (obtain ⟨hq1, hq2, hq3, hq4⟩ := hSw; go_simp; done) | (obtain ⟨hq1, hq2, hq3, hq4, hq5⟩ := hSw; go_simp; done))⟩) (by assumption) ?_
        try simp only [List.getElem_toArray, List.getElem_cons_zero, List.getElem_cons_succ, Act.put, List.setIfInBounds_toArray, List.set_cons_zero, List.set_cons_succ]
        refine wpAnyH_take (i := 18) (v := .int .i64 (p3 : Int)) rfl (by kernel_rfl) (by kernel_rfl) (by kernel_rfl) (fun _ _ _ h => h) (Or.inl ⟨by rfl, (by intro w hSw; first | (go_simp; done) | (obtain ⟨hq1, hq2⟩ := hSw; go_simp; done) | (obtain ⟨hq1, hq2, hq3⟩ := hSw; go_simp; done) | (obtain ⟨hq1, hq2, hq3, hq4⟩ := hSw; go_simp; done) | (obtain ⟨hq1, hq2, hq3, hq4, hq5⟩ := hSw; go_simp; done))⟩) (by assumption) ?_
        try simp only [List.getElem_toArray, List.getElem_cons_zero, List.getElem_cons_succ, Act.put, List.setIfInBounds_toArray, List.set_cons_zero, List.set_cons_succ]
        refine wpAnyH_ready (rs := [20]) (by kernel_rfl) (by simp) (AllReadyH.cons rfl (fun K hK => ?_) AllReadyH.nil)
        go_simp
        refine (Write_any base g kb E (p3 : Int) sec _ (hlt2.ext ((Ext.refl w2).drew)) (by omega) (by omega) hs64 (Nat.le_trans hbr hB2s)).mono ?_
        rintro e w6 ⟨rfl, o6, r6⟩
        dsimp only
        have hkw := write_kept E (p3 : Int) sec
        have HPS := Lib.hid (putGo_succ p2 (f - (k + 1)) k rest E _ (show E.write ((p2 + k : Nat) : Int) (recSec k rest) = E.write (p3 : Int) sec by rw [← HP3.out, ← HSEC.out]))
        rw [show f - (k + 1) + 1 = f - k by omega] at HPS
        generalize hr : E.write (p3 : Int) sec = r at *
        obtain ⟨E2, en⟩ := r
        obtain ⟨hkw1, hkw2', hkw3'⟩ := hkw
        have hkw4 : E2.kept.length = E.kept.length := hkw1
        have hkw2 : E2.steps ≤ E.steps + 1 := hkw2'
        have hkw3 : E2.cache.length ≤ E.cache.length + 1 := hkw3'
        clear hkw2' hkw3'
        have o6' : DOnly base g kb w2 w6 := ((DOnly.refl base g kb w2).drew).trans o6
        have LA6 := Lib.hid (LA2.out.only o6' r6 hkw1)
        have DO6 := Lib.hid (DO2.out.trans o6')
        have hqn : q ≠ g ∧ q ≠ kb := by
          obtain ⟨cv, hd⟩ := hla.out.disk
          have hq := hqq.out.trans HQB.out
          refine ⟨?_, ?_⟩
          · rintro rfl; have := hq.symm.trans hd.blk; simp at this
          · rintro rfl; have := hq.symm.trans hd.row; simp at this
        have HQ6 := Lib.hid ((o6'.keep (HQ2.out.trans HQB.out) (by decide) hqn.1 hqn.2).trans HQB.out.symm)
        have hS6 : w6.cell? ⟨l, 0, none⟩ = some (.pointer (some ⟨g, 0, none⟩)) ∧ w6.cell? ⟨l, 3, none⟩ = some (.int .i64 L.half) ∧ w6.rangeAt wr.heap.size 0 (byteVals sec) :=
          ⟨LA6.out.cells.1, LA6.out.cells.2.2.2.1, range_keep hrg ((o6'.keep HG3.out (by decide) HBB2.out.1 HBB2.out.2).trans HG3.out.symm)⟩
        refine hK.out _ _ hS6 (fun hHeld6 => ?_)
        clear hK K
        try simp only [List.getElem_toArray, List.getElem_cons_zero, List.getElem_cons_succ, Act.put, List.setIfInBounds_toArray, List.set_cons_zero, List.set_cons_succ]
        refine wpAnyH_ready (rs := [21]) (by kernel_rfl) (by simp) (AllReadyH.cons rfl (fun K hK => ?_) AllReadyH.nil)
        go_simp
        refine hK.out _ _ hS6 (fun hHeld7 => ?_)
        clear hK K
        try simp only [List.getElem_toArray, List.getElem_cons_zero, List.getElem_cons_succ, Act.put, List.setIfInBounds_toArray, List.set_cons_zero, List.set_cons_succ]
        refine wpAnyH_done (by kernel_rfl) ?_ _
        refine NoPanic.normal ?_
        clear hHeld hHeld2 hHeld6 hHeld7 hS6 hrg d0 d3 hs1 hs2 hs3 hs4
        have HDS := Lib.hid (drop_step (m := m) HMM.out.2.2.1 HMM.out.2.2.2 (by have := HMM.out.2.1; have := HMM.out.1; omega))
        clear hu hi hB2s hhE
        by_cases hen : en = 0
        · subst hen
          go_wp2_with fail
          go_roundw
          case rel =>
            refine ⟨k + 1, E2, o', n', c', by go_num, by omega, rfl, ?_, ?_, ?_, ?_, HQ6, LA6, DO6, ?_, by omega, by omega, by omega⟩
            · have h1 := HNC.out; omega
            · have h1 := HNC.out; omega
            · have h1 := HNC.out; have h2 := HMM.out.1; have h3 := HMM.out.2.1; have h4 := HRL.out; omega
            · rw [← HDS.out.1]; exact HBV
            · have h1 := HPS.out
              rw [if_pos rfl, HDS.out.2] at h1
              rw [show f - (k + 1) = f - (k + 1) from rfl]
              exact Lib.hid (h1.symm.trans hpg.out)
          case measure => simp [intOf]; omega
        · have hne := ne_int hen
          go_wp2_with fail
          go_ret
          have h1 := HPS.out
          rw [if_neg hen] at h1
          have h2 : putP D L at_ seq b = (E2, en) := HPUT.out.trans (hpg.out.symm.trans h1)
          rw [h2]
          exact ⟨rfl, DO6.out, LA6.out.disk⟩
      · have hkt : ((k : Int) == 0) = false := by rw [beq_eq_false_iff_ne]; omega
        have hmk2 : (mk.toNat : Int) = 3 := by rw [HMK.out, if_neg (by omega)]; rfl
        rw [hmk2] at hZM2
        clear hk0 hmk2
        go_upto_region 10 with (first | (refine wpList_alloc_z rfl 63 rfl Z HI.out.1 ?_))
        go_wp2_with ((refine wpList_copy_splice rfl (.tmp 53) (.tmp 54) 22 22 rfl 5 Try.underlying22 Try.size5 (some ⟨wr.heap.size, 1, none⟩) (some ⟨q, o, none⟩) 63 63 n c rfl rfl wr.heap.size 1 ZM 63 (heap_alloc_new wr _) (byteVals (rest.take m)) HN63.out (fun _ => ⟨rfl, _, rfl, HSRC.out⟩) HFIT.out (byteVals_oneCell _) wr.heap.size wr HBEL.out (Nat.le_refl _) ?_; intro w2 HG2 hB2; refine wpList_slice_from rfl 22 (.tmp 52) (.tmp 55) rfl Try.slice22 Try.sizeOf22 (some ⟨q, o, none⟩) n c m rfl HGO.out hm2 _ HV.out ?_))
        have LA2 := Lib.hid (hla.out.ext hB2)
        have DO2 := Lib.hid (hdo.out.ext hB2)
        have HQ2 := Lib.hid ((hB2.block q (by have := (Array.getElem?_eq_some_iff.1 (hqq.out.trans HQB.out)).1; exact this)).trans hqq.out)
        obtain ⟨sec, hsec⟩ : ∃ sec, sec = recSec k rest := ⟨_, rfl⟩
        have HSEC := Lib.hid hsec
        have hs64 : sec.length = 64 := by rw [hsec]; exact recSec_len k rest
        have HG3 := Lib.hid (show w2.heap[wr.heap.size]? = some (.cells (byteVals sec).toArray 63 (0, 0)) by
          rw [HG2.out, HZM.out, splice_sec mk _ (by rw [List.length_take]; omega), hsec]
          unfold recSec
          rw [HMK.out, show rest.take m = rest.take 63 by
            rcases Nat.lt_or_ge 63 n with h1 | h1
            · rw [hm6 h1]
            · rw [hm5 h1, List.take_of_length_le (Nat.le_of_eq HMM.out.2.2.2), List.take_of_length_le (by rw [HMM.out.2.2.2]; exact h1)]])
        obtain ⟨d0, d1, d2, d3, d4, d5, d6, d7⟩ := LA2.out.cells
        have hlt2 := LA2.out.disk
        have HBB2 := Lib.hid (show wr.heap.size ≠ g ∧ wr.heap.size ≠ kb from by
          obtain ⟨cv, hd⟩ := hla.out.disk
          have h1 := hd.lt g (.inl rfl)
          have h2 := hd.lt kb (.inr (.inl rfl))
          exact ⟨by omega, by omega⟩)
        have hrg : w2.rangeAt wr.heap.size 0 (byteVals sec) := fun j v hj => by
          rw [Nat.zero_add, cell_of_row _ _ _ _ _ _ HG3.out, List.getElem?_toArray]; exact hj
        obtain ⟨p3, hp3⟩ : ∃ p3 : Nat, p3 = p2 + k := ⟨_, rfl⟩
        have hs4 : IntKind.i64.wrap ((p2 : Int) + (k : Int)) = (p3 : Int) := by
          rw [IntWalk.i64_in _ (by omega)]; omega
        have hs1 := HS1.out
        have hs2 := HS2.out
        have hs3 := HS3.out
        have hhE : halfOf E = halfOf D := by unfold halfOf; rw [hek]
        have hu := Try.underlying63
        have hi : (Try.prog.info? 63).map (·.size) = some (byteVals sec).length := by rw [byteVals_length, hs64]; exact Try.info63
        have hB2s := hB2.size
        have HP3 := Lib.hid hp3
        have HB2 := Lib.hid hB2
        have HQR := Lib.hid hqq.out
        clear hsec d1 d2 d4 d5 d6 d7 hp3 hB2
        refine wp_region_noPanic ?_
        refine wp_region_held_drew (S := fun W => W.cell? ⟨l, 0, none⟩ = some (.pointer (some ⟨g, 0, none⟩)) ∧ W.cell? ⟨l, 3, none⟩ = some (.int .i64 L.half) ∧ W.rangeAt wr.heap.size 0 (byteVals sec)) (by kernel_rfl) ⟨d0, d3, hrg⟩ (fun hHeld => ?_)
        refine wpAnyH_take (i := 0) (v := .pointer (some ⟨l, 0, none⟩)) rfl (by kernel_rfl) (by kernel_rfl) (by kernel_rfl) (fun _ _ _ h => h) (Or.inl ⟨by rfl, (by intro w hSw; first | (go_simp; done) | (obtain ⟨hq1, hq2⟩ := hSw; go_simp; done) | (obtain ⟨hq1, hq2, hq3⟩ := hSw; go_simp; done) | (obtain ⟨hq1, hq2, hq3, hq4⟩ := hSw; go_simp; done) | (obtain ⟨hq1, hq2, hq3, hq4, hq5⟩ := hSw; go_simp; done))⟩) (by assumption) ?_
        try simp only [List.getElem_toArray, List.getElem_cons_zero, List.getElem_cons_succ, Act.put, List.setIfInBounds_toArray, List.set_cons_zero, List.set_cons_succ]
        refine wpAnyH_take (i := 1) (v := .pointer (some ⟨l, 0, none⟩)) rfl (by kernel_rfl) (by kernel_rfl) (by kernel_rfl) (fun _ _ _ h => h) (Or.inl ⟨by rfl, (by intro w hSw; first | (go_simp; done) | (obtain ⟨hq1, hq2⟩ := hSw; go_simp; done) | (obtain ⟨hq1, hq2, hq3⟩ := hSw; go_simp; done) | (obtain ⟨hq1, hq2, hq3, hq4⟩ := hSw; go_simp; done) | (obtain ⟨hq1, hq2, hq3, hq4, hq5⟩ := hSw; go_simp; done))⟩) (by assumption) ?_
        try simp only [List.getElem_toArray, List.getElem_cons_zero, List.getElem_cons_succ, Act.put, List.setIfInBounds_toArray, List.set_cons_zero, List.set_cons_succ]
        refine wpAnyH_take (i := 2) (v := .pointer (some ⟨l, 0, none⟩)) rfl (by kernel_rfl) (by kernel_rfl) (by kernel_rfl) (fun _ _ _ h => h) (Or.inl ⟨by rfl, (by intro w hSw; first | (go_simp; done) | (obtain ⟨hq1, hq2⟩ := hSw; go_simp; done) | (obtain ⟨hq1, hq2, hq3⟩ := hSw; go_simp; done) | (obtain ⟨hq1, hq2, hq3, hq4⟩ := hSw; go_simp; done) | (obtain ⟨hq1, hq2, hq3, hq4, hq5⟩ := hSw; go_simp; done))⟩) (by assumption) ?_
        try simp only [List.getElem_toArray, List.getElem_cons_zero, List.getElem_cons_succ, Act.put, List.setIfInBounds_toArray, List.set_cons_zero, List.set_cons_succ]
        refine wpAnyH_take (i := 3) (v := .pointer (some ⟨g, 0, none⟩)) rfl (by kernel_rfl) (by kernel_rfl) (by kernel_rfl) (fun _ _ _ h => h) (Or.inl ⟨by rfl, (by intro w hSw; first | (go_simp; done) | (obtain ⟨hq1, hq2⟩ := hSw; go_simp; done) | (obtain ⟨hq1, hq2, hq3⟩ := hSw; go_simp; done) | (obtain ⟨hq1, hq2, hq3, hq4⟩ := hSw; go_simp; done) | (obtain ⟨hq1, hq2, hq3, hq4, hq5⟩ := hSw; go_simp; done))⟩) (by assumption) ?_
        try simp only [List.getElem_toArray, List.getElem_cons_zero, List.getElem_cons_succ, Act.put, List.setIfInBounds_toArray, List.set_cons_zero, List.set_cons_succ]
        refine wpAnyH_take (i := 4) (v := .pointer (some ⟨l, 0, none⟩)) rfl (by kernel_rfl) (by kernel_rfl) (by kernel_rfl) (fun _ _ _ h => h) (Or.inl ⟨by rfl, (by intro w hSw; first | (go_simp; done) | (obtain ⟨hq1, hq2⟩ := hSw; go_simp; done) | (obtain ⟨hq1, hq2, hq3⟩ := hSw; go_simp; done) | (obtain ⟨hq1, hq2, hq3, hq4⟩ := hSw; go_simp; done) | (obtain ⟨hq1, hq2, hq3, hq4, hq5⟩ := hSw; go_simp; done))⟩) (by assumption) ?_
        try simp only [List.getElem_toArray, List.getElem_cons_zero, List.getElem_cons_succ, Act.put, List.setIfInBounds_toArray, List.set_cons_zero, List.set_cons_succ]
        refine wpAnyH_take (i := 5) (v := .pointer (some ⟨l, 0, none⟩)) rfl (by kernel_rfl) (by kernel_rfl) (by kernel_rfl) (fun _ _ _ h => h) (Or.inl ⟨by rfl, (by intro w hSw; first | (go_simp; done) | (obtain ⟨hq1, hq2⟩ := hSw; go_simp; done) | (obtain ⟨hq1, hq2, hq3⟩ := hSw; go_simp; done) | (obtain ⟨hq1, hq2, hq3, hq4⟩ := hSw; go_simp; done) | (obtain ⟨hq1, hq2, hq3, hq4, hq5⟩ := hSw; go_simp; done))⟩) (by assumption) ?_
        try simp only [List.getElem_toArray, List.getElem_cons_zero, List.getElem_cons_succ, Act.put, List.setIfInBounds_toArray, List.set_cons_zero, List.set_cons_succ]
        refine wpAnyH_take (i := 6) (v := .pointer (some ⟨l, 3, none⟩)) rfl (by kernel_rfl) (by kernel_rfl) (by kernel_rfl) (fun _ _ _ h => h) (Or.inl ⟨by rfl, (by intro w hSw; first | (go_simp; done) | (obtain ⟨hq1, hq2⟩ := hSw; go_simp; done) | (obtain ⟨hq1, hq2, hq3⟩ := hSw; go_simp; done) | (obtain ⟨hq1, hq2, hq3, hq4⟩ := hSw; go_simp; done) | (obtain ⟨hq1, hq2, hq3, hq4, hq5⟩ := hSw; go_simp; done))⟩) (by assumption) ?_
        try simp only [List.getElem_toArray, List.getElem_cons_zero, List.getElem_cons_succ, Act.put, List.setIfInBounds_toArray, List.set_cons_zero, List.set_cons_succ]
        refine wpAnyH_take (i := 7) (v := .int .i64 L.half) rfl (by kernel_rfl) (by kernel_rfl) (by kernel_rfl) (fun _ _ _ h => h) (Or.inl ⟨by rfl, (by intro w hSw; first | (go_simp; done) | (obtain ⟨hq1, hq2⟩ := hSw; go_simp; done) | (obtain ⟨hq1, hq2, hq3⟩ := hSw; go_simp; done) | (obtain ⟨hq1, hq2, hq3, hq4⟩ := hSw; go_simp; done) | (obtain ⟨hq1, hq2, hq3, hq4, hq5⟩ := hSw; go_simp; done))⟩) (by assumption) ?_
        try simp only [List.getElem_toArray, List.getElem_cons_zero, List.getElem_cons_succ, Act.put, List.setIfInBounds_toArray, List.set_cons_zero, List.set_cons_succ]
        refine wpAnyH_take (i := 8) (v := .pointer (some ⟨l, 0, none⟩)) rfl (by kernel_rfl) (by kernel_rfl) (by kernel_rfl) (fun _ _ _ h => h) (Or.inl ⟨by rfl, (by intro w hSw; first | (go_simp; done) | (obtain ⟨hq1, hq2⟩ := hSw; go_simp; done) | (obtain ⟨hq1, hq2, hq3⟩ := hSw; go_simp; done) | (obtain ⟨hq1, hq2, hq3, hq4⟩ := hSw; go_simp; done) | (obtain ⟨hq1, hq2, hq3, hq4, hq5⟩ := hSw; go_simp; done))⟩) (by assumption) ?_
        try simp only [List.getElem_toArray, List.getElem_cons_zero, List.getElem_cons_succ, Act.put, List.setIfInBounds_toArray, List.set_cons_zero, List.set_cons_succ]
        refine wpAnyH_take (i := 9) (v := .pointer (some ⟨l, 0, none⟩)) rfl (by kernel_rfl) (by kernel_rfl) (by kernel_rfl) (fun _ _ _ h => h) (Or.inl ⟨by rfl, (by intro w hSw; first | (go_simp; done) | (obtain ⟨hq1, hq2⟩ := hSw; go_simp; done) | (obtain ⟨hq1, hq2, hq3⟩ := hSw; go_simp; done) | (obtain ⟨hq1, hq2, hq3, hq4⟩ := hSw; go_simp; done) | (obtain ⟨hq1, hq2, hq3, hq4, hq5⟩ := hSw; go_simp; done))⟩) (by assumption) ?_
        try simp only [List.getElem_toArray, List.getElem_cons_zero, List.getElem_cons_succ, Act.put, List.setIfInBounds_toArray, List.set_cons_zero, List.set_cons_succ]
        refine wpAnyH_take (i := 10) (v := .pointer (some ⟨l, 0, none⟩)) rfl (by kernel_rfl) (by kernel_rfl) (by kernel_rfl) (fun _ _ _ h => h) (Or.inl ⟨by rfl, (by intro w hSw; first | (go_simp; done) | (obtain ⟨hq1, hq2⟩ := hSw; go_simp; done) | (obtain ⟨hq1, hq2, hq3⟩ := hSw; go_simp; done) | (obtain ⟨hq1, hq2, hq3, hq4⟩ := hSw; go_simp; done) | (obtain ⟨hq1, hq2, hq3, hq4, hq5⟩ := hSw; go_simp; done))⟩) (by assumption) ?_
        try simp only [List.getElem_toArray, List.getElem_cons_zero, List.getElem_cons_succ, Act.put, List.setIfInBounds_toArray, List.set_cons_zero, List.set_cons_succ]
        refine wpAnyH_take (i := 11) (v := .pointer (some ⟨g, 0, none⟩)) rfl (by kernel_rfl) (by kernel_rfl) (by kernel_rfl) (fun _ _ _ h => h) (Or.inl ⟨by rfl, (by intro w hSw; first | (go_simp; done) | (obtain ⟨hq1, hq2⟩ := hSw; go_simp; done) | (obtain ⟨hq1, hq2, hq3⟩ := hSw; go_simp; done) | (obtain ⟨hq1, hq2, hq3, hq4⟩ := hSw; go_simp; done) | (obtain ⟨hq1, hq2, hq3, hq4, hq5⟩ := hSw; go_simp; done))⟩) (by assumption) ?_
        try simp only [List.getElem_toArray, List.getElem_cons_zero, List.getElem_cons_succ, Act.put, List.setIfInBounds_toArray, List.set_cons_zero, List.set_cons_succ]
        refine wpAnyH_take (i := 15) (v := .int .i64 (at_ : Int)) rfl (by kernel_rfl) (by kernel_rfl) (by kernel_rfl) (fun _ _ _ h => h) (Or.inl ⟨by rfl, (by intro w hSw; first | (go_simp; done) | (obtain ⟨hq1, hq2⟩ := hSw; go_simp; done) | (obtain ⟨hq1, hq2, hq3⟩ := hSw; go_simp; done) | (obtain ⟨hq1, hq2, hq3, hq4⟩ := hSw; go_simp; done) | (obtain ⟨hq1, hq2, hq3, hq4, hq5⟩ := hSw; go_simp; done))⟩) (by assumption) ?_
        try simp only [List.getElem_toArray, List.getElem_cons_zero, List.getElem_cons_succ, Act.put, List.setIfInBounds_toArray, List.set_cons_zero, List.set_cons_succ]
        refine wpAnyH_take (i := 17) (v := .int .i64 (k : Int)) rfl (by kernel_rfl) (by kernel_rfl) (by kernel_rfl) (fun _ _ _ h => h) (Or.inl ⟨by rfl, (by intro w hSw; first | (go_simp; done) | (obtain ⟨hq1, hq2⟩ := hSw; go_simp; done) | (obtain ⟨hq1, hq2, hq3⟩ := hSw; go_simp; done) | (obtain ⟨hq1, hq2, hq3, hq4⟩ := hSw; go_simp; done) | (obtain ⟨hq1, hq2, hq3, hq4, hq5⟩ := hSw; go_simp; done))⟩) (by assumption) ?_
        try simp only [List.getElem_toArray, List.getElem_cons_zero, List.getElem_cons_succ, Act.put, List.setIfInBounds_toArray, List.set_cons_zero, List.set_cons_succ]
        refine wpAnyH_take (i := 19) (v := .agg (byteVals sec).toArray) rfl (by kernel_rfl) (by kernel_rfl) (by kernel_rfl) (fun _ _ _ h => h) (yieldsIf_load_mid (by rfl) 63 (.tmp 12) rfl wr.heap.size 0 rfl (byteVals sec) _ (fun _ h => h.2.2) hu rfl hi) (by assumption) ?_
        try simp only [List.getElem_toArray, List.getElem_cons_zero, List.getElem_cons_succ, Act.put, List.setIfInBounds_toArray, List.set_cons_zero, List.set_cons_succ]
        refine wpAnyH_ready (rs := [12]) (by kernel_rfl) (by simp) (AllReadyH.cons rfl (fun K hK => ?_) AllReadyH.nil)
        go_simp
        refine (half_any base g kb E _ (hlt2.ext ((Ext.refl w2).drew)) (by rw [hek]; omega)).mono ?_
        rintro e w3 ⟨rfl, rfl⟩
        rw [hhE]
        refine hK.out _ _ hHeld (fun hHeld2 => ?_)
        clear hK K
        try simp only [List.getElem_toArray, List.getElem_cons_zero, List.getElem_cons_succ, Act.put, List.setIfInBounds_toArray, List.set_cons_zero, List.set_cons_succ]
        refine wpAnyH_take (i := 13) (v := .int .i64 (p0 : Int)) rfl (by kernel_rfl) (by kernel_rfl) (by kernel_rfl) (fun _ _ _ h => h) (Or.inl ⟨by rfl, (by intro w hSw; first | (go_simp; done) | (obtain ⟨hq1, hq2⟩ := hSw; go_simp; done) | (obtain ⟨hq1, hq2, hq3⟩ := hSw; go_simp; done) | (obtain ⟨hq1, hq2, hq3, hq4⟩ := hSw; go_simp; done) | (obtain ⟨hq1, hq2, hq3, hq4, hq5⟩ := hSw; go_simp; done))⟩) (by assumption) ?_
        try simp only [List.getElem_toArray, List.getElem_cons_zero, List.getElem_cons_succ, Act.put, List.setIfInBounds_toArray, List.set_cons_zero, List.set_cons_succ]
        refine wpAnyH_take (i := 14) (v := .int .i64 (p1 : Int)) rfl (by kernel_rfl) (by kernel_rfl) (by kernel_rfl) (fun _ _ _ h => h) (Or.inl ⟨by rfl, (by intro w hSw; first | (go_simp; done) | (obtain ⟨hq1, hq2⟩ := hSw; go_simp; done) | (obtain ⟨hq1, hq2, hq3⟩ := hSw; go_simp; done) | (obtain ⟨hq1, hq2, hq3, hq4⟩ := hSw; go_simp; done) | (obtain ⟨hq1, hq2, hq3, hq4, hq5⟩ := hSw; go_simp; done))⟩) (by assumption) ?_
        try simp only [List.getElem_toArray, List.getElem_cons_zero, List.getElem_cons_succ, Act.put, List.setIfInBounds_toArray, List.set_cons_zero, List.set_cons_succ]
        refine wpAnyH_take (i := 16) (v := .int .i64 (p2 : Int)) rfl (by kernel_rfl) (by kernel_rfl) (by kernel_rfl) (fun _ _ _ h => h) (Or.inl ⟨by rfl, (by intro w hSw; first | (go_simp; done) | (obtain ⟨hq1, hq2⟩ := hSw; go_simp; done) | (obtain ⟨hq1, hq2, hq3⟩ := hSw; go_simp; done) | (obtain ⟨hq1, hq2, hq3, hq4⟩ := hSw; go_simp; done) | (obtain ⟨hq1, hq2, hq3, hq4, hq5⟩ := hSw; go_simp; done))⟩) (by assumption) ?_
        try simp only [List.getElem_toArray, List.getElem_cons_zero, List.getElem_cons_succ, Act.put, List.setIfInBounds_toArray, List.set_cons_zero, List.set_cons_succ]
        refine wpAnyH_take (i := 18) (v := .int .i64 (p3 : Int)) rfl (by kernel_rfl) (by kernel_rfl) (by kernel_rfl) (fun _ _ _ h => h) (Or.inl ⟨by rfl, (by intro w hSw; first | (go_simp; done) | (obtain ⟨hq1, hq2⟩ := hSw; go_simp; done) | (obtain ⟨hq1, hq2, hq3⟩ := hSw; go_simp; done) | (obtain ⟨hq1, hq2, hq3, hq4⟩ := hSw; go_simp; done) | (obtain ⟨hq1, hq2, hq3, hq4, hq5⟩ := hSw; go_simp; done))⟩) (by assumption) ?_
        try simp only [List.getElem_toArray, List.getElem_cons_zero, List.getElem_cons_succ, Act.put, List.setIfInBounds_toArray, List.set_cons_zero, List.set_cons_succ]
        refine wpAnyH_ready (rs := [20]) (by kernel_rfl) (by simp) (AllReadyH.cons rfl (fun K hK => ?_) AllReadyH.nil)
        go_simp
        refine (Write_any base g kb E (p3 : Int) sec _ (hlt2.ext ((Ext.refl w2).drew)) (by omega) (by omega) hs64 (Nat.le_trans hbr hB2s)).mono ?_
        rintro e w6 ⟨rfl, o6, r6⟩
        dsimp only
        have hkw := write_kept E (p3 : Int) sec
        have HPS := Lib.hid (putGo_succ p2 (f - (k + 1)) k rest E _ (show E.write ((p2 + k : Nat) : Int) (recSec k rest) = E.write (p3 : Int) sec by rw [← HP3.out, ← HSEC.out]))
        rw [show f - (k + 1) + 1 = f - k by omega] at HPS
        generalize hr : E.write (p3 : Int) sec = r at *
        obtain ⟨E2, en⟩ := r
        obtain ⟨hkw1, hkw2', hkw3'⟩ := hkw
        have hkw4 : E2.kept.length = E.kept.length := hkw1
        have hkw2 : E2.steps ≤ E.steps + 1 := hkw2'
        have hkw3 : E2.cache.length ≤ E.cache.length + 1 := hkw3'
        clear hkw2' hkw3'
        have o6' : DOnly base g kb w2 w6 := ((DOnly.refl base g kb w2).drew).trans o6
        have LA6 := Lib.hid (LA2.out.only o6' r6 hkw1)
        have DO6 := Lib.hid (DO2.out.trans o6')
        have hqn : q ≠ g ∧ q ≠ kb := by
          obtain ⟨cv, hd⟩ := hla.out.disk
          have hq := hqq.out.trans HQB.out
          refine ⟨?_, ?_⟩
          · rintro rfl; have := hq.symm.trans hd.blk; simp at this
          · rintro rfl; have := hq.symm.trans hd.row; simp at this
        have HQ6 := Lib.hid ((o6'.keep (HQ2.out.trans HQB.out) (by decide) hqn.1 hqn.2).trans HQB.out.symm)
        have hS6 : w6.cell? ⟨l, 0, none⟩ = some (.pointer (some ⟨g, 0, none⟩)) ∧ w6.cell? ⟨l, 3, none⟩ = some (.int .i64 L.half) ∧ w6.rangeAt wr.heap.size 0 (byteVals sec) :=
          ⟨LA6.out.cells.1, LA6.out.cells.2.2.2.1, range_keep hrg ((o6'.keep HG3.out (by decide) HBB2.out.1 HBB2.out.2).trans HG3.out.symm)⟩
        refine hK.out _ _ hS6 (fun hHeld6 => ?_)
        clear hK K
        try simp only [List.getElem_toArray, List.getElem_cons_zero, List.getElem_cons_succ, Act.put, List.setIfInBounds_toArray, List.set_cons_zero, List.set_cons_succ]
        refine wpAnyH_ready (rs := [21]) (by kernel_rfl) (by simp) (AllReadyH.cons rfl (fun K hK => ?_) AllReadyH.nil)
        go_simp
        refine hK.out _ _ hS6 (fun hHeld7 => ?_)
        clear hK K
        try simp only [List.getElem_toArray, List.getElem_cons_zero, List.getElem_cons_succ, Act.put, List.setIfInBounds_toArray, List.set_cons_zero, List.set_cons_succ]
        refine wpAnyH_done (by kernel_rfl) ?_ _
        refine NoPanic.normal ?_
        clear hHeld hHeld2 hHeld6 hHeld7 hS6 hrg d0 d3 hs1 hs2 hs3 hs4
        have HDS := Lib.hid (drop_step (m := m) HMM.out.2.2.1 HMM.out.2.2.2 (by have := HMM.out.2.1; have := HMM.out.1; omega))
        clear hu hi hB2s hhE
        by_cases hen : en = 0
        · subst hen
          go_wp2_with fail
          go_roundw
          case rel =>
            refine ⟨k + 1, E2, o', n', c', by go_num, by omega, rfl, ?_, ?_, ?_, ?_, HQ6, LA6, DO6, ?_, by omega, by omega, by omega⟩
            · have h1 := HNC.out; omega
            · have h1 := HNC.out; omega
            · have h1 := HNC.out; have h2 := HMM.out.1; have h3 := HMM.out.2.1; have h4 := HRL.out; omega
            · rw [← HDS.out.1]; exact HBV
            · have h1 := HPS.out
              rw [if_pos rfl, HDS.out.2] at h1
              rw [show f - (k + 1) = f - (k + 1) from rfl]
              exact Lib.hid (h1.symm.trans hpg.out)
          case measure => simp [intOf]; omega
        · have hne := ne_int hen
          go_wp2_with fail
          go_ret
          have h1 := HPS.out
          rw [if_neg hen] at h1
          have h2 : putP D L at_ seq b = (E2, en) := HPUT.out.trans (hpg.out.symm.trans h1)
          rw [h2]
          exact ⟨rfl, DO6.out, LA6.out.disk⟩
    · go_wp2_with fail
      go_ret
      have hkf : k = f := by omega
      have h1 := hpg.out
      rw [hkf, Nat.sub_self] at h1
      have h2 : putP D L at_ seq b = (E, 0) := HPUT.out.trans (h1.symm.trans rfl)
      rw [h2]
      exact ⟨rfl, hdo.out, hla.out.disk⟩
end Go.Proofs.Ytgkoblgpadpcjaa
