/- A part of the proof of WholeUsers. -/
import Derived.Deep.LoopGhost
import Derived.Test.YtgnjjfdfoibdiaaGreatDoorUag
set_option linter.all false
namespace Go.Proofs.YtgnjjfdfoibdiaaGreatDoor
section
open Go.RowKit
set_option maxRecDepth 100000
theorem OwnBytes.take {w : World} {base n c : Nat} {a : Option Addr} {l : List UInt8} (h : OwnBytes w base (.slice a n c) l) (m : Nat) (hm : m ≤ l.length) : OwnBytes w base (.slice a m c) (l.take m) := by
 have hl : (l.take m).length = m := by rw [List.length_take]; omega
 unfold OwnBytes;rw [hl];refine ⟨by rw [zAc, hl]; omega, ?_⟩
 rcases h.2 with ⟨e, h0⟩ | ⟨g, cap, cur, e, hb, hg, hnc, hcm, hcs, ht⟩
 ·simp only [Value.slice.injEq] at e;obtain ⟨rfl, rfl, rfl⟩ := e;exact .inl ⟨by rw [show m = 0 by omega], by omega⟩
 ·simp only [Value.slice.injEq] at e;obtain ⟨rfl, rfl, rfl⟩ := e;refine .inr ⟨g, c, cur, rfl, hb, hg, by omega, hcm, hcs, ?_⟩;have e1 : zAa (l.take m) = (zAa l).take m := by unfold zAa; rw [List.map_take]
  rw [e1, ← ht, List.take_take];congr 1;omega
theorem sectors_eq2 (n ks : Nat) (hk : ks = zAg n) (hn : n ≤ 140737488355328) (w : World) : Calls Tryz.prog 118 #[.int .i64 (n : Int)] w fun e w' => e = .returned (.int .i64 (ks : Nat)) ∧ w = w' := by
 subst hk; exact zC5 n hn w
theorem ReaderAt.drewN {w : World} {g : Nat} {l : List UInt8} {bad : Bool} (h : ReaderAt w g l bad) (n : Nat) : ReaderAt (w.drewN n) g l bad := h
theorem zPy {a b : Nat} (h : a = b) : ((a : Int) != (b : Int)) = false := by subst h; simp
theorem neb_int {a b : Nat} (h : a ≠ b) : ((a : Int) != (b : Int)) = true := by rw [bne_iff_ne]; omega
theorem zMd {P : Program} {ops : Array Oper} {rest : List Oper} {o : Oper} {a : Act} {w : World} {Q : Exit → Act → World → Prop} (hg : o.guard = none) (t : TypeId) (x hi : Operand) (ho : o.op = .slice t x none (some hi) none)
  (ht : P.underlying t = some (.slice (P.elem t))) (hs : ∀ w, (sizeOf (P.elem t)).run P w = .ok 1 w) (ad : Option Addr) (n c m : Nat) (hx : a.eval x = .slice ad n c) (hl : a.eval hi = .int .i64 (m : Int)) (hm : m ≤ c)
  (h : wpList P ops Q rest (a.put o.dst (.slice ad m c)) w) : wpList P ops Q (o :: rest) a w := by
 refine wpList_plain hg fun K hK => ?_
 unfold Oper.wp
 have hr : (Instr.slice t (.slice ad n c) none (some (.int .i64 (m : Int))) none).run P w = .ok (.slice ad m c) w := by
  rw [run_slice_h w t ad n c ht .i64 (m : Int) (by omega) (by omega), hs];show Result.ok (Go.sliced ad 0 (m : Int).toNat c 1) w = _;congr 1
  cases ad with
  | none => simp [Go.sliced]
  | some x => simp [Go.sliced, Addr.add]
 have hr2 := (run_sliceAt_slice (w := w) t (.slice ad n c) none (some (.int .i64 (m : Int))) none ht).trans hr;simp only [execOp, ho, hx, hl, Option.map_some, Option.map_none, Sem.run_bind, hr2, Result.andThen, Sem.run_pure, Oper.upon];exact hK _ _ h
theorem moreGo_succ {D : Dk} {p f i : Nat} {b s : List UInt8} {e : Nat} (h : D.read ((p + i : Nat) : Int) = (s, e)) :
  zFb D p (f + 1) i b = if e = 0 then (if s.headD 0 = 3 then zFb D p f (i + 1) (b ++ s.drop 1) else (none, 0)) else (none, e) := by
 rw [zFb, h]
theorem crc_two {W : World} {g : Nat} {l m : List UInt8} {sm : Nat} (hs : sm = zA3 (l ++ m)) (h : RowsN W g 2 [l, m]) :
  Calls Tryz.prog 37 #[.slice (some ⟨g, 0, none⟩) 2 2] W fun e w' => e = .returned (.int .u32 (sm : Nat)) ∧ W = w' := by
 subst hs;have := zIr h (by omega);simpa using this
theorem zOw {D : Dk} (hw : Wf D) {p : Nat} : ∀ (f i : Nat) (b c : List UInt8) (e : Nat), zFb D p f i b = (some c, e) → c.length = b.length + 63 * f
 | 0, i, b, c, e, h => by
   rw [zFb] at h;simp only [Prod.mk.injEq, Option.some.injEq] at h;rw [← h.1]; rfl
 | f + 1, i, b, c, e, h => by
   rw [zFb] at h
   split at h
   ·split at h
    ·have := zOw hw f (i + 1) _ c e h;rw [this, List.length_append, List.length_drop, zGa hw];omega
    ·cases h
   ·cases h
theorem nextP_spec {D : Dk} (hw : Wf D) {L : Lg} {b : List UInt8} {n e : Nat} (h : zEj D L = (b, n, e)) (hn : n ≠ 0) : e = 0 ∧ n = zAg b.length ∧ b.length ≤ 4096 ∧ L.at_ + n ≤ zAp D := by
 unfold zEj at h
 split at h
 ·simp only [Prod.mk.injEq] at h; exact absurd h.2.1.symm hn
 ·dsimp only at h
  split at h
  ·simp only [Prod.mk.injEq] at h; exact absurd h.2.1.symm hn
  ·split at h
   ·simp only [Prod.mk.injEq] at h; exact absurd h.2.1.symm hn
   ·rename_i hc
    split at h
    ·simp only [Prod.mk.injEq] at h; exact absurd h.2.1.symm hn
    ·rename_i c e' hm
     split at h
     ·simp only [Prod.mk.injEq] at h; exact absurd h.2.1.symm hn
     ·simp only [Prod.mk.injEq] at h;obtain ⟨h1, h2, h3⟩ := h;have hl := zOw hw _ _ _ _ _ hm;rw [List.length_drop, zGa hw] at hl;have hm4 : (zK5 (D.read ((zBx D L.half L.at_ : Nat) : Int)).1).1.1 ≤ 4096 := zGf _ _ 4096;have hk : 1 ≤ zAg (zK5 (D.read ((zBx D L.half L.at_ : Nat) : Int)).1).1.1 ∧ (zK5 (D.read ((zBx D L.half L.at_ : Nat) : Int)).1).1.1 + 16 ≤ 63 * zAg (zK5 (D.read ((zBx D L.half L.at_ : Nat) : Int)).1).1.1 := by unfold zAg; omega
      have hbl : b.length = (zK5 (D.read ((zBx D L.half L.at_ : Nat) : Int)).1).1.1 := by
       rw [← h1, List.length_take, hl]; omega
      refine ⟨h3.symm, by rw [hbl]; exact h2.symm, by rw [hbl]; exact hm4, ?_⟩;rw [← h2];exact Nat.le_of_not_lt fun hlt => hc (.inr (.inr (.inr (.inr hlt))))
def nextRel (D : Dk) (w : World) (p K : Nat) (b0 : List UInt8) (bv i : Value) (wr : World) : Prop :=
 ∃ (k : Nat) (bk : List UInt8) (a : Option Addr) (c : Nat), i = .int .i64 k ∧ 1 ≤ k ∧ k ≤ K ∧ bv = .slice a bk.length c ∧ bk.length ≤ c ∧ c ≤ 9223372036854775807 ∧ Hid (bk.length = 63 * k - 16) ∧ Hid (OwnBytes wr w.heap.size (.slice a bk.length c) bk) ∧ Hid (Ext w wr) ∧ Hid (zFb D p (K - k) k bk = zFb D p (K - 1) 1 b0)
def nextPost (w : World) (r : List UInt8 × Nat × Nat) (e : Ending) (w' : World) : Prop :=
 ∃ bv, e = .returned (.tuple #[bv, .int .i64 (r.2.1 : Nat), .int .i64 (r.2.2 : Nat)]) ∧ Ext w w' ∧ OwnBytes w' w.heap.size bv r.1
theorem nextPost.none {w w' : World} {r : List UInt8 × Nat × Nat} {n : Nat} (h : r = ([], 0, n)) (x : Ext w w') : nextPost w r (.returned (.tuple #[.slice none 0 0, .int .i64 0, .int .i64 (n : Int)])) w' := by
 subst h; exact ⟨_, rfl, x, OwnBytes.nil _ _⟩
set_option maxRecDepth 100000 in
set_option maxHeartbeats 8000000 in
theorem next_any (base g kb l : Nat) (lv : Value) (D : Dk) (L : Lg) (w : World) (h : LogAt base w g kb l lv D L) (hll : L.list.length ≤ 1000000) (hep : L.epoch < 4294967296) (hB : base ≤ w.heap.size) :
  Calls Tryz.prog 213 #[.pointer (some ⟨l, 0, none⟩)] w (nextPost w (zEj D L)) := by
 have HL := zh h;obtain ⟨al, cl, rfl⟩ := h.rows.shape;obtain ⟨c0, c1, c2, c3, c4, c5, c6, hf⟩ := h.cells;have hm := h.disk.wf.most;have h6 := h.six;have hat := h.at_;have hh : zAp D ≤ 4096 := by unfold zAp; omega
 obtain ⟨ho, hho⟩ : ∃ ho, ho = zAp D := ⟨_, rfl⟩
 have HHO := zh hho;have hat4 : L.at_ ≤ 4096 := by omega
 clear h hf
 by_cases hend : zAp D ≤ L.at_
 ·have HN := zh (show zEj D L = ([], 0, 0) by unfold zEj; rw [if_pos hend]);have hd : decide (ho ≤ L.at_) = true := by rw [decide_eq_true_iff]; omega
  clear hho hend hh hat;go_enter Tryz.func213, Tryz.ntmps213
  go_wp2_with fail
  go_quiet (first | ((go_at_call 119); exact Calls.quiet_of_same ((zD9 base g kb D ho HHO.out _ (Disk.drewN HL.out.disk _) (by omega)).mono fun e w' h => ⟨h.1, h.2.symm⟩)))
  go_wp2_with fail
  go_ret3
  exact nextPost.none HN.out ((xr w).drewN nq)
 ·have hd : decide (ho ≤ L.at_) = false := by rw [decide_eq_false_iff_not]; omega
  obtain ⟨Z, hZ⟩ : ∃ Z, Z = (zAa zero64).toArray := ⟨_, rfl⟩
  have HI : Hid (zJk Z) := by rw [hZ]; exact zKw
  have HEND := zh hend;clear hho hend hh hat hZ;go_enter Tryz.func213, Tryz.ntmps213
  go_wp2_with fail
  go_quiet (first | ((go_at_call 119); exact Calls.quiet_of_same ((zD9 base g kb D ho HHO.out _ (Disk.drewN HL.out.disk _) (by omega)).mono fun e w' h => ⟨h.1, h.2.symm⟩)))
  have H1 := zh (HL.out.ext ((xr w).drewN nq));have X1 := zh ((xr w).drewN nq);generalize hw1 : w.drewN nq = w1 at *;clear hw1 c0 c1 c2 c3 c4 c5 c6;obtain ⟨c0, c1, c2, c3, c4, c5, c6, hf⟩ := H1.out.cells;clear hf c0 c1 c2 c3 c5 c6
  go_wp2_with fail
  refine (read_any base g kb l _ D L L.at_ _ H1.out (by omega)).mono ?_;unfold zCt;rintro e w2 ⟨rfl, x2⟩;dsimp only
  obtain ⟨p, hp⟩ : ∃ p, p = zBx D L.half L.at_ := ⟨_, rfl⟩
  rw [← hp];have hs64 := zGa H1.out.disk.wf (p : Int)
  have HNX := zh (show zEj D L = (let r := D.read (p : Int)
   if r.2 ≠ 0 then ([], 0, r.2) else
   let q := zK5 r.1
   if r.1.headD 0 ≠ 2 ∨ q.2 = false ∨ q.1.2.1 ≠ L.list.length ∨ q.1.2.2.1 ≠ L.epoch ∨ zAp D < L.at_ + zAg q.1.1 then ([], 0, 0) else
    match zFb D p (zAg q.1.1 - 1) 1 (r.1.drop 17) with
    | (none, e) => ([], 0, e)
    | (some b, _) => if zA3 (le4 q.1.2.1 ++ le4 q.1.2.2.1 ++ b.take q.1.1) ≠ q.1.2.2.2 then ([], 0, 0) else (b.take q.1.1, zAg q.1.1, 0)) by rw [hp]; unfold zEj; rw [if_neg HEND.out]; rfl)
  have HP := zh hp;generalize hr : D.read (p : Int) = r at *;obtain ⟨s, en⟩ := r;have hs64 : s.length = 64 := hs64;dsimp only at HNX;have hi := zh (show (Tryz.prog.info? 288).map (·.size) = some (zAa s).toArray.size by rw [List.size_toArray, zAc, hs64]; exact zAx);have hZs := zh (show Z.size = (zAa s).toArray.size by rw [HI.out.2.2.2.2]; simp [zAc, hs64]);have h1 := zh (all_oneCell_toArray (zAm s));have HS := zh hs64;have X3 : Hid (Ext w (w2.alloc (.cells (zAa s).toArray 288))) := X1.out.trans (x2.alloc _);clear hs64 hr hp
  by_cases hen : en = 0
  ·have HNX2 := zh (HNX.out.trans (if_neg (not_not_intro hen)));subst hen;have HB3 := zh (heap_alloc_new w2 (.cells (zAa s).toArray 288));have HSZ := zh (size_alloc w2 (.cells (zAa s).toArray 288))
   go_upto_region 6 with (first
    | (refine zAt rfl 288 rfl Z HI.out.1 ?_)
    | (refine zAo rfl 288 (.tmp 5) (.tmp 34) rfl w2 288 Z _ rfl rfl hi.out hZs.out h1.out ?_))
   generalize hw3 : w2.alloc (.cells (zAa s).toArray 288) = w3 at *;generalize hBB : w2.heap.size = B at *;clear hw3 hBB x2
   go_wp2_with fail
   refine (zJv ((s.drop 1).take 16) _ _ (zHi HB3.out 1 16 63 (by rw [HS.out]; omega) (by omega) (by omega)) (by rw [List.length_take]; omega)).mono ?_;rintro e w4 ⟨q, rfl, hq, x4, r4⟩;have hqB : B < q := by have := HSZ.out; omega
   have hqw : w.heap.size ≤ q := Nat.le_trans X3.out.size hq;have X4 := zh (X3.out.trans x4);have HB4 := zh (x4.keep HB3.out)
   have hf4 : zK5 s = (((zAh ((s.drop 1).take 16) false 4096).1, (zAh (zAh ((s.drop 1).take 16) false 4096).2.1 (zAh ((s.drop 1).take 16) false 4096).2.2 2147483648).1,
    (zAh (zAh (zAh ((s.drop 1).take 16) false 4096).2.1 (zAh ((s.drop 1).take 16) false 4096).2.2 2147483648).2.1 (zAh (zAh ((s.drop 1).take 16) false 4096).2.1 (zAh ((s.drop 1).take 16) false 4096).2.2 2147483648).2.2 2147483648).1,
    (zAh (zAh (zAh (zAh ((s.drop 1).take 16) false 4096).2.1 (zAh ((s.drop 1).take 16) false 4096).2.2 2147483648).2.1 (zAh (zAh ((s.drop 1).take 16) false 4096).2.1 (zAh ((s.drop 1).take 16) false 4096).2.2 2147483648).2.2 2147483648).2.1 (zAh (zAh (zAh ((s.drop 1).take 16) false 4096).2.1 (zAh ((s.drop 1).take 16) false 4096).2.2 2147483648).2.1 (zAh (zAh ((s.drop 1).take 16) false 4096).2.1 (zAh ((s.drop 1).take 16) false 4096).2.2 2147483648).2.2 2147483648).2.2 4294967295).1),
    !(zAh (zAh (zAh (zAh ((s.drop 1).take 16) false 4096).2.1 (zAh ((s.drop 1).take 16) false 4096).2.2 2147483648).2.1 (zAh (zAh ((s.drop 1).take 16) false 4096).2.1 (zAh ((s.drop 1).take 16) false 4096).2.2 2147483648).2.2 2147483648).2.1 (zAh (zAh (zAh ((s.drop 1).take 16) false 4096).2.1 (zAh ((s.drop 1).take 16) false 4096).2.2 2147483648).2.1 (zAh (zAh ((s.drop 1).take 16) false 4096).2.1 (zAh ((s.drop 1).take 16) false 4096).2.2 2147483648).2.2 2147483648).2.2 4294967295).2.2) := rfl
   have hm1 := zGf ((s.drop 1).take 16) false 4096;have HM1 : (zAh ((s.drop 1).take 16) false ((4096 : Nat) : Int)) = zAh ((s.drop 1).take 16) false 4096 := rfl;rw [HM1] at hm1;generalize hr1 : zAh ((s.drop 1).take 16) false 4096 = r1 at *;obtain ⟨n1, l1, b1⟩ := r1;have hm1 : n1 ≤ 4096 := hm1;dsimp only at hf4;have hm2 := zFw l1 b1 2147483648;generalize hr2 : zAh l1 b1 2147483648 = r2 at *;obtain ⟨n2, l2, b2⟩ := r2;have hm2 : n2 < 4294967296 := hm2;dsimp only at hf4;have hm3 := zFw l2 b2 2147483648;generalize hr3 : zAh l2 b2 2147483648 = r3 at *;obtain ⟨n3, l3, b3⟩ := r3;have hm3 : n3 < 4294967296 := hm3;dsimp only at hf4;have hm4 := zFw l3 b3 4294967295;generalize hr4 : zAh l3 b3 4294967295 = r5 at *;obtain ⟨n4, l4, b4⟩ := r5;have hm4 : n4 < 4294967296 := hm4;dsimp only at hf4;have HF4 := zh hf4;have HR := zh (And.intro hr1 (And.intro hr2 (And.intro hr3 hr4)));clear x4 hq hf4 HM1 hr1 hr2 hr3 hr4
   go_wp2_with fail
   refine (zGq q _ _ 4096 _ r4 (by omega)).mono ?_;rw [HR.out.1];rintro e w5 ⟨rfl, o5, r5⟩;have X5 := zh (zGc X4.out hqw o5);have HB5 := zh (zFu o5 HB4.out (Nat.ne_of_lt hqB));clear r4 o5
   go_wp2_with fail
   refine (zGq q _ _ 2147483648 _ r5 (by omega)).mono ?_;rw [show zAh (n1, l1, b1).2.1 (n1, l1, b1).2.2 2147483648 = (n2, l2, b2) from HR.out.2.1];rintro e w6 ⟨rfl, o6, r6⟩;have X6 := zh (zGc X5.out hqw o6);have HB6 := zh (zFu o6 HB5.out (Nat.ne_of_lt hqB));clear r5 o6
   go_wp2_with fail
   refine (zGq q _ _ 2147483648 _ r6 (by omega)).mono ?_;rw [show zAh (n2, l2, b2).2.1 (n2, l2, b2).2.2 2147483648 = (n3, l3, b3) from HR.out.2.2.1];rintro e w7 ⟨rfl, o7, r7⟩;have X7 := zh (zGc X6.out hqw o7);have HB7 := zh (zFu o7 HB6.out (Nat.ne_of_lt hqB));clear r6 o7
   go_wp2_with fail
   refine (zGq q _ _ 4294967295 _ r7 (by omega)).mono ?_;rw [show zAh (n3, l3, b3).2.1 (n3, l3, b3).2.2 4294967295 = (n4, l4, b4) from HR.out.2.2.2];rintro e w8 ⟨rfl, o8, r8⟩;have X8 := zh (zGc X7.out hqw o8);have HB8 := zh (zFu o8 HB7.out (Nat.ne_of_lt hqB));have R8 : Hid (ReaderAt w8 q l4 b4) := r8;clear r7 o8 r8
   obtain ⟨K, hK⟩ : ∃ K, K = zAg n1 := ⟨_, rfl⟩
   have HK := zh hK;clear hK
   go_upto_region 9 with ((go_at_call 118); refine (sectors_eq2 n1 K HK.out (by omega) _).mono ?_; rintro e w' ⟨rfl, rfl⟩)
   have LA8 := zh (HL.out.ext X8.out);obtain ⟨c0, c1, c2, c3, c4, c5, c6, hf⟩ := LA8.out.cells
   obtain ⟨c, tl, hct⟩ : ∃ c t, s = c :: t := by
    cases s with
    | nil => have := HS.out; simp at this
    | cons c t => exact ⟨c, t, rfl⟩
   have e0 : w8.cell? ⟨B, 0, none⟩ = some (.int .u8 c.toNat) := by
    rw [cell_of_row _ _ _ _ _ _ HB8.out, List.getElem?_toArray, hct]; rfl
   have HCT := zh (show s.headD 0 = c by rw [hct]; rfl);clear hct hf c2 c3 c6
   by_cases hc2 : c = 2
   ·have hcn : (c.toNat : Int) = 2 := by rw [hc2]; rfl
    rw [hcn] at e0;have HC2 := zh hc2;clear hcn hc2;cases b4
    ·by_cases hs3 : n2 = L.list.length
     ·by_cases hs4 : n3 = L.epoch
      ·have e3 := zPy hs3;have e4 := zPy hs4;have HS34 := zh (And.intro hs3 hs4);have hk2 : K ≤ 66 := by have := HK.out; unfold zAg at this; omega
       obtain ⟨sk, hsk⟩ : ∃ sk, sk = L.at_ + K := ⟨_, rfl⟩
       have hsu : IntKind.i64.wrap ((L.at_ : Int) + (K : Int)) = (sk : Int) := by rw [IntWalk.i64_in _ (by omega)]; omega
       have HSK := zh hsk;clear hs3 hs4 hsk
       by_cases hfl : ho < sk
       ·have hfd : decide (ho < sk) = true := by rw [decide_eq_true_iff]; exact hfl
        have HN := zh (HNX2.out.trans (if_pos (by rw [HF4.out]; refine .inr (.inr (.inr (.inr ?_))); show zAp D < L.at_ + zAg n1; rw [← HK.out, ← HHO.out, ← HSK.out]; exact hfl)));clear hfl
        go_quiet (first | ((go_at_call 214); exact Calls.quiet_of_same ((zH9 q l4 _ _ (R8.out.drewN _)).mono fun e w' h => ⟨h.1, h.2.symm⟩)) | ((go_at_call 119); exact Calls.quiet_of_same ((zD9 base g kb D ho HHO.out _ (Disk.drewN LA8.out.disk _) (by omega)).mono fun e w' h => ⟨h.1, h.2.symm⟩)))
        clear hsu
        go_wp2_with fail
        go_ret3
        exact nextPost.none HN.out (X8.out.drewN nq)
       ·have hfd : decide (ho < sk) = false := by rw [decide_eq_false_iff_not]; exact hfl
        have HFL := zh hfl;clear hfl
        go_quiet (first | ((go_at_call 214); exact Calls.quiet_of_same ((zH9 q l4 _ _ (R8.out.drewN _)).mono fun e w' h => ⟨h.1, h.2.symm⟩)) | ((go_at_call 119); exact Calls.quiet_of_same ((zD9 base g kb D ho HHO.out _ (Disk.drewN LA8.out.disk _) (by omega)).mono fun e w' h => ⟨h.1, h.2.symm⟩)))
        clear hsu;have X9 := zh (X8.out.drewN nq);have HB9 : Hid ((w8.drewN nq).heap[B]? = _) := HB8.out;generalize hw9 : w8.drewN nq = w9 at *;clear hw9 c0 c1 c4 c5 e0 e3 e4
        have BD := zh (show Bytes w9 (.slice (some ⟨B, 17, none⟩) 47 47) (s.drop 17) from by
         have h9 := zHi HB9.out 17 47 47 (by rw [HS.out]; omega) (by omega) (by omega);rw [List.take_of_length_le (by rw [List.length_drop, HS.out]; omega)] at h9
         exact h9)
        have hdl := zh (show (s.drop 17).length = 47 by rw [List.length_drop, HS.out])
        have HNX3 := zh (show zEj D L = match zFb D p (K - 1) 1 (s.drop 17) with
         | (none, e) => ([], 0, e)
         | (some b, _) => if zA3 (le4 n2 ++ le4 n3 ++ b.take n1) ≠ n4 then ([], 0, 0) else (b.take n1, K, 0) by
           have h9 := HNX2.out;rw [HF4.out] at h9
           rw [h9, if_neg (by
            rintro (h | h | h | h | h)
            ·exact h (HCT.out.trans HC2.out)
            ·cases h
            ·exact h HS34.out.1
            ·exact h HS34.out.2
            ·apply HFL.out; rw [HHO.out, HSK.out, HK.out]; exact h)]
           show (match zFb D p (zAg n1 - 1) 1 (s.drop 17) with
            | (none, e) => ([], 0, e)
            | (some b, _) => if zA3 (le4 n2 ++ le4 n3 ++ b.take n1) ≠ n4 then ([], 0, 0) else (b.take n1, zAg n1, 0)) = _
           rw [← HK.out])
        obtain ⟨b0, hb0⟩ : ∃ b0, b0 = s.drop 17 := ⟨_, rfl⟩
        rw [← hb0] at BD hdl HNX3;have HB0 := zh hb0;clear hb0;have hk1 : 1 ≤ K := by have := HK.out; unfold zAg at this; omega
        go_wp2_with (at_builtin; refine zA1 w9 rfl (.const (.slice none 0 0)) (.tmp 90) 23 rfl Tryz.underlying23 _ _ rfl rfl b0 BD.out (by rw [hdl.out]; omega) ?_)
        intro v10 w10 f10;have X10 := zh (X9.out.trans f10.below);have O10 := zh (f10.ownb X9.out.size);obtain ⟨a10, c10, rfl, hc10, hc11, -⟩ := f10.bytes;clear f10
        go_wp2_with fail
        go_loopw [13, 14] (fun bv i wr => nextRel D w p K b0 bv i wr) (fun _ i _ => K - (intOf i).toNat)
        case atStart => exact ⟨1, b0, a10, c10, rfl, Nat.le_refl _, hk1, rfl, hc10, hc11, hdl, O10, X10, rfl⟩
        case round =>
         obtain ⟨k, bk, ab, cb, rfl, hk2, hk3, rfl, hcb1, hcb2, hbl, hown, hx, hmo⟩ := hrel
         by_cases hlt : k < K
         ·skip
          have LAr := zh (HL.out.ext hx.out);obtain ⟨c0, c1, c2, c3, c4, c5, c6, hf⟩ := LAr.out.cells;clear hf c0 c1 c2 c3 c5 c6
          obtain ⟨ak, hak⟩ : ∃ ak, ak = L.at_ + k := ⟨_, rfl⟩
          have hkk : k ≤ 66 := by omega
          have hsu : IntKind.i64.wrap ((L.at_ : Int) + (k : Int)) = (ak : Int) := by rw [IntWalk.i64_in _ (by omega)]; omega
          have hak4 : ak ≤ 100000 := by omega
          have HPK := zh (show zBx D L.half ak = p + k by rw [hak, HP.out]; unfold zBx; omega);clear hak
          go_wp2_with fail
          refine (read_any base g kb l _ D L ak _ LAr.out hak4).mono ?_;unfold zCt;rw [HPK.out];rintro e w11 ⟨rfl, x11⟩;dsimp only;clear hsu;have hs64 := zGa LAr.out.disk.wf ((p + k : Nat) : Int);have HMG := zh (moreGo_succ (D := D) (p := p) (f := K - (k + 1)) (i := k) (b := bk) (show D.read ((p + k : Nat) : Int) = ((D.read ((p + k : Nat) : Int)).1, (D.read ((p + k : Nat) : Int)).2) from rfl));rw [show K - (k + 1) + 1 = K - k by omega] at HMG;generalize hr : D.read ((p + k : Nat) : Int) = r at *;obtain ⟨s2, e2⟩ := r;have hs64 : s2.length = 64 := hs64;have hi2 := zh (show (Tryz.prog.info? 288).map (·.size) = some (zAa s2).toArray.size by rw [List.size_toArray, zAc, hs64]; exact zAx);have hZs2 := zh (show Z.size = (zAa s2).toArray.size by rw [HI.out.2.2.2.2]; simp [zAc, hs64]);have h12 := zh (all_oneCell_toArray (zAm s2));have HS2 := zh hs64;have X12 : Hid (Ext w (w11.alloc (.cells (zAa s2).toArray 288))) := hx.out.trans (x11.alloc _);have X12r : Hid (Ext wr (w11.alloc (.cells (zAa s2).toArray 288))) := x11.alloc _;clear hs64 hr x11
          by_cases he2 : e2 = 0
          ·have HMG2 := zh (HMG.out.trans (if_pos he2));subst he2
           obtain ⟨d, tl2, hdt⟩ : ∃ c t, s2 = c :: t := by
            cases s2 with
            | nil => have := HS2.out; simp at this
            | cons c t => exact ⟨c, t, rfl⟩
           have HDT := zh (show s2.headD 0 = d by rw [hdt]; rfl)
           have e0 : (w11.alloc (.cells (zAa s2).toArray 288)).cell? ⟨w11.heap.size, 0, none⟩ = some (.int .u8 d.toNat) := by
            rw [cell_of_row _ _ _ _ _ _ (heap_alloc_new w11 _), List.getElem?_toArray, hdt]; rfl
           have e0z : (zAa s2)[0]? = some (.int .u8 d.toNat) := by rw [hdt]; rfl
           clear hdt
           by_cases hd3 : d = 3
           ·have hdn : (d.toNat : Int) = 3 := by rw [hd3]; rfl
            rw [hdn] at e0 e0z;have HD3 := zh hd3;have HMG3 := zh (HMG2.out.trans (if_pos (HDT.out.trans hd3)));clear hdn hd3
            go_upto_region 20 with (first
             | (refine zAt rfl 288 rfl Z HI.out.1 ?_)
             | (refine zAo rfl 288 (.tmp 15) (.tmp 106) rfl w11 288 Z _ rfl rfl hi2.out hZs2.out h12.out ?_))
            have O12 := zh (hown.out.keptBelow X12r.out (fun k hk => (hown.out.lt k hk).2))
            have BD2 := zh (show Bytes (w11.alloc (.cells (zAa s2).toArray 288)) (.slice (some ⟨w11.heap.size, 1, none⟩) 63 63) (s2.drop 1) from by
             have h9 := zHi (heap_alloc_new w11 (.cells (zAa s2).toArray 288)) 1 63 63 (by rw [HS2.out]; omega) (by omega) (by omega);rw [List.take_of_length_le (by rw [List.length_drop, HS2.out]; omega)] at h9
             exact h9)
            have hdl2 := zh (show (s2.drop 1).length = 63 by rw [List.length_drop, HS2.out]);generalize hw12 : w11.alloc (.cells (zAa s2).toArray 288) = w12 at *;generalize hB2 : w11.heap.size = B2 at *
            obtain ⟨t2, ht2⟩ : ∃ t2, t2 = s2.drop 1 := ⟨_, rfl⟩
            rw [← ht2] at BD2 hdl2 HMG3
            obtain ⟨nb, hnb⟩ : ∃ nb, nb = bk ++ t2 := ⟨_, rfl⟩
            have HNB := zh hnb;clear ht2 hnb;clear hw12 hB2 e0 e0z c4
            go_wp2_with (at_builtin; refine zEr w12 rfl (.tmp 114) (.tmp 115) 23 rfl Tryz.underlying23 w.heap.size _ _ rfl rfl bk t2 O12.out BD2.out (by rw [hdl2.out, hbl.out]; omega) X12.out.size ?_)
            intro v13 w13 o13 g13 n13;rw [← HNB.out] at o13;have X13 : Hid (Ext w w13) := Below.grown X12.out g13 X12.out.size (fun k hk => (O12.out.lt k hk).1);have O13 := zh o13;obtain ⟨a13, c13, rfl, hc13, hc14, -⟩ := o13.bytes;clear o13 g13 n13
            go_wp2_with fail
            go_roundw
            case rel =>
             rw [← HNB.out] at HMG3;refine ⟨k + 1, nb, a13, c13, by go_num, by omega, by omega, rfl, hc13, hc14, zh ?_, O13, X13, zh (HMG3.out.symm.trans hmo.out)⟩;rw [HNB.out, List.length_append, hbl.out, hdl2.out]; omega
            case measure => simp [intOf]; omega
           ·have hdn : ((d.toNat : Int) != 3) = true := by
             rw [bne_iff_ne];intro e;exact hd3 (UInt8.toNat_inj.1 (by show d.toNat = 3; omega))
            have HMG3 := zh (HMG2.out.trans (if_neg (by rw [HDT.out]; exact hd3)));clear hd3
            go_wp2_with (first
             | (refine zAt rfl 288 rfl Z HI.out.1 ?_)
             | (refine zAo rfl 288 (.tmp 15) (.tmp 106) rfl w11 288 Z _ rfl rfl hi2.out hZs2.out h12.out ?_))
            go_ret3
            exact nextPost.none (by rw [HNX3.out, ← hmo.out, HMG3.out]) X12.out
          ·have hne := zFz he2;have hne2 := zFa he2;have HMG2 := zh (HMG.out.trans (if_neg he2))
           go_wp2_with (first
            | (refine zAt rfl 288 rfl Z HI.out.1 ?_)
            | (refine zAo rfl 288 (.tmp 15) (.tmp 106) rfl w11 288 Z _ rfl rfl hi2.out hZs2.out h12.out ?_))
           go_ret3
           exact nextPost.none (by rw [HNX3.out, ← hmo.out, HMG2.out]) X12.out
         ·have hkK : k = K := by omega
          have HMO := zh (show zFb D p (K - 1) 1 b0 = (some bk, 0) by rw [← hmo.out, hkK, Nat.sub_self]; rfl);have HNX4 := zh (show zEj D L = if zA3 (le4 n2 ++ le4 n3 ++ bk.take n1) ≠ n4 then ([], 0, 0) else (bk.take n1, K, 0) by rw [HNX3.out, HMO.out]);have hn1b : n1 ≤ bk.length := by rw [hbl.out, hkK]; have := HK.out; unfold zAg at this; omega
          have hn1c : n1 ≤ cb := by omega
          have O14 := zh (hown.out.take n1 hn1b);have hbl4 := zh (show (bk.take n1).length = n1 by rw [List.length_take]; omega)
          obtain ⟨b4, hb4⟩ : ∃ b4, b4 = bk.take n1 := ⟨_, rfl⟩
          rw [← hb4] at O14 HNX4 hbl4;clear hb4 hmo hown hkK
          go_upto_region 22 with (refine zMd rfl 23 (.tmp 117) (.tmp 118) rfl zHm zGo ab bk.length cb n1 rfl rfl hn1c ?_)
          have hwr : IntKind.u32.wrap (n4 : Int) = (n4 : Int) := IntWalk.u32_in _ (by omega);have hm4' : (n4 : Int) % 4294967296 = (n4 : Int) := by omega
          go_wp2_with ((go_at_call 36); refine (zNy _ _).mono ?_; rintro e w' ⟨rfl, rfl⟩)
          refine (zP7 n2 n3 hm2 hm3 _ _ _ _ (hx0 _ _ _ _) (hx1 _ _ _ _) (hx2 _ _ _ _)).mono ?_;rintro e w15 ⟨a15, c15, rfl, x15, B15⟩;have X15r : Hid (Ext wr w15) := ((((xr wr).alloc _).alloc _).alloc _).trans x15;have X15 := zh (hx.out.trans X15r.out);have O15 := zh (O14.out.keptBelow X15r.out (fun k hk => (O14.out.lt k hk).2));have B16 : Hid (Bytes w15 (.slice ab n1 cb) b4) := O15.out.bytes
          obtain ⟨sm, hsm⟩ : ∃ sm, sm = zA3 (le4 n2 ++ le4 n3 ++ b4) := ⟨_, rfl⟩
          have HSM := zh hsm;clear hsm x15
          go_wp2_with fail
          refine (crc_two HSM.out (RowsN.two B15.out B16.out ((xr _).alloc _) (heap_alloc_new _ _))).mono ?_;rintro e w16 ⟨rfl, rfl⟩
          by_cases hcr : sm = n4
          ·have hcc := zPy hcr;have HN := zh (HNX4.out.trans (if_neg (by rw [← HSM.out]; exact not_not_intro hcr)));clear hcr
           go_wp2_with fail
           go_ret3
           rw [HN.out];exact ⟨_, rfl, X15.out.alloc _, O15.out.alloc _⟩
          ·have hcc := neb_int hcr;have HN := zh (HNX4.out.trans (if_pos (by rw [← HSM.out]; exact hcr)));clear hcr
           go_wp2_with fail
           go_ret3
           exact nextPost.none HN.out (X15.out.alloc _)
      ·have e3 := zPy hs3;have e4 := neb_int hs4;have HN := zh (HNX2.out.trans (if_pos (by rw [HF4.out]; exact .inr (.inr (.inr (.inl hs4))))))
       go_quiet (first | ((go_at_call 214); exact Calls.quiet_of_same ((zH9 q l4 _ _ (R8.out.drewN _)).mono fun e w' h => ⟨h.1, h.2.symm⟩)) | ((go_at_call 119); exact Calls.quiet_of_same ((zD9 base g kb D ho HHO.out _ (Disk.drewN LA8.out.disk _) (by omega)).mono fun e w' h => ⟨h.1, h.2.symm⟩)))
       go_wp2_with fail
       go_ret3
       exact nextPost.none HN.out (X8.out.drewN nq)
     ·have e3 := neb_int hs3;have HN := zh (HNX2.out.trans (if_pos (by rw [HF4.out]; exact .inr (.inr (.inl hs3)))))
      go_quiet (first | ((go_at_call 214); exact Calls.quiet_of_same ((zH9 q l4 _ _ (R8.out.drewN _)).mono fun e w' h => ⟨h.1, h.2.symm⟩)) | ((go_at_call 119); exact Calls.quiet_of_same ((zD9 base g kb D ho HHO.out _ (Disk.drewN LA8.out.disk _) (by omega)).mono fun e w' h => ⟨h.1, h.2.symm⟩)))
      go_wp2_with fail
      go_ret3
      exact nextPost.none HN.out (X8.out.drewN nq)
    ·have HN := zh (HNX2.out.trans (if_pos (by rw [HF4.out]; exact .inr (.inl rfl))))
     go_quiet (first | ((go_at_call 214); exact Calls.quiet_of_same ((zH9 q l4 _ _ (R8.out.drewN _)).mono fun e w' h => ⟨h.1, h.2.symm⟩)) | ((go_at_call 119); exact Calls.quiet_of_same ((zD9 base g kb D ho HHO.out _ (Disk.drewN LA8.out.disk _) (by omega)).mono fun e w' h => ⟨h.1, h.2.symm⟩)))
     go_wp2_with fail
     go_ret3
     exact nextPost.none HN.out (X8.out.drewN nq)
   ·have hcn : ((c.toNat : Int) != 2) = true := by
     rw [bne_iff_ne];intro e;exact hc2 (UInt8.toNat_inj.1 (by show c.toNat = 2; omega))
    have HN := zh (HNX2.out.trans (if_pos (by rw [HF4.out]; refine .inl ?_; show s.headD 0 ≠ 2; rw [HCT.out]; exact hc2)))
    go_quiet (first | ((go_at_call 214); exact Calls.quiet_of_same ((zH9 q l4 _ _ (R8.out.drewN _)).mono fun e w' h => ⟨h.1, h.2.symm⟩)) | ((go_at_call 119); exact Calls.quiet_of_same ((zD9 base g kb D ho HHO.out _ (Disk.drewN LA8.out.disk _) (by omega)).mono fun e w' h => ⟨h.1, h.2.symm⟩)))
    go_wp2_with fail
    go_ret3
    exact nextPost.none HN.out (X8.out.drewN nq)
  ·have hne := zFz hen;have hne2 := zFa hen;have HNX2 := zh (HNX.out.trans (if_pos hen))
   go_wp2_with (first
    | (refine zAt rfl 288 rfl Z HI.out.1 ?_)
    | (refine zAo rfl 288 (.tmp 5) (.tmp 34) rfl w2 288 Z _ rfl rfl hi.out hZs.out h1.out ?_))
   go_ret3
   exact nextPost.none HNX2.out X3.out
def zM1 (D : Dk) : Nat → Lg
 | 0 => Lg.zero
 | k + 1 => zK3 D k (zM1 D k)
def openRel1 (base g kb l : Nat) (D : Dk) (w : World) (i : Value) (wr : World) : Prop :=
 ∃ (k : Nat) (M : Lg), i = .int .i64 k ∧ k ≤ 2 ∧ Hid (M = zM1 D k) ∧ Hid (LogAt base wr g kb l (.slice none 0 0) D M) ∧ Hid (Ext w wr) ∧ Hid (∀ j, j < k → (D.read ((j : Nat) : Int)).2 = 0) ∧ M.epoch ≤ 2147483648 ∧ Hid (M.list.length ≤ M.at_)
def openPost (base g kb : Nat) (w : World) (r : Dk × Option Lg × Nat) (e : Ending) (w' : World) : Prop :=
 DOnly base g kb w w' ∧ match r with
  | (D', none, n) => e = .returned (.tuple #[.pointer none, .int .i64 (n : Nat)]) ∧ Disk base w' g kb D'
  | (D', some L, n) => ∃ l lv, e = .returned (.tuple #[.pointer (some ⟨l, 0, none⟩), .int .i64 (n : Nat)]) ∧ w.heap.size ≤ l ∧ LogAt base w' g kb l lv D' L ∧ ∀ q, lv.ownBlock = some q → w.heap.size ≤ q
theorem openPost.none {base g kb : Nat} {w w' : World} {D D' : Dk} {n : Nat} (h : zMs D = (D', Option.none, n)) (x : DOnly base g kb w w') (d : Disk base w' g kb D') : openPost base g kb w (zMs D) (.returned (.tuple #[.pointer Option.none, .int .i64 (n : Int)])) w' := by
 rw [h]; exact ⟨x, rfl, d⟩
theorem ext_setL {w a : World} {l i : Nat} {u : Value} (h : Ext w a) (hl : w.heap.size ≤ l) : Ext w (a.setCell ⟨l, i, none⟩ u) := h.setCell hl u
theorem Ext.donly {base g kb : Nat} {a b : World} (h : Ext a b) : DOnly base g kb a b := (DOnly.refl base g kb a).ext h
theorem zIp {base g kb l : Nat} {lb : Option Nat} {w a b : World} (h : DOnly base g kb w a) (hl : w.heap.size ≤ l) (hlb : ∀ q, lb = some q → w.heap.size ≤ q) (k : LOnly base g kb l lb a b) : DOnly base g kb w b :=
 ⟨k.os.trans h.os, k.tape.trans h.tape, k.output.trans h.output, Nat.le_trans h.size k.size, fun i hi h1 h2 h5 => by
  have e := h.block i hi h1 h2 h5;refine (k.block i (Nat.lt_of_lt_of_le hi h.size) h1 h2 (by omega) (fun e2 => ?_) (h5.imp id fun hn cs fz => ?_)).trans e
  ·have := hlb i e2.symm; omega
  ·rw [e]; exact hn cs fz⟩
theorem LogAt.blk_grown {base g kb l : Nat} {w w' : World} {lv v : Value} {D : Dk} {L : Lg} (h : LogAt base w g kb l lv D L) {vs : List Value} (hr : w.ownsRow base 23 1 lv L.list.length vs) (g2 : (w.alloc (.cells #[v] 23)).grownBy w' lv.ownBlock) : w'.heap[l]? = w.heap[l]? := by
 have hk : l < w.heap.size := (Array.getElem?_eq_some_iff.1 h.blk).1
 rw [g2.block l (by simp; omega) (by
  intro e
  rcases hr.2 with ⟨rfl, _⟩ | ⟨q, cap, cur, rfl, _, hq, _⟩
  ·simp [Value.ownBlock] at e
  ·simp only [Value.ownBlock, Option.some.injEq] at e;subst e;have := h.blk.symm.trans hq
   simp at this), zC8 _ _ _ hk]
theorem zK4 {a b : World} {r : Option Nat} (h : a.drew.grownBy b r) : a.grownBy b r := ⟨h.os, h.tape, h.output, h.size, h.block⟩
theorem readAll_succ {D : Dk} {f : Nat} {M : Lg} {b : List UInt8} {n e : Nat} (h : zEj D M = (b, n, e)) :
  zD7 D (f + 1) M = if e ≠ 0 then (none, e) else if n = 0 then (some M, 0) else zD7 D f { M with list := M.list ++ [b], at_ := M.at_ + n } := by
 rw [zD7, h]
def openRel2 (base g kb l : Nat) (D : Dk) (w : World) (M0 : Lg) (f : Nat) (wr : World) : Prop :=
 ∃ (M : Lg) (lvk : Value), Hid (LogAt base wr g kb l lvk D M) ∧ Hid (DOnly base g kb w wr) ∧ Hid (∀ q, lvk.ownBlock = some q → w.heap.size ≤ q) ∧ Hid (zD7 D f M = zD7 D (zAp D + 1) M0) ∧ zAp D + 1 ≤ f + M.at_ ∧ M.list.length ≤ M.at_ ∧ M.epoch ≤ 2147483648
set_option maxRecDepth 100000 in
set_option maxHeartbeats 8000000 in
theorem Open_any (base g kb : Nat) (D : Dk) (w : World) (h : Disk base w g kb D) (hst : D.steps ≤ 800000000) (hc : D.cache.length ≤ 800000000) (hB : base ≤ w.heap.size) :
  Calls Tryz.prog 132 #[.pointer (some ⟨g, 0, none⟩)] w (openPost base g kb w (zMs D)) := by
 have HD := zh h;have hm := h.wf.most;have HW := zh h.wf
 obtain ⟨n, hn⟩ : ∃ n, n = D.kept.length := ⟨_, rfl⟩
 have HN := zh hn;have hn4 : n ≤ 4096 := by omega
 clear h
 by_cases h6 : D.kept.length < 6
 ·have HO := zh (show zMs D = (D, none, 1) by unfold zMs; rw [if_pos h6]);have hn6 : n < 6 := by omega
  clear hn h6 hm;go_enter Tryz.func132, Tryz.ntmps132
  go_wp2_with ((go_at_call 191); refine (Len_eq base g kb D n HN.out _ HD.out).mono ?_; rintro e w' ⟨rfl, rfl⟩)
  go_ret2
  exact openPost.none HO.out (DOnly.refl _ _ _ _) HD.out
 ·have HO := zh (show zMs D = (if (D.read 0).2 ≠ 0 then (D, none, (D.read 0).2) else if (D.read 1).2 ≠ 0 then (D, none, (D.read 1).2) else
    let k := zLq D (zM1 D 2).epoch
    if k.2 ≠ 0 then (D, none, k.2) else
     let M := { (zM1 D 2) with top := k.1 }
     if M.epoch = 0 then
      let r := zCs D M []
      if r.2.2 ≠ 0 then (r.1, none, r.2.2) else (r.1, some r.2.1, 0)
     else (D, (zD7 D (zAp D + 1) M).1, (zD7 D (zAp D + 1) M).2)) by unfold zMs; rw [if_neg h6]; rfl)
  have hn6 : 6 ≤ n := by omega
  have hk6 : 6 ≤ D.kept.length := by omega
  obtain ⟨Z, hZ⟩ : ∃ Z, Z = (zAa zero64).toArray := ⟨_, rfl⟩
  have HI : Hid (zJk Z) := by rw [hZ]; exact zKw
  clear hn h6 hm hZ;go_enter Tryz.func132, Tryz.ntmps132
  go_wp2_with ((go_at_call 191); refine (Len_eq base g kb D n HN.out _ HD.out).mono ?_; rintro e w' ⟨rfl, rfl⟩)
  have LA0 := zh (show LogAt base (w.alloc (.cells #[.pointer (some ⟨g, 0, none⟩), .int .i64 0, .int .i64 0, .int .i64 0, .int .i64 0, .slice none 0 0, .bool false] 211)) g kb w.heap.size (.slice none 0 0) D Lg.zero from
   ⟨HD.out.ext ((xr w).alloc _), hB, heap_alloc_new w _, RecRow.nil _ _, hk6, Nat.zero_le _, Nat.zero_le _⟩)
  have X0 := zh ((xr w).alloc (.cells #[.pointer (some ⟨g, 0, none⟩), .int .i64 0, .int .i64 0, .int .i64 0, .int .i64 0, .slice none 0 0, .bool false] 211))
  obtain ⟨l, hl⟩ : ∃ l, l = w.heap.size := ⟨_, rfl⟩
  rw [← hl] at LA0;rw [← hl];have hlw : w.heap.size ≤ l := by omega
  generalize hw1 : w.alloc (.cells #[.pointer (some ⟨g, 0, none⟩), .int .i64 0, .int .i64 0, .int .i64 0, .int .i64 0, .slice none 0 0, .bool false] 211) = w1 at *;clear hl hw1
  go_loopw [21] (fun i wr => openRel1 base g kb l D w i wr) (fun i _ => 2 - (intOf i).toNat)
  case atStart => exact ⟨0, Lg.zero, rfl, by omega, rfl, LA0, X0, zh (fun j hj => absurd hj (by omega)), by show (0 : Nat) ≤ _; omega, zh (Nat.le_refl _)⟩
  case round =>
   obtain ⟨k, M, rfl, hk, hM, hla, hx, hrd, hme, hli⟩ := hrel
   by_cases hlt : k < 2
   ·obtain ⟨c0, c1, c2, c3, c4, c5, c6, hf⟩ := hla.out.cells;have hf1 := hf 1;have hf3 := hf 3;clear hf c0 c2 c3 c4 c5 c6
    go_wp2_with fail
    refine (zN2 base g kb D (k : Int) _ hla.out.disk).mono ?_;unfold zCt;rintro e w2 ⟨rfl, x2⟩;dsimp only;have hs64 := zGa HW.out (k : Int);have HGG := zh (show zM1 D (k + 1) = zK3 D k M by rw [hM.out]; rfl);have HGO : Hid (zK3 D k M = if (zHg (D.read (k : Int)).1).2 && M.epoch < (zHg (D.read (k : Int)).1).1 then { M with epoch := (zHg (D.read (k : Int)).1).1, half := k } else M) := rfl;have HRE : Hid ((D.read (k : Int)).2 = (D.read (k : Int)).2) := rfl
    obtain ⟨r, hr⟩ : ∃ r, r = D.read (k : Int) := ⟨_, rfl⟩
    rw [← hr] at hs64 HGO;rw [← hr];have HR := zh hr;obtain ⟨s, en⟩ := r;have hs64 : s.length = 64 := hs64;dsimp only at HGO;have hi := zh (show (Tryz.prog.info? 288).map (·.size) = some (zAa s).toArray.size by rw [List.size_toArray, zAc, hs64]; exact zAx);have hZs := zh (show Z.size = (zAa s).toArray.size by rw [HI.out.2.2.2.2]; simp [zAc, hs64]);have h1 := zh (all_oneCell_toArray (zAm s));have X3r : Hid (Ext wr (w2.alloc (.cells (zAa s).toArray 288))) := x2.alloc _;have X3 := zh (hx.out.trans X3r.out);have HS := zh hs64;clear hs64 hr x2 HRE
    by_cases hen : en = 0
    ·subst hen
     have hrg : Hid ((w2.alloc (.cells (zAa s).toArray 288)).rangeAt w2.heap.size 0 (zAa s)) := fun j v hj => by
      rw [Nat.zero_add, cell_of_row _ _ _ _ _ _ (heap_alloc_new w2 _), List.getElem?_toArray]; exact hj
     have hi2 := zh (show (Tryz.prog.info? 288).map (·.size) = some (zAa s).length by rw [zAc, HS.out]; exact zAx)
     go_upto_region 10 with (first
      | (refine zAt rfl 288 rfl Z HI.out.1 ?_)
      | (refine zAo rfl 288 (.tmp 6) (.tmp 28) rfl w2 288 Z _ rfl rfl hi.out hZs.out h1.out ?_))
     generalize hw3 : w2.alloc (.cells (zAa s).toArray 288) = w3 at *;generalize hB3 : w2.heap.size = B3 at *;clear hw3 hB3
     go_wp2_with (refine wpList_load_mid rfl 288 (.tmp 6) rfl B3 0 rfl (zAa s) _ hrg.out Tryz.underlying288 rfl hi2.out ?_)
     refine (good_any _ s _ HS.out).mono ?_;unfold zI9;rintro e w4 ⟨rfl, x4⟩;dsimp only;have X4r := zh (X3r.out.trans x4);have X4 := zh (hx.out.trans X4r.out);have LA4 := zh (hla.out.ext X4r.out)
     have hgm : (zHg s).1 ≤ 2147483648 := by
      unfold zHg
      split
      ·exact Nat.zero_le _
      ·exact zGf _ _ 2147483648
     obtain ⟨gp, hgp⟩ : ∃ gp, gp = zHg s := ⟨_, rfl⟩
     rw [← hgp] at hgm HGO;rw [← hgp];obtain ⟨ge, gb⟩ := gp;have hgm : ge ≤ 2147483648 := hgm;dsimp only at HGO
     have hrd2 : Hid (∀ j, j < k + 1 → (D.read ((j : Nat) : Int)).2 = 0) := fun j hj => by
      rcases Nat.lt_or_ge j k with h9 | h9
      ·exact hrd.out j h9
      ·rw [show j = k by omega, ← HR.out]
     clear x4 hgp c1 hf1 hf3;obtain ⟨c0, c1, c2, c3, c4, c5, c6, hf⟩ := LA4.out.cells;have hf1 := hf 1;have hf3 := hf 3;clear hf c0 c2 c4 c5 c6;cases gb
     ·go_wp2_with fail
      go_roundw
      case rel => exact ⟨k + 1, M, by go_num, by omega, zh (by rw [HGG.out, HGO.out]; rfl), LA4, X4, hrd2, hme, hli⟩
      case measure => simp [intOf]; omega
     ·by_cases hep : M.epoch < ge
      ·have hed : decide (M.epoch < ge) = true := by rw [decide_eq_true_iff]; exact hep
       have HE := zh hed;clear hep
       go_wp2_with fail
       go_roundw
       case rel =>
        refine ⟨k + 1, { M with epoch := ge, half := k }, by go_num, by omega, zh ?_, zh ?_, zh ?_, hrd2, hgm, hli⟩
        ·rw [HGG.out, HGO.out, HE.out]; rfl
        ·have p1 := LA4.out.put 1 (.int .i64 (ge : Int)) { M with epoch := ge } _ rfl LA4.out.rows LA4.out.half LA4.out.at_;exact p1.put 3 (.int .i64 (k : Int)) { M with epoch := ge, half := k } _ rfl p1.rows (by show k ≤ 1; omega) LA4.out.at_
        ·exact ext_setL (ext_setL X4.out hlw) hlw
       case measure => simp [intOf]; omega
      ·have hed : decide (M.epoch < ge) = false := by rw [decide_eq_false_iff_not]; exact hep
       have HE := zh hed;clear hep
       go_wp2_with fail
       go_roundw
       case rel => exact ⟨k + 1, M, by go_num, by omega, zh (by rw [HGG.out, HGO.out, HE.out]; rfl), LA4, X4, hrd2, hme, hli⟩
       case measure => simp [intOf]; omega
    ·have hne := zFz hen;have hne2 := zFa hen
     have HN1 := zh (show zMs D = (D, none, en) by
      rw [HO.out]
      rcases Nat.eq_zero_or_pos k with hk0 | hk0
      ·subst hk0;have e0 : D.read 0 = (s, en) := HR.out.symm;rw [e0, if_pos hen]
      ·have hk1 : k = 1 := by omega
       subst hk1;have e0 : (D.read 0).2 = 0 := hrd.out 0 (by omega);have e1 : D.read 1 = (s, en) := HR.out.symm
       rw [if_neg (not_not_intro e0), e1, if_pos hen])
     go_wp2_with (first
      | (refine zAt rfl 288 rfl Z HI.out.1 ?_)
      | (refine zAo rfl 288 (.tmp 6) (.tmp 28) rfl w2 288 Z _ rfl rfl hi.out hZs.out h1.out ?_))
     go_ret2
     exact openPost.none HN1.out X3.out.donly (HD.out.ext X3.out)
   ·have hk2 : k = 2 := by omega
    subst hk2
    have HO2 := zh (show zMs D = (
     let k := zLq D M.epoch
     if k.2 ≠ 0 then (D, none, k.2) else
      let M1 := { M with top := k.1 }
      if M1.epoch = 0 then
       let r := zCs D M1 []
       if r.2.2 ≠ 0 then (r.1, none, r.2.2) else (r.1, some r.2.1, 0)
      else (D, (zD7 D (zAp D + 1) M1).1, (zD7 D (zAp D + 1) M1).2)) by
     have e0 : (D.read 0).2 = 0 := hrd.out 0 (by omega);have e1 : (D.read 1).2 = 0 := hrd.out 1 (by omega)
     rw [HO.out, if_neg (not_not_intro e0), if_neg (not_not_intro e1), hM.out])
    clear hM hrd
    go_wp2_with fail
    refine (look_any base g kb l _ D M _ hla.out hme (Nat.le_trans hB hx.out.size)).mono ?_;unfold zL4;rintro e w5 ⟨rfl, o5, d5, htp⟩
    obtain ⟨lp, hlp⟩ : ∃ lp, lp = zLq D M.epoch := ⟨_, rfl⟩
    rw [← hlp] at HO2 d5 htp;rw [← hlp];obtain ⟨tp, en⟩ := lp;have htp : tp ≤ 2147483648 := htp;dsimp only at HO2;have LA5 := zh d5;have X5 := zh (zIp hx.out.donly hlw (by intro q hq; cases hq) o5);clear o5 d5 hlp
    by_cases hen : en = 0
    ·have HO3 := zh (HO2.out.trans (if_neg (not_not_intro hen)));subst hen;obtain ⟨c0, c1, c2, c3, c4, c5, c6, hf⟩ := LA5.out.cells;have c1 : w5.cell? ⟨l, 1, none⟩ = some (.int .i64 (M.epoch : Int)) := c1;clear hf c0 c2 c3 c4 c5 c6
     by_cases hz : M.epoch = 0
     ·have hz0 : ((M.epoch : Int) == 0) = true := by rw [hz]; rfl
      have HO4 := zh (HO3.out.trans (if_pos hz));clear hz
      go_wp2_with fail
      refine (Rewrite_any base g kb l _ D { M with top := tp } (.slice none 0 0) [] _ LA5.out ⟨none, 0, rfl, fun i hi => absurd hi (by simp)⟩ (by simp) (by simp) (by show tp < _; omega) hst hc (Nat.le_trans hB X5.out.size)).mono ?_;unfold rewPost;rintro e w6 ⟨rfl, lv6, o6, d6, hlv⟩
      obtain ⟨r6, hr6⟩ : ∃ r6, r6 = zCs D { M with top := tp } [] := ⟨_, rfl⟩
      rw [← hr6] at HO4 d6;rw [← hr6];obtain ⟨D6, L6, e6⟩ := r6;dsimp only at HO4;have LA6 := zh d6;have X6 := zh (zIp X5.out hlw (by intro q hq; cases hq) o6)
      have HLV := zh (show ∀ q, lv6.ownBlock = some q → w.heap.size ≤ q from by
       rcases hlv with rfl | h9
       ·intro q hq; cases hq
       ·intro q hq; exact Nat.le_trans X5.out.size (h9 q hq))
      clear o6 d6 hlv hr6 c1
      by_cases he6 : e6 = 0
      ·have HO5 := zh (HO4.out.trans (if_neg (not_not_intro he6)));subst he6
       go_wp2_with fail
       go_ret2
       rw [HO5.out];exact ⟨X6.out, l, lv6, rfl, hlw, LA6.out, HLV.out⟩
      ·have hne := zFz he6;have hne2 := zFa he6;have HO5 := zh (HO4.out.trans (if_pos he6))
       go_wp2_with fail
       go_ret2
       exact openPost.none HO5.out X6.out LA6.out.disk
     ·have hz0 : ((M.epoch : Int) == 0) = false := by rw [beq_eq_false_iff_ne]; omega
      have HO4 := zh (HO3.out.trans (if_neg hz));clear hz
      go_wp2_with fail
      clear c1
      go_loopg [12] (zAp D + 1) (fun f x wr => openRel2 base g kb l D w { M with top := tp } f wr)
      case atStart => exact ⟨{ M with top := tp }, _, LA5, X5, zh (by intro q hq; cases hq), rfl, by show zAp D + 1 ≤ _; omega, hli.out, hme⟩
      case round =>
       obtain ⟨M2, lvk, hla2, hx2, hlb2, hra, hfm, hll, hme2⟩ := hrel;have hat2 := hla2.out.at_;have hmm := HW.out.most;have hhD : zAp D ≤ 4096 := by unfold zAp; omega
       obtain ⟨f, rfl⟩ : ∃ f, gk = f + 1 := ⟨gk - 1, by omega⟩
       go_wp2_with fail
       refine (next_any base g kb l lvk D M2 _ hla2.out (by omega) (by omega) (Nat.le_trans hB hx2.out.size)).mono ?_;rintro e w6 ⟨bv, rfl, x6, ob⟩;have HRS := zh (readAll_succ (f := f) (show zEj D M2 = ((zEj D M2).1, (zEj D M2).2.1, (zEj D M2).2.2) from rfl));have HSP := zh (fun hn => nextP_spec HW.out (show zEj D M2 = ((zEj D M2).1, (zEj D M2).2.1, (zEj D M2).2.2) from rfl) hn)
       obtain ⟨r2, hr2⟩ : ∃ r2, r2 = zEj D M2 := ⟨_, rfl⟩
       rw [← hr2] at HRS HSP ob;rw [← hr2];obtain ⟨b, n2, e2⟩ := r2;dsimp only at HRS HSP ob;have OB := zh ob;have X6r := zh x6;have X6 := zh (hx2.out.ext x6);have LA6 := zh (hla2.out.ext x6);obtain ⟨ab, cb, rfl, -⟩ := ob.bytes;clear ob x6 hr2
       by_cases he2 : e2 = 0
       ·have HRS2 := zh (HRS.out.trans (if_neg (not_not_intro he2)));subst he2
        by_cases hn2 : n2 = 0
        ·have HRS3 := zh (HRS2.out.trans (if_pos hn2));subst hn2
         go_wp2_with fail
         go_ret2
         rw [HO4.out, ← hra.out, HRS3.out];exact ⟨X6.out, l, lvk, rfl, hlw, LA6.out, hlb2.out⟩
        ·have HRS3 := zh (HRS2.out.trans (if_neg hn2));have hnz := zFz hn2;obtain ⟨-, -, hb4, hfit⟩ := HSP.out hn2
         obtain ⟨sk, hsk⟩ : ∃ sk, sk = M2.at_ + n2 := ⟨_, rfl⟩
         have hsu : IntKind.i64.wrap ((M2.at_ : Int) + (n2 : Int)) = (sk : Int) := by rw [IntWalk.i64_in _ (by omega)]; omega
         have HSK := zh hsk;have hskh : sk ≤ zAp D := by omega
         have hskf : zAp D + 1 ≤ f + sk := by omega
         have hn1 : 1 ≤ n2 := by omega
         have hlk : M2.list.length + 1 ≤ sk := by omega
         clear hsk hn2;obtain ⟨al2, cl2, rfl⟩ := LA6.out.rows.shape;obtain ⟨c0, c1, c2, c3, c4, c5, c6, hf⟩ := LA6.out.cells;have hf4 := hf 4;clear hf c0 c1 c2 c3 c6;have c48 := ((xr w6).alloc (.cells #[.slice ab b.length cb] 23)).cell c4;have c58 := ((xr w6).alloc (.cells #[.slice ab b.length cb] 23)).cell c5;obtain ⟨vs, hr7, hi7⟩ := LA6.out.rows;have HR7 := zh hr7;have HI7 := zh hi7;clear hr7 hi7;obtain ⟨i0, hi0, hz0', hz1, hz2⟩ := info_parts zFe;have HI2 := zh (And.intro hi0 (And.intro hz0' (And.intro hz1 hz2)));clear hi0 hz0' hz1 hz2;have hbs := Nat.le_trans hB X6.out.size;have OBB := zh (OB.out.le hx2.out.size);have OBb := zh (OBB.out.le hB)
         go_upto_region 27 with (fail)
         go_region_law ((refine zA8 rfl (.tmp 90) (.tmp 92) 22 rfl base 23 i0 _ 1 24 zCf HI2.out.1 HI2.out.2.1 HI2.out.2.2.1 HI2.out.2.2.2 rfl (by decide) _ _ rfl rfl M2.list.length vs (HR7.out.alloc (.cells #[.slice ab b.length cb] 23)).drew 1 [.slice ab b.length cb] rfl (show Src (w6.alloc (.cells #[.slice ab b.length cb] 23)).drew _ _ _ from zL0 w6 _ _ _) (by simp [Value.oneCell']) (by unfold maxLen; omega) (by omega) (by have h9 : (w6.alloc (.cells #[.slice ab b.length cb] 23)).drew.heap.size = w6.heap.size + 1 := size_alloc _ _; omega) ?_; intro v8 w8 o8 g8 n8; (obtain ⟨a8, m8, c8, rfl⟩ := zFq o8); have P8 := LA6.out.pushed OBb.out HR7.out HI7.out o8 (zK4 g8); have q1 := P8.2.2.1; have q2 := P8.2.2.2; have P81 := zh P8.1; have P82 := zh P8.2.1; have N8 := zh (new_le n8 (show w6.heap.size ≤ _ from by have h9 : (w6.alloc (.cells #[.slice ab b.length cb] 23)).drew.heap.size = w6.heap.size + 1 := size_alloc _ _; omega)); have hbg := LA6.out.blk_grown HR7.out (zK4 g8); have c4w := (World.cell?_of_block (a := ⟨l, 4, none⟩) hbg).trans c4; have f4w := (World.frozen?_of_block (a := ⟨l, 4, none⟩) hbg).trans hf4; clear P8 o8 g8 n8 hbg))
         all_goals
          go_wp2_with fail
          go_roundg f
          case measure => omega
          case rel =>
           refine ⟨{ M2 with list := M2.list ++ [b], at_ := sk }, .slice a8 m8 c8, zh ?_, zh ?_, zh ?_, zh ?_, hskf, ?_, hme2⟩
           ·exact P81.out.put 4 (.int .i64 (sk : Int)) { M2 with list := M2.list ++ [b], at_ := sk } _ rfl P81.out.rows LA6.out.half hskh
           ·exact zIp X6.out hlw hlb2.out (P82.out.setL 4 _)
           ·rcases N8.out with e | e
            ·rw [e]; exact hlb2.out
            ·intro q hq; exact Nat.le_trans X6.out.size (e q hq)
           ·rw [HSK.out, ← HRS3.out]; exact hra.out
           ·show (M2.list ++ [b]).length ≤ sk;rw [List.length_append]; exact hlk
       ·have hne := zFz he2;have hne2 := zFa he2;have HRS2 := zh (HRS.out.trans (if_pos he2))
        go_wp2_with fail
        go_ret2
        exact openPost.none (by rw [HO4.out, ← hra.out, HRS2.out]) X6.out LA6.out.disk
    ·have hne := zFz hen;have hne2 := zFa hen;have HO3 := zh (HO2.out.trans (if_pos hen))
     go_wp2_with fail
     go_ret2
     exact openPost.none HO3.out X5.out LA5.out.disk
theorem RecRow.at {base : Nat} {w : World} {a : Option Addr} {n c : Nat} {ls : List (List UInt8)} (h : RecRow base w (.slice a n c) ls) (k : Nat) (hk : k < ls.length) :
  ∃ q au cu, a = some ⟨q, 0, none⟩ ∧ w.cell? ⟨q, k, none⟩ = some (.slice au ls[k].length cu) ∧ Bytes w (.slice au ls[k].length cu) ls[k] := by
 obtain ⟨vs, h1, h2⟩ := h;obtain ⟨v, hv, ho⟩ := h2 k hk;have hb := ho.bytes;have h1' := h1
 rcases h1.2 with ⟨e, h0⟩ | ⟨q, cap, cur, e, _⟩
 ·omega
 ·simp only [Value.slice.injEq] at e;obtain ⟨rfl, -, rfl⟩ := e;have := h1'.cells (g := q) rfl k v hv;rw [Addr.add_lit, Nat.zero_add] at this;have hb2 := hb;obtain ⟨au, cu, rfl, -⟩ := hb;exact ⟨q, au, cu, rfl, this, hb2⟩
theorem RecRow.ext {base : Nat} {w w' : World} {lv : Value} {ls : List (List UInt8)} (h : RecRow base w lv ls) (x : Ext w w') : RecRow base w' lv ls :=
 h.same fun k _ _ _ hh => x.block k (Array.getElem?_eq_some_iff.1 hh).1
def listRel (w : World) (ls : List (List UInt8)) (ov i : Value) (wr : World) : Prop :=
 ∃ k, k ≤ ls.length ∧ i = .int .i64 k ∧ Hid (Ext w wr) ∧ Hid (RecRow w.heap.size wr ov (ls.take k))
def listPost (w : World) (ls : List (List UInt8)) (e : Ending) (w' : World) : Prop :=
 ∃ v, e = .returned v ∧ Ext w w' ∧ RecRow w.heap.size w' v ls
set_option maxRecDepth 100000 in
set_option maxHeartbeats 2000000 in
theorem LogList_any (base g kb l : Nat) (lv : Value) (D : Dk) (L : Lg) (w : World) (h : LogAt base w g kb l lv D L) (hll : L.list.length ≤ 1000000) (hbl : ∀ b ∈ L.list, b.length ≤ 16777216) :
  Calls Tryz.prog 134 #[.pointer (some ⟨l, 0, none⟩)] w (listPost w L.list) := by
 obtain ⟨al, cl, rfl⟩ := h.rows.shape;obtain ⟨c0, c1, c2, c3, c4, c5, c6, hf⟩ := h.cells;have HR := zh h.rows;generalize L.list = ls at *;clear h hf c0 c1 c2 c3 c4 c6;go_enter Tryz.func134, Tryz.ntmps134
 go_wp2_with fail
 go_loopw [3, 11] (fun ov i wr => listRel w ls ov i wr) (fun _ i _ => ls.length - (intOf i).toNat)
 case atStart => exact ⟨0, Nat.zero_le _, rfl, xr w, RecRow.nil _ _⟩
 case round =>
  obtain ⟨k, hk, rfl, hx, hr⟩ := hrel
  by_cases hlt : k < ls.length
  ·obtain ⟨q, au, cu, rfl, e0, eb⟩ := HR.out.at k hlt;have e0 := hx.out.cell e0;have EB := zh (eb.below hx.out (Nat.le_refl _));have hb16 := hbl _ (List.getElem_mem hlt);have HT := zh (show ls.take (k + 1) = ls.take k ++ [ls[k]] by rw [List.take_succ_eq_append_getElem hlt]);have HTL := zh (show (ls.take k).length = k by rw [List.length_take]; omega);generalize ls[k] = b at *;clear eb;obtain ⟨ao, co, hov⟩ := hr.out.shape;rw [HTL.out] at hov;subst hov;obtain ⟨i0, hi0, hz0, hz1, hz2⟩ := info_parts zFe;have HI := zh (And.intro hi0 (And.intro hz0 (And.intro hz1 hz2)));clear hi0 hz0 hz1 hz2;have hs := hx.out.size
   go_wp2_with (first
    | (refine zA1 _ rfl (.const (.slice none 0 0)) (.tmp 16) 23 rfl Tryz.underlying23 _ _ rfl rfl b EB.out (by omega) ?_; intro v7 w7 f7; have x7 : Ext wr w7 := f7.below; have X7 := zh x7; have F7 := zh (f7.ownb hs); (obtain ⟨a7, c7, rfl, -⟩ := f7.bytes); (obtain ⟨vs, hr7, hi7⟩ := hr.out.ext x7); have HR7 := zh hr7; have HI7 := zh hi7; clear f7 x7 hr7 hi7)
    | (refine zBu _ rfl (.tmp 15) (.tmp 18) 22 rfl w.heap.size 23 i0 _ 1 24 zCf HI.out.1 HI.out.2.1 HI.out.2.2.1 HI.out.2.2.2 rfl (by decide) _ _ rfl rfl _ vs (HR7.out.alloc _) 1 [.slice a7 b.length c7] rfl (zL0 _ _ _ _) (by simp [Value.oneCell']) (by rw [HTL.out]; unfold maxLen; omega) (by rw [HTL.out]; omega) (by have := X7.out.size; simp; omega) ?_; intro v8 w8 o8 g8 n8; (obtain ⟨a8, m8, c8, rfl⟩ := zFq o8); have P8 := zh (RecRow.push HR7.out HI7.out F7.out o8 g8); have X8 : Hid (Ext w w8) := Below.trans (show Below w.heap.size w (w7.alloc (.cells #[.slice a7 b.length c7] 23)) from (hx.out.trans X7.out).alloc _) ⟨g8.os, g8.tape, g8.output, g8.size, fun k hk => g8.block k (by have := X7.out.size; have h9 := size_alloc w7 (.cells #[.slice a7 b.length c7] 23); omega) (fun e => by have := (HR7.out.lt k e.symm).1; omega)⟩; clear o8 g8 n8))
   go_roundw
   case rel => exact ⟨k + 1, by omega, by go_num, X8, zh (by rw [HT.out]; exact P8.out)⟩
   case measure => simp [intOf]; omega
  ·go_wp2_with fail
   go_ret
   exact ⟨_, rfl, hx.out, by have := hr.out; rw [List.take_of_length_le (by omega)] at this; exact this⟩
end
end Go.Proofs.YtgnjjfdfoibdiaaGreatDoor
