/- A log: next. -/
import Derived.Test.YtgkoblgpadpcjaaLogV
namespace Go.Proofs.Ytgkoblgpadpcjaa
open Go.RowKit

theorem OwnBytes.take {w : World} {base n c : Nat} {a : Option Addr} {l : List UInt8} (h : OwnBytes w base (.slice a n c) l) (m : Nat) (hm : m ≤ l.length) : OwnBytes w base (.slice a m c) (l.take m) := by
  have hl : (l.take m).length = m := by rw [List.length_take]; omega
  unfold OwnBytes
  rw [hl]
  refine ⟨by rw [byteVals_length, hl]; omega, ?_⟩
  rcases h.2 with ⟨e, h0⟩ | ⟨g, cap, cur, e, hb, hg, hnc, hcm, hcs, ht⟩
  · simp only [Value.slice.injEq] at e
    obtain ⟨rfl, rfl, rfl⟩ := e
    exact .inl ⟨by rw [show m = 0 by omega], by omega⟩
  · simp only [Value.slice.injEq] at e
    obtain ⟨rfl, rfl, rfl⟩ := e
    refine .inr ⟨g, c, cur, rfl, hb, hg, by omega, hcm, hcs, ?_⟩
    have e1 : byteVals (l.take m) = (byteVals l).take m := by unfold byteVals; rw [List.map_take]
    rw [e1, ← ht, List.take_take]
    congr 1
    omega
theorem sectors_eq2 (n ks : Nat) (hk : ks = sectorsOf n) (hn : n ≤ 140737488355328) (w : World) : Calls Try.prog 71 #[.int .i64 (n : Int)] w fun e w' => e = .returned (.int .i64 (ks : Nat)) ∧ w = w' := by
  subst hk; exact sectors_any n hn w
theorem ReaderAt.drewN {w : World} {g : Nat} {l : List UInt8} {bad : Bool} (h : ReaderAt w g l bad) (n : Nat) : ReaderAt (w.drewN n) g l bad := h
theorem eqb_int {a b : Nat} (h : a = b) : ((a : Int) != (b : Int)) = false := by subst h; simp
theorem neb_int {a b : Nat} (h : a ≠ b) : ((a : Int) != (b : Int)) = true := by rw [bne_iff_ne]; omega
/-- A slice expression x[:hi] at the list of a plain region's operations. -/
theorem wpList_slice_to {P : Program} {ops : Array Oper} {rest : List Oper} {o : Oper} {a : Act} {w : World} {Q : Exit → Act → World → Prop} (hg : o.guard = none) (t : TypeId) (x hi : Operand) (ho : o.op = .slice t x none (some hi) none)
    (ht : P.underlying t = some (.slice (P.elem t))) (hs : ∀ w, (sizeOf (P.elem t)).run P w = .ok 1 w) (ad : Option Addr) (n c m : Nat) (hx : a.eval x = .slice ad n c) (hl : a.eval hi = .int .i64 (m : Int)) (hm : m ≤ c)
    (h : wpList P ops Q rest (a.put o.dst (.slice ad m c)) w) : wpList P ops Q (o :: rest) a w := by
  refine wpList_plain hg fun K hK => ?_
  unfold Oper.wp
  have hr : (Instr.slice t (.slice ad n c) none (some (.int .i64 (m : Int))) none).run P w = .ok (.slice ad m c) w := by
    rw [run_slice_h w t ad n c ht .i64 (m : Int) (by omega) (by omega), hs]
    show Result.ok (Go.sliced ad 0 (m : Int).toNat c 1) w = _
    congr 1
    cases ad with
    | none => simp [Go.sliced]
    | some x => simp [Go.sliced, Addr.add]
  have hr2 := (run_sliceAt_slice (w := w) t (.slice ad n c) none (some (.int .i64 (m : Int))) none ht).trans hr
  simp only [execOp, ho, hx, hl, Option.map_some, Option.map_none, Sem.run_bind, hr2, Result.andThen, Sem.run_pure, Oper.upon]
  exact hK _ _ h
theorem moreGo_succ {D : Dk} {p f i : Nat} {b s : List UInt8} {e : Nat} (h : D.read ((p + i : Nat) : Int) = (s, e)) :
    moreGo D p (f + 1) i b = if e = 0 then (if s.headD 0 = 3 then moreGo D p f (i + 1) (b ++ s.drop 1) else (none, 0)) else (none, e) := by
  rw [moreGo, h]
theorem crc_two {W : World} {g : Nat} {l m : List UInt8} {sm : Nat} (hs : sm = crcOf (l ++ m)) (h : RowsN W g 2 [l, m]) :
    Calls Try.prog 18 #[.slice (some ⟨g, 0, none⟩) 2 2] W fun e w' => e = .returned (.int .u32 (sm : Nat)) ∧ W = w' := by
  subst hs
  have := crc_any h (by omega)
  simpa using this
theorem moreGo_len {D : Dk} (hw : Wf D) {p : Nat} : ∀ (f i : Nat) (b c : List UInt8) (e : Nat), moreGo D p f i b = (some c, e) → c.length = b.length + 63 * f
  | 0, i, b, c, e, h => by
    rw [moreGo] at h
    simp only [Prod.mk.injEq, Option.some.injEq] at h
    rw [← h.1]; rfl
  | f + 1, i, b, c, e, h => by
    rw [moreGo] at h
    split at h
    · split at h
      · have := moreGo_len hw f (i + 1) _ c e h
        rw [this, List.length_append, List.length_drop, read_len hw]
        omega
      · cases h
    · cases h
/-- What next hands out. -/
theorem nextP_spec {D : Dk} (hw : Wf D) {L : Lg} {b : List UInt8} {n e : Nat} (h : nextP D L = (b, n, e)) (hn : n ≠ 0) : e = 0 ∧ n = sectorsOf b.length ∧ b.length ≤ 4096 ∧ L.at_ + n ≤ halfOf D := by
  unfold nextP at h
  split at h
  · simp only [Prod.mk.injEq] at h; exact absurd h.2.1.symm hn
  · dsimp only at h
    split at h
    · simp only [Prod.mk.injEq] at h; exact absurd h.2.1.symm hn
    · split at h
      · simp only [Prod.mk.injEq] at h; exact absurd h.2.1.symm hn
      · rename_i hc
        split at h
        · simp only [Prod.mk.injEq] at h; exact absurd h.2.1.symm hn
        · rename_i c e' hm
          split at h
          · simp only [Prod.mk.injEq] at h; exact absurd h.2.1.symm hn
          · simp only [Prod.mk.injEq] at h
            obtain ⟨h1, h2, h3⟩ := h
            have hl := moreGo_len hw _ _ _ _ _ hm
            rw [List.length_drop, read_len hw] at hl
            have hm4 : (fourOf (D.read ((placeOf D L.half L.at_ : Nat) : Int)).1).1.1 ≤ 4096 := numRes_most _ _ 4096
            have hk : 1 ≤ sectorsOf (fourOf (D.read ((placeOf D L.half L.at_ : Nat) : Int)).1).1.1 ∧ (fourOf (D.read ((placeOf D L.half L.at_ : Nat) : Int)).1).1.1 + 16 ≤ 63 * sectorsOf (fourOf (D.read ((placeOf D L.half L.at_ : Nat) : Int)).1).1.1 := by unfold sectorsOf; omega
            have hbl : b.length = (fourOf (D.read ((placeOf D L.half L.at_ : Nat) : Int)).1).1.1 := by
              rw [← h1, List.length_take, hl]; omega
            refine ⟨h3.symm, by rw [hbl]; exact h2.symm, by rw [hbl]; exact hm4, ?_⟩
            rw [← h2]
            exact Nat.le_of_not_lt fun hlt => hc (.inr (.inr (.inr (.inr hlt))))
def nextRel (D : Dk) (w : World) (p K : Nat) (b0 : List UInt8) (bv i : Value) (wr : World) : Prop :=
  ∃ (k : Nat) (bk : List UInt8) (a : Option Addr) (c : Nat), i = .int .i64 k ∧ 1 ≤ k ∧ k ≤ K ∧ bv = .slice a bk.length c ∧ bk.length ≤ c ∧ c ≤ 9223372036854775807 ∧ Hid (bk.length = 63 * k - 16) ∧ Hid (OwnBytes wr w.heap.size (.slice a bk.length c) bk) ∧ Hid (Ext w wr) ∧ Hid (moreGo D p (K - k) k bk = moreGo D p (K - 1) 1 b0)
def nextPost (w : World) (r : List UInt8 × Nat × Nat) (e : Ending) (w' : World) : Prop :=
  ∃ bv, e = .returned (.tuple #[bv, .int .i64 (r.2.1 : Nat), .int .i64 (r.2.2 : Nat)]) ∧ Ext w w' ∧ OwnBytes w' w.heap.size bv r.1
theorem nextPost.none {w w' : World} {r : List UInt8 × Nat × Nat} {n : Nat} (h : r = ([], 0, n)) (x : Ext w w') : nextPost w r (.returned (.tuple #[.slice none 0 0, .int .i64 0, .int .i64 (n : Int)])) w' := by
  subst h; exact ⟨_, rfl, x, OwnBytes.nil _ _⟩

set_option maxRecDepth 100000 in
set_option maxHeartbeats 8000000 in
theorem next_any (base g kb l : Nat) (lv : Value) (D : Dk) (L : Lg) (w : World) (h : LogAt base w g kb l lv D L) (hll : L.list.length ≤ 1000000) (hep : L.epoch < 4294967296) (hB : base ≤ w.heap.size) :
    Calls Try.prog 70 #[.pointer (some ⟨l, 0, none⟩)] w (nextPost w (nextP D L)) := by
  have HL := Lib.hid h
  obtain ⟨al, cl, rfl⟩ := h.rows.shape
  obtain ⟨c0, c1, c2, c3, c4, c5, c6, hf⟩ := h.cells
  have hm := h.disk.wf.most
  have h6 := h.six
  have hat := h.at_
  have hh : halfOf D ≤ 4096 := by unfold halfOf; omega
  obtain ⟨ho, hho⟩ : ∃ ho, ho = halfOf D := ⟨_, rfl⟩
  have HHO := Lib.hid hho
  have hat4 : L.at_ ≤ 4096 := by omega
  clear h hf
  by_cases hend : halfOf D ≤ L.at_
  · have HN := Lib.hid (show nextP D L = ([], 0, 0) by unfold nextP; rw [if_pos hend])
    have hd : decide (ho ≤ L.at_) = true := by rw [decide_eq_true_iff]; omega
    clear hho hend hh hat
    go_enter Try.func70, Try.ntmps70
    go_wp2_with fail
    go_quiet (first | ((go_at_call 72); exact Calls.quiet_of_same ((half_eq base g kb D ho HHO.out _ (Disk.drewN HL.out.disk _) (by omega)).mono fun e w' h => ⟨h.1, h.2.symm⟩)))
    go_wp2_with fail
    go_ret3
    exact nextPost.none HN.out ((Ext.refl w).drewN nq)
  · have hd : decide (ho ≤ L.at_) = false := by rw [decide_eq_false_iff_not]; omega
    obtain ⟨Z, hZ⟩ : ∃ Z, Z = (byteVals zero64).toArray := ⟨_, rfl⟩
    have HI : Hid (ZFacts Z) := by rw [hZ]; exact zfacts
    have HEND := Lib.hid hend
    clear hho hend hh hat hZ
    go_enter Try.func70, Try.ntmps70
    go_wp2_with fail
    go_quiet (first | ((go_at_call 72); exact Calls.quiet_of_same ((half_eq base g kb D ho HHO.out _ (Disk.drewN HL.out.disk _) (by omega)).mono fun e w' h => ⟨h.1, h.2.symm⟩)))
    have H1 := Lib.hid (HL.out.ext ((Ext.refl w).drewN nq))
    have X1 := Lib.hid ((Ext.refl w).drewN nq)
    generalize hw1 : w.drewN nq = w1 at *
    clear hw1 c0 c1 c2 c3 c4 c5 c6
    obtain ⟨c0, c1, c2, c3, c4, c5, c6, hf⟩ := H1.out.cells
    clear hf c0 c1 c2 c3 c5 c6
    go_wp2_with fail
    refine (read_any base g kb l _ D L L.at_ _ H1.out (by omega)).mono ?_
    unfold readPost
    rintro e w2 ⟨rfl, x2⟩
    dsimp only
    obtain ⟨p, hp⟩ : ∃ p, p = placeOf D L.half L.at_ := ⟨_, rfl⟩
    rw [← hp]
    have hs64 := read_len H1.out.disk.wf (p : Int)
    have HNX := Lib.hid (show nextP D L = (let r := D.read (p : Int)
      if r.2 ≠ 0 then ([], 0, r.2) else
      let q := fourOf r.1
      if r.1.headD 0 ≠ 2 ∨ q.2 = false ∨ q.1.2.1 ≠ L.list.length ∨ q.1.2.2.1 ≠ L.epoch ∨ halfOf D < L.at_ + sectorsOf q.1.1 then ([], 0, 0) else
        match moreGo D p (sectorsOf q.1.1 - 1) 1 (r.1.drop 17) with
        | (none, e) => ([], 0, e)
        | (some b, _) => if crcOf (le4 q.1.2.1 ++ le4 q.1.2.2.1 ++ b.take q.1.1) ≠ q.1.2.2.2 then ([], 0, 0) else (b.take q.1.1, sectorsOf q.1.1, 0)) by rw [hp]; unfold nextP; rw [if_neg HEND.out]; rfl)
    have HP := Lib.hid hp
    generalize hr : D.read (p : Int) = r at *
    obtain ⟨s, en⟩ := r
    have hs64 : s.length = 64 := hs64
    dsimp only at HNX
    have hi := Lib.hid (show (Try.prog.info? 63).map (·.size) = some (byteVals s).toArray.size by rw [List.size_toArray, byteVals_length, hs64]; exact Try.info63)
    have hZs := Lib.hid (show Z.size = (byteVals s).toArray.size by rw [HI.out.2.2.2.2]; simp [byteVals_length, hs64])
    have h1 := Lib.hid (all_oneCell_toArray (byteVals_oneCell s))
    have HS := Lib.hid hs64
    have X3 := Lib.hid (show Ext w (w2.alloc (.cells (byteVals s).toArray 63)) from X1.out.trans (x2.alloc _))
    clear hs64 hr hp
    by_cases hen : en = 0
    · have HNX2 := Lib.hid (HNX.out.trans (if_neg (not_not_intro hen)))
      subst hen
      have HB3 := Lib.hid (heap_alloc_new w2 (.cells (byteVals s).toArray 63))
      have HSZ := Lib.hid (size_alloc w2 (.cells (byteVals s).toArray 63))
      go_upto_region 6 with (first
        | (refine wpList_alloc_z rfl 63 rfl Z HI.out.1 ?_)
        | (refine wpList_store_new rfl 63 (.tmp 5) (.tmp 34) rfl w2 63 Z _ rfl rfl hi.out hZs.out h1.out ?_))
      generalize hw3 : w2.alloc (.cells (byteVals s).toArray 63) = w3 at *
      generalize hBB : w2.heap.size = B at *
      clear hw3 hBB x2
      go_wp2_with fail
      refine (Read_any ((s.drop 1).take 16) _ _ (block_cut HB3.out 1 16 63 (by rw [HS.out]; omega) (by omega) (by omega)) (by rw [List.length_take]; omega)).mono ?_
      rintro e w4 ⟨q, rfl, hq, x4, r4⟩
      have hqB : B < q := by have := HSZ.out; omega
      have hqw : w.heap.size ≤ q := Nat.le_trans X3.out.size hq
      have X4 := Lib.hid (X3.out.trans x4)
      have HB4 := Lib.hid (x4.keep HB3.out)
      have hf4 : fourOf s = (((numRes ((s.drop 1).take 16) false 4096).1, (numRes (numRes ((s.drop 1).take 16) false 4096).2.1 (numRes ((s.drop 1).take 16) false 4096).2.2 2147483648).1,
        (numRes (numRes (numRes ((s.drop 1).take 16) false 4096).2.1 (numRes ((s.drop 1).take 16) false 4096).2.2 2147483648).2.1 (numRes (numRes ((s.drop 1).take 16) false 4096).2.1 (numRes ((s.drop 1).take 16) false 4096).2.2 2147483648).2.2 2147483648).1,
        (numRes (numRes (numRes (numRes ((s.drop 1).take 16) false 4096).2.1 (numRes ((s.drop 1).take 16) false 4096).2.2 2147483648).2.1 (numRes (numRes ((s.drop 1).take 16) false 4096).2.1 (numRes ((s.drop 1).take 16) false 4096).2.2 2147483648).2.2 2147483648).2.1 (numRes (numRes (numRes ((s.drop 1).take 16) false 4096).2.1 (numRes ((s.drop 1).take 16) false 4096).2.2 2147483648).2.1 (numRes (numRes ((s.drop 1).take 16) false 4096).2.1 (numRes ((s.drop 1).take 16) false 4096).2.2 2147483648).2.2 2147483648).2.2 4294967295).1),
        !(numRes (numRes (numRes (numRes ((s.drop 1).take 16) false 4096).2.1 (numRes ((s.drop 1).take 16) false 4096).2.2 2147483648).2.1 (numRes (numRes ((s.drop 1).take 16) false 4096).2.1 (numRes ((s.drop 1).take 16) false 4096).2.2 2147483648).2.2 2147483648).2.1 (numRes (numRes (numRes ((s.drop 1).take 16) false 4096).2.1 (numRes ((s.drop 1).take 16) false 4096).2.2 2147483648).2.1 (numRes (numRes ((s.drop 1).take 16) false 4096).2.1 (numRes ((s.drop 1).take 16) false 4096).2.2 2147483648).2.2 2147483648).2.2 4294967295).2.2) := rfl
      have hm1 := numRes_most ((s.drop 1).take 16) false 4096
      have HM1 : (numRes ((s.drop 1).take 16) false ((4096 : Nat) : Int)) = numRes ((s.drop 1).take 16) false 4096 := rfl
      rw [HM1] at hm1
      generalize hr1 : numRes ((s.drop 1).take 16) false 4096 = r1 at *
      obtain ⟨n1, l1, b1⟩ := r1
      have hm1 : n1 ≤ 4096 := hm1
      dsimp only at hf4
      have hm2 := numRes_lt l1 b1 2147483648
      generalize hr2 : numRes l1 b1 2147483648 = r2 at *
      obtain ⟨n2, l2, b2⟩ := r2
      have hm2 : n2 < 4294967296 := hm2
      dsimp only at hf4
      have hm3 := numRes_lt l2 b2 2147483648
      generalize hr3 : numRes l2 b2 2147483648 = r3 at *
      obtain ⟨n3, l3, b3⟩ := r3
      have hm3 : n3 < 4294967296 := hm3
      dsimp only at hf4
      have hm4 := numRes_lt l3 b3 4294967295
      generalize hr4 : numRes l3 b3 4294967295 = r5 at *
      obtain ⟨n4, l4, b4⟩ := r5
      have hm4 : n4 < 4294967296 := hm4
      dsimp only at hf4
      have HF4 := Lib.hid hf4
      have HR := Lib.hid (And.intro hr1 (And.intro hr2 (And.intro hr3 hr4)))
      clear x4 hq hf4 HM1 hr1 hr2 hr3 hr4
      go_wp2_with fail
      refine (Num_all q _ _ 4096 _ r4 (by omega)).mono ?_
      rw [HR.out.1]
      rintro e w5 ⟨rfl, o5, r5⟩
      have X5 := Lib.hid (only_ext X4.out hqw o5)
      have HB5 := Lib.hid (only_keep o5 HB4.out (Nat.ne_of_lt hqB))
      clear r4 o5
      go_wp2_with fail
      refine (Num_all q _ _ 2147483648 _ r5 (by omega)).mono ?_
      rw [show numRes (n1, l1, b1).2.1 (n1, l1, b1).2.2 2147483648 = (n2, l2, b2) from HR.out.2.1]
      rintro e w6 ⟨rfl, o6, r6⟩
      have X6 := Lib.hid (only_ext X5.out hqw o6)
      have HB6 := Lib.hid (only_keep o6 HB5.out (Nat.ne_of_lt hqB))
      clear r5 o6
      go_wp2_with fail
      refine (Num_all q _ _ 2147483648 _ r6 (by omega)).mono ?_
      rw [show numRes (n2, l2, b2).2.1 (n2, l2, b2).2.2 2147483648 = (n3, l3, b3) from HR.out.2.2.1]
      rintro e w7 ⟨rfl, o7, r7⟩
      have X7 := Lib.hid (only_ext X6.out hqw o7)
      have HB7 := Lib.hid (only_keep o7 HB6.out (Nat.ne_of_lt hqB))
      clear r6 o7
      go_wp2_with fail
      refine (Num_all q _ _ 4294967295 _ r7 (by omega)).mono ?_
      rw [show numRes (n3, l3, b3).2.1 (n3, l3, b3).2.2 4294967295 = (n4, l4, b4) from HR.out.2.2.2]
      rintro e w8 ⟨rfl, o8, r8⟩
      have X8 := Lib.hid (only_ext X7.out hqw o8)
      have HB8 := Lib.hid (only_keep o8 HB7.out (Nat.ne_of_lt hqB))
      have R8 := Lib.hid (show ReaderAt w8 q l4 b4 from r8)
      clear r7 o8 r8
      obtain ⟨K, hK⟩ : ∃ K, K = sectorsOf n1 := ⟨_, rfl⟩
      have HK := Lib.hid hK
      clear hK
      go_upto_region 9 with ((go_at_call 71); refine (sectors_eq2 n1 K HK.out (by omega) _).mono ?_; rintro e w' ⟨rfl, rfl⟩)
      have LA8 := Lib.hid (HL.out.ext X8.out)
      obtain ⟨c0, c1, c2, c3, c4, c5, c6, hf⟩ := LA8.out.cells
      obtain ⟨c, tl, hct⟩ : ∃ c t, s = c :: t := by
        cases s with
        | nil => have := HS.out; simp at this
        | cons c t => exact ⟨c, t, rfl⟩
      have e0 : w8.cell? ⟨B, 0, none⟩ = some (.int .u8 c.toNat) := by
        rw [cell_of_row _ _ _ _ _ _ HB8.out, List.getElem?_toArray, hct]; rfl
      have HCT := Lib.hid (show s.headD 0 = c by rw [hct]; rfl)
      clear hct hf c2 c3 c6
      by_cases hc2 : c = 2
      · have hcn : (c.toNat : Int) = 2 := by rw [hc2]; rfl
        rw [hcn] at e0
        have HC2 := Lib.hid hc2
        clear hcn hc2
        cases b4
        · by_cases hs3 : n2 = L.list.length
          · by_cases hs4 : n3 = L.epoch
            · have e3 := eqb_int hs3
              have e4 := eqb_int hs4
              have HS34 := Lib.hid (And.intro hs3 hs4)
              have hk2 : K ≤ 66 := by have := HK.out; unfold sectorsOf at this; omega
              obtain ⟨sk, hsk⟩ : ∃ sk, sk = L.at_ + K := ⟨_, rfl⟩
              have hsu : IntKind.i64.wrap ((L.at_ : Int) + (K : Int)) = (sk : Int) := by rw [IntWalk.i64_in _ (by omega)]; omega
              have HSK := Lib.hid hsk
              clear hs3 hs4 hsk
              by_cases hfl : ho < sk
              · have hfd : decide (ho < sk) = true := by rw [decide_eq_true_iff]; exact hfl
                have HN := Lib.hid (HNX2.out.trans (if_pos (by rw [HF4.out]; refine .inr (.inr (.inr (.inr ?_))); show halfOf D < L.at_ + sectorsOf n1; rw [← HK.out, ← HHO.out, ← HSK.out]; exact hfl)))
                clear hfl
                go_quiet (first | ((go_at_call 36); exact Calls.quiet_of_same ((Good_any q l4 _ _ (R8.out.drewN _)).mono fun e w' h => ⟨h.1, h.2.symm⟩)) | ((go_at_call 72); exact Calls.quiet_of_same ((half_eq base g kb D ho HHO.out _ (Disk.drewN LA8.out.disk _) (by omega)).mono fun e w' h => ⟨h.1, h.2.symm⟩)))
                clear hsu
                go_wp2_with fail
                go_ret3
                exact nextPost.none HN.out (X8.out.drewN nq)
              · have hfd : decide (ho < sk) = false := by rw [decide_eq_false_iff_not]; exact hfl
                have HFL := Lib.hid hfl
                clear hfl
                go_quiet (first | ((go_at_call 36); exact Calls.quiet_of_same ((Good_any q l4 _ _ (R8.out.drewN _)).mono fun e w' h => ⟨h.1, h.2.symm⟩)) | ((go_at_call 72); exact Calls.quiet_of_same ((half_eq base g kb D ho HHO.out _ (Disk.drewN LA8.out.disk _) (by omega)).mono fun e w' h => ⟨h.1, h.2.symm⟩)))
                clear hsu
                have X9 := Lib.hid (X8.out.drewN nq)
                have HB9 := Lib.hid (show (w8.drewN nq).heap[B]? = _ from HB8.out)
                generalize hw9 : w8.drewN nq = w9 at *
                clear hw9 c0 c1 c4 c5 e0 e3 e4
                have BD := Lib.hid (show Bytes w9 (.slice (some ⟨B, 17, none⟩) 47 47) (s.drop 17) from by
                  have h9 := block_cut HB9.out 17 47 47 (by rw [HS.out]; omega) (by omega) (by omega)
                  rw [List.take_of_length_le (by rw [List.length_drop, HS.out]; omega)] at h9
                  exact h9)
                have hdl := Lib.hid (show (s.drop 17).length = 47 by rw [List.length_drop, HS.out])
                have HNX3 := Lib.hid (show nextP D L = match moreGo D p (K - 1) 1 (s.drop 17) with
                  | (none, e) => ([], 0, e)
                  | (some b, _) => if crcOf (le4 n2 ++ le4 n3 ++ b.take n1) ≠ n4 then ([], 0, 0) else (b.take n1, K, 0) by
                    have h9 := HNX2.out
                    rw [HF4.out] at h9
                    rw [h9, if_neg (by
                      rintro (h | h | h | h | h)
                      · exact h (HCT.out.trans HC2.out)
                      · cases h
                      · exact h HS34.out.1
                      · exact h HS34.out.2
                      · apply HFL.out; rw [HHO.out, HSK.out, HK.out]; exact h)]
                    show (match moreGo D p (sectorsOf n1 - 1) 1 (s.drop 17) with
                      | (none, e) => ([], 0, e)
                      | (some b, _) => if crcOf (le4 n2 ++ le4 n3 ++ b.take n1) ≠ n4 then ([], 0, 0) else (b.take n1, sectorsOf n1, 0)) = _
                    rw [← HK.out])
                obtain ⟨b0, hb0⟩ : ∃ b0, b0 = s.drop 17 := ⟨_, rfl⟩
                rw [← hb0] at BD hdl HNX3
                have HB0 := Lib.hid hb0
                clear hb0
                have hk1 : 1 ≤ K := by have := HK.out; unfold sectorsOf at this; omega
                go_wp2_with (at_builtin; refine wpList_append_empty_bytes w9 rfl (.const (.slice none 0 0)) (.tmp 90) 22 rfl Try.underlying22 _ _ rfl rfl b0 BD.out (by rw [hdl.out]; omega) ?_)
                intro v10 w10 f10
                have X10 := Lib.hid (X9.out.trans f10.below)
                have O10 := Lib.hid (f10.ownb X9.out.size)
                obtain ⟨a10, c10, rfl, hc10, hc11, -⟩ := f10.bytes
                clear f10
                go_wp2_with fail
                go_loopw [13, 14] (fun bv i wr => nextRel D w p K b0 bv i wr) (fun _ i _ => K - (intOf i).toNat)
                case atStart => exact ⟨1, b0, a10, c10, rfl, Nat.le_refl _, hk1, rfl, hc10, hc11, hdl, O10, X10, rfl⟩
                case round =>
                  obtain ⟨k, bk, ab, cb, rfl, hk2, hk3, rfl, hcb1, hcb2, hbl, hown, hx, hmo⟩ := hrel
                  by_cases hlt : k < K
                  · skip
                    have LAr := Lib.hid (HL.out.ext hx.out)
                    obtain ⟨c0, c1, c2, c3, c4, c5, c6, hf⟩ := LAr.out.cells
                    clear hf c0 c1 c2 c3 c5 c6
                    obtain ⟨ak, hak⟩ : ∃ ak, ak = L.at_ + k := ⟨_, rfl⟩
                    have hkk : k ≤ 66 := by omega
                    have hsu : IntKind.i64.wrap ((L.at_ : Int) + (k : Int)) = (ak : Int) := by rw [IntWalk.i64_in _ (by omega)]; omega
                    have hak4 : ak ≤ 100000 := by omega
                    have HPK := Lib.hid (show placeOf D L.half ak = p + k by rw [hak, HP.out]; unfold placeOf; omega)
                    clear hak
                    go_wp2_with fail
                    refine (read_any base g kb l _ D L ak _ LAr.out hak4).mono ?_
                    unfold readPost
                    rw [HPK.out]
                    rintro e w11 ⟨rfl, x11⟩
                    dsimp only
                    clear hsu
                    have hs64 := read_len LAr.out.disk.wf ((p + k : Nat) : Int)
                    have HMG := Lib.hid (moreGo_succ (D := D) (p := p) (f := K - (k + 1)) (i := k) (b := bk) (show D.read ((p + k : Nat) : Int) = ((D.read ((p + k : Nat) : Int)).1, (D.read ((p + k : Nat) : Int)).2) from rfl))
                    rw [show K - (k + 1) + 1 = K - k by omega] at HMG
                    generalize hr : D.read ((p + k : Nat) : Int) = r at *
                    obtain ⟨s2, e2⟩ := r
                    have hs64 : s2.length = 64 := hs64
                    have hi2 := Lib.hid (show (Try.prog.info? 63).map (·.size) = some (byteVals s2).toArray.size by rw [List.size_toArray, byteVals_length, hs64]; exact Try.info63)
                    have hZs2 := Lib.hid (show Z.size = (byteVals s2).toArray.size by rw [HI.out.2.2.2.2]; simp [byteVals_length, hs64])
                    have h12 := Lib.hid (all_oneCell_toArray (byteVals_oneCell s2))
                    have HS2 := Lib.hid hs64
                    have X12 := Lib.hid (show Ext w (w11.alloc (.cells (byteVals s2).toArray 63)) from hx.out.trans (x11.alloc _))
                    have X12r := Lib.hid (show Ext wr (w11.alloc (.cells (byteVals s2).toArray 63)) from x11.alloc _)
                    clear hs64 hr x11
                    by_cases he2 : e2 = 0
                    · have HMG2 := Lib.hid (HMG.out.trans (if_pos he2))
                      subst he2
                      obtain ⟨d, tl2, hdt⟩ : ∃ c t, s2 = c :: t := by
                        cases s2 with
                        | nil => have := HS2.out; simp at this
                        | cons c t => exact ⟨c, t, rfl⟩
                      have HDT := Lib.hid (show s2.headD 0 = d by rw [hdt]; rfl)
                      have e0 : (w11.alloc (.cells (byteVals s2).toArray 63)).cell? ⟨w11.heap.size, 0, none⟩ = some (.int .u8 d.toNat) := by
                        rw [cell_of_row _ _ _ _ _ _ (heap_alloc_new w11 _), List.getElem?_toArray, hdt]; rfl
                      have e0z : (byteVals s2)[0]? = some (.int .u8 d.toNat) := by rw [hdt]; rfl
                      clear hdt
                      by_cases hd3 : d = 3
                      · have hdn : (d.toNat : Int) = 3 := by rw [hd3]; rfl
                        rw [hdn] at e0 e0z
                        have HD3 := Lib.hid hd3
                        have HMG3 := Lib.hid (HMG2.out.trans (if_pos (HDT.out.trans hd3)))
                        clear hdn hd3
                        go_upto_region 20 with (first
                          | (refine wpList_alloc_z rfl 63 rfl Z HI.out.1 ?_)
                          | (refine wpList_store_new rfl 63 (.tmp 15) (.tmp 106) rfl w11 63 Z _ rfl rfl hi2.out hZs2.out h12.out ?_))
                        have O12 := Lib.hid (hown.out.keptBelow X12r.out (fun k hk => (hown.out.lt k hk).2))
                        have BD2 := Lib.hid (show Bytes (w11.alloc (.cells (byteVals s2).toArray 63)) (.slice (some ⟨w11.heap.size, 1, none⟩) 63 63) (s2.drop 1) from by
                          have h9 := block_cut (heap_alloc_new w11 (.cells (byteVals s2).toArray 63)) 1 63 63 (by rw [HS2.out]; omega) (by omega) (by omega)
                          rw [List.take_of_length_le (by rw [List.length_drop, HS2.out]; omega)] at h9
                          exact h9)
                        have hdl2 := Lib.hid (show (s2.drop 1).length = 63 by rw [List.length_drop, HS2.out])
                        generalize hw12 : w11.alloc (.cells (byteVals s2).toArray 63) = w12 at *
                        generalize hB2 : w11.heap.size = B2 at *
                        obtain ⟨t2, ht2⟩ : ∃ t2, t2 = s2.drop 1 := ⟨_, rfl⟩
                        rw [← ht2] at BD2 hdl2 HMG3
                        obtain ⟨nb, hnb⟩ : ∃ nb, nb = bk ++ t2 := ⟨_, rfl⟩
                        have HNB := Lib.hid hnb
                        clear ht2 hnb
                        clear hw12 hB2 e0 e0z c4
                        go_wp2_with (at_builtin; refine wpList_append_bytes w12 rfl (.tmp 114) (.tmp 115) 22 rfl Try.underlying22 w.heap.size _ _ rfl rfl bk t2 O12.out BD2.out (by rw [hdl2.out, hbl.out]; omega) X12.out.size ?_)
                        intro v13 w13 o13 g13 n13
                        rw [← HNB.out] at o13
                        have X13 := Lib.hid (show Ext w w13 from Below.grown X12.out g13 X12.out.size (fun k hk => (O12.out.lt k hk).1))
                        have O13 := Lib.hid o13
                        obtain ⟨a13, c13, rfl, hc13, hc14, -⟩ := o13.bytes
                        clear o13 g13 n13
                        go_wp2_with fail
                        go_roundw
                        case rel =>
                          rw [← HNB.out] at HMG3
                          refine ⟨k + 1, nb, a13, c13, by go_num, by omega, by omega, rfl, hc13, hc14, Lib.hid ?_, O13, X13, Lib.hid (HMG3.out.symm.trans hmo.out)⟩
                          rw [HNB.out, List.length_append, hbl.out, hdl2.out]; omega
                        case measure => simp [intOf]; omega
                      · have hdn : ((d.toNat : Int) != 3) = true := by
                          rw [bne_iff_ne]
                          intro e
                          exact hd3 (UInt8.toNat_inj.1 (by show d.toNat = 3; omega))
                        have HMG3 := Lib.hid (HMG2.out.trans (if_neg (by rw [HDT.out]; exact hd3)))
                        clear hd3
                        go_wp2_with (first
                          | (refine wpList_alloc_z rfl 63 rfl Z HI.out.1 ?_)
                          | (refine wpList_store_new rfl 63 (.tmp 15) (.tmp 106) rfl w11 63 Z _ rfl rfl hi2.out hZs2.out h12.out ?_))
                        go_ret3
                        exact nextPost.none (by rw [HNX3.out, ← hmo.out, HMG3.out]) X12.out
                    · have hne := eq_int he2
                      have hne2 := ne_int he2
                      have HMG2 := Lib.hid (HMG.out.trans (if_neg he2))
                      go_wp2_with (first
                        | (refine wpList_alloc_z rfl 63 rfl Z HI.out.1 ?_)
                        | (refine wpList_store_new rfl 63 (.tmp 15) (.tmp 106) rfl w11 63 Z _ rfl rfl hi2.out hZs2.out h12.out ?_))
                      go_ret3
                      exact nextPost.none (by rw [HNX3.out, ← hmo.out, HMG2.out]) X12.out
                  · have hkK : k = K := by omega
                    have HMO := Lib.hid (show moreGo D p (K - 1) 1 b0 = (some bk, 0) by rw [← hmo.out, hkK, Nat.sub_self]; rfl)
                    have HNX4 := Lib.hid (show nextP D L = if crcOf (le4 n2 ++ le4 n3 ++ bk.take n1) ≠ n4 then ([], 0, 0) else (bk.take n1, K, 0) by rw [HNX3.out, HMO.out])
                    have hn1b : n1 ≤ bk.length := by rw [hbl.out, hkK]; have := HK.out; unfold sectorsOf at this; omega
                    have hn1c : n1 ≤ cb := by omega
                    have O14 := Lib.hid (hown.out.take n1 hn1b)
                    have hbl4 := Lib.hid (show (bk.take n1).length = n1 by rw [List.length_take]; omega)
                    obtain ⟨b4, hb4⟩ : ∃ b4, b4 = bk.take n1 := ⟨_, rfl⟩
                    rw [← hb4] at O14 HNX4 hbl4
                    clear hb4 hmo hown hkK
                    go_upto_region 22 with (refine wpList_slice_to rfl 22 (.tmp 117) (.tmp 118) rfl Try.slice22 Try.sizeOf22 ab bk.length cb n1 rfl rfl hn1c ?_)
                    have hwr : IntKind.u32.wrap (n4 : Int) = (n4 : Int) := IntWalk.u32_in _ (by omega)
                    have hm4' : (n4 : Int) % 4294967296 = (n4 : Int) := by omega
                    go_wp2_with ((go_at_call 62); refine (Num_new _ _).mono ?_; rintro e w' ⟨rfl, rfl⟩)
                    refine (Pack_two n2 n3 hm2 hm3 _ _ _ _ (hx0 _ _ _ _) (hx1 _ _ _ _) (hx2 _ _ _ _)).mono ?_
                    rintro e w15 ⟨a15, c15, rfl, x15, B15⟩
                    have X15r := Lib.hid (show Ext wr w15 from ((((Ext.refl wr).alloc _).alloc _).alloc _).trans x15)
                    have X15 := Lib.hid (hx.out.trans X15r.out)
                    have O15 := Lib.hid (O14.out.keptBelow X15r.out (fun k hk => (O14.out.lt k hk).2))
                    have B16 := Lib.hid (show Bytes w15 (.slice ab n1 cb) b4 from O15.out.bytes)
                    obtain ⟨sm, hsm⟩ : ∃ sm, sm = crcOf (le4 n2 ++ le4 n3 ++ b4) := ⟨_, rfl⟩
                    have HSM := Lib.hid hsm
                    clear hsm x15
                    go_wp2_with fail
                    refine (crc_two HSM.out (RowsN.two B15.out B16.out ((Ext.refl _).alloc _) (heap_alloc_new _ _))).mono ?_
                    rintro e w16 ⟨rfl, rfl⟩
                    by_cases hcr : sm = n4
                    · have hcc := eqb_int hcr
                      have HN := Lib.hid (HNX4.out.trans (if_neg (by rw [← HSM.out]; exact not_not_intro hcr)))
                      clear hcr
                      go_wp2_with fail
                      go_ret3
                      rw [HN.out]
                      exact ⟨_, rfl, X15.out.alloc _, O15.out.alloc _⟩
                    · have hcc := neb_int hcr
                      have HN := Lib.hid (HNX4.out.trans (if_pos (by rw [← HSM.out]; exact hcr)))
                      clear hcr
                      go_wp2_with fail
                      go_ret3
                      exact nextPost.none HN.out (X15.out.alloc _)
            · have e3 := eqb_int hs3
              have e4 := neb_int hs4
              have HN := Lib.hid (HNX2.out.trans (if_pos (by rw [HF4.out]; exact .inr (.inr (.inr (.inl hs4))))))
              go_quiet (first | ((go_at_call 36); exact Calls.quiet_of_same ((Good_any q l4 _ _ (R8.out.drewN _)).mono fun e w' h => ⟨h.1, h.2.symm⟩)) | ((go_at_call 72); exact Calls.quiet_of_same ((half_eq base g kb D ho HHO.out _ (Disk.drewN LA8.out.disk _) (by omega)).mono fun e w' h => ⟨h.1, h.2.symm⟩)))
              go_wp2_with fail
              go_ret3
              exact nextPost.none HN.out (X8.out.drewN nq)
          · have e3 := neb_int hs3
            have HN := Lib.hid (HNX2.out.trans (if_pos (by rw [HF4.out]; exact .inr (.inr (.inl hs3)))))
            go_quiet (first | ((go_at_call 36); exact Calls.quiet_of_same ((Good_any q l4 _ _ (R8.out.drewN _)).mono fun e w' h => ⟨h.1, h.2.symm⟩)) | ((go_at_call 72); exact Calls.quiet_of_same ((half_eq base g kb D ho HHO.out _ (Disk.drewN LA8.out.disk _) (by omega)).mono fun e w' h => ⟨h.1, h.2.symm⟩)))
            go_wp2_with fail
            go_ret3
            exact nextPost.none HN.out (X8.out.drewN nq)
        · have HN := Lib.hid (HNX2.out.trans (if_pos (by rw [HF4.out]; exact .inr (.inl rfl))))
          go_quiet (first | ((go_at_call 36); exact Calls.quiet_of_same ((Good_any q l4 _ _ (R8.out.drewN _)).mono fun e w' h => ⟨h.1, h.2.symm⟩)) | ((go_at_call 72); exact Calls.quiet_of_same ((half_eq base g kb D ho HHO.out _ (Disk.drewN LA8.out.disk _) (by omega)).mono fun e w' h => ⟨h.1, h.2.symm⟩)))
          go_wp2_with fail
          go_ret3
          exact nextPost.none HN.out (X8.out.drewN nq)
      · have hcn : ((c.toNat : Int) != 2) = true := by
          rw [bne_iff_ne]
          intro e
          exact hc2 (UInt8.toNat_inj.1 (by show c.toNat = 2; omega))
        have HN := Lib.hid (HNX2.out.trans (if_pos (by rw [HF4.out]; refine .inl ?_; show s.headD 0 ≠ 2; rw [HCT.out]; exact hc2)))
        go_quiet (first | ((go_at_call 36); exact Calls.quiet_of_same ((Good_any q l4 _ _ (R8.out.drewN _)).mono fun e w' h => ⟨h.1, h.2.symm⟩)) | ((go_at_call 72); exact Calls.quiet_of_same ((half_eq base g kb D ho HHO.out _ (Disk.drewN LA8.out.disk _) (by omega)).mono fun e w' h => ⟨h.1, h.2.symm⟩)))
        go_wp2_with fail
        go_ret3
        exact nextPost.none HN.out (X8.out.drewN nq)
    · have hne := eq_int hen
      have hne2 := ne_int hen
      have HNX2 := Lib.hid (HNX.out.trans (if_pos hen))
      go_wp2_with (first
        | (refine wpList_alloc_z rfl 63 rfl Z HI.out.1 ?_)
        | (refine wpList_store_new rfl 63 (.tmp 5) (.tmp 34) rfl w2 63 Z _ rfl rfl hi.out hZs.out h1.out ?_))
      go_ret3
      exact nextPost.none HNX2.out X3.out
end Go.Proofs.Ytgkoblgpadpcjaa
