/- A log: Rewrite, up to its halves' turn. -/
import Derived.Test.YtgkoblgpadpcjaaLogS
namespace Go.Proofs.Ytgkoblgpadpcjaa
open Go.RowKit

theorem roomOf_le : ∀ (l : List (List UInt8)) (m n : Nat), roomOf l m = some n → m ≤ n
  | [], m, n, h => by obtain rfl := Option.some.inj h; exact Nat.le_refl _
  | b :: r, m, n, h => by
    rw [roomOf] at h
    split at h
    · cases h
    · have := roomOf_le r _ _ h; omega
theorem roomOf_cons {b : List UInt8} {r : List (List UInt8)} {m n : Nat} (h : roomOf (b :: r) m = some n) : b.length ≤ 4096 ∧ roomOf r (m + sectorsOf b.length) = some n := by
  rw [roomOf] at h
  split at h
  · cases h
  · exact ⟨by omega, h⟩
def rewPost (base g kb l : Nat) (lv : Value) (w : World) (r : Dk × Lg × Nat) (e : Ending) (w' : World) : Prop :=
  e = .returned (.int .i64 (r.2.2 : Nat)) ∧ ∃ lv', LOnly base g kb l none w w' ∧ LogAt base w' g kb l lv' r.1 r.2.1 ∧ (lv' = lv ∨ ∀ q, lv'.ownBlock = some q → w.heap.size ≤ q)
/-- Records that came in, and stand whatever a log does. -/
def Stands (base g kb l : Nat) (w : World) (rv : Value) (ls : List (List UInt8)) : Prop :=
  ∃ a c, rv = .slice a ls.length c ∧ ∀ i, (h : i < ls.length) → ∃ b o u, a = some ⟨b, o, none⟩ ∧ ∀ W, LOnly base g kb l none w W → W.cell? ⟨b, o + i, none⟩ = some u ∧ Bytes W u ls[i]
theorem rows_at {base g kb l : Nat} {w : World} {a : Option Addr} {n c : Nat} {ls : List (List UInt8)} (h : Stands base g kb l w (.slice a n c) ls) (k : Nat) (hk : k < ls.length) :
    ∃ b o au cu, a = some ⟨b, o, none⟩ ∧ ∀ W, LOnly base g kb l none w W → W.cell? ⟨b, o + k, none⟩ = some (.slice au ls[k].length cu) ∧ Bytes W (.slice au ls[k].length cu) ls[k] := by
  obtain ⟨a', c', e, hc⟩ := h
  simp only [Value.slice.injEq] at e
  obtain ⟨rfl, rfl, rfl⟩ := e
  obtain ⟨b, o, u, rfl, hu⟩ := hc k hk
  obtain ⟨au, cu, rfl, -⟩ := (hu w LOnly.refl).2
  exact ⟨b, o, au, cu, rfl, hu⟩
def rewRel1 (ls : List (List UInt8)) (n i : Value) : Prop := ∃ (k m : Nat), k ≤ ls.length ∧ i = .int .i64 k ∧ n = .int .i64 m ∧ m ≤ k * 70 ∧ Hid (roomOf ls 0 = roomOf (ls.drop k) m)

theorem splice_bytes (X t : List UInt8) (o : Nat) : splice (byteVals X) o (byteVals t) = byteVals (splice X o t) := by
  unfold splice byteVals; simp
theorem head_splice (e c : Nat) : splice (splice (byteVals (1 :: List.replicate 63 0)) 1 (byteVals (le4 e))) 5 (byteVals (le4 c)) = byteVals (pad64 ((1 :: le4 e) ++ le4 c)) := by
  rw [splice_bytes, splice_bytes]; rfl
theorem head_five (e : Nat) : (splice (1 :: List.replicate 63 0) 1 (le4 e)).take 5 = 1 :: le4 e := rfl
theorem headSec_len (e : Nat) : (headSec e).length = 64 := rfl
theorem crc_one {W : World} {g : Nat} {l : List UInt8} {sm : Nat} (hs : sm = crcOf l) (h : RowsN W g 1 [l]) :
    Calls Try.prog 18 #[.slice (some ⟨g, 0, none⟩) 1 1] W fun e w' => e = .returned (.int .u32 (sm : Nat)) ∧ W = w' := by
  subst hs
  have := crc_any h (by omega)
  simpa using this
/-- The first bytes of a block of bytes. -/
theorem block_bytes {W : World} {B : Nat} {X : List UInt8} {t : TypeId} (h : W.heap[B]? = some (.cells (byteVals X).toArray t (0, 0))) (n c : Nat) (hn : n ≤ X.length) (hc : n ≤ c) (hc2 : c ≤ 9223372036854775807) : Bytes W (.slice (some ⟨B, 0, none⟩) n c) (X.take n) := by
  have hl : (X.take n).length = n := by rw [List.length_take]; omega
  refine ⟨some ⟨B, 0, none⟩, c, by rw [hl], by omega, hc2, (fun h => by cases h), fun i hi => ⟨B, 0, rfl, ?_⟩⟩
  rw [Nat.zero_add, cell_of_row W B i _ t (0, 0) h, List.getElem?_toArray, byteVals_get X i (by omega)]
  simp
def rewRel2 (base g kb l : Nat) (D : Dk) (L : Lg) (w : World) (ls : List (List UInt8)) (n : Nat) (i : Value) (wr : World) : Prop :=
  ∃ (k : Nat) (E : Dk) (M : Lg) (lvk : Value), i = .int .i64 k ∧ k ≤ ls.length ∧ Hid (LogAt base wr g kb l lvk E M) ∧ Hid (LOnly base g kb l none w wr) ∧ Hid (putAll (ls.drop k) E M = putAll ls D L.anew) ∧ Hid (roomOf (ls.drop k) M.at_ = some n) ∧ M.list.length = k ∧ M.epoch < 4294967296 ∧ Hid (M.dead = false) ∧
    E.steps ≤ D.steps + 70 * k ∧ E.cache.length ≤ D.cache.length + 70 * k ∧ E.kept.length = D.kept.length ∧ Hid (∀ q, lvk.ownBlock = some q → w.heap.size ≤ q)
theorem RecRow.nil (base : Nat) (w : World) : RecRow base w (.slice none 0 0) [] := ⟨[], World.ownsRow_nil _ _ _ _, fun i hi => absurd hi (by simp)⟩
section
variable {base g kb l : Nat} {w : World} {lv : Value} {D : Dk} {L : Lg}
/-- The log, begun anew. -/
theorem LogAt.anew (h : LogAt base w g kb l lv D L) (t1 h1 : Nat) (ht : t1 = L.top + 1) (hh : h1 = 1 - L.half) :
    LogAt base (((((w.setCell ⟨l, 2, none⟩ (.int .i64 (t1 : Int))).setCell ⟨l, 1, none⟩ (.int .i64 (t1 : Int))).setCell ⟨l, 3, none⟩ (.int .i64 (h1 : Int))).setCell ⟨l, 4, none⟩ (.int .i64 0)).setCell ⟨l, 5, none⟩ (.slice none 0 0)) g kb l (.slice none 0 0) D L.anew := by
  subst ht; subst hh
  have a1 := h.put 2 (.int .i64 ((L.top + 1 : Nat) : Int)) { L with top := L.top + 1 } lv rfl h.rows h.half h.at_
  have a2 := a1.put 1 (.int .i64 ((L.top + 1 : Nat) : Int)) { L with top := L.top + 1, epoch := L.top + 1 } lv rfl a1.rows h.half h.at_
  have a3 := a2.put 3 (.int .i64 ((1 - L.half : Nat) : Int)) { L with top := L.top + 1, epoch := L.top + 1, half := 1 - L.half } lv rfl a2.rows (by show 1 - L.half ≤ 1; omega) h.at_
  have a4 := a3.put 4 (.int .i64 0) { L with top := L.top + 1, epoch := L.top + 1, half := 1 - L.half, at_ := 0 } lv rfl a3.rows (by show 1 - L.half ≤ 1; omega) (Nat.zero_le _)
  exact a4.put 5 (.slice none 0 0) { L with top := L.top + 1, epoch := L.top + 1, half := 1 - L.half, at_ := 0, list := [] } (.slice none 0 0) rfl (RecRow.nil _ _) (by show 1 - L.half ≤ 1; omega) (Nat.zero_le _)
end
theorem putAll_cons {b : List UInt8} {r : List (List UInt8)} {E E2 : Dk} {M : Lg} {en : Nat} (h : putP E M M.at_ M.list.length b = (E2, en)) :
    putAll (b :: r) E M = if en = 0 then putAll r E2 { M with at_ := M.at_ + sectorsOf b.length, list := M.list ++ [b] } else (E2, M.die en, en) := by
  rw [putAll, h]

set_option maxRecDepth 100000 in
set_option maxHeartbeats 4000000 in
theorem Rewrite_any (base g kb l : Nat) (lv : Value) (D : Dk) (L : Lg) (rv : Value) (ls : List (List UInt8)) (w : World) (h : LogAt base w g kb l lv D L) (hb : Stands base g kb l w rv ls) (hll : ls.length ≤ 1000) (hbl : ∀ b ∈ ls, b.length ≤ 16777216)
    (hep : L.top < 4294967290) (hst : D.steps ≤ 800000000) (hc : D.cache.length ≤ 800000000) (hB : base ≤ w.heap.size) :
    Calls Try.prog 60 #[.pointer (some ⟨l, 0, none⟩), rv] w (rewPost base g kb l lv w (rewriteP D L ls)) := by
  have HL := Lib.hid h
  have HB := Lib.hid hb
  obtain ⟨ab, capb, rfl, -⟩ := hb
  obtain ⟨al, cl, rfl⟩ := h.rows.shape
  obtain ⟨c0, c1, c2, c3, c4, c5, c6, hf⟩ := h.cells
  have hm := h.disk.wf.most
  have h6 := h.six
  have hh : halfOf D ≤ 4096 := by unfold halfOf; omega
  clear h
  cases hd : L.dead
  · rw [hd] at c6
    have HS := Lib.hid (show rewriteP D L ls = match roomOf ls 0 with
      | none => (D, L, 6)
      | some n => if halfOf D < n then (D, L, 7) else if (putAll ls D L.anew).2.2 = 0 then finishP (putAll ls D L.anew).1 (putAll ls D L.anew).2.1 else putAll ls D L.anew by unfold rewriteP; rw [if_neg (by rw [hd]; decide)]; rfl)
    have HDD := Lib.hid hd
    clear hd
    go_enter Try.func60, Try.ntmps60
    go_wp2_with fail
    go_loop [5, 20] (rewRel1 ls) (fun _ i => ls.length - (intOf i).toNat)
    case atStart => exact ⟨0, 0, Nat.zero_le _, rfl, rfl, Nat.zero_le _, rfl⟩
    case round =>
      obtain ⟨k, m, hk, rfl, rfl, hmk, hro⟩ := hrel
      by_cases hlt : k < ls.length
      · obtain ⟨bb, o, au, cu, rfl, heb⟩ := rows_at HB.out k hlt
        obtain ⟨e0, eb⟩ := heb w LOnly.refl
        clear heb
        have hbk := hbl _ (List.getElem_mem hlt)
        have HD := Lib.hid (show ls.drop k = ls[k] :: ls.drop (k + 1) from List.drop_eq_getElem_cons hlt)
        generalize ls[k] = b at *
        by_cases hlong : 4096 < b.length
        · have HX := Lib.hid (show roomOf ls 0 = none by rw [hro.out, HD.out, roomOf, if_pos hlong])
          have hlt2 : ((4096 : Int) < (b.length : Int)) := by omega
          clear hro eb
          go_wp2_with fail
          go_ret
          rw [HS.out, HX.out]
          exact ⟨rfl, _, LOnly.refl, HL.out, .inl rfl⟩
        · have hlong' : ¬ ((4096 : Int) < (b.length : Int)) := by omega
          obtain ⟨ks, hks⟩ : ∃ ks, ks = sectorsOf b.length := ⟨_, rfl⟩
          have hks2 : ks ≤ 66 := by unfold sectorsOf at hks; omega
          have HX := Lib.hid (show roomOf ls 0 = roomOf (ls.drop (k + 1)) (m + ks) by rw [hro.out, HD.out, roomOf, if_neg hlong, hks])
          have HKS := Lib.hid hks
          clear hro eb hks
          go_wp2_with ((go_at_call 71); refine (sectors_eq b.length ks HKS.out (by omega) _).mono ?_; rintro e w' ⟨rfl, rfl⟩)
          go_round
          case rel => exact ⟨k + 1, m + ks, by omega, by go_num, by go_num, by omega, HX⟩
          case measure => simp [intOf]; omega
      · have hkl : k = ls.length := by omega
        have HX := Lib.hid (show roomOf ls 0 = some m by rw [hro.out, hkl, List.drop_length]; rfl)
        clear hro
        by_cases hfull : halfOf D < m
        · obtain ⟨ho, hho⟩ : ∃ ho, ho = halfOf D := ⟨_, rfl⟩
          have HHO := Lib.hid hho
          have hfd : decide (ho < m) = true := by rw [decide_eq_true_iff]; omega
          have HF := Lib.hid hfull
          clear hho hh hfull
          go_wp2_with ((go_at_call 72); refine (half_eq base g kb D ho HHO.out _ HL.out.disk (by omega)).mono ?_; rintro e w' ⟨rfl, rfl⟩)
          go_ret
          rw [HS.out, HX.out]
          dsimp only
          rw [if_pos HF.out]
          exact ⟨rfl, _, LOnly.refl, HL.out, .inl rfl⟩
        · obtain ⟨ho, hho⟩ : ∃ ho, ho = halfOf D := ⟨_, rfl⟩
          have HHO := Lib.hid hho
          have hfd : decide (ho < m) = false := by rw [decide_eq_false_iff_not]; omega
          have HF := Lib.hid hfull
          obtain ⟨t1, ht1⟩ : ∃ t1, t1 = L.top + 1 := ⟨_, rfl⟩
          obtain ⟨h1, hh1⟩ : ∃ h1, h1 = 1 - L.half := ⟨_, rfl⟩
          have hh1' := HL.out.half
          have hs1 : IntKind.i64.wrap ((L.top : Int) + 1) = (t1 : Int) := by rw [IntWalk.i64_in _ (by omega)]; omega
          have hs2 : IntKind.i64.wrap (1 - (L.half : Int)) = (h1 : Int) := by rw [IntWalk.i64_in _ (by omega)]; omega
          have HT := Lib.hid (And.intro ht1 hh1)
          clear hho hh hfull ht1 hh1
          go_wp2_with ((go_at_call 72); refine (half_eq base g kb D ho HHO.out _ HL.out.disk (by omega)).mono ?_; rintro e w' ⟨rfl, rfl⟩)
          have LA1 := Lib.hid (HL.out.anew t1 h1 HT.out.1 HT.out.2)
          have XL1 := Lib.hid (((((LOnly.refl (base := base) (g := g) (kb := kb) (l := l) (lb := none) (a := w)).setL 2 (.int .i64 (t1 : Int))).setL 1 (.int .i64 (t1 : Int))).setL 3 (.int .i64 (h1 : Int))).setL 4 (.int .i64 0) |>.setL 5 (.slice none 0 0))
          generalize hw1 : ((((w.setCell ⟨l, 2, none⟩ (.int .i64 (t1 : Int))).setCell ⟨l, 1, none⟩ (.int .i64 (t1 : Int))).setCell ⟨l, 3, none⟩ (.int .i64 (h1 : Int))).setCell ⟨l, 4, none⟩ (.int .i64 0)).setCell ⟨l, 5, none⟩ (.slice none 0 0) = w1 at *
          clear hw1 hs1 hs2 c0 c1 c2 c3 c4 c5 c6 hf
          go_loopw [70] (fun i wr => rewRel2 base g kb l D L w ls m i wr) (fun i _ => ls.length - (intOf i).toNat)
          case atStart => exact ⟨0, D, L.anew, _, rfl, Nat.zero_le _, LA1, XL1, rfl, HX, rfl, (by show L.top + 1 < 4294967296; omega), (by show L.dead = false; exact HDD.out), by omega, by omega, rfl, Lib.hid (by intro q hq; simp [Value.ownBlock] at hq)⟩
          case round =>
            obtain ⟨k, E, M, lvk, rfl, hk, hla, hxl, hpa, hro, hml, hme, hmd, hes, hec, hek, hlb⟩ := hrel
            by_cases hlt : k < ls.length
            · skip
              obtain ⟨bb, o, au, cu, rfl, heb⟩ := rows_at HB.out k hlt
              have HRA := Lib.hid (show ∀ W, LOnly base g kb l none w W → Bytes W (.slice au ls[k].length cu) ls[k] from fun W hW => (heb W hW).2)
              obtain ⟨e0, eb⟩ := heb wr hxl.out
              clear heb
              have HD := Lib.hid (show ls.drop k = ls[k] :: ls.drop (k + 1) from List.drop_eq_getElem_cons hlt)
              generalize ls[k] = b at *
              have hrc := roomOf_cons (by rw [← HD.out]; exact hro.out)
              obtain ⟨hb4, hro2⟩ := hrc
              have hle2 := roomOf_le _ _ _ hro2
              have HRO2 := Lib.hid hro2
              have HML := Lib.hid hml
              obtain ⟨ak, ck, rfl⟩ := hla.out.rows.shape
              rw [hml] at hla hlb
              obtain ⟨ks, hks⟩ : ∃ ks, ks = sectorsOf b.length := ⟨_, rfl⟩
              obtain ⟨sk, hsk⟩ : ∃ sk, sk = M.at_ + ks := ⟨_, rfl⟩
              have hatE := hla.out.at_
              have hks2 : ks ≤ 66 := by unfold sectorsOf at hks; omega
              have hhE : halfOf E = halfOf D := by unfold halfOf; rw [hek]
              have hho4 := HL.out.disk.wf.most
              have hhD : halfOf D ≤ 4096 := by unfold halfOf; omega
              have hm4 : m ≤ halfOf D := by have := HF.out; omega
              have HSU := Lib.hid (show IntKind.i64.wrap ((M.at_ : Int) + (ks : Int)) = (sk : Int) by rw [IntWalk.i64_in _ (by omega)]; omega)
              have hat4 : M.at_ ≤ 4096 := by omega
              have hskh : sk ≤ halfOf D := by rw [← hks] at hle2; omega
              have HKS := Lib.hid hks
              have HSK := Lib.hid hsk
              have HSH := Lib.hid hskh
              clear hks hsk hro2 hro hml hle2 hatE hhE hho4 hhD hm4 hskh
              obtain ⟨c0, c1, c2, c3, c4, c5, c6, hf⟩ := hla.out.cells
              clear hf c1 c2 c3 c5 c6
              have HPK := Lib.hid (putP_kept E M M.at_ k b hb4)
              go_wp2_with fail
              refine (put_any base g kb l _ E M M.at_ k _ b _ hla.out eb hb4 (by omega) (by omega) hme (by omega) (by omega) (Nat.le_trans hB hxl.out.size)).mono ?_
              rintro e w3 ⟨rfl, o3, d3⟩
              have LA3 := Lib.hid (hla.out.only o3 d3 HPK.out.1)
              have X3 := Lib.hid (hxl.out.trans (o3.lonly (l := l) (lb := none)) (.inl rfl))
              have hpk := HPK.out
              generalize hr : putP E M M.at_ k b = r at *
              obtain ⟨D3, en⟩ := r
              have hpk2 : D3.kept.length = E.kept.length ∧ D3.steps ≤ E.steps + 66 ∧ D3.cache.length ≤ E.cache.length + 66 := hpk
              obtain ⟨hp1, hp2, hp3⟩ := hpk2
              have HPC := Lib.hid (putAll_cons (r := ls.drop (k + 1)) (show putP E M M.at_ M.list.length b = (D3, en) by rw [HML.out]; exact hr))
              clear o3 d3 hpk hr HPK e0 c0 c4 eb
              by_cases hen : en = 0
              · have HPC2 := Lib.hid (HPC.out.trans (if_pos hen))
                subst hen
                obtain ⟨c0, c1, c2, c3, c4, c5, c6, hf⟩ := LA3.out.cells
                have hf4 := hf 4
                clear hf c0 c1 c2 c3 c5 c6
                go_upto_region 23 with (fail)
                refine wp_region_still_tail 10 (by kernel_rfl) (by kernel_rfl) ?_
                simp only [List.take_succ_cons, List.take_zero, List.drop_succ_cons, List.drop_zero]
                repeat still_step
                have hsu := HSU.out
                still_call (sectors_eq b.length ks HKS.out (by omega) _)
                repeat still_step
                refine wpStill_nil ?_
                clear hsu
                change wpList _ _ _ _ _ w3.drew
                have hh3 : halfOf D3 = halfOf D := by unfold halfOf; rw [hp1, hek]
                have LA5 := Lib.hid ((LA3.out.ext ((Ext.refl w3).drew)).put 4 (.int .i64 (sk : Int)) { M with at_ := sk } _ rfl (LA3.out.ext ((Ext.refl w3).drew)).rows LA3.out.half (by rw [hh3]; exact HSH.out))
                have X5 := Lib.hid ((X3.out.drew).setL 4 (.int .i64 (sk : Int)))
                clear hh3
                go_upto_region 24 with (fail)
                have e45 : (w3.drew).setCell ⟨l, 4, none⟩ (.int .i64 (sk : Int)) = (w3.setCell ⟨l, 4, none⟩ (.int .i64 (sk : Int))).drew := rfl
                rw [e45] at LA5 X5
                generalize hw5 : (w3.setCell ⟨l, 4, none⟩ (.int .i64 (sk : Int))).drew = w5 at *
                have HB5 := Lib.hid (HRA.out _ X5.out.drew)
                clear hw5 e45 c4 hf4
                obtain ⟨c0, c1, c2, c3, c4, c5, c6, hf⟩ := LA5.out.cells
                clear hf c0 c1 c2 c3 c4 c6
                obtain ⟨i0, hi0, hz0, hz1, hz2⟩ := info_parts Try.info22'
                have HI := Lib.hid (And.intro hi0 (And.intro hz0 (And.intro hz1 hz2)))
                clear hi0 hz0 hz1 hz2
                go_region_law (first
                  | (refine step_append_empty_bytes rfl (.const (.slice none 0 0)) (.tmp 103) 22 rfl Try.underlying22 _ _ rfl rfl b HB5.out (by omega) ?_; intro v7 w7 f7; have x7 : Ext w5 w7 := (Ext.refl w5).drew.trans f7.below; have X7 := Lib.hid x7; have F7 := Lib.hid (f7.ownb (Nat.le_trans hB X5.out.size)); (obtain ⟨a7, c7, rfl, -⟩ := f7.bytes); have c57 := x7.cell c5; have c58 := (x7.alloc (.cells #[.slice a7 b.length c7] 22)).cell c5; have LA7 := Lib.hid (LA5.out.ext x7); (obtain ⟨vs, hr7, hi7⟩ := LA7.out.rows); have HR7 := Lib.hid hr7; have HI7 := Lib.hid hi7; clear f7 x7 hr7 hi7)
                  | (refine step_append_src rfl (.tmp 102) (.tmp 105) 92 rfl base 22 i0 _ 1 24 Try.underlying92' HI.out.1 HI.out.2.1 HI.out.2.2.1 HI.out.2.2.2 rfl (by decide) _ _ rfl rfl k vs (by have h9 := HR7.out.alloc (.cells #[.slice a7 b.length c7] 22); rw [show ({ M with at_ := sk } : Lg).list.length = k from HML.out] at h9; exact h9) 1 [.slice a7 b.length c7] rfl (src_lit1 _ _ _ _) (by simp [Value.oneCell']) (by unfold maxLen; omega) (by omega) (by have := X5.out.size; have := X7.out.size; simp; omega) ?_; intro v8 w8 o8 g8 n8; (obtain ⟨a8, m8, c8, rfl⟩ := row_shape o8); have P8 := LA7.out.pushed F7.out HR7.out HI7.out (by rw [show ({ M with at_ := sk } : Lg).list.length = k from HML.out]; exact o8) g8; have q1 := P8.2.2.1; have q2 := P8.2.2.2; have P81 := Lib.hid P8.1; have P82 := Lib.hid P8.2.1; have N8 := Lib.hid (new_le n8 (show w.heap.size ≤ _ from Nat.le_trans X5.out.size (Nat.le_trans X7.out.size (by simp)))); clear P8 o8 g8 n8))
                all_goals
                  go_wp2_with fail
                  go_roundw
                  case rel =>
                    refine ⟨k + 1, D3, { M with at_ := sk, list := M.list ++ [b] }, _, by go_num, by omega, P81, Lib.hid ?_, Lib.hid ?_, Lib.hid ?_, ?_, hme, hmd, by omega, by omega, by omega, Lib.hid ?_⟩
                    · exact (X5.out.trans (X7.out.lonly (lb := none)) (.inl rfl)).trans P82.out (.inr hlb.out)
                    · have e1 := HPC2.out
                      rw [← HD.out] at e1
                      rw [HSK.out, HKS.out, ← e1]
                      exact hpa.out
                    · show roomOf (ls.drop (k + 1)) sk = some m
                      rw [HSK.out, HKS.out]
                      exact HRO2.out
                    · show (M.list ++ [b]).length = k + 1
                      rw [List.length_append, HML.out]; rfl
                    · rcases N8.out with e | e
                      · rw [e]; exact hlb.out
                      · exact e
                  case measure => simp [intOf]; omega
              · have hne := eq_int hen
                have hne2 := ne_int hen
                go_wp2_with fail
                refine (die_any base g kb l _ D3 M en _ LA3.out).mono ?_
                rintro e w9 ⟨rfl, o9, d9⟩
                have O9 := Lib.hid o9
                have D9 := Lib.hid d9
                clear o9 d9
                go_wp2_with fail
                go_ret
                have e1 := HPC.out
                rw [if_neg hen, ← HD.out, hpa.out] at e1
                rw [HS.out, HX.out]
                dsimp only
                rw [if_neg HF.out, e1, if_neg hen]
                exact ⟨rfl, _, X3.out.trans O9.out (.inr hlb.out), D9.out, .inr hlb.out⟩
            · have hkl : k = ls.length := by omega
              have HPA := Lib.hid (show putAll ls D L.anew = (E, M, 0) by rw [← hpa.out, hkl, List.drop_length]; rfl)
              have HFI := Lib.hid (show rewriteP D L ls = finishP E M by
                rw [HS.out, HX.out]
                dsimp only
                rw [if_neg HF.out, HPA.out]; rfl)
              clear hpa hro
              obtain ⟨c0, c1, c2, c3, c4, c5, c6, hf⟩ := hla.out.cells
              clear hf c1 c2 c3 c4 c5 c6
              go_wp2_with fail
              refine (Flush_any base g kb E _ hla.out.disk (by omega) (Nat.le_trans hB hxl.out.size)).mono ?_
              rintro e w4 ⟨rfl, o4, d4⟩
              have hfk := flush_kept E
              have HFP := Lib.hid (show finishP E M = if (E.flush).2 = 0 then ((headP (E.flush).1 M).1, M.die (headP (E.flush).1 M).2, (headP (E.flush).1 M).2) else ((E.flush).1, M.die (E.flush).2, (E.flush).2) from rfl)
              generalize hr4 : E.flush = r4 at *
              obtain ⟨D4, fn⟩ := r4
              have hfk1 : D4.kept.length = E.kept.length := hfk.1
              have hfk2 : D4.steps ≤ E.steps + 1 := hfk.2.1
              have hfk3 : D4.cache.length ≤ E.cache.length := hfk.2.2
              have LA4 := Lib.hid (hla.out.only o4 d4 hfk1)
              have X4 := Lib.hid (hxl.out.trans (o4.lonly (l := l) (lb := none)) (.inl rfl))
              clear o4 d4 hfk hr4 c0
              by_cases hfn : fn = 0
              · subst hfn
                obtain ⟨Z, hZ⟩ : ∃ Z, Z = (byteVals zero64).toArray := ⟨_, rfl⟩
                have HI : Hid (ZFacts Z) := by rw [hZ]; exact zfacts
                obtain ⟨ZA, hZA⟩ : ∃ ZA, ZA = byteVals (1 :: List.replicate 63 0) := ⟨_, rfl⟩
                have hz0 : Z[0]? = some (.int .u8 0) := by rw [hZ]; rfl
                have hz1 : Z.setIfInBounds 0 (.int .u8 1) = ZA.toArray := by rw [hZ, hZA]; rfl
                have HZA := Lib.hid hZA
                have HZL := Lib.hid (show ZA.length = 64 by rw [hZA]; rfl)
                clear hZ hZA
                go_upto_region 31 with (refine wpList_alloc_z rfl 63 rfl Z HI.out.1 ?_)
                have XA := Lib.hid ((Ext.refl w4).alloc (.cells ZA.toArray 63))
                have LAA := Lib.hid (LA4.out.ext XA.out)
                have C14 := Lib.hid (LA4.out.cells.2.1)
                obtain ⟨c0, c1, c2, c3, c4, c5, c6, hf⟩ := LAA.out.cells
                clear hf c0 c2 c3 c4 c5 c6
                have HNB := Lib.hid (heap_alloc_new w4 (.cells ZA.toArray 63))
                obtain ⟨N1, hN1⟩ : ∃ N1, N1 = byteVals (le4 M.epoch) := ⟨_, rfl⟩
                have HN1 := Lib.hid (And.intro hN1 (show N1.length = 4 by rw [hN1]; rfl))
                have HN1o := Lib.hid (show ∀ v ∈ N1, v.oneCell' = true by rw [hN1]; exact byteVals_oneCell _)
                have HNC := Lib.hid (show numCells (M.epoch : Int) = N1.toArray by rw [hN1]; unfold numCells; rw [show ((M.epoch : Int) % 4294967296).toNat = M.epoch by omega])
                clear hN1 hz1 hz0
                generalize hwA : w4.alloc (.cells ZA.toArray 63) = wA at *
                have HWA := Lib.hid hwA
                have HSZ := Lib.hid (show wA.heap.size = w4.heap.size + 1 by rw [← hwA]; simp)
                clear hwA
                generalize hBB : w4.heap.size = B at *
                have HBB := Lib.hid hBB
                clear hBB
                refine wp_region_noPanic ?_
                refine wp_region_held_drew (S := fun W => W.cell? ⟨l, 1, none⟩ = some (.int .i64 M.epoch)) (by kernel_rfl) c1 (fun hHeld => ?_)
                refine wpAnyH_take (i := 0) (v := .slice (some ⟨B, 1, none⟩) 63 63) rfl (by kernel_rfl) (by kernel_rfl) (by kernel_rfl) (fun _ _ _ h => h) (Or.inl ⟨by rfl, (by intro w hSw; first | (go_simp; done) | (obtain ⟨hq1, hq2⟩ := hSw; go_simp; done) | (obtain ⟨hq1, hq2, hq3⟩ := hSw; go_simp; done) | (obtain ⟨hq1, hq2, hq3, hq4⟩ := hSw; go_simp; done) | (obtain ⟨hq1, hq2, hq3, hq4, hq5⟩ := hSw; go_simp; done))⟩) (by assumption) ?_
                try simp only [List.getElem_toArray, List.getElem_cons_zero, List.getElem_cons_succ, Act.put, List.setIfInBounds_toArray, List.set_cons_zero, List.set_cons_succ]
                refine wpAnyH_take (i := 1) (v := .pointer (some ⟨l, 0, none⟩)) rfl (by kernel_rfl) (by kernel_rfl) (by kernel_rfl) (fun _ _ _ h => h) (Or.inl ⟨by rfl, (by intro w hSw; first | (go_simp; done) | (obtain ⟨hq1, hq2⟩ := hSw; go_simp; done) | (obtain ⟨hq1, hq2, hq3⟩ := hSw; go_simp; done) | (obtain ⟨hq1, hq2, hq3, hq4⟩ := hSw; go_simp; done) | (obtain ⟨hq1, hq2, hq3, hq4, hq5⟩ := hSw; go_simp; done))⟩) (by assumption) ?_
                try simp only [List.getElem_toArray, List.getElem_cons_zero, List.getElem_cons_succ, Act.put, List.setIfInBounds_toArray, List.set_cons_zero, List.set_cons_succ]
                refine wpAnyH_take (i := 2) (v := .pointer (some ⟨l, 0, none⟩)) rfl (by kernel_rfl) (by kernel_rfl) (by kernel_rfl) (fun _ _ _ h => h) (Or.inl ⟨by rfl, (by intro w hSw; first | (go_simp; done) | (obtain ⟨hq1, hq2⟩ := hSw; go_simp; done) | (obtain ⟨hq1, hq2, hq3⟩ := hSw; go_simp; done) | (obtain ⟨hq1, hq2, hq3, hq4⟩ := hSw; go_simp; done) | (obtain ⟨hq1, hq2, hq3, hq4, hq5⟩ := hSw; go_simp; done))⟩) (by assumption) ?_
                try simp only [List.getElem_toArray, List.getElem_cons_zero, List.getElem_cons_succ, Act.put, List.setIfInBounds_toArray, List.set_cons_zero, List.set_cons_succ]
                refine wpAnyH_take (i := 3) (v := .pointer (some ⟨l, 1, none⟩)) rfl (by kernel_rfl) (by kernel_rfl) (by kernel_rfl) (fun _ _ _ h => h) (Or.inl ⟨by rfl, (by intro w hSw; first | (go_simp; done) | (obtain ⟨hq1, hq2⟩ := hSw; go_simp; done) | (obtain ⟨hq1, hq2, hq3⟩ := hSw; go_simp; done) | (obtain ⟨hq1, hq2, hq3, hq4⟩ := hSw; go_simp; done) | (obtain ⟨hq1, hq2, hq3, hq4, hq5⟩ := hSw; go_simp; done))⟩) (by assumption) ?_
                try simp only [List.getElem_toArray, List.getElem_cons_zero, List.getElem_cons_succ, Act.put, List.setIfInBounds_toArray, List.set_cons_zero, List.set_cons_succ]
                refine wpAnyH_take (i := 4) (v := .int .i64 M.epoch) rfl (by kernel_rfl) (by kernel_rfl) (by kernel_rfl) (fun _ _ _ h => h) (Or.inl ⟨by rfl, (by intro w hSw; first | (go_simp; done) | (obtain ⟨hq1, hq2⟩ := hSw; go_simp; done) | (obtain ⟨hq1, hq2, hq3⟩ := hSw; go_simp; done) | (obtain ⟨hq1, hq2, hq3, hq4⟩ := hSw; go_simp; done) | (obtain ⟨hq1, hq2, hq3, hq4, hq5⟩ := hSw; go_simp; done))⟩) (by assumption) ?_
                try simp only [List.getElem_toArray, List.getElem_cons_zero, List.getElem_cons_succ, Act.put, List.setIfInBounds_toArray, List.set_cons_zero, List.set_cons_succ]
                refine wpAnyH_ready (rs := [5]) (by kernel_rfl) (by simp) (AllReadyH.cons rfl (fun K hK => ?_) AllReadyH.nil)
                go_simp
                refine (Num_new _ _).mono ?_
                rintro e w5 ⟨rfl, hw5⟩
                rw [HNC.out] at hw5
                have HSZ5 : wA.drew.heap.size = B + 1 := HSZ.out
                rw [HSZ5]
                have X5 := Lib.hid (show Ext wA w5 from by rw [← hw5]; exact ((Ext.refl wA).drew).alloc _)
                have HN5 := Lib.hid (show w5.heap[B + 1]? = some (.cells N1.toArray 5 (0, 0)) from by rw [← hw5]; exact heap_at_new _ _ _ HSZ5.symm)
                have HB5 := Lib.hid (X5.out.keep HNB.out)
                clear hw5
                have c15 := X5.out.cell c1
                refine hK.out _ _ c15 (fun hHeld2 => ?_)
                clear hK K
                try simp only [List.getElem_toArray, List.getElem_cons_zero, List.getElem_cons_succ, Act.put, List.setIfInBounds_toArray, List.set_cons_zero, List.set_cons_succ]
                refine wpAnyH_ready (rs := [6]) (by kernel_rfl) (by simp) (AllReadyH.cons rfl (fun K hK => ?_) AllReadyH.nil)
                refine step_copy_splice rfl (.tmp 121) (.tmp 126) 22 32 rfl 5 Try.underlying22 Try.size5 (some ⟨B, 1, none⟩) (some ⟨B + 1, 0, none⟩) 63 63 4 4 rfl rfl B 1 ZA 63 HB5.out N1 (by rw [HN1.out.2]; rfl) (fun _ => ⟨rfl, _, rfl, fun j v hj => by rw [Addr.add_lit, Nat.zero_add, cell_of_row _ _ _ _ _ _ HN5.out, List.getElem?_toArray]; exact hj⟩) (by rw [HN1.out.2, HZL.out]; omega) HN1o.out B w4 (by have h9 := XA.out.trans X5.out; unfold Ext at h9; rw [HBB.out] at h9; exact h9) (Nat.le_refl _) ?_
                intro w6 HG6 hB6
                have X6 := Lib.hid (show Ext w4 w6 from by unfold Ext; rw [HBB.out]; exact hB6)
                have c16 := X6.out.cell C14.out
                refine hK.out _ _ c16 (fun hHeld3 => ?_)
                clear hK K hB6
                try simp only [List.getElem_toArray, List.getElem_cons_zero, List.getElem_cons_succ, Act.put, List.setIfInBounds_toArray, List.set_cons_zero, List.set_cons_succ]
                refine wpAnyH_done (by kernel_rfl) ?_ _
                refine NoPanic.normal ?_
                have HG6b := Lib.hid (show w6.heap[B]? = some (.cells (byteVals (splice (1 :: List.replicate 63 0) 1 (le4 M.epoch))).toArray 63 (0, 0)) from by
                  rw [HG6.out, HZA.out, HN1.out.1, splice_bytes])
                obtain ⟨h5, hh5⟩ : ∃ h5 : List UInt8, h5 = 1 :: le4 M.epoch := ⟨_, rfl⟩
                have BH5 := Lib.hid (show Bytes w6 (.slice (some ⟨B, 0, none⟩) 5 64) h5 from by
                  have h9 := block_bytes HG6b.out 5 64 (by show 5 ≤ 64; omega) (by omega) (by omega)
                  rw [head_five, ← hh5] at h9
                  exact h9)
                obtain ⟨sm, hsm⟩ : ∃ sm, sm = crcOf h5 := ⟨_, rfl⟩
                have hsl : sm < 4294967296 := by rw [hsm]; exact crcOf_lt _
                have hwr : IntKind.i64.wrap (sm : Int) = (sm : Int) := IntWalk.i64_in _ (by omega)
                have HSM := Lib.hid hsm
                have HH5 := Lib.hid hh5
                obtain ⟨N2, hN2⟩ : ∃ N2, N2 = byteVals (le4 sm) := ⟨_, rfl⟩
                have HN2 := Lib.hid (And.intro hN2 (show N2.length = 4 by rw [hN2]; rfl))
                have HN2o := Lib.hid (show ∀ v ∈ N2, v.oneCell' = true by rw [hN2]; exact byteVals_oneCell _)
                have HNC2 := Lib.hid (show numCells (sm : Int) = N2.toArray by rw [hN2]; unfold numCells; rw [show ((sm : Int) % 4294967296).toNat = sm by omega])
                clear hN2 hsm hh5 hHeld hHeld2 hHeld3 c16 c15 c1
                obtain ⟨n6, hn6⟩ : ∃ n6, n6 = w6.heap.size := ⟨_, rfl⟩
                have HN6 := Lib.hid hn6
                clear hn6
                go_upto_region 32 with (fail)
                refine wp_region_noPanic ?_
                refine wp_region_held_drew (S := fun _ => True) (by kernel_rfl) trivial (fun _ => ?_)
                refine wpAnyH_take (i := 0) (v := .slice (some ⟨B, 5, none⟩) 59 59) rfl (by kernel_rfl) (by kernel_rfl) (by kernel_rfl) (fun _ _ _ h => h) (Or.inl ⟨by rfl, (by intro w hSw; first | (go_simp; done) | (obtain ⟨hq1, hq2⟩ := hSw; go_simp; done) | (obtain ⟨hq1, hq2, hq3⟩ := hSw; go_simp; done) | (obtain ⟨hq1, hq2, hq3, hq4⟩ := hSw; go_simp; done) | (obtain ⟨hq1, hq2, hq3, hq4, hq5⟩ := hSw; go_simp; done))⟩) (by assumption) ?_
                try simp only [List.getElem_toArray, List.getElem_cons_zero, List.getElem_cons_succ, Act.put, List.setIfInBounds_toArray, List.set_cons_zero, List.set_cons_succ]
                refine wpAnyH_take (i := 1) (v := .slice (some ⟨B, 0, none⟩) 5 64) rfl (by kernel_rfl) (by kernel_rfl) (by kernel_rfl) (fun _ _ _ h => h) (Or.inl ⟨by rfl, (by intro w hSw; first | (go_simp; done) | (obtain ⟨hq1, hq2⟩ := hSw; go_simp; done) | (obtain ⟨hq1, hq2, hq3⟩ := hSw; go_simp; done) | (obtain ⟨hq1, hq2, hq3, hq4⟩ := hSw; go_simp; done) | (obtain ⟨hq1, hq2, hq3, hq4, hq5⟩ := hSw; go_simp; done))⟩) (by assumption) ?_
                try simp only [List.getElem_toArray, List.getElem_cons_zero, List.getElem_cons_succ, Act.put, List.setIfInBounds_toArray, List.set_cons_zero, List.set_cons_succ]
                refine wpAnyH_ready (rs := [2]) (by kernel_rfl) (by simp) (AllReadyH.cons rfl (fun K hK => ?_) AllReadyH.nil)
                go_simp
                rw [← HN6.out]
                have X7 := Lib.hid (show Ext w6 (w6.alloc (.cells #[.slice (some ⟨B, 0, none⟩) 5 64] 22)).drew from ((Ext.refl w6).alloc _).drew)
                have HN7 := Lib.hid (show (w6.alloc (.cells #[.slice (some ⟨B, 0, none⟩) 5 64] 22)).drew.heap[n6]? = some (.cells #[.slice (some ⟨B, 0, none⟩) 5 64] 22 (0, 0)) from heap_at_new _ _ _ HN6.out)
                have HZ7 := Lib.hid (show (w6.alloc (.cells #[.slice (some ⟨B, 0, none⟩) 5 64] 22)).drew.heap.size = n6 + 1 from by rw [HN6.out]; exact size_alloc _ _)
                generalize hw7 : (w6.alloc (.cells #[.slice (some ⟨B, 0, none⟩) 5 64] 22)).drew = w7 at *
                clear hw7
                refine hK.out _ _ trivial (fun _ => ?_)
                clear hK K
                try simp only [List.getElem_toArray, List.getElem_cons_zero, List.getElem_cons_succ, Act.put, List.setIfInBounds_toArray, List.set_cons_zero, List.set_cons_succ]
                refine wpAnyH_ready (rs := [3]) (by kernel_rfl) (by simp) (AllReadyH.cons rfl (fun K hK => ?_) AllReadyH.nil)
                go_simp
                refine (crc_one HSM.out (RowsN.one BH5.out X7.out HN7.out)).mono ?_
                rintro e w8 ⟨rfl, rfl⟩
                refine hK.out _ _ trivial (fun _ => ?_)
                clear hK K
                try simp only [List.getElem_toArray, List.getElem_cons_zero, List.getElem_cons_succ, Act.put, List.setIfInBounds_toArray, List.set_cons_zero, List.set_cons_succ]
                refine wpAnyH_take (i := 4) (v := .int .i64 (sm : Int)) rfl (by kernel_rfl) (by kernel_rfl) (by kernel_rfl) (fun _ _ _ h => h) (Or.inl ⟨by rfl, (by intro w hSw; first | (go_simp; done) | (obtain ⟨hq1, hq2⟩ := hSw; go_simp; done) | (obtain ⟨hq1, hq2, hq3⟩ := hSw; go_simp; done) | (obtain ⟨hq1, hq2, hq3, hq4⟩ := hSw; go_simp; done) | (obtain ⟨hq1, hq2, hq3, hq4, hq5⟩ := hSw; go_simp; done))⟩) (by assumption) ?_
                try simp only [List.getElem_toArray, List.getElem_cons_zero, List.getElem_cons_succ, Act.put, List.setIfInBounds_toArray, List.set_cons_zero, List.set_cons_succ]
                refine wpAnyH_ready (rs := [5]) (by kernel_rfl) (by simp) (AllReadyH.cons rfl (fun K hK => ?_) AllReadyH.nil)
                go_simp
                refine (Num_new _ _).mono ?_
                rintro e w8 ⟨rfl, hw8⟩
                rw [HNC2.out] at hw8
                rw [HZ7.out]
                have X8 := Lib.hid (show Ext w7 w8 from by rw [← hw8]; exact (Ext.refl w7).alloc _)
                have HN8 := Lib.hid (show w8.heap[n6 + 1]? = some (.cells N2.toArray 5 (0, 0)) from by rw [← hw8]; exact heap_at_new _ _ _ HZ7.out.symm)
                have HB8 := Lib.hid (X8.out.keep (X7.out.keep HG6.out))
                clear hw8
                refine hK.out _ _ trivial (fun _ => ?_)
                clear hK K
                try simp only [List.getElem_toArray, List.getElem_cons_zero, List.getElem_cons_succ, Act.put, List.setIfInBounds_toArray, List.set_cons_zero, List.set_cons_succ]
                refine wpAnyH_ready (rs := [6]) (by kernel_rfl) (by simp) (AllReadyH.cons rfl (fun K hK => ?_) AllReadyH.nil)
                refine step_copy_splice rfl (.tmp 128) (.tmp 133) 22 32 rfl 5 Try.underlying22 Try.size5 (some ⟨B, 5, none⟩) (some ⟨n6 + 1, 0, none⟩) 59 59 4 4 rfl rfl B 5 (splice ZA 1 N1) 63 HB8.out N2 (by rw [HN2.out.2]; rfl) (fun _ => ⟨rfl, _, rfl, fun j v hj => by rw [Addr.add_lit, Nat.zero_add, cell_of_row _ _ _ _ _ _ HN8.out, List.getElem?_toArray]; exact hj⟩) (by rw [HN2.out.2, length_splice _ _ _ (by rw [HN1.out.2, HZL.out]; omega), HZL.out]; omega) HN2o.out B w4 (by have h9 := X6.out.trans (X7.out.trans X8.out); unfold Ext at h9; rw [HBB.out] at h9; exact h9) (Nat.le_refl _) ?_
                intro w9 HG9 hB9
                have X9 := Lib.hid (show Ext w4 w9 from by unfold Ext; rw [HBB.out]; exact hB9)
                obtain ⟨sec, hsec⟩ : ∃ sec, sec = headSec M.epoch := ⟨_, rfl⟩
                have HG9b := Lib.hid (show w9.heap[B]? = some (.cells (byteVals sec).toArray 63 (0, 0)) from by
                  rw [HG9.out, HZA.out, HN1.out.1, HN2.out.1, head_splice, hsec, HSM.out, HH5.out]; rfl)
                have hs64 : sec.length = 64 := by rw [hsec]; exact headSec_len _
                have HSEC := Lib.hid hsec
                refine hK.out _ _ trivial (fun _ => ?_)
                clear hK K hB9 hsec
                try simp only [List.getElem_toArray, List.getElem_cons_zero, List.getElem_cons_succ, Act.put, List.setIfInBounds_toArray, List.set_cons_zero, List.set_cons_succ]
                refine wpAnyH_done (by kernel_rfl) ?_ _
                refine NoPanic.normal ?_
                have LA9 := Lib.hid (LA4.out.ext X9.out)
                obtain ⟨d0, d1, d2, d3, d4, d5, d6, d7⟩ := LA9.out.cells
                clear d1 d2 d4 d5 d6 d7
                have hrg : w9.rangeAt B 0 (byteVals sec) := fun j v hj => by
                  rw [Nat.zero_add, cell_of_row _ _ _ _ _ _ HG9b.out, List.getElem?_toArray]; exact hj
                have hu := Try.underlying63
                have hi : (Try.prog.info? 63).map (·.size) = some (byteVals sec).length := by rw [byteVals_length, hs64]; exact Try.info63
                obtain ⟨hf1, hhf⟩ : ∃ hf1, hf1 = M.half := ⟨_, rfl⟩
                rw [← hhf] at d3
                have HHF := Lib.hid hhf
                clear hhf
                go_upto_region 33 with (fail)
                refine wp_region_noPanic ?_
                refine wp_region_held_drew (S := fun W => W.cell? ⟨l, 0, none⟩ = some (.pointer (some ⟨g, 0, none⟩)) ∧ W.cell? ⟨l, 3, none⟩ = some (.int .i64 hf1) ∧ W.rangeAt B 0 (byteVals sec)) (by kernel_rfl) ⟨d0, d3, hrg⟩ (fun hHeld => ?_)
                refine wpAnyH_take (i := 0) (v := .pointer (some ⟨l, 0, none⟩)) rfl (by kernel_rfl) (by kernel_rfl) (by kernel_rfl) (fun _ _ _ h => h) (Or.inl ⟨by rfl, (by intro w hSw; first | (go_simp; done) | (obtain ⟨hq1, hq2⟩ := hSw; go_simp; done) | (obtain ⟨hq1, hq2, hq3⟩ := hSw; go_simp; done) | (obtain ⟨hq1, hq2, hq3, hq4⟩ := hSw; go_simp; done) | (obtain ⟨hq1, hq2, hq3, hq4, hq5⟩ := hSw; go_simp; done))⟩) (by assumption) ?_
                try simp only [List.getElem_toArray, List.getElem_cons_zero, List.getElem_cons_succ, Act.put, List.setIfInBounds_toArray, List.set_cons_zero, List.set_cons_succ]
                refine wpAnyH_take (i := 1) (v := .pointer (some ⟨l, 0, none⟩)) rfl (by kernel_rfl) (by kernel_rfl) (by kernel_rfl) (fun _ _ _ h => h) (Or.inl ⟨by rfl, (by intro w hSw; first | (go_simp; done) | (obtain ⟨hq1, hq2⟩ := hSw; go_simp; done) | (obtain ⟨hq1, hq2, hq3⟩ := hSw; go_simp; done) | (obtain ⟨hq1, hq2, hq3, hq4⟩ := hSw; go_simp; done) | (obtain ⟨hq1, hq2, hq3, hq4, hq5⟩ := hSw; go_simp; done))⟩) (by assumption) ?_
                try simp only [List.getElem_toArray, List.getElem_cons_zero, List.getElem_cons_succ, Act.put, List.setIfInBounds_toArray, List.set_cons_zero, List.set_cons_succ]
                refine wpAnyH_take (i := 2) (v := .pointer (some ⟨l, 0, none⟩)) rfl (by kernel_rfl) (by kernel_rfl) (by kernel_rfl) (fun _ _ _ h => h) (Or.inl ⟨by rfl, (by intro w hSw; first | (go_simp; done) | (obtain ⟨hq1, hq2⟩ := hSw; go_simp; done) | (obtain ⟨hq1, hq2, hq3⟩ := hSw; go_simp; done) | (obtain ⟨hq1, hq2, hq3, hq4⟩ := hSw; go_simp; done) | (obtain ⟨hq1, hq2, hq3, hq4, hq5⟩ := hSw; go_simp; done))⟩) (by assumption) ?_
                try simp only [List.getElem_toArray, List.getElem_cons_zero, List.getElem_cons_succ, Act.put, List.setIfInBounds_toArray, List.set_cons_zero, List.set_cons_succ]
                refine wpAnyH_take (i := 3) (v := .pointer (some ⟨g, 0, none⟩)) rfl (by kernel_rfl) (by kernel_rfl) (by kernel_rfl) (fun _ _ _ h => h) (Or.inl ⟨by rfl, (by intro w hSw; first | (go_simp; done) | (obtain ⟨hq1, hq2⟩ := hSw; go_simp; done) | (obtain ⟨hq1, hq2, hq3⟩ := hSw; go_simp; done) | (obtain ⟨hq1, hq2, hq3, hq4⟩ := hSw; go_simp; done) | (obtain ⟨hq1, hq2, hq3, hq4, hq5⟩ := hSw; go_simp; done))⟩) (by assumption) ?_
                try simp only [List.getElem_toArray, List.getElem_cons_zero, List.getElem_cons_succ, Act.put, List.setIfInBounds_toArray, List.set_cons_zero, List.set_cons_succ]
                refine wpAnyH_take (i := 4) (v := .pointer (some ⟨l, 0, none⟩)) rfl (by kernel_rfl) (by kernel_rfl) (by kernel_rfl) (fun _ _ _ h => h) (Or.inl ⟨by rfl, (by intro w hSw; first | (go_simp; done) | (obtain ⟨hq1, hq2⟩ := hSw; go_simp; done) | (obtain ⟨hq1, hq2, hq3⟩ := hSw; go_simp; done) | (obtain ⟨hq1, hq2, hq3, hq4⟩ := hSw; go_simp; done) | (obtain ⟨hq1, hq2, hq3, hq4, hq5⟩ := hSw; go_simp; done))⟩) (by assumption) ?_
                try simp only [List.getElem_toArray, List.getElem_cons_zero, List.getElem_cons_succ, Act.put, List.setIfInBounds_toArray, List.set_cons_zero, List.set_cons_succ]
                refine wpAnyH_take (i := 5) (v := .pointer (some ⟨l, 0, none⟩)) rfl (by kernel_rfl) (by kernel_rfl) (by kernel_rfl) (fun _ _ _ h => h) (Or.inl ⟨by rfl, (by intro w hSw; first | (go_simp; done) | (obtain ⟨hq1, hq2⟩ := hSw; go_simp; done) | (obtain ⟨hq1, hq2, hq3⟩ := hSw; go_simp; done) | (obtain ⟨hq1, hq2, hq3, hq4⟩ := hSw; go_simp; done) | (obtain ⟨hq1, hq2, hq3, hq4, hq5⟩ := hSw; go_simp; done))⟩) (by assumption) ?_
                try simp only [List.getElem_toArray, List.getElem_cons_zero, List.getElem_cons_succ, Act.put, List.setIfInBounds_toArray, List.set_cons_zero, List.set_cons_succ]
                refine wpAnyH_take (i := 6) (v := .pointer (some ⟨l, 3, none⟩)) rfl (by kernel_rfl) (by kernel_rfl) (by kernel_rfl) (fun _ _ _ h => h) (Or.inl ⟨by rfl, (by intro w hSw; first | (go_simp; done) | (obtain ⟨hq1, hq2⟩ := hSw; go_simp; done) | (obtain ⟨hq1, hq2, hq3⟩ := hSw; go_simp; done) | (obtain ⟨hq1, hq2, hq3, hq4⟩ := hSw; go_simp; done) | (obtain ⟨hq1, hq2, hq3, hq4, hq5⟩ := hSw; go_simp; done))⟩) (by assumption) ?_
                try simp only [List.getElem_toArray, List.getElem_cons_zero, List.getElem_cons_succ, Act.put, List.setIfInBounds_toArray, List.set_cons_zero, List.set_cons_succ]
                refine wpAnyH_take (i := 7) (v := .int .i64 hf1) rfl (by kernel_rfl) (by kernel_rfl) (by kernel_rfl) (fun _ _ _ h => h) (Or.inl ⟨by rfl, (by intro w hSw; first | (go_simp; done) | (obtain ⟨hq1, hq2⟩ := hSw; go_simp; done) | (obtain ⟨hq1, hq2, hq3⟩ := hSw; go_simp; done) | (obtain ⟨hq1, hq2, hq3, hq4⟩ := hSw; go_simp; done) | (obtain ⟨hq1, hq2, hq3, hq4, hq5⟩ := hSw; go_simp; done))⟩) (by assumption) ?_
                try simp only [List.getElem_toArray, List.getElem_cons_zero, List.getElem_cons_succ, Act.put, List.setIfInBounds_toArray, List.set_cons_zero, List.set_cons_succ]
                refine wpAnyH_take (i := 8) (v := .agg (byteVals sec).toArray) rfl (by kernel_rfl) (by kernel_rfl) (by kernel_rfl) (fun _ _ _ h => h) (yieldsIf_load_mid (by rfl) 63 (.tmp 12) rfl B 0 rfl (byteVals sec) _ (fun _ h => h.2.2) hu rfl hi) (by assumption) ?_
                try simp only [List.getElem_toArray, List.getElem_cons_zero, List.getElem_cons_succ, Act.put, List.setIfInBounds_toArray, List.set_cons_zero, List.set_cons_succ]
                refine wpAnyH_ready (rs := [9]) (by kernel_rfl) (by simp) (AllReadyH.cons rfl (fun K hK => ?_) AllReadyH.nil)
                go_simp
                refine (Write_any base g kb D4 (hf1 : Int) sec _ (LA9.out.ext ((Ext.refl w9).drew)).disk (by omega) (by omega) hs64 (Nat.le_trans hB (Nat.le_trans X4.out.size X9.out.size))).mono ?_
                rintro e w10 ⟨rfl, o10, r10⟩
                dsimp only
                have hkw := write_kept D4 (hf1 : Int) sec
                have HHP := Lib.hid (show headP D4 M = if (D4.write (hf1 : Int) sec).2 = 0 then (D4.write (hf1 : Int) sec).1.flush else D4.write (hf1 : Int) sec by unfold headP; rw [← HHF.out, ← HSEC.out])
                generalize hr : D4.write (hf1 : Int) sec = r at *
                obtain ⟨E1, en⟩ := r
                obtain ⟨hkw1, hkw2', hkw3'⟩ := hkw
                have hkw2 : E1.steps ≤ D4.steps + 1 := hkw2'
                have o10' : DOnly base g kb w9 w10 := ((DOnly.refl base g kb w9).drew).trans o10
                have LA10 := Lib.hid (LA9.out.only o10' r10 hkw1)
                have X10 := Lib.hid ((X4.out.trans (X9.out.lonly (lb := none)) (.inl rfl)).trans (o10'.lonly (l := l) (lb := none)) (.inl rfl))
                have hBgk : B ≠ g ∧ B ≠ kb := by
                  obtain ⟨cv, hd⟩ := LA4.out.disk
                  have q1 := hd.lt g (.inl rfl)
                  have q2 := hd.lt kb (.inr (.inl rfl))
                  have q3 := HBB.out
                  exact ⟨by omega, by omega⟩
                have hS10 : w10.cell? ⟨l, 0, none⟩ = some (.pointer (some ⟨g, 0, none⟩)) ∧ w10.cell? ⟨l, 3, none⟩ = some (.int .i64 hf1) ∧ w10.rangeAt B 0 (byteVals sec) :=
                  ⟨LA10.out.cells.1, by rw [HHF.out]; exact LA10.out.cells.2.2.2.1, range_keep hrg ((o10'.keep HG9b.out (by decide) hBgk.1 hBgk.2).trans HG9b.out.symm)⟩
                refine hK.out _ _ hS10 (fun hHeld6 => ?_)
                clear hK K
                try simp only [List.getElem_toArray, List.getElem_cons_zero, List.getElem_cons_succ, Act.put, List.setIfInBounds_toArray, List.set_cons_zero, List.set_cons_succ]
                refine wpAnyH_ready (rs := [10]) (by kernel_rfl) (by simp) (AllReadyH.cons rfl (fun K hK => ?_) AllReadyH.nil)
                go_simp
                refine hK.out _ _ hS10 (fun hHeld7 => ?_)
                clear hK K
                try simp only [List.getElem_toArray, List.getElem_cons_zero, List.getElem_cons_succ, Act.put, List.setIfInBounds_toArray, List.set_cons_zero, List.set_cons_succ]
                refine wpAnyH_done (by kernel_rfl) ?_ _
                refine NoPanic.normal ?_
                have c010 := hS10.1
                clear hHeld hHeld6 hHeld7 hS10 hrg d0 d3 hu hi hkw2' hkw3' o10 o10' r10 hr
                by_cases hen : en = 0
                · have HHP2 := Lib.hid (HHP.out.trans (if_pos hen))
                  subst hen
                  go_wp2_with fail
                  refine (Flush_any base g kb E1 _ LA10.out.disk (by omega) (Nat.le_trans hB X10.out.size)).mono ?_
                  rintro e w11 ⟨rfl, o11, d11⟩
                  have hfk := flush_kept E1
                  have HHP3 := Lib.hid (show headP D4 M = E1.flush from HHP2.out)
                  generalize hr4 : E1.flush = r4 at *
                  obtain ⟨E2, f2⟩ := r4
                  have hfk1 : E2.kept.length = E1.kept.length := hfk.1
                  have LA11 := Lib.hid (LA10.out.only o11 d11 hfk1)
                  have X11 := Lib.hid (X10.out.trans (o11.lonly (l := l) (lb := none)) (.inl rfl))
                  clear o11 d11 hfk hr4 c010
                  go_wp2_with fail
                  refine (die_any base g kb l _ E2 M f2 _ LA11.out).mono ?_
                  rintro e w12 ⟨rfl, o12, d12⟩
                  have O12 := Lib.hid o12
                  have D12 := Lib.hid d12
                  clear o12 d12
                  go_wp2_with fail
                  go_ret
                  rw [HFI.out, HFP.out]
                  dsimp only
                  rw [HHP3.out]
                  exact ⟨rfl, _, X11.out.trans O12.out (.inr hlb.out), D12.out, .inr hlb.out⟩
                · have hne := eq_int hen
                  have hne2 := ne_int hen
                  have HHP2 := Lib.hid (HHP.out.trans (if_neg hen))
                  go_wp2_with fail
                  refine (die_any base g kb l _ E1 M en _ LA10.out).mono ?_
                  rintro e w12 ⟨rfl, o12, d12⟩
                  have O12 := Lib.hid o12
                  have D12 := Lib.hid d12
                  clear o12 d12
                  go_wp2_with fail
                  go_ret
                  rw [HFI.out, HFP.out]
                  dsimp only
                  rw [HHP2.out]
                  exact ⟨rfl, _, X10.out.trans O12.out (.inr hlb.out), D12.out, .inr hlb.out⟩
              · have hne := eq_int hfn
                have hne2 := ne_int hfn
                go_wp2_with fail
                refine (die_any base g kb l _ D4 M fn _ LA4.out).mono ?_
                rintro e w9 ⟨rfl, o9, d9⟩
                have O9 := Lib.hid o9
                have D9 := Lib.hid d9
                clear o9 d9
                go_wp2_with fail
                go_ret
                rw [HFI.out, HFP.out]
                dsimp only
                rw [if_neg hfn]
                exact ⟨rfl, _, X4.out.trans O9.out (.inr hlb.out), D9.out, .inr hlb.out⟩
  · have HS := Lib.hid (show rewriteP D L ls = (D, L, 3) by unfold rewriteP; rw [if_pos hd])
    rw [hd] at c6
    clear hd
    go_enter Try.func60, Try.ntmps60
    go_wp2_with fail
    go_ret
    rw [HS.out]
    exact ⟨rfl, _, LOnly.refl, HL.out, .inl rfl⟩
end Go.Proofs.Ytgkoblgpadpcjaa
