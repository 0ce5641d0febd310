/- A part of the proof of WholeUsers. -/
import Derived.Stop.BytesEq
import Derived.Test.YtgnjjfdfoibdiaaGreatDoorUaf
set_option linter.all false
namespace Go.Proofs.YtgnjjfdfoibdiaaGreatDoor
section
open Go.RowKit
set_option maxRecDepth 100000
theorem roomOf_le : ∀ (l : List (List UInt8)) (m n : Nat), zDg l m = some n → m ≤ n
 | [], m, n, h => by obtain rfl := Option.some.inj h; exact Nat.le_refl _
 | b :: r, m, n, h => by
   rw [zDg] at h
   split at h
   ·cases h
   ·have := roomOf_le r _ _ h; omega
theorem roomOf_cons {b : List UInt8} {r : List (List UInt8)} {m n : Nat} (h : zDg (b :: r) m = some n) : b.length ≤ 4096 ∧ zDg r (m + zAg b.length) = some n := by
 rw [zDg] at h
 split at h
 ·cases h
 ·exact ⟨by omega, h⟩
def rewPost (base g kb l : Nat) (lv : Value) (w : World) (r : Dk × Lg × Nat) (e : Ending) (w' : World) : Prop :=
 e = .returned (.int .i64 (r.2.2 : Nat)) ∧ ∃ lv', LOnly base g kb l none w w' ∧ LogAt base w' g kb l lv' r.1 r.2.1 ∧ (lv' = lv ∨ ∀ q, lv'.ownBlock = some q → w.heap.size ≤ q)
def lStands (base g kb l : Nat) (w : World) (rv : Value) (ls : List (List UInt8)) : Prop :=
 ∃ a c, rv = .slice a ls.length c ∧ ∀ i, (h : i < ls.length) → ∃ b o u, a = some ⟨b, o, none⟩ ∧ ∀ W, LOnly base g kb l none w W → W.cell? ⟨b, o + i, none⟩ = some u ∧ Bytes W u ls[i]
theorem rows_at {base g kb l : Nat} {w : World} {a : Option Addr} {n c : Nat} {ls : List (List UInt8)} (h : lStands base g kb l w (.slice a n c) ls) (k : Nat) (hk : k < ls.length) :
  ∃ b o au cu, a = some ⟨b, o, none⟩ ∧ ∀ W, LOnly base g kb l none w W → W.cell? ⟨b, o + k, none⟩ = some (.slice au ls[k].length cu) ∧ Bytes W (.slice au ls[k].length cu) ls[k] := by
 obtain ⟨a', c', e, hc⟩ := h;simp only [Value.slice.injEq] at e;obtain ⟨rfl, rfl, rfl⟩ := e;obtain ⟨b, o, u, rfl, hu⟩ := hc k hk;obtain ⟨au, cu, rfl, -⟩ := (hu w LOnly.refl).2;exact ⟨b, o, au, cu, rfl, hu⟩
def rewRel1 (ls : List (List UInt8)) (n i : Value) : Prop := ∃ (k m : Nat), k ≤ ls.length ∧ i = .int .i64 k ∧ n = .int .i64 m ∧ m ≤ k * 70 ∧ Hid (zDg ls 0 = zDg (ls.drop k) m)
theorem zHd (X t : List UInt8) (o : Nat) : splice (zAa X) o (zAa t) = zAa (splice X o t) := by
 unfold splice zAa; simp
theorem head_splice (e c : Nat) : splice (splice (zAa (1 :: List.replicate 63 0)) 1 (zAa (le4 e))) 5 (zAa (le4 c)) = zAa (pad64 ((1 :: le4 e) ++ le4 c)) := by
 rw [zHd, zHd]; rfl
theorem head_five (e : Nat) : (splice (1 :: List.replicate 63 0) 1 (le4 e)).take 5 = 1 :: le4 e := rfl
theorem headSec_len (e : Nat) : (zFi e).length = 64 := rfl
theorem crc_one {W : World} {g : Nat} {l : List UInt8} {sm : Nat} (hs : sm = zA3 l) (h : RowsN W g 1 [l]) :
  Calls Tryz.prog 37 #[.slice (some ⟨g, 0, none⟩) 1 1] W fun e w' => e = .returned (.int .u32 (sm : Nat)) ∧ W = w' := by
 subst hs;have := zIr h (by omega);simpa using this
theorem zM9 {W : World} {B : Nat} {X : List UInt8} {t : TypeId} (h : W.heap[B]? = some (.cells (zAa X).toArray t (0, 0))) (n c : Nat) (hn : n ≤ X.length) (hc : n ≤ c) (hc2 : c ≤ 9223372036854775807) : Bytes W (.slice (some ⟨B, 0, none⟩) n c) (X.take n) := by
 have hl : (X.take n).length = n := by rw [List.length_take]; omega
 refine ⟨some ⟨B, 0, none⟩, c, by rw [hl], by omega, hc2, (fun h => by cases h), fun i hi => ⟨B, 0, rfl, ?_⟩⟩;rw [Nat.zero_add, cell_of_row W B i _ t (0, 0) h, List.getElem?_toArray, zDd X i (by omega)];simp
def rewRel2 (base g kb l : Nat) (D : Dk) (L : Lg) (w : World) (ls : List (List UInt8)) (n : Nat) (i : Value) (wr : World) : Prop :=
 ∃ (k : Nat) (E : Dk) (M : Lg) (lvk : Value), i = .int .i64 k ∧ k ≤ ls.length ∧ Hid (LogAt base wr g kb l lvk E M) ∧ Hid (LOnly base g kb l none w wr) ∧ Hid (zEf (ls.drop k) E M = zEf ls D L.anew) ∧ Hid (zDg (ls.drop k) M.at_ = some n) ∧ M.list.length = k ∧ M.epoch < 4294967296 ∧ Hid (M.dead = false) ∧
  E.steps ≤ D.steps + 70 * k ∧ E.cache.length ≤ D.cache.length + 70 * k ∧ E.kept.length = D.kept.length ∧ Hid (∀ q, lvk.ownBlock = some q → w.heap.size ≤ q)
theorem RecRow.nil (base : Nat) (w : World) : RecRow base w (.slice none 0 0) [] := ⟨[], World.ownsRow_nil _ _ _ _, fun i hi => absurd hi (by simp)⟩
section
variable {base g kb l : Nat} {w : World} {lv : Value} {D : Dk} {L : Lg}
theorem LogAt.anew (h : LogAt base w g kb l lv D L) (t1 h1 : Nat) (ht : t1 = L.top + 1) (hh : h1 = 1 - L.half) :
  LogAt base (((((w.setCell ⟨l, 2, none⟩ (.int .i64 (t1 : Int))).setCell ⟨l, 1, none⟩ (.int .i64 (t1 : Int))).setCell ⟨l, 3, none⟩ (.int .i64 (h1 : Int))).setCell ⟨l, 4, none⟩ (.int .i64 0)).setCell ⟨l, 5, none⟩ (.slice none 0 0)) g kb l (.slice none 0 0) D L.anew := by
 subst ht; subst hh;have a1 := h.put 2 (.int .i64 ((L.top + 1 : Nat) : Int)) { L with top := L.top + 1 } lv rfl h.rows h.half h.at_;have a2 := a1.put 1 (.int .i64 ((L.top + 1 : Nat) : Int)) { L with top := L.top + 1, epoch := L.top + 1 } lv rfl a1.rows h.half h.at_;have a3 := a2.put 3 (.int .i64 ((1 - L.half : Nat) : Int)) { L with top := L.top + 1, epoch := L.top + 1, half := 1 - L.half } lv rfl a2.rows (by show 1 - L.half ≤ 1; omega) h.at_;have a4 := a3.put 4 (.int .i64 0) { L with top := L.top + 1, epoch := L.top + 1, half := 1 - L.half, at_ := 0 } lv rfl a3.rows (by show 1 - L.half ≤ 1; omega) (Nat.zero_le _);exact a4.put 5 (.slice none 0 0) { L with top := L.top + 1, epoch := L.top + 1, half := 1 - L.half, at_ := 0, list := [] } (.slice none 0 0) rfl (RecRow.nil _ _) (by show 1 - L.half ≤ 1; omega) (Nat.zero_le _)
end
theorem putAll_cons {b : List UInt8} {r : List (List UInt8)} {E E2 : Dk} {M : Lg} {en : Nat} (h : zE6 E M M.at_ M.list.length b = (E2, en)) :
  zEf (b :: r) E M = if en = 0 then zEf r E2 { M with at_ := M.at_ + zAg b.length, list := M.list ++ [b] } else (E2, M.die en, en) := by
 rw [zEf, h]
set_option maxRecDepth 100000 in
set_option maxHeartbeats 4000000 in
theorem Rewrite_any (base g kb l : Nat) (lv : Value) (D : Dk) (L : Lg) (rv : Value) (ls : List (List UInt8)) (w : World) (h : LogAt base w g kb l lv D L) (hb : lStands base g kb l w rv ls) (hll : ls.length ≤ 1000) (hbl : ∀ b ∈ ls, b.length ≤ 16777216)
  (hep : L.top < 4294967290) (hst : D.steps ≤ 800000000) (hc : D.cache.length ≤ 800000000) (hB : base ≤ w.heap.size) :
  Calls Tryz.prog 124 #[.pointer (some ⟨l, 0, none⟩), rv] w (rewPost base g kb l lv w (zCs D L ls)) := by
 have HL := zh h;have HB := zh hb;obtain ⟨ab, capb, rfl, -⟩ := hb;obtain ⟨al, cl, rfl⟩ := h.rows.shape;obtain ⟨c0, c1, c2, c3, c4, c5, c6, hf⟩ := h.cells;have hm := h.disk.wf.most;have h6 := h.six;have hh : zAp D ≤ 4096 := by unfold zAp; omega
 clear h;cases hd : L.dead
 ·rw [hd] at c6
  have HS := zh (show zCs D L ls = match zDg ls 0 with
   | none => (D, L, 6)
   | some n => if zAp D < n then (D, L, 7) else if (zEf ls D L.anew).2.2 = 0 then zM5 (zEf ls D L.anew).1 (zEf ls D L.anew).2.1 else zEf ls D L.anew by unfold zCs; rw [if_neg (by rw [hd]; decide)]; rfl)
  have HDD := zh hd;clear hd;go_enter Tryz.func124, Tryz.ntmps124
  go_wp2_with fail
  go_loop [5, 20] (rewRel1 ls) (fun _ i => ls.length - (intOf i).toNat)
  case atStart => exact ⟨0, 0, Nat.zero_le _, rfl, rfl, Nat.zero_le _, rfl⟩
  case round =>
   obtain ⟨k, m, hk, rfl, rfl, hmk, hro⟩ := hrel
   by_cases hlt : k < ls.length
   ·obtain ⟨bb, o, au, cu, rfl, heb⟩ := rows_at HB.out k hlt;obtain ⟨e0, eb⟩ := heb w LOnly.refl;clear heb;have hbk := hbl _ (List.getElem_mem hlt);have HD : Hid (ls.drop k = ls[k] :: ls.drop (k + 1)) := List.drop_eq_getElem_cons hlt;generalize ls[k] = b at *
    by_cases hlong : 4096 < b.length
    ·have HX := zh (show zDg ls 0 = none by rw [hro.out, HD.out, zDg, if_pos hlong]);have hlt2 : ((4096 : Int) < (b.length : Int)) := by omega
     clear hro eb
     go_wp2_with fail
     go_ret
     rw [HS.out, HX.out];exact ⟨rfl, _, LOnly.refl, HL.out, .inl rfl⟩
    ·have hlong' : ¬ ((4096 : Int) < (b.length : Int)) := by omega
     obtain ⟨ks, hks⟩ : ∃ ks, ks = zAg b.length := ⟨_, rfl⟩
     have hks2 : ks ≤ 66 := by unfold zAg at hks; omega
     have HX := zh (show zDg ls 0 = zDg (ls.drop (k + 1)) (m + ks) by rw [hro.out, HD.out, zDg, if_neg hlong, hks]);have HKS := zh hks;clear hro eb hks
     go_wp2_with ((go_at_call 118); refine (zJ7 b.length ks HKS.out (by omega) _).mono ?_; rintro e w' ⟨rfl, rfl⟩)
     go_round
     case rel => exact ⟨k + 1, m + ks, by omega, by go_num, by go_num, by omega, HX⟩
     case measure => simp [intOf]; omega
   ·have hkl : k = ls.length := by omega
    have HX := zh (show zDg ls 0 = some m by rw [hro.out, hkl, List.drop_length]; rfl);clear hro
    by_cases hfull : zAp D < m
    ·obtain ⟨ho, hho⟩ : ∃ ho, ho = zAp D := ⟨_, rfl⟩
     have HHO := zh hho;have hfd : decide (ho < m) = true := by rw [decide_eq_true_iff]; omega
     have HF := zh hfull;clear hho hh hfull
     go_wp2_with ((go_at_call 119); refine (zD9 base g kb D ho HHO.out _ HL.out.disk (by omega)).mono ?_; rintro e w' ⟨rfl, rfl⟩)
     go_ret
     rw [HS.out, HX.out];dsimp only;rw [if_pos HF.out];exact ⟨rfl, _, LOnly.refl, HL.out, .inl rfl⟩
    ·obtain ⟨ho, hho⟩ : ∃ ho, ho = zAp D := ⟨_, rfl⟩
     have HHO := zh hho;have hfd : decide (ho < m) = false := by rw [decide_eq_false_iff_not]; omega
     have HF := zh hfull
     obtain ⟨t1, ht1⟩ : ∃ t1, t1 = L.top + 1 := ⟨_, rfl⟩
     obtain ⟨h1, hh1⟩ : ∃ h1, h1 = 1 - L.half := ⟨_, rfl⟩
     have hh1' := HL.out.half;have hs1 : IntKind.i64.wrap ((L.top : Int) + 1) = (t1 : Int) := by rw [IntWalk.i64_in _ (by omega)]; omega
     have hs2 : IntKind.i64.wrap (1 - (L.half : Int)) = (h1 : Int) := by rw [IntWalk.i64_in _ (by omega)]; omega
     have HT := zh (And.intro ht1 hh1);clear hho hh hfull ht1 hh1
     go_wp2_with ((go_at_call 119); refine (zD9 base g kb D ho HHO.out _ HL.out.disk (by omega)).mono ?_; rintro e w' ⟨rfl, rfl⟩)
     have LA1 := zh (HL.out.anew t1 h1 HT.out.1 HT.out.2);have XL1 := zh (((((LOnly.refl (base := base) (g := g) (kb := kb) (l := l) (lb := none) (a := w)).setL 2 (.int .i64 (t1 : Int))).setL 1 (.int .i64 (t1 : Int))).setL 3 (.int .i64 (h1 : Int))).setL 4 (.int .i64 0) |>.setL 5 (.slice none 0 0));generalize hw1 : ((((w.setCell ⟨l, 2, none⟩ (.int .i64 (t1 : Int))).setCell ⟨l, 1, none⟩ (.int .i64 (t1 : Int))).setCell ⟨l, 3, none⟩ (.int .i64 (h1 : Int))).setCell ⟨l, 4, none⟩ (.int .i64 0)).setCell ⟨l, 5, none⟩ (.slice none 0 0) = w1 at *;clear hw1 hs1 hs2 c0 c1 c2 c3 c4 c5 c6 hf
     go_loopw [70] (fun i wr => rewRel2 base g kb l D L w ls m i wr) (fun i _ => ls.length - (intOf i).toNat)
     case atStart => exact ⟨0, D, L.anew, _, rfl, Nat.zero_le _, LA1, XL1, rfl, HX, rfl, (by show L.top + 1 < 4294967296; omega), (by show L.dead = false; exact HDD.out), by omega, by omega, rfl, zh (by intro q hq; simp [Value.ownBlock] at hq)⟩
     case round =>
      obtain ⟨k, E, M, lvk, rfl, hk, hla, hxl, hpa, hro, hml, hme, hmd, hes, hec, hek, hlb⟩ := hrel
      by_cases hlt : k < ls.length
      ·skip
       obtain ⟨bb, o, au, cu, rfl, heb⟩ := rows_at HB.out k hlt;have HRA : Hid (∀ W, LOnly base g kb l none w W → Bytes W (.slice au ls[k].length cu) ls[k]) := fun W hW => (heb W hW).2
       obtain ⟨e0, eb⟩ := heb wr hxl.out;clear heb;have HD : Hid (ls.drop k = ls[k] :: ls.drop (k + 1)) := List.drop_eq_getElem_cons hlt;generalize ls[k] = b at *;have hrc := roomOf_cons (by rw [← HD.out]; exact hro.out);obtain ⟨hb4, hro2⟩ := hrc;have hle2 := roomOf_le _ _ _ hro2;have HRO2 := zh hro2;have HML := zh hml;obtain ⟨ak, ck, rfl⟩ := hla.out.rows.shape;rw [hml] at hla hlb
       obtain ⟨ks, hks⟩ : ∃ ks, ks = zAg b.length := ⟨_, rfl⟩
       obtain ⟨sk, hsk⟩ : ∃ sk, sk = M.at_ + ks := ⟨_, rfl⟩
       have hatE := hla.out.at_;have hks2 : ks ≤ 66 := by unfold zAg at hks; omega
       have hhE : zAp E = zAp D := by unfold zAp; rw [hek]
       have hho4 := HL.out.disk.wf.most;have hhD : zAp D ≤ 4096 := by unfold zAp; omega
       have hm4 : m ≤ zAp D := by have := HF.out; omega
       have HSU := zh (show IntKind.i64.wrap ((M.at_ : Int) + (ks : Int)) = (sk : Int) by rw [IntWalk.i64_in _ (by omega)]; omega);have hat4 : M.at_ ≤ 4096 := by omega
       have hskh : sk ≤ zAp D := by rw [← hks] at hle2; omega
       have HKS := zh hks;have HSK := zh hsk;have HSH := zh hskh;clear hks hsk hro2 hro hml hle2 hatE hhE hho4 hhD hm4 hskh;obtain ⟨c0, c1, c2, c3, c4, c5, c6, hf⟩ := hla.out.cells;clear hf c1 c2 c3 c5 c6;have HPK := zh (putP_kept E M M.at_ k b hb4)
       go_wp2_with fail
       refine (put_any base g kb l _ E M M.at_ k _ b _ hla.out eb hb4 (by omega) (by omega) hme (by omega) (by omega) (Nat.le_trans hB hxl.out.size)).mono ?_;rintro e w3 ⟨rfl, o3, d3⟩;have LA3 := zh (hla.out.only o3 d3 HPK.out.1);have X3 := zh (hxl.out.trans (o3.lonly (l := l) (lb := none)) (.inl rfl));have hpk := HPK.out;generalize hr : zE6 E M M.at_ k b = r at *;obtain ⟨D3, en⟩ := r;have hpk2 : D3.kept.length = E.kept.length ∧ D3.steps ≤ E.steps + 66 ∧ D3.cache.length ≤ E.cache.length + 66 := hpk;obtain ⟨hp1, hp2, hp3⟩ := hpk2;have HPC := zh (putAll_cons (r := ls.drop (k + 1)) (show zE6 E M M.at_ M.list.length b = (D3, en) by rw [HML.out]; exact hr));clear o3 d3 hpk hr HPK e0 c0 c4 eb
       by_cases hen : en = 0
       ·have HPC2 := zh (HPC.out.trans (if_pos hen));subst hen;obtain ⟨c0, c1, c2, c3, c4, c5, c6, hf⟩ := LA3.out.cells;have hf4 := hf 4;clear hf c0 c1 c2 c3 c5 c6
        go_upto_region 23 with (fail)
        refine wp_region_still_tail 10 (by kernel_rfl) (by kernel_rfl) ?_;simp only [List.take_succ_cons, List.take_zero, List.drop_succ_cons, List.drop_zero]
        repeat still_step
        have hsu := HSU.out
        still_call (zJ7 b.length ks HKS.out (by omega) _)
        repeat still_step
        refine wpStill_nil ?_;clear hsu
        change wpList _ _ _ _ _ w3.drew
        have hh3 : zAp D3 = zAp D := by unfold zAp; rw [hp1, hek]
        have LA5 := zh ((LA3.out.ext ((xr w3).drew)).put 4 (.int .i64 (sk : Int)) { M with at_ := sk } _ rfl (LA3.out.ext ((xr w3).drew)).rows LA3.out.half (by rw [hh3]; exact HSH.out));have X5 := zh ((X3.out.drew).setL 4 (.int .i64 (sk : Int)));clear hh3
        go_upto_region 24 with (fail)
        have e45 : (w3.drew).setCell ⟨l, 4, none⟩ (.int .i64 (sk : Int)) = (w3.setCell ⟨l, 4, none⟩ (.int .i64 (sk : Int))).drew := rfl;rw [e45] at LA5 X5;generalize hw5 : (w3.setCell ⟨l, 4, none⟩ (.int .i64 (sk : Int))).drew = w5 at *;have HB5 := zh (HRA.out _ X5.out.drew);clear hw5 e45 c4 hf4;obtain ⟨c0, c1, c2, c3, c4, c5, c6, hf⟩ := LA5.out.cells;clear hf c0 c1 c2 c3 c4 c6;obtain ⟨i0, hi0, hz0, hz1, hz2⟩ := info_parts zFe;have HI := zh (And.intro hi0 (And.intro hz0 (And.intro hz1 hz2)));clear hi0 hz0 hz1 hz2
        go_region_law (first
         | (refine zDe rfl (.const (.slice none 0 0)) (.tmp 103) 23 rfl Tryz.underlying23 _ _ rfl rfl b HB5.out (by omega) ?_; intro v7 w7 f7; have x7 : Ext w5 w7 := (xr w5).drew.trans f7.below; have X7 := zh x7; have F7 := zh (f7.ownb (Nat.le_trans hB X5.out.size)); (obtain ⟨a7, c7, rfl, -⟩ := f7.bytes); have c57 := x7.cell c5; have c58 := (x7.alloc (.cells #[.slice a7 b.length c7] 23)).cell c5; have LA7 := zh (LA5.out.ext x7); (obtain ⟨vs, hr7, hi7⟩ := LA7.out.rows); have HR7 := zh hr7; have HI7 := zh hi7; clear f7 x7 hr7 hi7)
         | (refine zA8 rfl (.tmp 102) (.tmp 105) 22 rfl base 23 i0 _ 1 24 zCf HI.out.1 HI.out.2.1 HI.out.2.2.1 HI.out.2.2.2 rfl (by decide) _ _ rfl rfl k vs (by have h9 := HR7.out.alloc (.cells #[.slice a7 b.length c7] 23); rw [show ({ M with at_ := sk } : Lg).list.length = k from HML.out] at h9; exact h9) 1 [.slice a7 b.length c7] rfl (zL0 _ _ _ _) (by simp [Value.oneCell']) (by unfold maxLen; omega) (by omega) (by have := X5.out.size; have := X7.out.size; simp; omega) ?_; intro v8 w8 o8 g8 n8; (obtain ⟨a8, m8, c8, rfl⟩ := zFq o8); have P8 := LA7.out.pushed F7.out HR7.out HI7.out (by rw [show ({ M with at_ := sk } : Lg).list.length = k from HML.out]; exact o8) g8; have q1 := P8.2.2.1; have q2 := P8.2.2.2; have P81 := zh P8.1; have P82 := zh P8.2.1; have N8 := zh (new_le n8 (show w.heap.size ≤ _ from Nat.le_trans X5.out.size (Nat.le_trans X7.out.size (by simp)))); clear P8 o8 g8 n8))
        all_goals
         go_wp2_with fail
         go_roundw
         case rel =>
          refine ⟨k + 1, D3, { M with at_ := sk, list := M.list ++ [b] }, _, by go_num, by omega, P81, zh ?_, zh ?_, zh ?_, ?_, hme, hmd, by omega, by omega, by omega, zh ?_⟩
          ·exact (X5.out.trans (X7.out.lonly (lb := none)) (.inl rfl)).trans P82.out (.inr hlb.out)
          ·have e1 := HPC2.out;rw [← HD.out] at e1;rw [HSK.out, HKS.out, ← e1];exact hpa.out
          ·show zDg (ls.drop (k + 1)) sk = some m;rw [HSK.out, HKS.out];exact HRO2.out
          ·show (M.list ++ [b]).length = k + 1;rw [List.length_append, HML.out]; rfl
          ·rcases N8.out with e | e
           ·rw [e]; exact hlb.out
           ·exact e
         case measure => simp [intOf]; omega
       ·have hne := zFz hen;have hne2 := zFa hen
        go_wp2_with fail
        refine (zKj base g kb l _ D3 M en _ LA3.out).mono ?_;rintro e w9 ⟨rfl, o9, d9⟩;have O9 := zh o9;have D9 := zh d9;clear o9 d9
        go_wp2_with fail
        go_ret
        have e1 := HPC.out;rw [if_neg hen, ← HD.out, hpa.out] at e1;rw [HS.out, HX.out];dsimp only;rw [if_neg HF.out, e1, if_neg hen];exact ⟨rfl, _, X3.out.trans O9.out (.inr hlb.out), D9.out, .inr hlb.out⟩
      ·have hkl : k = ls.length := by omega
       have HPA := zh (show zEf ls D L.anew = (E, M, 0) by rw [← hpa.out, hkl, List.drop_length]; rfl)
       have HFI := zh (show zCs D L ls = zM5 E M by
        rw [HS.out, HX.out];dsimp only
        rw [if_neg HF.out, HPA.out]; rfl)
       clear hpa hro;obtain ⟨c0, c1, c2, c3, c4, c5, c6, hf⟩ := hla.out.cells;clear hf c1 c2 c3 c4 c5 c6
       go_wp2_with fail
       refine (zN0 base g kb E _ hla.out.disk (by omega) (Nat.le_trans hB hxl.out.size)).mono ?_;rintro e w4 ⟨rfl, o4, d4⟩;have hfk := zKg E;have HFP : Hid (zM5 E M = if (E.flush).2 = 0 then ((zI8 (E.flush).1 M).1, M.die (zI8 (E.flush).1 M).2, (zI8 (E.flush).1 M).2) else ((E.flush).1, M.die (E.flush).2, (E.flush).2)) := rfl;generalize hr4 : E.flush = r4 at *;obtain ⟨D4, fn⟩ := r4;have hfk1 : D4.kept.length = E.kept.length := hfk.1;have hfk2 : D4.steps ≤ E.steps + 1 := hfk.2.1;have hfk3 : D4.cache.length ≤ E.cache.length := hfk.2.2;have LA4 := zh (hla.out.only o4 d4 hfk1);have X4 := zh (hxl.out.trans (o4.lonly (l := l) (lb := none)) (.inl rfl));clear o4 d4 hfk hr4 c0
       by_cases hfn : fn = 0
       ·subst hfn
        obtain ⟨Z, hZ⟩ : ∃ Z, Z = (zAa zero64).toArray := ⟨_, rfl⟩
        have HI : Hid (zJk Z) := by rw [hZ]; exact zKw
        obtain ⟨ZA, hZA⟩ : ∃ ZA, ZA = zAa (1 :: List.replicate 63 0) := ⟨_, rfl⟩
        have hz0 : Z[0]? = some (.int .u8 0) := by rw [hZ]; rfl
        have hz1 : Z.setIfInBounds 0 (.int .u8 1) = ZA.toArray := by rw [hZ, hZA]; rfl
        have HZA := zh hZA;have HZL := zh (show ZA.length = 64 by rw [hZA]; rfl);clear hZ hZA
        go_upto_region 31 with (refine zAt rfl 288 rfl Z HI.out.1 ?_)
        have XA := zh ((xr w4).alloc (.cells ZA.toArray 288));have LAA := zh (LA4.out.ext XA.out);have C14 := zh (LA4.out.cells.2.1);obtain ⟨c0, c1, c2, c3, c4, c5, c6, hf⟩ := LAA.out.cells;clear hf c0 c2 c3 c4 c5 c6;have HNB := zh (heap_alloc_new w4 (.cells ZA.toArray 288))
        obtain ⟨N1, hN1⟩ : ∃ N1, N1 = zAa (le4 M.epoch) := ⟨_, rfl⟩
        have HN1 := zh (And.intro hN1 (show N1.length = 4 by rw [hN1]; rfl));have HN1o := zh (show ∀ v ∈ N1, v.oneCell' = true by rw [hN1]; exact zAm _);have HNC := zh (show zB1 (M.epoch : Int) = N1.toArray by rw [hN1]; unfold zB1; rw [show ((M.epoch : Int) % 4294967296).toNat = M.epoch by omega]);clear hN1 hz1 hz0;generalize hwA : w4.alloc (.cells ZA.toArray 288) = wA at *;have HWA := zh hwA;have HSZ := zh (show wA.heap.size = w4.heap.size + 1 by rw [← hwA]; simp);clear hwA;generalize hBB : w4.heap.size = B at *;have HBB := zh hBB;clear hBB;refine wp_region_noPanic ?_;refine wp_region_held_drew (S := fun W => W.cell? ⟨l, 1, none⟩ = some (.int .i64 M.epoch)) (by kernel_rfl) c1 (fun hHeld => ?_);refine tq 0 (.slice (some ⟨B, 1, none⟩) 63 63) ?_;refine tq 1 (.pointer (some ⟨l, 0, none⟩)) ?_;refine tq 2 (.pointer (some ⟨l, 0, none⟩)) ?_;refine tq 3 (.pointer (some ⟨l, 1, none⟩)) ?_;refine tq 4 (.int .i64 M.epoch) ?_;refine wpAnyH_ready (rs := [5]) (by kernel_rfl) (by simp) (AllReadyH.cons rfl (fun K hK => ?_) AllReadyH.nil);go_simp;refine (zNy _ _).mono ?_;rintro e w5 ⟨rfl, hw5⟩;rw [HNC.out] at hw5;have HSZ5 : wA.drew.heap.size = B + 1 := HSZ.out;rw [HSZ5];have X5 := zh (show Ext wA w5 from by rw [← hw5]; exact ((xr wA).drew).alloc _);have HN5 := zh (show w5.heap[B + 1]? = some (.cells N1.toArray 5 (0, 0)) from by rw [← hw5]; exact zCl _ _ _ HSZ5.symm);have HB5 := zh (X5.out.keep HNB.out);clear hw5;have c15 := X5.out.cell c1
        refine hK.out _ _ c15 (fun hHeld2 => ?_);clear hK K
        try simp only [nf]
        refine wpAnyH_ready (rs := [6]) (by kernel_rfl) (by simp) (AllReadyH.cons rfl (fun K hK => ?_) AllReadyH.nil);refine step_copy_splice rfl (.tmp 121) (.tmp 126) 23 108 rfl 5 Tryz.underlying23 zH7 (some ⟨B, 1, none⟩) (some ⟨B + 1, 0, none⟩) 63 63 4 4 rfl rfl B 1 ZA 288 HB5.out N1 (by rw [HN1.out.2]; rfl) (fun _ => ⟨rfl, _, rfl, fun j v hj => by rw [Addr.add_lit, Nat.zero_add, cell_of_row _ _ _ _ _ _ HN5.out, List.getElem?_toArray]; exact hj⟩) (by rw [HN1.out.2, HZL.out]; omega) HN1o.out B w4 (by have h9 := XA.out.trans X5.out; unfold Ext at h9; rw [HBB.out] at h9; exact h9) (Nat.le_refl _) ?_;intro w6 HG6 hB6;have X6 := zh (show Ext w4 w6 from by unfold Ext; rw [HBB.out]; exact hB6);have c16 := X6.out.cell C14.out;refine hK.out _ _ c16 (fun hHeld3 => ?_);clear hK K hB6
        try simp only [nf]
        refine wpAnyH_done (by kernel_rfl) ?_ _;refine NoPanic.normal ?_
        have HG6b := zh (show w6.heap[B]? = some (.cells (zAa (splice (1 :: List.replicate 63 0) 1 (le4 M.epoch))).toArray 288 (0, 0)) from by
         rw [HG6.out, HZA.out, HN1.out.1, zHd])
        obtain ⟨h5, hh5⟩ : ∃ h5 : List UInt8, h5 = 1 :: le4 M.epoch := ⟨_, rfl⟩
        have BH5 := zh (show Bytes w6 (.slice (some ⟨B, 0, none⟩) 5 64) h5 from by
         have h9 := zM9 HG6b.out 5 64 (by show 5 ≤ 64; omega) (by omega) (by omega);rw [head_five, ← hh5] at h9
         exact h9)
        obtain ⟨sm, hsm⟩ : ∃ sm, sm = zA3 h5 := ⟨_, rfl⟩
        have hsl : sm < 4294967296 := by rw [hsm]; exact zH5 _
        have hwr : IntKind.i64.wrap (sm : Int) = (sm : Int) := IntWalk.i64_in _ (by omega);have HSM := zh hsm;have HH5 := zh hh5
        obtain ⟨N2, hN2⟩ : ∃ N2, N2 = zAa (le4 sm) := ⟨_, rfl⟩
        have HN2 := zh (And.intro hN2 (show N2.length = 4 by rw [hN2]; rfl));have HN2o := zh (show ∀ v ∈ N2, v.oneCell' = true by rw [hN2]; exact zAm _);have HNC2 := zh (show zB1 (sm : Int) = N2.toArray by rw [hN2]; unfold zB1; rw [show ((sm : Int) % 4294967296).toNat = sm by omega]);clear hN2 hsm hh5 hHeld hHeld2 hHeld3 c16 c15 c1
        obtain ⟨n6, hn6⟩ : ∃ n6, n6 = w6.heap.size := ⟨_, rfl⟩
        have HN6 := zh hn6;clear hn6
        go_upto_region 32 with (fail)
        refine wp_region_noPanic ?_;refine wp_region_held_drew (S := fun _ => True) (by kernel_rfl) trivial (fun _ => ?_);refine tq 0 (.slice (some ⟨B, 5, none⟩) 59 59) ?_;refine tq 1 (.slice (some ⟨B, 0, none⟩) 5 64) ?_;refine wpAnyH_ready (rs := [2]) (by kernel_rfl) (by simp) (AllReadyH.cons rfl (fun K hK => ?_) AllReadyH.nil);go_simp;rw [← HN6.out];have X7 : Hid (Ext w6 (w6.alloc (.cells #[.slice (some ⟨B, 0, none⟩) 5 64] 23)).drew) := ((xr w6).alloc _).drew;have HN7 : Hid ((w6.alloc (.cells #[.slice (some ⟨B, 0, none⟩) 5 64] 23)).drew.heap[n6]? = some (.cells #[.slice (some ⟨B, 0, none⟩) 5 64] 23 (0, 0))) := zCl _ _ _ HN6.out;have HZ7 := zh (show (w6.alloc (.cells #[.slice (some ⟨B, 0, none⟩) 5 64] 23)).drew.heap.size = n6 + 1 from by rw [HN6.out]; exact size_alloc _ _);generalize hw7 : (w6.alloc (.cells #[.slice (some ⟨B, 0, none⟩) 5 64] 23)).drew = w7 at *;clear hw7;refine hK.out _ _ trivial (fun _ => ?_);clear hK K
        try simp only [nf]
        refine wpAnyH_ready (rs := [3]) (by kernel_rfl) (by simp) (AllReadyH.cons rfl (fun K hK => ?_) AllReadyH.nil);go_simp;refine (crc_one HSM.out (RowsN.one BH5.out X7.out HN7.out)).mono ?_;rintro e w8 ⟨rfl, rfl⟩;refine hK.out _ _ trivial (fun _ => ?_);clear hK K
        try simp only [nf]
        refine tq 4 (.int .i64 (sm : Int)) ?_;refine wpAnyH_ready (rs := [5]) (by kernel_rfl) (by simp) (AllReadyH.cons rfl (fun K hK => ?_) AllReadyH.nil);go_simp;refine (zNy _ _).mono ?_;rintro e w8 ⟨rfl, hw8⟩;rw [HNC2.out] at hw8;rw [HZ7.out];have X8 := zh (show Ext w7 w8 from by rw [← hw8]; exact (xr w7).alloc _);have HN8 := zh (show w8.heap[n6 + 1]? = some (.cells N2.toArray 5 (0, 0)) from by rw [← hw8]; exact zCl _ _ _ HZ7.out.symm);have HB8 := zh (X8.out.keep (X7.out.keep HG6.out));clear hw8;refine hK.out _ _ trivial (fun _ => ?_);clear hK K
        try simp only [nf]
        refine wpAnyH_ready (rs := [6]) (by kernel_rfl) (by simp) (AllReadyH.cons rfl (fun K hK => ?_) AllReadyH.nil);refine step_copy_splice rfl (.tmp 128) (.tmp 133) 23 108 rfl 5 Tryz.underlying23 zH7 (some ⟨B, 5, none⟩) (some ⟨n6 + 1, 0, none⟩) 59 59 4 4 rfl rfl B 5 (splice ZA 1 N1) 288 HB8.out N2 (by rw [HN2.out.2]; rfl) (fun _ => ⟨rfl, _, rfl, fun j v hj => by rw [Addr.add_lit, Nat.zero_add, cell_of_row _ _ _ _ _ _ HN8.out, List.getElem?_toArray]; exact hj⟩) (by rw [HN2.out.2, length_splice _ _ _ (by rw [HN1.out.2, HZL.out]; omega), HZL.out]; omega) HN2o.out B w4 (by have h9 := X6.out.trans (X7.out.trans X8.out); unfold Ext at h9; rw [HBB.out] at h9; exact h9) (Nat.le_refl _) ?_;intro w9 HG9 hB9;have X9 := zh (show Ext w4 w9 from by unfold Ext; rw [HBB.out]; exact hB9)
        obtain ⟨sec, hsec⟩ : ∃ sec, sec = zFi M.epoch := ⟨_, rfl⟩
        have HG9b := zh (show w9.heap[B]? = some (.cells (zAa sec).toArray 288 (0, 0)) from by
         rw [HG9.out, HZA.out, HN1.out.1, HN2.out.1, head_splice, hsec, HSM.out, HH5.out]; rfl)
        have hs64 : sec.length = 64 := by rw [hsec]; exact headSec_len _
        have HSEC := zh hsec;refine hK.out _ _ trivial (fun _ => ?_);clear hK K hB9 hsec
        try simp only [nf]
        refine wpAnyH_done (by kernel_rfl) ?_ _;refine NoPanic.normal ?_;have LA9 := zh (LA4.out.ext X9.out);obtain ⟨d0, d1, d2, d3, d4, d5, d6, d7⟩ := LA9.out.cells;clear d1 d2 d4 d5 d6 d7
        have hrg : w9.rangeAt B 0 (zAa sec) := fun j v hj => by
         rw [Nat.zero_add, cell_of_row _ _ _ _ _ _ HG9b.out, List.getElem?_toArray]; exact hj
        have hu := Tryz.underlying288;have hi : (Tryz.prog.info? 288).map (·.size) = some (zAa sec).length := by rw [zAc, hs64]; exact zAx
        obtain ⟨hf1, hhf⟩ : ∃ hf1, hf1 = M.half := ⟨_, rfl⟩
        rw [← hhf] at d3;have HHF := zh hhf;clear hhf
        go_upto_region 33 with (fail)
        refine wp_region_noPanic ?_;refine wp_region_held_drew (S := fun W => W.cell? ⟨l, 0, none⟩ = some (.pointer (some ⟨g, 0, none⟩)) ∧ W.cell? ⟨l, 3, none⟩ = some (.int .i64 hf1) ∧ W.rangeAt B 0 (zAa sec)) (by kernel_rfl) ⟨d0, d3, hrg⟩ (fun hHeld => ?_);refine tq 0 (.pointer (some ⟨l, 0, none⟩)) ?_;refine tq 1 (.pointer (some ⟨l, 0, none⟩)) ?_;refine tq 2 (.pointer (some ⟨l, 0, none⟩)) ?_;refine tq 3 (.pointer (some ⟨g, 0, none⟩)) ?_;refine tq 4 (.pointer (some ⟨l, 0, none⟩)) ?_;refine tq 5 (.pointer (some ⟨l, 0, none⟩)) ?_;refine tq 6 (.pointer (some ⟨l, 3, none⟩)) ?_;refine tq 7 (.int .i64 hf1) ?_;refine wpAnyH_take (i := 8) (v := .agg (zAa sec).toArray) rfl (by kernel_rfl) (by kernel_rfl) (by kernel_rfl) (fun _ _ _ h => h) (yieldsIf_load_mid (by rfl) 288 (.tmp 12) rfl B 0 rfl (zAa sec) _ (fun _ h => h.2.2) hu rfl hi) (by assumption) ?_
        try simp only [nf]
        refine wpAnyH_ready (rs := [9]) (by kernel_rfl) (by simp) (AllReadyH.cons rfl (fun K hK => ?_) AllReadyH.nil);go_simp;refine (zNg base g kb D4 (hf1 : Int) sec _ (LA9.out.ext ((xr w9).drew)).disk (by omega) (by omega) hs64 (Nat.le_trans hB (Nat.le_trans X4.out.size X9.out.size))).mono ?_;rintro e w10 ⟨rfl, o10, r10⟩;dsimp only;have hkw := zHx D4 (hf1 : Int) sec;have HHP := zh (show zI8 D4 M = if (D4.write (hf1 : Int) sec).2 = 0 then (D4.write (hf1 : Int) sec).1.flush else D4.write (hf1 : Int) sec by unfold zI8; rw [← HHF.out, ← HSEC.out]);generalize hr : D4.write (hf1 : Int) sec = r at *;obtain ⟨E1, en⟩ := r;obtain ⟨hkw1, hkw2', hkw3'⟩ := hkw;have hkw2 : E1.steps ≤ D4.steps + 1 := hkw2';have o10' : DOnly base g kb w9 w10 := ((DOnly.refl base g kb w9).drew).trans o10;have LA10 := zh (LA9.out.only o10' r10 hkw1);have X10 := zh ((X4.out.trans (X9.out.lonly (lb := none)) (.inl rfl)).trans (o10'.lonly (l := l) (lb := none)) (.inl rfl))
        have hBgk : B ≠ g ∧ B ≠ kb := by
         obtain ⟨cv, hd⟩ := LA4.out.disk;have q1 := hd.lt g (.inl rfl);have q2 := hd.lt kb (.inr (.inl rfl));have q3 := HBB.out;exact ⟨by omega, by omega⟩
        have hS10 : w10.cell? ⟨l, 0, none⟩ = some (.pointer (some ⟨g, 0, none⟩)) ∧ w10.cell? ⟨l, 3, none⟩ = some (.int .i64 hf1) ∧ w10.rangeAt B 0 (zAa sec) :=
         ⟨LA10.out.cells.1, by rw [HHF.out]; exact LA10.out.cells.2.2.2.1, zDv hrg ((o10'.keep HG9b.out (by decide) hBgk.1 hBgk.2).trans HG9b.out.symm)⟩
        refine hK.out _ _ hS10 (fun hHeld6 => ?_);clear hK K
        try simp only [nf]
        refine wpAnyH_ready (rs := [10]) (by kernel_rfl) (by simp) (AllReadyH.cons rfl (fun K hK => ?_) AllReadyH.nil);go_simp;refine hK.out _ _ hS10 (fun hHeld7 => ?_);clear hK K
        try simp only [nf]
        refine wpAnyH_done (by kernel_rfl) ?_ _;refine NoPanic.normal ?_;have c010 := hS10.1;clear hHeld hHeld6 hHeld7 hS10 hrg d0 d3 hu hi hkw2' hkw3' o10 o10' r10 hr
        by_cases hen : en = 0
        ·have HHP2 := zh (HHP.out.trans (if_pos hen));subst hen
         go_wp2_with fail
         refine (zN0 base g kb E1 _ LA10.out.disk (by omega) (Nat.le_trans hB X10.out.size)).mono ?_;rintro e w11 ⟨rfl, o11, d11⟩;have hfk := zKg E1;have HHP3 : Hid (zI8 D4 M = E1.flush) := HHP2.out;generalize hr4 : E1.flush = r4 at *;obtain ⟨E2, f2⟩ := r4;have hfk1 : E2.kept.length = E1.kept.length := hfk.1;have LA11 := zh (LA10.out.only o11 d11 hfk1);have X11 := zh (X10.out.trans (o11.lonly (l := l) (lb := none)) (.inl rfl));clear o11 d11 hfk hr4 c010
         go_wp2_with fail
         refine (zKj base g kb l _ E2 M f2 _ LA11.out).mono ?_;rintro e w12 ⟨rfl, o12, d12⟩;have O12 := zh o12;have D12 := zh d12;clear o12 d12
         go_wp2_with fail
         go_ret
         rw [HFI.out, HFP.out];dsimp only;rw [HHP3.out];exact ⟨rfl, _, X11.out.trans O12.out (.inr hlb.out), D12.out, .inr hlb.out⟩
        ·have hne := zFz hen;have hne2 := zFa hen;have HHP2 := zh (HHP.out.trans (if_neg hen))
         go_wp2_with fail
         refine (zKj base g kb l _ E1 M en _ LA10.out).mono ?_;rintro e w12 ⟨rfl, o12, d12⟩;have O12 := zh o12;have D12 := zh d12;clear o12 d12
         go_wp2_with fail
         go_ret
         rw [HFI.out, HFP.out];dsimp only;rw [HHP2.out];exact ⟨rfl, _, X10.out.trans O12.out (.inr hlb.out), D12.out, .inr hlb.out⟩
       ·have hne := zFz hfn;have hne2 := zFa hfn
        go_wp2_with fail
        refine (zKj base g kb l _ D4 M fn _ LA4.out).mono ?_;rintro e w9 ⟨rfl, o9, d9⟩;have O9 := zh o9;have D9 := zh d9;clear o9 d9
        go_wp2_with fail
        go_ret
        rw [HFI.out, HFP.out];dsimp only;rw [if_neg hfn];exact ⟨rfl, _, X4.out.trans O9.out (.inr hlb.out), D9.out, .inr hlb.out⟩
 ·have HS := zh (show zCs D L ls = (D, L, 3) by unfold zCs; rw [if_pos hd]);rw [hd] at c6;clear hd;go_enter Tryz.func124, Tryz.ntmps124
  go_wp2_with fail
  go_ret
  rw [HS.out];exact ⟨rfl, _, LOnly.refl, HL.out, .inl rfl⟩
theorem sec_eq (s t : List UInt8) (hs : s.length = 64) (ht : t.length = 64) (w : World) : (Op.equalIn 10000 288 (.agg (zAa s).toArray) (.agg (zAa t).toArray)).run Tryz.prog w = .ok (s == t) w :=
 run_equalIn_bytes w 9998 288 5 64 Tryz.underlying288 Tryz.underlying5 (fun w => by kernel_rfl) s t hs ht
theorem zGc {w w1 w2 : World} {q : Nat} (h : Ext w w1) (hq : w.heap.size ≤ q) (o : OnlyAt q w1 w2) : Ext w w2 :=
 Below.trans h ⟨o.os, o.tape, o.output, o.size, fun k hk => o.block k (Nat.lt_of_lt_of_le hk h.size) (by simp; omega)⟩
theorem zFu {w1 w2 : World} {q k : Nat} {o : Obj} (h : OnlyAt q w1 w2) (hk : w1.heap[k]? = some o) (hne : k ≠ q) : w2.heap[k]? = some o :=
 (h.block k (Array.getElem?_eq_some_iff.1 hk).1 (by simp; omega)).trans hk
theorem zHi {W : World} {B : Nat} {X : List UInt8} {t : TypeId} (h : W.heap[B]? = some (.cells (zAa X).toArray t (0, 0))) (lo n c : Nat) (hn : lo + n ≤ X.length) (hc : n ≤ c) (hc2 : c ≤ 9223372036854775807) : Bytes W (.slice (some ⟨B, lo, none⟩) n c) ((X.drop lo).take n) := by
 have hl : ((X.drop lo).take n).length = n := by rw [List.length_take, List.length_drop]; omega
 refine ⟨some ⟨B, lo, none⟩, c, by rw [hl], by omega, hc2, (fun h => by cases h), fun i hi => ⟨B, lo, rfl, ?_⟩⟩;rw [cell_of_row W B (lo + i) _ t (0, 0) h, List.getElem?_toArray, zDd X (lo + i) (by omega)];simp
theorem beq_cast (a b : Nat) : (a == b) = ((a : Int) == (b : Int)) := by
 by_cases h : a = b
 ·subst h; simp
 ·rw [beq_eq_false_iff_ne.2 h, beq_eq_false_iff_ne.2 (by omega)]
def zI9 (s : List UInt8) (w : World) (e : Ending) (w' : World) : Prop := e = .returned (.tuple #[.int .i64 ((zHg s).1 : Nat), .bool (zHg s).2]) ∧ Ext w w'
set_option maxRecDepth 100000 in
set_option maxHeartbeats 4000000 in
theorem good_any (lv : Value) (s : List UInt8) (w : World) (hs : s.length = 64) : Calls Tryz.prog 211 #[lv, .agg (zAa s).toArray] w (zI9 s w) := by
 obtain ⟨Z, hZ⟩ : ∃ Z, Z = (zAa zero64).toArray := ⟨_, rfl⟩
 have HI : Hid (zJk Z) := by rw [hZ]; exact zKw
 have HE := fun (W : World) => (show (Op.equalIn 10000 288 (.agg (zAa s).toArray) (.agg Z)).run Tryz.prog W = .ok (s == zero64) W by rw [hZ]; exact sec_eq s zero64 hs rfl W)
 have hi := zh (show (Tryz.prog.info? 288).map (·.size) = some (zAa s).length by rw [zAc, hs]; exact zAx)
 have hrg : Hid ((w.alloc (.cells (zAa s).toArray 288)).rangeAt w.heap.size 0 (zAa s)) := fun j v hj => by
  rw [Nat.zero_add, cell_of_row _ _ _ _ _ _ (heap_alloc_new w _), List.getElem?_toArray]; exact hj
 have HBK := zh (heap_alloc_new w (.cells (zAa s).toArray 288));have X1 := zh ((xr w).alloc (.cells (zAa s).toArray 288));have HS := zh hs;clear hZ
 by_cases hz : s = zero64
 ·have hb : (s == zero64) = true := by rw [hz]; rfl
  have HG := zh (show zHg s = (0, false) by unfold zHg; rw [if_pos hz]);rw [hb] at HE;clear hz hb hs;go_enter Tryz.func211, Tryz.ntmps211
  go_wp2_with (first
   | (refine wpList_load_mid rfl 288 (.tmp 3) rfl w.heap.size 0 rfl (zAa s) _ hrg.out Tryz.underlying288 rfl hi.out ?_)
   | (refine zB9 rfl 288 rfl Z HI.out.2.1 ?_))
  go_ret2
  unfold zI9;rw [HG.out];exact ⟨rfl, X1.out⟩
 ·have hb : (s == zero64) = false := by rw [beq_eq_false_iff_ne]; exact hz
  have HG := zh (show zHg s = ((zAh ((s.drop 1).take 8) false 2147483648).1, s.headD 0 == 1 && (zAh (zAh ((s.drop 1).take 8) false 2147483648).2.1 (zAh ((s.drop 1).take 8) false 2147483648).2.2 4294967295).1 == zA3 (s.take 5)) by unfold zHg; rw [if_neg hz]);rw [hb] at HE;clear hz hb hs;go_enter Tryz.func211, Tryz.ntmps211
  go_wp2_with (first
   | (refine wpList_load_mid rfl 288 (.tmp 3) rfl w.heap.size 0 rfl (zAa s) _ hrg.out Tryz.underlying288 rfl hi.out ?_)
   | (refine zB9 rfl 288 rfl Z HI.out.2.1 ?_))
  refine (zJv ((s.drop 1).take 8) _ _ (zHi HBK.out 1 8 63 (by rw [HS.out]; omega) (by omega) (by omega)) (by rw [List.length_take]; omega)).mono ?_;rintro e w2 ⟨q, rfl, hq, x2, r2⟩;have hqB : w.heap.size < q := by simp at hq; omega
  have hqE : w.heap.size ≤ q := Nat.le_of_lt hqB;have X2 := zh (X1.out.trans x2);have HB2 := zh (x2.keep HBK.out);have hn1 := zFw ((s.drop 1).take 8) false 2147483648;generalize hr1 : zAh ((s.drop 1).take 8) false 2147483648 = r1 at *;obtain ⟨n1, l1, b1⟩ := r1;clear x2 hq
  go_wp2_with fail
  refine (zGq q _ _ 2147483648 _ r2 (by omega)).mono ?_;rw [hr1];rintro e w3 ⟨rfl, o3, r3⟩;have X3 := zh (zGc X2.out hqE o3);have HB3 := zh (zFu o3 HB2.out (Nat.ne_of_lt hqB));have hn2 := zFw l1 b1 4294967295;generalize hr2 : zAh l1 b1 4294967295 = r2' at *;obtain ⟨n2, l2, b2⟩ := r2';clear r2 o3 hr1
  go_wp2_with fail
  refine (zGq q _ _ 4294967295 _ r3 (by omega)).mono ?_;have hr2b : zAh (n1, l1, b1).2.1 (n1, l1, b1).2.2 4294967295 = (n2, l2, b2) := hr2;rw [hr2b];rintro e w4 ⟨rfl, o4, -⟩;have X4 := zh (zGc X3.out hqE o4);have HB4 := zh (zFu o4 HB3.out (Nat.ne_of_lt hqB));clear r3 o4 hr2 hr2b;have hn1' : n1 < 4294967296 := hn1;have hn2' : n2 < 4294967296 := hn2;clear hn1 hn2
  obtain ⟨c, t, hct⟩ : ∃ c t, s = c :: t := by
   cases s with
   | nil => have := HS.out; simp at this
   | cons c t => exact ⟨c, t, rfl⟩
  have c0 : w4.cell? ⟨w.heap.size, 0, none⟩ = some (.int .u8 c.toNat) := by
   rw [cell_of_row _ _ _ _ _ _ HB4.out, List.getElem?_toArray, hct]; rfl
  have HCT := zh hct;clear hct
  by_cases hc1 : c = 1
  ·have hcn : (c.toNat : Int) = 1 := by rw [hc1]; rfl
   rw [hcn] at c0;have BH : Hid (Bytes w4 (.slice (some ⟨w.heap.size, 0, none⟩) 5 64) (s.take 5)) := zM9 HB4.out 5 64 (by rw [HS.out]; omega) (by omega) (by omega)
   obtain ⟨sm, hsm⟩ : ∃ sm, sm = zA3 (s.take 5) := ⟨_, rfl⟩
   have hsl : sm < 4294967296 := by rw [hsm]; exact zH5 _
   have HSM := zh hsm;have HC1 := zh hc1;have hw2 : IntKind.u32.wrap (n2 : Int) = (n2 : Int) := IntWalk.u32_in _ (by omega);have hm2 : (n2 : Int) % 4294967296 = (n2 : Int) := by omega
   clear hsm hc1 hcn
   go_wp2_with fail
   refine (crc_one HSM.out (RowsN.one BH.out ((xr _).alloc _) (heap_alloc_new _ _))).mono ?_;rintro e w5 ⟨rfl, rfl⟩
   go_wp2_with fail
   go_ret2
   unfold zI9;rw [HG.out];refine ⟨?_, X4.out.alloc _⟩;have e : (s.headD 0 == 1) = true := by rw [HCT.out]; show (c == 1) = true; rw [HC1.out]; rfl
   rw [e, Bool.true_and, ← HSM.out];rw [show (((n1, l1, b1) : Nat × List UInt8 × Bool)).1 = n1 from rfl];rw [show ((n2 == sm) : Bool) = ((n2 : Int) == (sm : Int)) from beq_cast n2 sm];rfl
  ·have hcn : ((c.toNat : Int) == 1) = false := by
    rw [beq_eq_false_iff_ne];intro e;exact hc1 (UInt8.toNat_inj.1 (by show c.toNat = 1; omega))
   have HC1 := zh hc1;clear hc1
   go_wp2_with fail
   go_ret2
   unfold zI9;rw [HG.out];refine ⟨?_, X4.out⟩;have e : (s.headD 0 == 1) = false := by rw [HCT.out]; exact beq_eq_false_iff_ne.2 HC1.out
   rw [e]; rfl
theorem lookGo_succ (D : Dk) (f a top : Nat) (s : List UInt8) (e : Nat) (h : D.read (a : Int) = (s, e)) :
  zId D (f + 1) a top = if e = 0 then zId D f (a + 1) (if s.headD 0 = 2 then max top (zAh ((s.drop 9).take 4) false 2147483648).1 else top) else (top, e) := by
 rw [zId, h]
theorem Len_eq (base g kb : Nat) (D : Dk) (n : Nat) (hn : n = D.kept.length) (w : World) (h : Disk base w g kb D) : Calls Tryz.prog 191 #[.pointer (some ⟨g, 0, none⟩)] w fun e w' => e = .returned (.int .i64 (n : Nat)) ∧ w = w' := by
 subst hn; exact Len_any base g kb D w h
theorem zGf (l : List UInt8) (bad : Bool) (most : Nat) : (zAh l bad most).1 ≤ most := by
 unfold zAh
 split
 ·split
  ·omega
  ·exact Nat.zero_le _
 ·exact Nat.zero_le _
def lookRel (base g kb l : Nat) (lv : Value) (D : Dk) (L : Lg) (w : World) (i : Value) (wr : World) : Prop :=
 ∃ (p t : Nat), i = .int .i64 (p : Int) ∧ 2 ≤ p ∧ p ≤ D.kept.length ∧ t ≤ 2147483648 ∧ Hid (LogAt base wr g kb l lv D { L with top := t }) ∧ Hid (LOnly base g kb l none w wr) ∧ Hid (zId D (D.kept.length - p) p t = zLq D L.epoch)
def zL4 (base g kb l : Nat) (lv : Value) (D : Dk) (L : Lg) (w : World) (e : Ending) (w' : World) : Prop :=
 e = .returned (.int .i64 ((zLq D L.epoch).2 : Nat)) ∧ LOnly base g kb l none w w' ∧ LogAt base w' g kb l lv D { L with top := (zLq D L.epoch).1 } ∧ (zLq D L.epoch).1 ≤ 2147483648
set_option maxRecDepth 100000 in
set_option maxHeartbeats 4000000 in
theorem look_any (base g kb l : Nat) (lv : Value) (D : Dk) (L : Lg) (w : World) (h : LogAt base w g kb l lv D L) (hep : L.epoch ≤ 2147483648) (hB : base ≤ w.heap.size) :
  Calls Tryz.prog 212 #[.pointer (some ⟨l, 0, none⟩)] w (zL4 base g kb l lv D L w) := by
 have HL := zh h;obtain ⟨c0, c1, c2, c3, c4, c5, c6, hf⟩ := h.cells;have hf2 := hf 2;have hm := h.disk.wf.most;have h6 := h.six
 obtain ⟨n, hn⟩ : ∃ n, n = D.kept.length := ⟨_, rfl⟩
 have HN := zh hn;have hn1 : n ≤ D.kept.length := by omega
 have hn2 : D.kept.length ≤ n := by omega
 clear hn
 obtain ⟨Z, hZ⟩ : ∃ Z, Z = (zAa zero64).toArray := ⟨_, rfl⟩
 have HI : Hid (zJk Z) := by rw [hZ]; exact zKw
 have LA1 := zh (h.put 2 (.int .i64 (L.epoch : Int)) { L with top := L.epoch } lv rfl h.rows h.half h.at_);have X1 := zh ((LOnly.refl (base := base) (g := g) (kb := kb) (l := l) (lb := none) (a := w)).setL 2 (.int .i64 (L.epoch : Int)));clear h hf c3 c4 c5 c6 hZ;go_enter Tryz.func212, Tryz.ntmps212
 go_wp2_with fail
 generalize hw1 : w.setCell ⟨l, 2, none⟩ (.int .i64 (L.epoch : Int)) = w1 at *;clear hw1 c0 c1 c2 hf2
 go_loopw [3] (fun i wr => lookRel base g kb l lv D L w i wr) (fun i _ => D.kept.length - (intOf i).toNat)
 case atStart => exact ⟨2, L.epoch, rfl, Nat.le_refl _, by omega, hep, LA1, X1, rfl⟩
 case round =>
  obtain ⟨p, t, rfl, hp2, hk, ht, hla, hxl, hlk⟩ := hrel;obtain ⟨c0, c1, c2, c3, c4, c5, c6, hf⟩ := hla.out.cells;have hf2 := hf 2;have c2' : wr.cell? ⟨l, 2, none⟩ = some (.int .i64 (t : Int)) := c2;clear hf c1 c2 c3 c4 c5 c6
  by_cases hlt : p < D.kept.length
  ·have hlt2 : p < n := by omega
   go_wp2_with ((go_at_call 191); refine (Len_eq base g kb D n HN.out _ hla.out.disk).mono ?_; rintro e w' ⟨rfl, rfl⟩)
   refine (zN2 base g kb D (p : Int) _ hla.out.disk).mono ?_;unfold zCt;rintro e w2 ⟨rfl, x2⟩;dsimp only;have hs64 := zGa hla.out.disk.wf (p : Int);have HLK := zh (lookGo_succ D (D.kept.length - (p + 1)) p t (D.read (p : Int)).1 (D.read (p : Int)).2 rfl);generalize hr : D.read (p : Int) = r at *;obtain ⟨s, en⟩ := r;have hs64 : s.length = 64 := hs64;have X2 := zh x2;have hi := zh (show (Tryz.prog.info? 288).map (·.size) = some (zAa s).toArray.size by rw [List.size_toArray, zAc, hs64]; exact zAx);have hZs := zh (show Z.size = (zAa s).toArray.size by rw [HI.out.2.2.2.2]; simp [zAc, hs64]);have h1 := zh (all_oneCell_toArray (zAm s));have HS := zh hs64;have X3 : Hid (Ext wr (w2.alloc (.cells (zAa s).toArray 288))) := x2.alloc _;have HB3 := zh (heap_alloc_new w2 (.cells (zAa s).toArray 288));have HSZ3 := zh (size_alloc w2 (.cells (zAa s).toArray 288))
   obtain ⟨B, hBB⟩ : ∃ B, B = w2.heap.size := ⟨_, rfl⟩
   rw [← hBB] at HB3 HSZ3;have HBB := zh hBB
   have hck := zh (show zId D (D.kept.length - p) p t = if en = 0 then zId D (D.kept.length - (p + 1)) (p + 1) (if s.headD 0 = 2 then max t (zAh ((s.drop 9).take 4) false 2147483648).1 else t) else (t, en) by
    rw [show D.kept.length - p = D.kept.length - (p + 1) + 1 by omega]
    exact HLK.out)
   clear hs64 x2 HLK hr hBB c0
   by_cases hen : en = 0
   ·have HCK := zh (hck.out.trans (if_pos hen));subst hen
    obtain ⟨c, tl, hct⟩ : ∃ c t, s = c :: t := by
     cases s with
     | nil => have := HS.out; simp at this
     | cons c t => exact ⟨c, t, rfl⟩
    have HCT := zh hct
    have c0 : (w2.alloc (.cells (zAa s).toArray 288)).cell? ⟨w2.heap.size, 0, none⟩ = some (.int .u8 c.toNat) := by
     rw [cell_of_row _ _ _ _ _ _ (heap_alloc_new w2 _), List.getElem?_toArray, hct]; rfl
    have c0z : (zAa s)[0]? = some (.int .u8 c.toNat) := by rw [hct]; rfl
    clear hct
    by_cases hc2 : c = 2
    ·have hcn : (c.toNat : Int) = 2 := by rw [hc2]; rfl
     rw [hcn] at c0 c0z;have HC2 := zh hc2;clear hcn hc2
     go_upto_region 9 with (first
      | (refine zAt rfl 288 rfl Z HI.out.1 ?_)
      | (refine zAo rfl 288 (.tmp 4) (.tmp 30) rfl w2 288 Z _ rfl rfl hi.out hZs.out h1.out ?_))
     go_wp2_with fail
     refine (zJv ((s.drop 9).take 4) _ _ (zHi (heap_alloc_new w2 (.cells (zAa s).toArray 288)) 9 4 55 (by rw [HS.out]; omega) (by omega) (by omega)) (by rw [List.length_take]; omega)).mono ?_;rintro e w4 ⟨q, rfl, hq, x4, r4⟩;have hqw : wr.heap.size ≤ q := Nat.le_trans X3.out.size hq;have X4 := zh (X3.out.trans x4);have LA4 := zh (hla.out.ext X4.out);have hn1 : (zAh ((s.drop 9).take 4) false 2147483648).1 ≤ 2147483648 := zGf ((s.drop 9).take 4) false 2147483648;generalize hr1 : zAh ((s.drop 9).take 4) false 2147483648 = r1 at *;obtain ⟨n1, l1, b1⟩ := r1;have hn1 : n1 ≤ 2147483648 := hn1;have R4 : Hid (ReaderAt w4.drew q ((s.drop 9).take 4) false) := r4;have HR1 := zh hr1;clear hr1 x4 r4 c0;obtain ⟨c40, c41, c42, c43, c44, c45, c46, cf4⟩ := LA4.out.cells;have c42 : w4.cell? ⟨l, 2, none⟩ = some (.int .i64 (t : Int)) := c42;have cf42 := cf4 2;clear c40 c41 c43 c44 c45 c46 cf4
     go_upto_region 10 with (fail)
     go_region_law ((go_simp; go_at_call 80; refine (zGq q _ _ 2147483648 _ R4.out (by omega)).mono ?_; rw [HR1.out]; rintro e w5 ⟨rfl, o5, -⟩; have x5 : Ext wr w5 := zGc X4.out.drew hqw o5; have X5 := zh x5; have c52 : w5.cell? ⟨l, 2, none⟩ = some (.int .i64 (t : Int)) := (hla.out.ext x5).cells.2.2.1; have cf52 : w5.frozen? ⟨l, 2, none⟩ = false := (hla.out.ext x5).cells.2.2.2.2.2.2.2 2; clear x5 o5))
     all_goals
      go_wp2_with fail
      have ev : (if t < n1 then (n1 : Int) else (t : Int)) = ((max t n1 : Nat) : Int) := by split <;> omega
      have ev2 : max (t : Int) (n1 : Int) = ((max t n1 : Nat) : Int) := by omega
      first | rw [ev] | rw [ev2]
      clear ev ev2
      go_roundw
      case rel =>
       refine ⟨p + 1, max t n1, by go_num, by omega, by omega, by omega, zh ?_, zh ?_, zh ?_⟩
       ·exact (hla.out.ext X5.out).put 2 (.int .i64 ((max t n1 : Nat) : Int)) { L with top := max t n1 } lv rfl (hla.out.ext X5.out).rows hla.out.half hla.out.at_
       ·exact (hxl.out.trans (X5.out.lonly (lb := none)) (.inl rfl)).setL 2 _
       ·have e1 := HCK.out;rw [if_pos (by rw [HCT.out]; exact HC2.out)] at e1;exact e1.symm.trans hlk.out
      case measure => simp [intOf]; omega
    ·have hcn : ((c.toNat : Int) == 2) = false := by
      rw [beq_eq_false_iff_ne];intro e;exact hc2 (UInt8.toNat_inj.1 (by show c.toNat = 2; omega))
     have HC2 := zh hc2;clear hc2
     go_wp2_with (first
      | (refine zAt rfl 288 rfl Z HI.out.1 ?_)
      | (refine zAo rfl 288 (.tmp 4) (.tmp 30) rfl w2 288 Z _ rfl rfl hi.out hZs.out h1.out ?_))
     go_roundw
     case rel =>
      refine ⟨p + 1, t, by go_num, by omega, by omega, ht, zh (hla.out.ext X3.out), zh (hxl.out.trans (X3.out.lonly (lb := none)) (.inl rfl)), zh ?_⟩;have e1 := HCK.out;rw [if_neg (by rw [HCT.out]; exact HC2.out)] at e1;rw [← e1]; exact hlk.out
     case measure => simp [intOf]; omega
   ·have hne := zFz hen;have hne2 := zFa hen;have HCK := zh (hck.out.trans (if_neg hen))
    go_wp2_with (first
     | (refine zAt rfl 288 rfl Z HI.out.1 ?_)
     | (refine zAo rfl 288 (.tmp 4) (.tmp 30) rfl w2 288 Z _ rfl rfl hi.out hZs.out h1.out ?_))
    go_ret
    unfold zL4;rw [show zLq D L.epoch = (t, en) from hlk.out.symm.trans HCK.out];exact ⟨rfl, hxl.out.trans (X3.out.lonly (lb := none)) (.inl rfl), hla.out.ext X3.out, ht⟩
  ·have hnl : ¬ p < n := by omega
   go_wp2_with ((go_at_call 191); refine (Len_eq base g kb D n HN.out _ hla.out.disk).mono ?_; rintro e w' ⟨rfl, rfl⟩)
   go_ret
   unfold zL4;have e1 := hlk.out;rw [show D.kept.length - p = 0 by omega] at e1;rw [show zLq D L.epoch = (t, 0) from e1.symm];exact ⟨rfl, hxl.out, hla.out, ht⟩
end
end Go.Proofs.YtgnjjfdfoibdiaaGreatDoor
