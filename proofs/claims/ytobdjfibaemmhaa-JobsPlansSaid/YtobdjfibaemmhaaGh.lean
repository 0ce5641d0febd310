/- A graph in memory: sort. -/
import Derived.Test.YtobdjfibaemmhaaGg
import Derived.Test.YtobdjfibaemmhaaGraphN
import Derived.Deep.CutRange
namespace Go.Proofs.Ytobdjfibaemmhaa
open Go.RowKit Go.Maps Go.Lib

theorem SRow.keepG {w W : World} {g ub bb : Nat} {a : Option Addr} {n c : Nat} {v : Value} {l : List Str} (h : SRow w v l) (hg : w.heap[g]? = some (.cells #[.map (some ub), .map (some bb), .slice a n c] 57 (0, 0))) (x : w.grownBy W (some g)) : SRow W v l := by
  obtain ⟨a', cap, rfl, hl, hm, hn, hc⟩ := h
  refine ⟨a', cap, rfl, hl, hm, hn, fun i hi => ?_⟩
  obtain ⟨b, o, rfl, hcell⟩ := hc i hi
  refine ⟨b, o, rfl, ?_⟩
  rw [← hcell]
  refine World.cell?_of_block (w := w) (x.block b (World.block_lt_of_cell? w _ hcell) fun e => ?_)
  cases e
  rw [cell_blk hg] at hcell
  have hlt : o + i < 3 := (Array.getElem?_eq_some_iff.1 hcell).1
  match o + i, hlt, hcell with
  | 0, _, hcell => cases hcell
  | 1, _, hcell => cases hcell
  | 2, _, hcell => cases hcell
structure SortSt (w : World) (g ub bb : Nat) (lv ov : Value) (left order : List Str) (W : World) : Prop where
  fr : w.grownBy W (some g)
  cg : W.heap[g]? = some (.cells #[.map (some ub), .map (some bb), ov] 57 (0, 0))
  box : W.heap[w.heap.size]? = some (.cells #[.pointer (some ⟨g, 0, none⟩)] 26 (0, 0))
  left : OwnS W (w.heap.size + 1) lv left
  order : OwnS W (w.heap.size + 1) ov order
  ap : ∀ b, lv.ownBlock = some b → ov.ownBlock ≠ some b
theorem SortSt.push {w W W1 W2 : World} {g ub bb : Nat} {lv ov ov' : Value} {left order l : List Str} (h : SortSt w g ub bb lv ov left order W) (hgw : g < w.heap.size) (x1 : Ext W W1) (ho : OwnS W2 (w.heap.size + 1) ov' (order ++ l)) (g2 : W1.grownBy W2 ov.ownBlock) (nw : NewOrSame W1 ov ov') :
    SortSt w g ub bb lv ov' left (order ++ l) (W2.setCell ⟨g, 2, none⟩ ov') := by
  have g02 : ∀ q, q ≤ w.heap.size → W2.heap[q]? = W1.heap[q]? := fun q hq => g2.block q (by have := x1.sz; have := (Array.getElem?_eq_some_iff.1 h.box).1; omega) (fun e => by have := (h.order.lt _ e.symm).1; omega)
  have gs : W2.grownBy (W2.setCell ⟨g, 2, none⟩ ov') (some g) := grown_setCell _ _ _ _
  have hl1 := h.left.ext x1
  have hl2 : OwnS W2 (w.heap.size + 1) lv left := hl1.kept g2 (by
    cases hb : lv.ownBlock with
    | none => exact .inl rfl
    | some b => exact .inr fun e => h.ap b hb e.symm)
  refine ⟨?_, ?_, ?_, ?_, ?_, fun b hb => ?_⟩
  · exact ((h.fr.trans (below_grown x1 (some g))).andThen g2 fun j hj => .inl (by have := (h.order.lt _ hj).1; omega)).trans gs
  · have : W2.heap[g]? = some (.cells #[.map (some ub), .map (some bb), ov] 57 (0, 0)) := (g02 g (by omega)).trans (x1.get h.cg)
    rw [setCell_blk this]
    rfl
  · rw [Below.heap_setCell _ _ _ _ (by simp; omega)]
    exact (g02 _ (Nat.le_refl _)).trans (x1.get h.box)
  · exact hl2.kept gs (.inr fun e => by have := (hl2.lt _ e).1; omega)
  · exact ho.kept gs (.inr fun e => by have := (ho.lt _ e).1; omega)
  · rcases nw with e | ⟨q, e, hq⟩
    · rw [e]; exact h.ap b hb
    · rw [e]
      intro e2
      cases e2
      have := (hl1.lt _ hb).2
      have h2 := (h.left.lt _ hb).2
      have := x1.sz
      omega
theorem SortSt.del {w W W' : World} {g ub bb : Nat} {lv lv' ov : Value} {left left' order : List Str} (h : SortSt w g ub bb lv ov left order W) (hgw : g < w.heap.size) (ho : OwnS W' (w.heap.size + 1) lv' left') (g2 : W.grownBy W' lv.ownBlock) (e : lv'.ownBlock = lv.ownBlock) :
    SortSt w g ub bb lv' ov left' order W' := by
  have g02 : ∀ q, q ≤ w.heap.size → W'.heap[q]? = W.heap[q]? := fun q hq => g2.block q (by have := (Array.getElem?_eq_some_iff.1 h.box).1; omega) (fun e => by have := (h.left.lt _ e.symm).1; omega)
  refine ⟨?_, (g02 g (by omega)).trans h.cg, (g02 _ (Nat.le_refl _)).trans h.box, ho, ?_, fun b hb => ?_⟩
  · exact h.fr.andThen g2 fun j hj => .inl (by have := (h.left.lt _ hj).1; omega)
  · refine h.order.kept g2 ?_
    cases hb : ov.ownBlock with
    | none => exact .inl rfl
    | some b => exact .inr fun e => h.ap b e.symm hb
  · rw [e] at hb
    exact h.ap b hb
theorem SortSt.drewN {w W : World} {g ub bb : Nat} {lv ov : Value} {left order : List Str} (h : SortSt w g ub bb lv ov left order W) (q : Nat) : SortSt w g ub bb lv ov left order (W.drewN q) :=
  let x : Ext W (W.drewN q) := (Ext.refl W).drewN q
  ⟨h.fr.trans (below_grown x (some g)), x.get h.cg, x.get h.box, h.left.ext x, h.order.ext x, h.ap⟩
theorem SortSt.region {w W wq : World} {g ub bb : Nat} {lb lo ln lc : Nat} {ov o2 : Value} {left order : List Str} {i : Nat} {x : Str} (h : SortSt w g ub bb (.slice (some ⟨lb, lo, none⟩) ln lc) ov left order wq) (hgw : g < w.heap.size) (gw : wq.grownBy W ov.ownBlock) (hc : wq.cell? ⟨lb, lo + i, none⟩ = some (encStr x)) :
    (W.cell? ⟨w.heap.size, 0, none⟩ = some (.pointer (some ⟨g, 0, none⟩)) ∧ W.cell? ⟨lb, lo + i, none⟩ = some (.string (ba x))) ∧ (W.setCell ⟨g, 2, none⟩ o2).cell? ⟨w.heap.size, 0, none⟩ = some (.pointer (some ⟨g, 0, none⟩)) ∧
      (W.setCell ⟨g, 2, none⟩ o2).cell? ⟨lb, lo + i, none⟩ = some (.string (ba x)) ∧ W.cell? ⟨g, 2, none⟩ = some ov ∧ W.frozen? ⟨g, 2, none⟩ = false := by
  have hlb := h.left.lt lb rfl
  have hb := (Array.getElem?_eq_some_iff.1 h.box).1
  have k1 : W.heap[w.heap.size]? = some (.cells #[.pointer (some ⟨g, 0, none⟩)] 26 (0, 0)) := (gw.block _ hb (fun e => by have := (h.order.lt _ e.symm).1; omega)).trans h.box
  have k2 : W.heap[g]? = some (.cells #[.map (some ub), .map (some bb), ov] 57 (0, 0)) := (gw.block _ (by omega) (fun e => by have := (h.order.lt _ e.symm).1; omega)).trans h.cg
  have k3 : W.cell? ⟨lb, lo + i, none⟩ = some (.string (ba x)) := (World.cell?_of_block (w := wq) (gw.block lb hlb.2 (fun e => h.ap lb rfl e.symm))).trans hc
  refine ⟨⟨by rw [cell_blk k1]; rfl, k3⟩, ?_, ?_, by rw [cell_blk k2]; rfl, by simp [World.frozen?, k2]⟩
  · rw [World.cell?_of_block (w := W) (Below.heap_setCell _ _ _ _ (by simp; omega)), cell_blk k1]; rfl
  · rw [World.cell?_of_block (w := W) (Below.heap_setCell _ _ _ _ (by simp; omega)), k3]
/-- What sort is told of the graph. -/
structure SStat (w : World) (g ub nu bb : Nat) (us : List Un) (bget : Str → Option Value) (bh : Beh) : Prop where
  cg : w.heap[g]? = some (.cells #[.map (some ub), .map (some bb), .slice none 0 0] 57 (0, 0))
  units : UnitsAt w ub nu us
  names : (us.map Un.name).Nodup
  len : us.length ≤ 20
  short : ∀ u ∈ us, u.name.length ≤ maxLen
  map : ∃ nb, MapIs w bb nb bget
  rows : ∀ k, SRow w (bval bget k) (bh k)
  bshort : ∀ k, ShortAll (bh k)
theorem SortSt.on {w W : World} {g ub nu bb : Nat} {lv ov : Value} {left order : List Str} {us : List Un} {bget : Str → Option Value} {bh : Beh} (h : SortSt w g ub bb lv ov left order W) (s : SStat w g ub nu bb us bget bh) :
    SortOn W g w.heap.size ub bb ov bget bh order := by
  obtain ⟨nb, hm⟩ := s.map
  refine ⟨h.cg, h.box, ⟨nb, hm.grown h.fr fun e => ?_⟩, fun k => (s.rows k).keepG s.cg h.fr, s.bshort, h.order.row⟩
  cases e
  obtain ⟨D, ⟨es, clock, hm, -⟩, -⟩ := hm
  rw [s.cg] at hm
  cases hm
def sortPost (w : World) (g ub bb : Nat) (us : List Un) (bh : Beh) (e : Ending) (w' : World) : Prop :=
  e = .returned (.string (ba (headS (sortP bh us.length (namesOf us) []).2))) ∧ ∃ ov, OwnS w' w.heap.size ov (sortP bh us.length (namesOf us) []).1 ∧ w'.heap[g]? = some (.cells #[.map (some ub), .map (some bb), ov] 57 (0, 0)) ∧ w.grownBy w' (some g)
def sortRel (w : World) (g ub bb : Nat) (us : List Un) (bh : Beh) (f : Nat) (lv : Value) (wr : World) : Prop :=
  ∃ ov left order, left.length = f ∧ Hid (SortSt w g ub bb lv ov left order wr) ∧ Hid (sortP bh left.length left order = sortP bh us.length (namesOf us) []) ∧ Hid (ShortAll left) ∧ left.length + order.length ≤ 20
set_option maxRecDepth 100000 in
set_option maxHeartbeats 4000000 in
theorem sort_g {w : World} {g ub nu bb : Nat} {us : List Un} {bget : Str → Option Value} {bh : Beh} (s : SStat w g ub nu bb us bget bh) :
    Calls Try.prog 33 #[.pointer (some ⟨g, 0, none⟩)] w (sortPost w g ub bb us bh) := by
  have x1 : Ext w (w.alloc (.cells #[.pointer (some ⟨g, 0, none⟩)] 26)) := (Ext.refl w).alloc _
  have HN := Names_any (x1.get s.cg) (s.units.ext x1) s.names s.len
  have X1 := Lib.hid x1
  have S := Lib.hid s
  have hsz : (w.alloc (.cells #[.pointer (some ⟨g, 0, none⟩)] 26)).heap.size = w.heap.size + 1 := by simp
  have HZ := Lib.hid hsz
  have hgw : g < w.heap.size := (Array.getElem?_eq_some_iff.1 s.cg).1
  have hb1 : (w.alloc (.cells #[.pointer (some ⟨g, 0, none⟩)] 26)).heap[w.heap.size]? = some (.cells #[.pointer (some ⟨g, 0, none⟩)] 26 (0, 0)) := by show (w.heap.push _)[w.heap.size]? = _; simp
  have HB1 := Lib.hid hb1
  clear s hsz x1 hb1
  go_enter Try.func33, Try.ntmps33
  go_wp2_with (go_at_call 21; refine HN.mono ?_; rintro e w3 ⟨v3, rfl, o3, x3⟩; have O3 := Lib.hid o3; have X3 := Lib.hid x3; clear o3 x3 HN; (obtain ⟨a3, c3, rfl, -⟩ := O3.out.row.form))
  go_loopg [3] (us.length) (fun f lv wr => sortRel w g ub bb us bh f lv wr)
  case atStart =>
    have hlen : (namesOf us).length = us.length := by unfold namesOf; rw [(sortS_perm _).length_eq, List.length_map]
    refine ⟨.slice none 0 0, namesOf us, [], hlen, Lib.hid ?_, Lib.hid (by rw [hlen]), Lib.hid (fun x hx => ?_), by rw [hlen]; have := S.out.len; simp; omega⟩
    · refine ⟨below_grown (X1.out.trans X3.out) _, (X1.out.trans X3.out).get S.out.cg, X3.out.get HB1.out, O3.out.base (by have := HZ.out; omega), OwnS.nil _ _, fun b _ e => by cases e⟩
    · unfold namesOf at hx
      rw [sortS_mem, List.mem_map] at hx
      obtain ⟨u, hu, rfl⟩ := hx
      exact S.out.short u hu
  case round =>
    obtain ⟨ov, left, order, rfl, HR, HE, HS, hln⟩ := hrel
    cases left with
    | nil =>
      obtain ⟨a, c, rfl, -⟩ := HR.out.left.row.form
      go_wp2_with fail
      go_ret
      have he := HE.out
      rw [show ([] : List Str).length = 0 from rfl, sortP] at he
      refine ⟨?_, ov, ?_, HR.out.cg, HR.out.fr⟩
      · rw [← he]; rfl
      · rw [← he]; exact HR.out.order.base (by omega)
    | cons x r =>
      have HI := ifunc_any HR.out.left.row HS.out (free bh order) 52 #[.pointer (some ⟨w.heap.size, 0, none⟩)] (enters_of Try.func52 (by kernel_rfl) rfl) (fun V x hb => sort52 ((HR.out.on S.out).ext hb) x.2)
      have cb : ∀ q, (wr.drewN q).cell? ⟨w.heap.size, 0, none⟩ = some (.pointer (some ⟨g, 0, none⟩)) := fun q => by rw [cell_blk (HR.out.drewN q).box]; rfl
      obtain ⟨lb, lo, lc, rfl⟩ := (OwnS.off HR.out.left).some_of (by simp)
      cases hf : firstFree bh order (x :: r) with
      | none =>
        have e0 : ∀ q, (wr.drewN q).cell? ⟨lb, lo, none⟩ = some (.string (ba x)) := fun q => (OwnS.off (HR.out.drewN q).left).cell 0 (by simp)
        unfold firstFree at hf
        rw [hf] at HI
        have HF := Lib.hid hf
        clear hf
        go_wp2_with (go_at_call 51; refine HI.mono ?_; rintro e w4 ⟨rfl, q, rfl⟩; clear HI)
        go_ret
        have he := HE.out
        rw [List.length_cons, sortP, show firstFree bh order (x :: r) = none from HF.out] at he
        refine ⟨?_, ov, ?_, (HR.out.drewN q).cg, (HR.out.drewN q).fr⟩
        · rw [← he]; rfl
        · rw [← he]; exact (HR.out.drewN q).order.base (by omega)
      | some i =>
        obtain ⟨hi, -, -⟩ := firstFree_some hf
        have hst : sortP bh (x :: r).length (x :: r) order = sortP bh ((x :: r).eraseIdx i).length ((x :: r).eraseIdx i) (order ++ [(x :: r)[i]]) := by
          rw [List.length_cons, sortP, hf]
          dsimp only
          rw [getD_eq hi, List.length_eraseIdx_of_lt hi, List.length_cons, Nat.add_sub_cancel]
        unfold firstFree at hf
        rw [hf] at HI
        have HF := Lib.hid hf
        have HT := Lib.hid hst
        clear hf hst
        have hid1 : idxOf (some i) = (i : Int) := rfl
        rw [hid1] at HI
        clear hid1
        have hil : i < r.length + 1 := hi
        have hrl : r.length + 1 ≤ 20 := by simp at hln; omega
        go_upto_region 6 with (go_at_call 51; refine HI.mono ?_; rintro e w4 ⟨rfl, q, rfl⟩; clear HI)
        have HQ := Lib.hid (HR.out.drewN q)
        generalize wr.drewN q = wq at *
        clear cb
        have e3 : wq.cell? ⟨lb, lo + i, none⟩ = some (encStr (x :: r)[i]) := (OwnS.off HQ.out.left).cell i hi
        generalize hxi : (x :: r)[i] = xi at *
        have HXI := Lib.hid hxi
        clear hxi
        obtain ⟨ao, co, rfl, -⟩ := HQ.out.order.row.form
        have hlb := (HQ.out.left.lt lb rfl)
        have KS := Lib.hid (show ∀ W o2, wq.grownBy W (Value.slice ao order.length co).ownBlock → (W.cell? ⟨w.heap.size, 0, none⟩ = some (.pointer (some ⟨g, 0, none⟩)) ∧ W.cell? ⟨lb, lo + i, none⟩ = some (.string (ba xi))) ∧ (W.setCell ⟨g, 2, none⟩ o2).cell? ⟨w.heap.size, 0, none⟩ = some (.pointer (some ⟨g, 0, none⟩)) ∧ (W.setCell ⟨g, 2, none⟩ o2).cell? ⟨lb, lo + i, none⟩ = some (.string (ba xi)) ∧ W.cell? ⟨g, 2, none⟩ = some (.slice ao order.length co) ∧ W.frozen? ⟨g, 2, none⟩ = false from fun W o2 gw => HQ.out.region hgw gw e3)
        have AP := Lib.hid (show ∀ (W1 W2 : World) (ov' : Value), Ext wq W1 → OwnS W2 (w.heap.size + 1) ov' (order ++ [xi]) → W1.grownBy W2 (Value.slice ao order.length co).ownBlock → NewOrSame W1 (Value.slice ao order.length co) ov' → SortSt w g ub bb (.slice (some ⟨lb, lo, none⟩) (x :: r).length lc) ov' (x :: r) (order ++ [xi]) (W2.setCell ⟨g, 2, none⟩ ov') from fun _ _ _ x1 ho g2 nw => HQ.out.push hgw x1 ho g2 nw)
        have HO := Lib.hid HQ.out.order
        have hwq : w.heap.size < wq.heap.size := (Array.getElem?_eq_some_iff.1 HQ.out.box).1
        have k1 := (KS.out _ undef (below_grown (Ext.refl wq).drew _)).2.2.2.1
        have k2 := (KS.out _ undef (below_grown ((Ext.refl wq).alloc (.cells #[.string (ba xi)] 9)).drew _)).2.2.2.1
        simp at hln
        have hol : order.length ≤ 20 := by omega
        go_cut [18] from 18 to 31 (fun p wc => ∃ ov', p = .pointer (some ⟨g, 0, none⟩) ∧ Hid (SortSt w g ub bb (.slice (some ⟨lb, lo, none⟩) (x :: r).length lc) ov' (x :: r) (order ++ [xi]) wc))
        case first =>
         have j1 := (KS.out _ undef (below_grown (Ext.refl wq).drew _)).1
         have j2 := (KS.out _ undef (below_grown ((Ext.refl wq).alloc (.cells #[.string (ba xi)] 9)).drew _)).1
         obtain ⟨j11, j12⟩ := j1
         obtain ⟨j21, j22⟩ := j2
         have hib : (i : Int) < (r.length : Int) + 1 := by omega
         go_region_law
           (first
             | (refine step_append_str rfl (.tmp 22) (.tmp 27) 23 rfl Try.underlying23 (w.heap.size + 1) _ _ rfl rfl order [xi] (HO.out.ext ((Ext.refl wq).alloc _).drew) (SRow.one _ _).drew (by simp; omega) (by simp; omega) ?_; intro v8 w8 o8 g8 n8; (obtain ⟨a8, c8, rfl, -⟩ := o8.row.form); have O8 := Lib.hid o8; have G8 := Lib.hid ((below_grown ((Ext.refl wq).alloc (.cells #[.string (ba xi)] 9)).drew _).trans g8); have G80 := Lib.hid g8; have N8 := Lib.hid n8; have j81 := (KS.out _ undef G8.out).1.1; have j82 := (KS.out _ undef G8.out).1.2; have d8 := (KS.out _ undef G8.out).2.2.2.1; have f8 := (KS.out _ undef G8.out).2.2.2.2; clear o8 g8 n8))
         all_goals
           have AP8 := Lib.hid (AP.out _ _ _ ((Ext.refl wq).alloc _).drew O8.out G80.out N8.out)
           go_wp2_with fail
           go_meet
           exact ⟨_, rfl, by have := AP8.out; rw [List.length_append] at this; exact Lib.hid this⟩
        case rest =>
        obtain ⟨ov', rfl, HC⟩ := hcut
        have HD := delete_any HC.out.left i (by simp; omega)
        have e1 : (((i + 1 : Nat) : Int)) = (i : Int) + 1 := by omega
        rw [e1] at HD
        clear e1
        obtain ⟨wa, rfl⟩ : ∃ w : World, w = wc := ⟨_, rfl⟩
        go_wp2_with (go_at_call 54; refine HD.mono ?_; rintro e w5 ⟨v5, rfl, o5, g5, e5⟩; have O5 := Lib.hid o5; have G5 := Lib.hid g5; have E5 := Lib.hid e5; clear o5 g5 e5 HD; (obtain ⟨a5, c5, rfl, -⟩ := O5.out.row.form))
        have hel : ((x :: r).eraseIdx i).length = r.length := by rw [List.length_eraseIdx_of_lt hi, List.length_cons, Nat.add_sub_cancel]
        have HEL := Lib.hid hel
        clear hel
        go_roundg r.length
        case measure => simp
        case rel =>
          refine ⟨ov', (x :: r).eraseIdx i, order ++ [xi], HEL.out, Lib.hid (HC.out.del hgw O5.out G5.out E5.out), Lib.hid ?_, Lib.hid (fun y hy => HS.out y (List.mem_of_mem_eraseIdx hy)), ?_⟩
          · rw [← HE.out, HT.out]
          · rw [HEL.out, List.length_append, List.length_singleton]; omega
end Go.Proofs.Ytobdjfibaemmhaa
