/- A graph in memory: put. -/
import Derived.Test.YtobdjfibaemmhaaGe
namespace Go.Proofs.Ytobdjfibaemmhaa
open Go.RowKit Go.Maps Go.Lib

theorem PutG.ext {w0 w w' : World} {bb M nb : Nat} {bget : Str → Option Value} {bh : Beh} {nv : Value} {xs : List Str} (h : PutG w0 bb M nb bget bh nv xs w) (x : Ext w w') : PutG w0 bb M nb bget bh nv xs w' :=
  ⟨h.fr.trans (below_grown x (some bb)), h.beh.ext x, h.nbM, h.len, h.row.ext x, h.ap⟩
theorem addB_nil (bh : Beh) (n : Str) : addB bh n [] = bh := by
  funext k
  unfold addB
  by_cases h : k = n
  · subst h; rw [if_pos rfl, List.append_nil]
  · rw [if_neg h]
theorem addB_addB (bh : Beh) (n : Str) (l m : List Str) : addB (addB bh n l) n m = addB bh n (l ++ m) := by
  funext k
  unfold addB
  by_cases h : k = n
  · rw [if_pos h, if_pos rfl, if_pos h, List.append_assoc]
  · rw [if_neg h, if_neg h, if_neg h]
theorem putP_yes {us : List Un} {bh : Beh} {n : Str} {xs : List Str} (h : there us n = true) : putP us bh n xs = addB bh n (xs.filter (there us)) := by
  unfold putP
  rw [if_pos h]; rfl
theorem putP_no {us : List Un} {bh : Beh} {n : Str} {xs : List Str} (h : there us n = false) : putP us bh n xs = bh := by
  unfold putP
  rw [h]; rfl
theorem step_put {ops : Array Oper} {o : Oper} {a : Act} {w : World} {K : Act → World → Prop} {Q : Exit → Act → World → Prop} {E : Prop}
    (hg : o.guard = none) (m x v : Operand) (t : TypeId) (hop : o.op = Op.mapUpdate t m x v) (e : TypeId) (ht : Try.prog.underlying t = some (.map 9 e)) (b n : Nat) (get : Str → Option Value) (hm : a.eval m = .map (some b)) (h : MapIs w b n get) (hn : n < maxLen)
    (k : Str) (hx : a.eval x = .string (ba k)) (hk : k.length ≤ maxLen) (val : Value) (hv : a.eval v = val)
    (hK : ∀ w', MapIs w' b (n + 1) (putK get k val) → w.grownBy w' (some b) → K (a.put o.dst undef) w') :
    if Region.wanted o (yielded ops a.tmps) = true then Oper.wp Try.prog o a w K Q else E := by
  have hw : Region.wanted o (yielded ops a.tmps) = true := by simp [Region.wanted, hg]
  rw [if_pos hw]
  obtain ⟨w', hrun, r1, r2⟩ := h.put ht hn hk val
  unfold Oper.wp
  simp [execOp, hop, hm, hx, hv, hrun, Result.andThen]
  exact hK w' r1 r2
theorem zero23_run (w : World) : (zeroValue 23).run Try.prog w = .ok (.slice none 0 0) w := Try.zeroValue23 w
theorem BehG.look {w : World} {base bb nb : Nat} {bget : Str → Option Value} {bh : Beh} (h : BehG w base bb nb bget bh) {k : Str} (hk : k.length ≤ maxLen) : (Instr.lookup 55 (.map (some bb)) (.string (ba k)) false).run Try.prog w = .ok (bval bget k) w :=
  h.map.look (t := 55) (e := 23) Try.underlying55 (zero23_run w) hk
/-- A value with a unit's cells. -/
def ULike (v : Value) : Prop := ∃ s a0 n0 c0 a1 n1 c1 a2 n2 c2 a3 n3 c3 a4 n4 c4 a5 n5 c5 r, v = .agg #[.string s, .slice a0 n0 c0, .slice a1 n1 c1, .slice a2 n2 c2, .slice a3 n3 c3, .slice a4 n4 c4, .slice a5 n5 c5, .int .i64 r]
theorem UnitIs.like {w : World} {v : Value} {u : Un} (h : UnitIs w v u) : ULike v := by
  obtain ⟨a0, n0, c0, a1, n1, c1, a2, n2, c2, a3, n3, c3, a4, n4, c4, a5, n5, c5, rfl, -⟩ := h.shape
  exact ⟨_, _, _, _, _, _, _, _, _, _, _, _, _, _, _, _, _, _, _, _, rfl⟩
theorem UnitsAt.look {w : World} {ub nu : Nat} {us : List Un} (h : UnitsAt w ub nu us) {k : Str} (hk : k.length ≤ maxLen) :
    ∃ v, UnitIs w v (unitD (findU us k)) ∧ (∀ W, Ext w W → (Instr.lookup 54 (.map (some ub)) (.string (ba k)) true).run Try.prog W = .ok (.tuple #[v, .bool (there us k)]) W) ∧
      ∀ W, Ext w W → (Instr.lookup 54 (.map (some ub)) (.string (ba k)) false).run Try.prog W = .ok v W := by
  obtain ⟨get, hm, hget⟩ := h
  have hgn := hget k
  cases hf : findU us k with
  | none =>
    rw [hf] at hgn
    simp only at hgn
    have ht : there us k = false := by unfold there; rw [hf]; rfl
    refine ⟨zero45, unit0_is w, fun W x => ?_, fun W x => ?_⟩
    · have := (hm.ext x).look_ok (t := 54) (e := 45) Try.underlying54 (zero45_run _) hk
      rw [hgn] at this
      rw [this, ht]; rfl
    · have := (hm.ext x).look (t := 54) (e := 45) Try.underlying54 (zero45_run _) hk
      rw [hgn] at this
      rw [this]; rfl
  | some u =>
    rw [hf] at hgn
    simp only at hgn
    obtain ⟨uv, hgu, hui⟩ := hgn
    have ht : there us k = true := by unfold there; rw [hf]; rfl
    refine ⟨uv, hui, fun W x => ?_, fun W x => ?_⟩
    · have := (hm.ext x).look_ok (t := 54) (e := 45) Try.underlying54 (zero45_run _) hk
      rw [hgu] at this
      rw [this, ht]; rfl
    · have := (hm.ext x).look (t := 54) (e := 45) Try.underlying54 (zero45_run _) hk
      rw [hgu] at this
      rw [this]; rfl
structure GStat (w0 : World) (g ub bb : Nat) (us : List Un) : Prop where
  cg : ∃ ov, w0.heap[g]? = some (.cells #[.map (some ub), .map (some bb), ov] 57 (0, 0))
  units : ∃ nu, UnitsAt w0 ub nu us
  ngb : g ≠ bb
  nub : ub ≠ bb
  lbb : bb < w0.heap.size
theorem GStat.cells {w0 w : World} {g ub bb : Nat} {us : List Un} (h : GStat w0 g ub bb us) (x : w0.grownBy w (some bb)) : w.cell? ⟨g, 0, none⟩ = some (.map (some ub)) ∧ w.cell? ⟨g, 1, none⟩ = some (.map (some bb)) := by
  obtain ⟨ov, hg⟩ := h.cg
  have hg2 := (x.block g (Array.getElem?_eq_some_iff.1 hg).1 (fun e => h.ngb (by cases e; rfl))).trans hg
  exact ⟨by rw [cell_blk hg2]; rfl, by rw [cell_blk hg2]; rfl⟩
theorem GStat.look {w0 w : World} {g ub bb : Nat} {us : List Un} (h : GStat w0 g ub bb us) (x : w0.grownBy w (some bb)) {k : Str} (hk : k.length ≤ maxLen) :
    ∃ v, ULike v ∧ (Instr.lookup 54 (.map (some ub)) (.string (ba k)) true).run Try.prog w = .ok (.tuple #[v, .bool (there us k)]) w := by
  obtain ⟨nu, get, hm, hget⟩ := h.units
  have hm2 : MapIs w ub nu get := hm.grown x (fun e => h.nub (by cases e; rfl))
  have h1 := hm2.look_ok (t := 54) (e := 45) Try.underlying54 (zero45_run _) hk
  rw [UnitsAt.mem hget] at h1
  refine ⟨_, ?_, h1⟩
  have hgn := hget k
  cases hf : findU us k with
  | none =>
    rw [hf] at hgn
    simp only at hgn
    rw [hgn]
    exact (unit0_is w).like
  | some u =>
    rw [hf] at hgn
    simp only at hgn
    obtain ⟨uv, hgu, hui⟩ := hgn
    rw [hgu]
    exact hui.like
theorem SRow.one (w : World) (x : Str) : SRow (w.alloc (.cells #[.string (ba x)] 9)) (.slice (some ⟨w.heap.size, 0, none⟩) 1 1) [x] := by
  refine ⟨_, _, rfl, by simp, by simp, (fun h => by cases h), fun i hi => ?_⟩
  match i, hi with
  | 0, _ => exact ⟨_, _, rfl, by rw [cell_new0]; rfl⟩
theorem PutG.keepS {w0 w W : World} {g ub bb M nb : Nat} {bget : Str → Option Value} {bh : Beh} {nv : Value} {us : List Un} {xs : List Str} (h : PutG w0 bb M nb bget bh nv xs w) (hst : GStat w0 g ub bb us) {n : Str} (hn : n.length ≤ maxLen) (gw : w.grownBy W (bval bget n).ownBlock) :
    W.cell? ⟨g, 1, none⟩ = some (.map (some bb)) ∧ (Instr.lookup 55 (.map (some bb)) (.string (ba n)) false).run Try.prog W = .ok (bval bget n) W := by
  have h1 : w0.grownBy W (some bb) := h.fr.andThen gw fun j hj => .inl ((h.beh.rows n).lt _ hj).1
  refine ⟨(hst.cells h1).2, ?_⟩
  have h2 : MapIs W bb nb bget := h.beh.map.grown gw fun e => by
    have := ((h.beh.rows n).lt _ e).1
    have := hst.lbb
    omega
  exact h2.look (t := 55) (e := 23) Try.underlying55 (zero23_run W) hn
/-- What a call of put leaves alone of what lay when it began, beside the frame. -/
structure PutK (w : World) (bb : Nat) (bget bget' : Str → Option Value) (w' : World) : Prop where
  size : w.heap.size ≤ w'.heap.size
  keep : ∀ q, q < w.heap.size → q ≠ bb → (∀ k, (bval bget k).ownBlock ≠ some q) → w'.heap[q]? = w.heap[q]?
  news : ∀ k b, (bval bget' k).ownBlock = some b → (∃ k', (bval bget k').ownBlock = some b) ∨ w.heap.size ≤ b
theorem PutK.refl (w : World) (bb : Nat) (bget : Str → Option Value) : PutK w bb bget bget w := ⟨Nat.le_refl _, fun _ _ _ _ => rfl, fun k b h => .inl ⟨k, h⟩⟩
theorem PutK.ext {w wr w1 : World} {bb : Nat} {bget bget2 : Str → Option Value} (h : PutK w bb bget bget2 wr) (x1 : Ext wr w1) : PutK w bb bget bget2 w1 :=
  ⟨Nat.le_trans h.size x1.sz, fun q hq h1 h2 => (x1.block q (Nat.lt_of_lt_of_le hq h.size)).trans (h.keep q hq h1 h2), h.news⟩
theorem PutK.step {w wr w1 w2 w3 : World} {bb : Nat} {bget bget2 : Str → Option Value} {n : Str} {v' : Value} (h : PutK w bb bget bget2 wr) (x1 : Ext wr w1) (g2 : w1.grownBy w2 (bval bget2 n).ownBlock) (nw : NewOrSame w1 (bval bget2 n) v') (g3 : w2.grownBy w3 (some bb)) :
    PutK w bb bget (putK bget2 n v') w3 := by
  have hs1 := x1.sz
  have hs2 := g2.size
  have hs3 := g3.size
  have hs := h.size
  refine ⟨by omega, fun q hq h1 h2 => ?_, fun k b hb => ?_⟩
  · rw [g3.block q (by omega) (fun e => h1 (Option.some.inj e)), g2.block q (by omega) (fun e => ?_), x1.block q (by omega)]
    · exact h.keep q hq h1 h2
    · rcases h.news n q e.symm with ⟨k', hk'⟩ | hk'
      · exact h2 k' hk'
      · omega
  · rw [bval_put] at hb
    by_cases h1 : k = n
    · rw [if_pos h1] at hb
      rcases nw with e | ⟨q, e, hq⟩
      · rw [e] at hb
        exact h.news n b hb
      · rw [e] at hb
        cases hb
        exact .inr (by omega)
    · rw [if_neg h1] at hb
      exact h.news k b hb
def putPost (w0 w : World) (us : List Un) (bb M : Nat) (bget0 : Str → Option Value) (bh : Beh) (n : Str) (nv : Value) (xs : List Str) (e : Ending) (w' : World) : Prop :=
  e = .returned (.tuple #[]) ∧ ∃ nb bget, PutG w0 bb (M + xs.length) nb bget (putP us bh n xs) nv xs w' ∧ PutK w bb bget0 bget w'
def putRel (w0 w : World) (us : List Un) (bb M : Nat) (bget0 : Str → Option Value) (bh : Beh) (n : Str) (nv : Value) (xs : List Str) (i : Value) (wr : World) : Prop :=
  ∃ k nb bget, k ≤ xs.length ∧ i = .int .i64 k ∧ Hid (PutG w0 bb (M + k) nb bget (addB bh n ((xs.take k).filter (there us))) nv xs wr) ∧ Hid (PutK w bb bget0 bget wr)
set_option maxRecDepth 100000 in
set_option maxHeartbeats 4000000 in
theorem put_any {w0 w : World} {g ub bb M nb : Nat} {bget : Str → Option Value} {bh : Beh} {nv : Value} {us : List Un} {n : Str} {xs : List Str} (hst : GStat w0 g ub bb us) (h : PutG w0 bb M nb bget bh nv xs w) (hn : n.length ≤ maxLen) (hxs : ShortAll xs) (hM : M + xs.length ≤ 100000) :
    Calls Try.prog 32 #[.pointer (some ⟨g, 0, none⟩), .string (ba n), nv] w (putPost w0 w us bb M bget bh n nv xs) := by
  have HST := Lib.hid hst
  have H := Lib.hid h
  have HXS := Lib.hid hxs
  obtain ⟨an, cn, rfl, hcn, hcn2⟩ := h.row.form
  have c0 := (hst.cells h.fr).1
  obtain ⟨v0, hul, hlk⟩ := hst.look h.fr hn
  obtain ⟨s0, a0, n0, c0', a1, n1, c1, a2, n2, c2, a3, n3, c3, a4, n4, c4, a5, n5, c5, r0, rfl⟩ := hul
  have hlen : xs.length ≤ 100000 := by omega
  clear h hst hxs hcn hcn2
  cases ht : there us n with
  | false =>
    rw [ht] at hlk
    have HT := Lib.hid ht
    clear ht
    go_enter Try.func32, Try.ntmps32
    go_wp2_with fail
    go_end0
    exact ⟨rfl, nb, bget, by rw [putP_no HT.out]; exact ⟨(H.out.ext ((Ext.refl w).alloc _)).fr, (H.out.ext ((Ext.refl w).alloc _)).beh, by have := H.out.nbM; omega, fun k => by have := H.out.len k; omega, (H.out.ext ((Ext.refl w).alloc _)).row, H.out.ap⟩, (PutK.refl w bb bget).ext ((Ext.refl w).alloc _)⟩
  | true =>
    rw [ht] at hlk
    have HT := Lib.hid ht
    clear ht
    go_enter Try.func32, Try.ntmps32
    go_wp2_with fail
    go_loopw [25] (fun i wr => putRel w0 w us bb M bget bh n (.slice an xs.length cn) xs i wr) (fun i _ => xs.length - (intOf i).toNat)
    case atStart => exact ⟨0, nb, bget, Nat.zero_le _, rfl, Lib.hid (by rw [List.take_zero, List.filter_nil, addB_nil]; exact H.out.ext ((Ext.refl w).alloc _)), Lib.hid ((PutK.refl w bb bget).ext ((Ext.refl w).alloc _))⟩
    case round =>
      obtain ⟨k, nb2, bget2, hk, rfl, HR, HK⟩ := hrel
      by_cases hlt : k < xs.length
      · obtain ⟨b, o, rfl, e1⟩ := HR.out.row.at k hlt
        have hxl := HXS.out xs[k] (List.getElem_mem hlt)
        have HTK := Lib.hid (List.take_succ_eq_append_getElem hlt)
        generalize xs[k] = x at *
        have c1 := (HST.out.cells HR.out.fr).1
        obtain ⟨v5, hul, hlk5⟩ := HST.out.look HR.out.fr hxl
        obtain ⟨s0, a0, n0, c0', a1, n1, c1', a2, n2, c2, a3, n3, c3, a4, n4, c4, a5, n5, c5, r0, rfl⟩ := hul
        cases ht : there us x with
        | false =>
          rw [ht] at hlk5
          have HTX := Lib.hid ht
          clear ht
          go_wp2_with fail
          go_roundw
          case rel => exact ⟨k + 1, nb2, bget2, by omega, by go_num, Lib.hid (by
            rw [HTK.out, List.filter_append, List.filter_cons_of_neg (by rw [HTX.out]; simp), List.filter_nil, List.append_nil]
            have := HR.out.ext ((Ext.refl wr).alloc (.cells #[Value.string s0, Value.slice a0 n0 c0', Value.slice a1 n1 c1', Value.slice a2 n2 c2, Value.slice a3 n3 c3, Value.slice a4 n4 c4, Value.slice a5 n5 c5, Value.int IntKind.i64 r0] 45))
            exact ⟨this.fr, this.beh, by have := this.nbM; omega, fun k => by have := this.len k; omega, this.row, this.ap⟩), Lib.hid (HK.out.ext ((Ext.refl wr).alloc _))⟩
          case measure => simp [intOf]; omega
        | true =>
          rw [ht] at hlk5
          have HTX := Lib.hid ht
          clear ht
          go_upto_region 7 with fail
          have HP := Lib.hid (HR.out.ext ((Ext.refl wr).alloc (.cells #[Value.string s0, Value.slice a0 n0 c0', Value.slice a1 n1 c1', Value.slice a2 n2 c2, Value.slice a3 n3 c3, Value.slice a4 n4 c4, Value.slice a5 n5 c5, Value.int IntKind.i64 r0] 45)))
          have xq : Ext wr (wr.alloc (.cells #[Value.string s0, Value.slice a0 n0 c0', Value.slice a1 n1 c1', Value.slice a2 n2 c2, Value.slice a3 n3 c3, Value.slice a4 n4 c4, Value.slice a5 n5 c5, Value.int IntKind.i64 r0] 45)) := (Ext.refl wr).alloc _
          generalize wr.alloc (.cells #[Value.string s0, Value.slice a0 n0 c0', Value.slice a1 n1 c1', Value.slice a2 n2 c2, Value.slice a3 n3 c3, Value.slice a4 n4 c4, Value.slice a5 n5 c5, Value.int IntKind.i64 r0] 45) = wq at *
          have XQ := Lib.hid xq
          clear hlk5 c1 e1 xq
          have hown := HP.out.beh.rows n
          have hll := HP.out.len n
          have hnb := HP.out.nbM
          have KS := Lib.hid (show ∀ W, wq.grownBy W (bval bget2 n).ownBlock → W.cell? ⟨g, 1, none⟩ = some (.map (some bb)) ∧ (Instr.lookup 55 (.map (some bb)) (.string (ba n)) false).run Try.prog W = .ok (bval bget2 n) W from fun W gw => HP.out.keepS HST.out hn gw)
          have HO := Lib.hid hown
          have MB := Lib.hid (show ∀ W, wq.grownBy W (bval bget2 n).ownBlock → MapIs W bb nb2 bget2 from fun W gw => HP.out.beh.map.grown gw (fun e => by have := (HO.out.lt _ e).1; have := HST.out.lbb; omega))
          have AP := Lib.hid (show ∀ (w1 w2 w3 : World) (v' : Value), Ext wq w1 → OwnS w2 w0.heap.size v' (addB bh n (((xs.take k).filter (there us))) n ++ [x]) → w1.grownBy w2 (bval bget2 n).ownBlock → NewOrSame w1 (bval bget2 n) v' → MapIs w3 bb (nb2 + 1) (putK bget2 n v') → w2.grownBy w3 (some bb) → PutG w0 bb (M + k + 1) (nb2 + 1) (putK bget2 n v') (addB (addB bh n ((xs.take k).filter (there us))) n [x]) (.slice (some ⟨b, o, none⟩) xs.length cn) xs w3 from fun _ _ _ _ x1 ho g2 nw m3 g3 => HP.out.push HST.out.lbb (List.ne_nil_of_length_pos (by omega)) x1 ho g2 nw m3 g3)
          obtain ⟨av, cv, hbs, -⟩ := hown.row.form
          have hsz := HP.out.fr.size
          generalize hl2 : addB bh n ((xs.take k).filter (there us)) n = l2 at *
          generalize hbv : bval bget2 n = bv at *
          subst hbs
          have HBV := Lib.hid hbv
          clear hbv
          have HL2 := Lib.hid hl2
          clear hl2 hown
          have hlk1 := (KS.out _ (below_grown (Ext.refl wq).drew _)).2
          have hlk2 := (KS.out _ (below_grown ((Ext.refl wq).alloc (.cells #[.string (ba x)] 9)).drew _)).2
          go_region_held3 (fun W => W.cell? ⟨g, 1, none⟩ = some (.map (some bb)))
            (first
              | exact (KS.out _ (World.grownBy.refl _ _)).1
              | exact (KS.out _ (below_grown (Ext.refl wq).drew _)).1
              | exact (KS.out _ (below_grown ((Ext.refl wq).alloc _).drew _)).1
              | exact (KS.out _ (G8.out)).1
              | exact CG9.out)
            (first
              | (refine step_append_str rfl (.tmp 49) (.tmp 51) 23 rfl Try.underlying23 w0.heap.size _ _ rfl rfl l2 [x] (HO.out.ext ((Ext.refl wq).alloc _).drew) (SRow.one _ _).drew (by simp; omega) (by simp; omega) ?_; intro v8 w8 o8 g8 n8; (obtain ⟨a8, c8, rfl, -⟩ := o8.row.form); have O8 := Lib.hid o8; have G8 := Lib.hid ((below_grown ((Ext.refl wq).alloc (.cells #[.string (ba x)] 9)).drew _).trans g8); have G80 := Lib.hid g8; have N8 := Lib.hid n8; clear o8 g8 n8; (obtain ⟨w9, hr9, m9, g9⟩ := (MB.out _ G8.out).put (t := 55) (e := 23) Try.underlying55 (by unfold maxLen; omega) hn (.slice a8 (l2.length + 1) c8)); have M9 := Lib.hid m9; have G9 := Lib.hid g9; have CG9 := Lib.hid (HST.out.cells (((HP.out.fr.andThen G8.out fun j hj => .inl (HO.out.lt _ hj).1)).trans g9)).2; clear m9 g9))
          all_goals
            go_wp2_with fail
            go_roundw
            case rel =>
              refine ⟨k + 1, nb2 + 1, putK bget2 n (.slice a8 (l2.length + 1) c8), by omega, by go_num, Lib.hid ?_, Lib.hid ?_⟩
              rotate_left
              · have hN := N8.out
                rw [List.length_append] at hN
                exact HK.out.step (XQ.out.trans ((Ext.refl wq).alloc _).drew) (by rw [HBV.out]; exact G80.out) (by rw [HBV.out]; exact hN) G9.out
              have hN := N8.out
              have hO := O8.out
              rw [List.length_append] at hN hO
              have := AP.out _ _ _ _ ((Ext.refl wq).alloc _).drew hO G80.out hN M9.out G9.out
              rw [addB_addB] at this
              rw [HTK.out, List.filter_append, List.filter_cons_of_pos HTX.out, List.filter_nil]
              exact this
            case measure => simp [intOf]; omega
      · go_wp2_with fail
        go_end0
        refine ⟨rfl, nb2, bget2, ?_⟩
        rw [putP_yes HT.out]
        have := HR.out
        rw [List.take_of_length_le (by omega), show k = xs.length by omega] at this
        exact ⟨this, HK.out⟩
end Go.Proofs.Ytobdjfibaemmhaa
