/- A graph in memory: New. -/
import Derived.Test.YtobdjfibaemmhaaGh
import Derived.Deep.MidRow
namespace Go.Proofs.Ytobdjfibaemmhaa
open Go.RowKit Go.Maps Go.Lib

/-- Units as a slice has them. -/
def UnitsIn (w : World) (v : Value) (us : List Un) : Prop :=
  ∃ a cap, v = .slice a us.length cap ∧ us.length ≤ cap ∧ cap ≤ 9223372036854775807 ∧ ∀ i, (h : i < us.length) → ∃ b o R, a = some ⟨b, o, none⟩ ∧ UnitIs w (.agg R) us[i] ∧ w.rangeAt b (o + i * 8) R.toList
theorem UnitsIn.at {w : World} {a : Option Addr} {n c : Nat} {us : List Un} (h : UnitsIn w (.slice a n c) us) (k : Nat) (hk : k < us.length) : ∃ b o R, a = some ⟨b, o, none⟩ ∧ UnitIs w (.agg R) us[k] ∧ w.rangeAt b (o + k * 8) R.toList := by
  obtain ⟨a', cap, e, -, -, hc⟩ := h
  cases e
  exact hc k hk
theorem range_ext {w W : World} {b o : Nat} {cs : List Value} (h : w.rangeAt b o cs) (x : Ext w W) : W.rangeAt b o cs := fun j v hj => x.cell (h j v hj)
/-- A graph without order as it grows. -/
structure NewAt (w : World) (us : List Un) (n : Nat) (wr : World) : Prop where
  x : Ext w wr
  cg : wr.heap[w.heap.size + 1 + 1]? = some (.cells #[.map (some w.heap.size), .map (some (w.heap.size + 1)), .slice none 0 0] 57 (0, 0))
  units : UnitsAt wr w.heap.size n us
  beh : MapIs wr (w.heap.size + 1) 0 fun _ => none
theorem NewAt.ext {w wr w' : World} {us : List Un} {n : Nat} (h : NewAt w us n wr) (x : Ext wr w') : NewAt w us n w' := ⟨h.x.trans x, x.get h.cg, h.units.ext x, h.beh.ext x⟩
def newPost (w : World) (us : List Un) (e : Ending) (w' : World) : Prop :=
  Ext w w' ∧ match newErr us with
    | some (c, n) => e = .returned (.tuple #[.pointer none, .int .i64 c, .string (ba n)])
    | none => ∃ g ub nu bb nb ov, e = .returned (.tuple #[.pointer (some ⟨g, 0, none⟩), .int .i64 0, .string (ba [])]) ∧ GraphAt w' g ub nu bb nb ov us (behP us) (orderOf us).1
def newRel1 (w : World) (us : List Un) (i : Value) (wr : World) : Prop :=
  ∃ k, k ≤ us.length ∧ i = .int .i64 k ∧ Hid (NewAt w (us.take k) k wr) ∧ Hid (twiceP (us.take k) (us.drop k) = twiceP [] us)
def newRel2 (us : List Un) (w3 : World) (i : Value) (wr : World) : Prop :=
  ∃ k, k ≤ (namesOf us).length ∧ i = .int .i64 k ∧ Hid (Ext w3 wr) ∧ Hid (((namesOf us).drop k).find? (lacks us) = needsP us)
def newRel3 (us : List Un) (l : List Str) (w4 : World) (i : Value) (wr : World) : Prop :=
  ∃ k, k ≤ l.length ∧ i = .int .i64 k ∧ Hid (Ext w4 wr) ∧ Hid (∀ x ∈ l.take k, there us x = true)
theorem SRows.two {w : World} {v u : Value} {l m : List Str} {t : TypeId} (h : SRow (w.alloc (.cells #[v, u] t)) v l) (k : SRow (w.alloc (.cells #[v, u] t)) u m) : SRows (w.alloc (.cells #[v, u] t)).drew (.slice (some ⟨w.heap.size, 0, none⟩) 2 2) [l, m] := by
  refine ⟨_, _, rfl, by simp, fun i hi => ?_⟩
  match i, hi with
  | 0, _ => exact ⟨_, _, v, rfl, by rw [World.cell?_drew, cell_new0]; rfl, h⟩
  | 1, _ => exact ⟨_, _, u, rfl, by rw [World.cell?_drew, cell_new0]; rfl, k⟩
theorem field4 (s : ByteArray) (p0 p1 p2 p3 p4 p5 : Option Addr) (q0 q1 q2 q3 q4 q5 r0 r1 r2 r3 r4 r5 : Nat) (t : Int) (W : World) : (Instr.field 45 (.agg #[.string s, .slice p0 q0 r0, .slice p1 q1 r1, .slice p2 q2 r2, .slice p3 q3 r3, .slice p4 q4 r4, .slice p5 q5 r5, .int .i64 t]) 4).run Try.prog W = .ok (.slice p3 q3 r3) W := by kernel_rfl
theorem field6 (s : ByteArray) (p0 p1 p2 p3 p4 p5 : Option Addr) (q0 q1 q2 q3 q4 q5 r0 r1 r2 r3 r4 r5 : Nat) (t : Int) (W : World) : (Instr.field 45 (.agg #[.string s, .slice p0 q0 r0, .slice p1 q1 r1, .slice p2 q2 r2, .slice p3 q3 r3, .slice p4 q4 r4, .slice p5 q5 r5, .int .i64 t]) 6).run Try.prog W = .ok (.slice p5 q5 r5) W := by kernel_rfl
theorem SRows.two0 {w : World} {v u : Value} {l m : List Str} {t : TypeId} (h : SRow (w.alloc (.cells #[v, u] t)) v l) (k : SRow (w.alloc (.cells #[v, u] t)) u m) : SRows (w.alloc (.cells #[v, u] t)) (.slice (some ⟨w.heap.size, 0, none⟩) 2 2) [l, m] := by
  refine ⟨_, _, rfl, by simp, fun i hi => ?_⟩
  match i, hi with
  | 0, _ => exact ⟨_, _, v, rfl, by rw [cell_new0]; rfl, h⟩
  | 1, _ => exact ⟨_, _, u, rfl, by rw [cell_new0]; rfl, k⟩
theorem flat2 (l m : List Str) : [l, m].flatten = l ++ m := by simp
theorem UnitIs.keepG {w W : World} {g ub bb : Nat} {a : Option Addr} {n c : Nat} {v : Value} {u : Un} (h : UnitIs w v u) (hg : w.heap[g]? = some (.cells #[.map (some ub), .map (some bb), .slice a n c] 57 (0, 0))) (x : w.grownBy W (some g)) : UnitIs W v u := by
  obtain ⟨xs, h1, h2, h3⟩ := h
  refine ⟨xs, h1, h2, fun j hj => ?_⟩
  obtain ⟨y, l, h4, h5, h6⟩ := h3 j hj
  exact ⟨y, l, h4, h5, h6.keepG hg x⟩
theorem UnitsAt.keepG {w W : World} {ub nu g ub' bb : Nat} {a : Option Addr} {n c : Nat} {us : List Un} (h : UnitsAt w ub nu us) (hg : w.heap[g]? = some (.cells #[.map (some ub'), .map (some bb), .slice a n c] 57 (0, 0))) (x : w.grownBy W (some g)) (hne : ub ≠ g) : UnitsAt W ub nu us := by
  obtain ⟨get, h1, h2⟩ := h
  refine ⟨get, h1.grown x (fun e => hne (Option.some.inj e).symm), fun k => ?_⟩
  have := h2 k
  split
  · rename_i u hu
    rw [hu] at this
    obtain ⟨v, h3, h4⟩ := this
    exact ⟨v, h3, h4.keepG hg x⟩
  · rename_i hu
    rw [hu] at this
    exact this
theorem UnitsAt.lookM {w W : World} {ub nu bb nb : Nat} {us : List Un} {bget : Str → Option Value} (h : UnitsAt w ub nu us) (hm : MapIs w bb nb bget) (x : w.grownBy W (some bb)) (hne : ub ≠ bb) {k : Str} (hk : k.length ≤ maxLen) :
    ∃ v, UnitIs w v (unitD (findU us k)) ∧ ∀ V, Ext W V → (Instr.lookup 54 (.map (some ub)) (.string (ba k)) false).run Try.prog V = .ok v V := by
  obtain ⟨get, h1, hget⟩ := h
  have h2 : MapIs W ub nu get := h1.grown x (fun e => hne (Option.some.inj e).symm)
  have hgn := hget k
  cases hf : findU us k with
  | none =>
    rw [hf] at hgn
    simp only at hgn
    refine ⟨zero45, unit0_is w, fun V y => ?_⟩
    have := (h2.ext y).look (t := 54) (e := 45) Try.underlying54 (zero45_run _) hk
    rw [hgn] at this
    rw [this]; rfl
  | some u =>
    rw [hf] at hgn
    simp only at hgn
    obtain ⟨uv, hgu, hui⟩ := hgn
    refine ⟨uv, hui, fun V y => ?_⟩
    have := (h2.ext y).look (t := 54) (e := 45) Try.underlying54 (zero45_run _) hk
    rw [hgu] at this
    rw [this]; rfl
/-- The graph while what stands behind what is laid, from world w7 on. -/
structure PutN (w7 : World) (bb M : Nat) (bh : Beh) (nb : Nat) (bget : Str → Option Value) (w : World) : Prop where
  fr : w7.grownBy w (some bb)
  beh : BehG w w7.heap.size bb nb bget bh
  nbM : nb ≤ M
  len : ∀ k, (bh k).length ≤ M
theorem PutG.n {w0 w : World} {bb M nb : Nat} {bget : Str → Option Value} {bh : Beh} {nv : Value} {xs : List Str} (h : PutG w0 bb M nb bget bh nv xs w) : PutN w0 bb M bh nb bget w := ⟨h.fr, h.beh, h.nbM, h.len⟩
theorem PutN.ext {w0 w w' : World} {bb M nb : Nat} {bget : Str → Option Value} {bh : Beh} (h : PutN w0 bb M bh nb bget w) (x : Ext w w') : PutN w0 bb M bh nb bget w' := ⟨h.fr.trans (below_grown x (some bb)), h.beh.ext x, h.nbM, h.len⟩
theorem PutN.mono {w0 w : World} {bb M M' nb : Nat} {bget : Str → Option Value} {bh : Beh} (h : PutN w0 bb M bh nb bget w) (hM : M ≤ M') : PutN w0 bb M' bh nb bget w := ⟨h.fr, h.beh, by have := h.nbM; omega, fun k => by have := h.len k; omega⟩
theorem PutN.g {w0 w w' : World} {bb M nb : Nat} {bget : Str → Option Value} {bh : Beh} {nv : Value} {xs : List Str} (h : PutN w0 bb M bh nb bget w) (x : Ext w w') (hr : SRow w' nv xs) (hn : ∀ b, nv.ownBlock = some b → w.heap.size ≤ b) : PutG w0 bb M nb bget bh nv xs w' :=
  let h' := h.ext x
  ⟨h'.fr, h'.beh, h'.nbM, h'.len, hr, fun k b hb e => by have := ((h.beh.rows k).lt _ hb).2; have := hn b e; omega⟩
theorem PutN.start {w : World} {bb : Nat} (h : MapIs w bb 0 fun _ => none) : PutN w bb 0 (fun _ => []) 0 (fun _ => none) w :=
  ⟨World.grownBy.refl _ _, ⟨h, fun k => OwnS.nil _ _, fun k k' b _ e => by cases e⟩, Nat.le_refl _, fun k => Nat.le_refl _⟩
def newRel4 (us : List Un) (w7 : World) (bb : Nat) (i : Value) (wr : World) : Prop :=
  ∃ k nb bget, k ≤ (namesOf us).length ∧ i = .int .i64 k ∧ Hid (PutN w7 bb (30 * k) (((namesOf us).take k).foldl (behOne us) fun _ => []) nb bget wr)
def putAll (us : List Un) (n : Str) (b : Beh) (xs : List Str) : Beh := xs.foldl (fun c x => putP us c x [n]) b
def newRel5 (us : List Un) (w7 : World) (bb M : Nat) (n : Str) (bh : Beh) (l : List Str) (i : Value) (wr : World) : Prop :=
  ∃ j nb bget, j ≤ l.length ∧ i = .int .i64 j ∧ Hid (PutN w7 bb (M + j) (putAll us n bh (l.take j)) nb bget wr)
theorem behOne_some {us : List Un} {b : Beh} {n : Str} {u : Un} (h : findU us n = some u) : behOne us b n = putAll us n (putP us b n (u.after ++ u.requires)) u.before := by
  unfold behOne putAll
  rw [h]
theorem unitsAt_nil (w : World) (b n : Nat) (h : MapIs w b n fun _ => none) : UnitsAt w b n [] := ⟨_, h, fun _ => rfl⟩
theorem MapIs.lit {w : World} {b : Nat} (h : w.heap[b]? = some (.map #[] 0)) : MapIs w b 0 fun _ => none :=
  ⟨.map [], ⟨#[], 0, h, ⟨by simp, Go.MapKept.stamped_empty 0, by simp⟩, Nat.le_refl _, rfl⟩, fun k zd => by simp [DataW.atKey]⟩
theorem SRow.keepM {w W : World} {b n : Nat} {get : Str → Option Value} {v : Value} {l : List Str} (h : SRow w v l) (hm : MapIs w b n get) (x : w.grownBy W (some b)) : SRow W v l := by
  obtain ⟨a', cap, rfl, hl, hm2, hn, hc⟩ := h
  refine ⟨a', cap, rfl, hl, hm2, hn, fun i hi => ?_⟩
  obtain ⟨b', o, rfl, hcell⟩ := hc i hi
  refine ⟨b', o, rfl, ?_⟩
  rw [← hcell]
  refine World.cell?_of_block (w := w) (x.block b' (World.block_lt_of_cell? w _ hcell) fun e => ?_)
  cases e
  obtain ⟨D, ⟨es, clock, hm, -⟩, -⟩ := hm
  simp [World.cell?, hm] at hcell
theorem UnitIs.keepM {w W : World} {b n : Nat} {get : Str → Option Value} {v : Value} {u : Un} (h : UnitIs w v u) (hm : MapIs w b n get) (x : w.grownBy W (some b)) : UnitIs W v u := by
  obtain ⟨xs, h1, h2, h3⟩ := h
  refine ⟨xs, h1, h2, fun j hj => ?_⟩
  obtain ⟨y, l, h4, h5, h6⟩ := h3 j hj
  exact ⟨y, l, h4, h5, h6.keepM hm x⟩
theorem UnitsAt.keepM {w W : World} {ub nu bb nb : Nat} {us : List Un} {bget : Str → Option Value} (h : UnitsAt w ub nu us) (hm : MapIs w bb nb bget) (x : w.grownBy W (some bb)) (hne : ub ≠ bb) : UnitsAt W ub nu us := by
  obtain ⟨get, h1, h2⟩ := h
  refine ⟨get, h1.grown x (fun e => hne (Option.some.inj e).symm), fun k => ?_⟩
  have := h2 k
  split
  · rename_i u hu
    rw [hu] at this
    obtain ⟨v, h3, h4⟩ := this
    exact ⟨v, h3, h4.keepM hm x⟩
  · rename_i hu
    rw [hu] at this
    exact this
theorem PutN.sstat {w7 w : World} {g ub nu bb M nb : Nat} {us : List Un} {bget : Str → Option Value} (h : PutN w7 bb M (behP us) nb bget w) (hg : w7.heap[g]? = some (.cells #[.map (some ub), .map (some bb), .slice none 0 0] 57 (0, 0))) (hu : UnitsAt w7 ub nu us) (hm : MapIs w7 bb 0 fun _ => none)
    (hd : (us.map Un.name).Nodup) (hs : SmallU us) (hgb : g ≠ bb) (hub : ub ≠ bb) : SStat w g ub nu bb us bget (behP us) :=
  ⟨(h.fr.block g (Array.getElem?_eq_some_iff.1 hg).1 (fun e => hgb (Option.some.inj e))).trans hg, hu.keepM hm h.fr hub, hd, hs.len, fun u hu => by have := hs.name u hu; unfold maxLen; omega, ⟨nb, h.beh.map⟩, fun k => (h.beh.rows k).row, fun k x hx => by
    obtain ⟨u, hu, rfl⟩ := List.mem_map.1 (behP_short hx)
    have := hs.name u hu
    unfold maxLen
    omega⟩
theorem SStat.graph {w w' : World} {g ub nu bb : Nat} {us : List Un} {bget : Str → Option Value} {bh : Beh} {ov : Value} {order : List Str} (h : SStat w g ub nu bb us bget bh) (fr : w.grownBy w' (some g)) (cg : w'.heap[g]? = some (.cells #[.map (some ub), .map (some bb), ov] 57 (0, 0))) {base : Nat} (ho : OwnS w' base ov order) (hug : ub ≠ g) (hbg : bb ≠ g) :
    ∃ nb, GraphAt w' g ub nu bb nb ov us bh order := by
  obtain ⟨nb, hm⟩ := h.map
  exact ⟨nb, cg, h.units.keepG h.cg fr hug, ⟨bget, hm.grown fr (fun e => hbg (Option.some.inj e).symm), fun k => (h.rows k).keepG h.cg fr⟩, ho.row⟩
theorem NewAt.put {w wr w5 : World} {us : List Un} {n : Nat} {v : Value} {u : Un} (h : NewAt w us n wr) (x : Ext wr w5) (hv : UnitIs w5 v u) (ht : there us u.name = false) (hn : n < maxLen) (hl : u.name.length ≤ maxLen) :
    ∃ w6, (Instr.mapUpdate 54 (.map (some w.heap.size)) (.string (ba u.name)) v).run Try.prog w5 = .ok () w6 ∧ NewAt w (us ++ [u]) (n + 1) w6 ∧ w5.grownBy w6 (some w.heap.size) := by
  have h5 := h.ext x
  obtain ⟨get, hm, hget⟩ := h5.units
  obtain ⟨w6, h1, h2, h3⟩ := hm.put (t := 54) (e := 45) Try.underlying54 hn hl v
  have hg : w.heap.size + 1 + 1 < w5.heap.size := (Array.getElem?_eq_some_iff.1 h5.cg).1
  refine ⟨w6, h1, ⟨h5.x.grow h3 (fun k hk => by cases hk; exact Nat.le_refl _), ?_, ⟨_, h2, fun k => ?_⟩, h5.beh.grown h3 (fun e => by have := Option.some.inj e; omega)⟩, h3⟩
  · rw [h3.block _ hg (fun e => by have := Option.some.inj e; omega)]; exact h5.cg
  · have hk := hget k
    rw [findU_snoc]
    unfold putK
    by_cases hku : k = u.name
    · subst hku
      have hf : findU us u.name = none := by
        unfold there at ht
        cases hf : findU us u.name with
        | none => rfl
        | some x => rw [hf] at ht; cases ht
      rw [hf]
      simp only [Option.none_or, if_true]
      exact ⟨v, rfl, hv.keepM hm h3⟩
    · rw [if_neg (fun e : u.name = k => hku e.symm), if_neg hku, Option.or_none]
      cases hf : findU us k with
      | none => rw [hf] at hk; exact hk
      | some u2 =>
        rw [hf] at hk
        obtain ⟨v2, h6, h7⟩ := hk
        exact ⟨v2, h6, h7.keepM hm h3⟩
theorem cells8 {V : World} {b : Nat} {t : TypeId} {x0 x1 x2 x3 x4 x5 x6 x7 : Value} (h : V.heap[b]? = some (.cells #[x0, x1, x2, x3, x4, x5, x6, x7] t (0, 0))) : V.cell? ⟨b, 0, none⟩ = some x0 ∧ V.cell? ⟨b, 1, none⟩ = some x1 ∧ V.cell? ⟨b, 2, none⟩ = some x2 ∧ V.cell? ⟨b, 3, none⟩ = some x3 ∧ V.cell? ⟨b, 4, none⟩ = some x4 ∧ V.cell? ⟨b, 5, none⟩ = some x5 ∧ V.cell? ⟨b, 6, none⟩ = some x6 ∧ V.cell? ⟨b, 7, none⟩ = some x7 := by
  refine ⟨?_, ?_, ?_, ?_, ?_, ?_, ?_, ?_⟩ <;> rw [cell_blk h] <;> rfl
theorem keep_far {V5 V6 : World} {g b r : Nat} {u x0 x1 x2 x3 x4 x5 x6 x7 : Value} (h : V5.cell? ⟨g, 0, none⟩ = some u ∧ V5.cell? ⟨b, 0, none⟩ = some x0 ∧ V5.cell? ⟨b, 1, none⟩ = some x1 ∧ V5.cell? ⟨b, 2, none⟩ = some x2 ∧ V5.cell? ⟨b, 3, none⟩ = some x3 ∧ V5.cell? ⟨b, 4, none⟩ = some x4 ∧ V5.cell? ⟨b, 5, none⟩ = some x5 ∧ V5.cell? ⟨b, 6, none⟩ = some x6 ∧ V5.cell? ⟨b, 7, none⟩ = some x7) (g6 : V5.grownBy V6 (some r)) (hne : b ≠ r) (hng : g ≠ r) :
    V6.cell? ⟨g, 0, none⟩ = some u ∧ V6.cell? ⟨b, 0, none⟩ = some x0 ∧ V6.cell? ⟨b, 1, none⟩ = some x1 ∧ V6.cell? ⟨b, 2, none⟩ = some x2 ∧ V6.cell? ⟨b, 3, none⟩ = some x3 ∧ V6.cell? ⟨b, 4, none⟩ = some x4 ∧ V6.cell? ⟨b, 5, none⟩ = some x5 ∧ V6.cell? ⟨b, 6, none⟩ = some x6 ∧ V6.cell? ⟨b, 7, none⟩ = some x7 := by
  obtain ⟨h, h0, h1, h2, h3, h4, h5, h6, h7⟩ := h
  exact ⟨g6.cell h (fun e => hng (Option.some.inj e)), g6.cell h0 (fun e => hne (Option.some.inj e)), g6.cell h1 (fun e => hne (Option.some.inj e)), g6.cell h2 (fun e => hne (Option.some.inj e)), g6.cell h3 (fun e => hne (Option.some.inj e)), g6.cell h4 (fun e => hne (Option.some.inj e)), g6.cell h5 (fun e => hne (Option.some.inj e)), g6.cell h6 (fun e => hne (Option.some.inj e)), g6.cell h7 (fun e => hne (Option.some.inj e))⟩
set_option maxRecDepth 100000 in
set_option maxHeartbeats 8000000 in
theorem New_any {w : World} {v : Value} {us : List Un} (h : UnitsIn w v us) (hs : SmallU us) : Calls Try.prog 10 #[v] w (newPost w us) := by
  have hmm := @run_makeMap Try.prog
  have HU := Lib.hid h
  have HS := Lib.hid hs
  obtain ⟨av, cv, rfl, hcap, hcap2, -⟩ := h
  have hlen := hs.len
  by_cases h16 : 16 < us.length
  · have HE := Lib.hid (show newErr us = some (22, []) by unfold newErr; rw [if_pos h16])
    go_enter Try.func10, Try.ntmps10
    go_wp2_with fail
    go_ret3
    unfold newPost
    rw [HE.out]
    exact ⟨(((Ext.refl w).alloc _).alloc _).alloc _, rfl⟩
  · have h16' : us.length ≤ 16 := by omega
    go_enter Try.func10, Try.ntmps10
    go_wp2_with fail
    go_loopw [31] (fun i wr => newRel1 w us i wr) (fun i _ => us.length - (intOf i).toNat)
    case atStart =>
      refine ⟨0, Nat.zero_le _, rfl, Lib.hid ⟨(((Ext.refl w).alloc _).alloc _).alloc _, ?_, unitsAt_nil _ _ _ (MapIs.lit (three_a w _ _ _)), MapIs.lit (three_b w _ _ _)⟩, rfl⟩
      exact three_c w _ _ _
    case round =>
      obtain ⟨k, hk, rfl, HR, HT⟩ := hrel
      by_cases hlt : k < us.length
      · skip
        obtain ⟨b, o, R, rfl, hui, hrg⟩ := HU.out.at k hlt
        have hui2 := hui.ext HR.out.x
        have hrg2 := range_ext hrg HR.out.x
        have HNM := Lib.hid hui2
        obtain ⟨a0, n0, c0, a1, n1, c1, a2, n2, c2, a3, n3, c3, a4, n4, c4, a5, n5, c5, e, -⟩ := hui2.shape
        cases e
        have hmem := List.getElem_mem hlt
        have HTK := Lib.hid (List.take_succ_eq_append_getElem hlt)
        have HDK := Lib.hid (List.drop_eq_getElem_cons hlt)
        clear hui hui2 hrg
        generalize us[k] = u at *
        have hul : u.name.length ≤ maxLen := by have := HS.out.name u hmem; unfold maxLen; omega
        have HLS := Lib.hid (HS.out.lists u hmem)
        obtain ⟨v7, hu7, hl7, -⟩ := HR.out.units.look hul
        obtain ⟨s7, p0, q0, r0, p1, q1, r1, p2, q2, r2, p3, q3, r3, p4, q4, r4, p5, q5, r5, t7, rfl⟩ := hu7.like
        clear hu7
        go_upto_region 7 with (refine wpList_load_mid rfl 45 (.tmp 33) rfl b (o + k * 8) rfl _ _ hrg2 Try.underlying45 rfl rfl ?_)
        obtain ⟨W, hW⟩ : ∃ W : World, W = wr.alloc (.cells #[Value.string (ba u.name), Value.slice a0 n0 c0, Value.slice a1 n1 c1, Value.slice a2 n2 c2, Value.slice a3 n3 c3, Value.slice a4 n4 c4, Value.slice a5 n5 c5, Value.int IntKind.i64 u.retry] 45) := ⟨_, rfl⟩
        have xW : Ext wr W := by rw [hW]; exact (Ext.refl wr).alloc _
        have bW : W.heap[wr.heap.size]? = some (.cells #[Value.string (ba u.name), Value.slice a0 n0 c0, Value.slice a1 n1 c1, Value.slice a2 n2 c2, Value.slice a3 n3 c3, Value.slice a4 n4 c4, Value.slice a5 n5 c5, Value.int IntKind.i64 u.retry] 45 (0, 0)) := by rw [hW]; exact heap_alloc_new _ _
        rw [← hW]
        clear hW
        have NW := Lib.hid (HR.out.ext xW)
        have XW := Lib.hid xW
        have KS := Lib.hid (show ∀ V, Ext W V → (V.cell? ⟨w.heap.size + 1 + 1, 0, none⟩ = some (.map (some w.heap.size)) ∧ V.cell? ⟨wr.heap.size, 0, none⟩ = some (Value.string (ba u.name)) ∧ V.cell? ⟨wr.heap.size, 1, none⟩ = some (Value.slice a0 n0 c0) ∧ V.cell? ⟨wr.heap.size, 2, none⟩ = some (Value.slice a1 n1 c1) ∧ V.cell? ⟨wr.heap.size, 3, none⟩ = some (Value.slice a2 n2 c2) ∧ V.cell? ⟨wr.heap.size, 4, none⟩ = some (Value.slice a3 n3 c3) ∧ V.cell? ⟨wr.heap.size, 5, none⟩ = some (Value.slice a4 n4 c4) ∧ V.cell? ⟨wr.heap.size, 6, none⟩ = some (Value.slice a5 n5 c5) ∧ V.cell? ⟨wr.heap.size, 7, none⟩ = some (Value.int IntKind.i64 u.retry)) ∧
          (Instr.lookup 54 (.map (some w.heap.size)) (.string (ba u.name)) true).run Try.prog V = .ok (.tuple #[.agg #[.string s7, .slice p0 q0 r0, .slice p1 q1 r1, .slice p2 q2 r2, .slice p3 q3 r3, .slice p4 q4 r4, .slice p5 q5 r5, .int .i64 t7], .bool (there (us.take k) u.name)]) V from fun V x => by
            exact ⟨⟨by rw [cell_blk ((NW.out.ext x).cg)]; rfl, cells8 (x.get bW)⟩, hl7 V (xW.trans x)⟩)
        clear xW bW hl7
        generalize hht : there (us.take k) u.name = tt at *
        have HTT := Lib.hid hht
        clear hht
        go_cut [8, 9] from 35 to 45 (fun p q wc => p = p ∧ q = .bool tt ∧ Hid (Ext W wc))
        case first =>
          go_region_held3 (fun V => V.cell? ⟨w.heap.size + 1 + 1, 0, none⟩ = some (.map (some w.heap.size)) ∧ V.cell? ⟨wr.heap.size, 0, none⟩ = some (.string (ba u.name)) ∧ (Instr.lookup 54 (.map (some w.heap.size)) (.string (ba u.name)) true).run Try.prog V = .ok (.tuple #[.agg #[.string s7, .slice p0 q0 r0, .slice p1 q1 r1, .slice p2 q2 r2, .slice p3 q3 r3, .slice p4 q4 r4, .slice p5 q5 r5, .int .i64 t7], .bool tt]) V)
            (first
              | (exact ⟨(KS.out _ (Ext.refl W).drew).1.1, (KS.out _ (Ext.refl W).drew).1.2.1, (KS.out _ (Ext.refl W).drew).2⟩)
              | (exact ⟨(KS.out _ ((Ext.refl W).alloc _).drew).1.1, (KS.out _ ((Ext.refl W).alloc _).drew).1.2.1, (KS.out _ ((Ext.refl W).alloc _).drew).2⟩))
            (fail)
          all_goals
            go_wp2_with fail
            go_meet
            exact ⟨trivial, rfl, Lib.hid ((Ext.refl W).alloc _).drew⟩
        case rest =>
        obtain ⟨-, rfl, XC⟩ := hcut
        obtain ⟨W2, rfl⟩ : ∃ x : World, x = wc := ⟨_, rfl⟩
        have KT := Lib.hid (show ∀ V, Ext W2 V → _ from fun V x => (KS.out V (XC.out.trans x)).1)
        obtain ⟨kt1, kt2, -⟩ := KT.out W2 (Ext.refl W2)
        cases tt with
        | true =>
          have HE : Hid (newErr us = some (9, u.name)) := Lib.hid (by
            unfold newErr
            rw [if_neg h16, ← HT.out, HDK.out, twiceP, HTT.out]
            rfl)
          go_wp2_with fail
          go_quiet (fail)
          go_wp2_with fail
          go_ret3
          unfold newPost
          rw [HE.out]
          exact ⟨(NW.out.x.trans XC.out).drewN _, rfl⟩
        | false =>
          have N2 := Lib.hid (NW.out.ext XC.out)
          have H2 := Lib.hid (HNM.out.ext (XW.out.trans XC.out))
          have hll : ∀ l ∈ listsOf u, l.length * 16 ≤ 140737488355328 := fun l hl => by have := (HLS.out l hl).1; omega
          have HC := Lib.hid (show ∀ V, Ext W2 V → Calls Try.prog 30 #[.agg #[Value.string (ba u.name), Value.slice a0 n0 c0, Value.slice a1 n1 c1, Value.slice a2 n2 c2, Value.slice a3 n3 c3, Value.slice a4 n4 c4, Value.slice a5 n5 c5, Value.int IntKind.i64 u.retry]] V (clonePost V u) from fun V x => uclone_any (H2.out.ext x) hll)
          have hkm : k < maxLen := by unfold maxLen; omega
          clear hll
          go_upto_region 10 with fail
          have hgl : w.heap.size + 1 + 1 < wr.heap.size := (Array.getElem?_eq_some_iff.1 HR.out.cg).1
          have hwl : wr.heap.size < W2.heap.size := World.block_lt_of_cell? W2 _ kt2
          have KF := Lib.hid (show ∀ V5 V6, Ext W2 V5 → V5.grownBy V6 (some w.heap.size) → _ from fun V5 V6 x5 g6 => keep_far (KT.out V5 x5) g6 (by omega) (by omega))
          go_region_held3 (fun V => V.cell? ⟨w.heap.size + 1 + 1, 0, none⟩ = some (.map (some w.heap.size)) ∧ V.cell? ⟨wr.heap.size, 0, none⟩ = some (Value.string (ba u.name)) ∧ V.cell? ⟨wr.heap.size, 1, none⟩ = some (Value.slice a0 n0 c0) ∧ V.cell? ⟨wr.heap.size, 2, none⟩ = some (Value.slice a1 n1 c1) ∧ V.cell? ⟨wr.heap.size, 3, none⟩ = some (Value.slice a2 n2 c2) ∧ V.cell? ⟨wr.heap.size, 4, none⟩ = some (Value.slice a3 n3 c3) ∧ V.cell? ⟨wr.heap.size, 5, none⟩ = some (Value.slice a4 n4 c4) ∧ V.cell? ⟨wr.heap.size, 6, none⟩ = some (Value.slice a5 n5 c5) ∧ V.cell? ⟨wr.heap.size, 7, none⟩ = some (Value.int IntKind.i64 u.retry))
            (first
              | exact KT.out _ (Ext.refl W2)
              | exact KT.out _ (Ext.refl W2).drew
              | exact KT.out _ X5.out
              | exact KF.out _ _ X5.out G6.out)
            (first | (go_at_call 30; refine (HC.out _ (Ext.refl W2).drew).mono ?_; rintro e w5 ⟨v5, rfl, h5, x5⟩; have X5 := Lib.hid (show Ext W2 w5 from (Ext.refl W2).drew.trans x5); (obtain ⟨w6, hr6, n6, g6⟩ := N2.out.put X5.out h5.is HTT.out hkm hul); have P6 := Lib.hid n6; have G6 := Lib.hid g6; clear n6 x5 h5 g6))
          all_goals
            go_wp2_with fail
            go_roundw
            case rel =>
              refine ⟨k + 1, by omega, by go_num, by rw [HTK.out]; exact P6, Lib.hid ?_⟩
              rw [HTK.out, ← HT.out, HDK.out, twiceP, HTT.out]
              rfl
            case measure => simp [intOf]; omega
      · have hkl : k = us.length := by omega
        subst hkl
        rw [List.take_length] at HR HT
        rw [List.drop_length] at HT
        have htw : twiceP [] us = none := by rw [← HT.out]; rfl
        have hnd := twice_iff.1 htw
        have HND := Lib.hid hnd
        have HTW := Lib.hid htw
        have HNA := Names_any HR.out.cg HR.out.units hnd hlen
        have hnl : (namesOf us).length = us.length := by unfold namesOf; rw [(sortS_perm _).length_eq, List.length_map]
        have HNL := Lib.hid hnl
        clear hnl hnd htw
        go_wp2_with (go_at_call 21; refine HNA.mono ?_; rintro e w3 ⟨v3, rfl, o3, x3⟩; have O3 := Lib.hid o3; have X3 := Lib.hid x3; clear o3 x3 HNA; (obtain ⟨a3, c3, rfl, -⟩ := O3.out.row.form))
        have hml : (namesOf us).length ≤ 16 := by have := HNL.out; omega
        have NX := Lib.hid (HR.out.ext X3.out)
        have hg0 : w3.cell? ⟨w.heap.size + 1 + 1, 0, none⟩ = some (.map (some w.heap.size)) := by rw [cell_blk NX.out.cg]; rfl
        have HG0 := Lib.hid hg0
        clear hg0
        go_loopw [60] (fun i wr2 => newRel2 us w3 i wr2) (fun i _ => (namesOf us).length - (intOf i).toNat)
        case atStart => exact ⟨0, Nat.zero_le _, rfl, Ext.refl _, rfl⟩
        case round =>
          obtain ⟨wo, rfl⟩ : ∃ x : World, x = wr := ⟨_, rfl⟩
          obtain ⟨k, hk, rfl, HX, HF⟩ := hrel
          by_cases hlt2 : k < (namesOf us).length
          · skip
            obtain ⟨b2, o2, rfl, e2⟩ := (O3.out.row.ext HX.out).at k hlt2
            have hmem := sortS_mem.1 (List.getElem_mem hlt2)
            have HDK := Lib.hid (List.drop_eq_getElem_cons hlt2)
            generalize (namesOf us)[k] = n at *
            obtain ⟨u, hfu⟩ := Option.isSome_iff_exists.1 (there_iff.2 hmem)
            have hum := findU_name hfu
            have hul : n.length ≤ maxLen := by have := HS.out.name u hum.1; rw [hum.2] at this; unfold maxLen; omega
            have HLS := Lib.hid (HS.out.lists u hum.1)
            obtain ⟨v7, hu7, -, hl7⟩ := (NX.out.ext HX.out).units.look hul
            rw [hfu] at hu7
            replace hu7 : UnitIs wo v7 u := hu7
            have HFU := Lib.hid hfu
            have HUM := Lib.hid hum
            obtain ⟨p0, q0, r0, p1, q1, r1, p2, q2, r2, p3, q3, r3, p4, q4, r4, p5, q5, r5, rfl, -, -, -, sr, -, sp⟩ := hu7.shape
            have SR := Lib.hid sr
            have SP := Lib.hid sp
            have hb4 := (HLS.out u.requires (by simp [listsOf])).1
            have hb6 := (HLS.out u.partOf (by simp [listsOf])).1
            clear hu7 sr sp hfu hum hmem
            go_upto_region 15 with fail
            have hg1 := HX.out.cell HG0.out
            have hl8 := hl7 wo (Ext.refl wo)
            have HL7 := Lib.hid hl7
            have HG1 := Lib.hid hg1
            clear hl7 hg1 hl8
            have hf4 := fun W => field4 (ba u.name) p0 p1 p2 p3 p4 p5 q0 q1 q2 q3 q4 q5 r0 r1 r2 r3 r4 r5 u.retry W
            have hf6 := fun W => field6 (ba u.name) p0 p1 p2 p3 p4 p5 q0 q1 q2 q3 q4 q5 r0 r1 r2 r3 r4 r5 u.retry W
            go_cut [79, 80, 81] from 64 to 82 (fun p q r wc => ∃ a c, p = .slice a (u.requires ++ u.partOf).length c ∧ q = .int .i64 (u.requires ++ u.partOf).length ∧ r = .int .i64 0 ∧ Hid (OwnS wc wo.heap.size (.slice a (u.requires ++ u.partOf).length c) (u.requires ++ u.partOf)) ∧ Hid (Ext wo wc))
            case first =>
              go_region_held3 (fun V => V.cell? ⟨w.heap.size + 1 + 1, 0, none⟩ = some (.map (some w.heap.size)) ∧ (Instr.lookup 54 (.map (some w.heap.size)) (.string (ba n)) false).run Try.prog V = .ok (.agg #[.string (ba u.name), .slice p0 q0 r0, .slice p1 q1 r1, .slice p2 q2 r2, .slice p3 q3 r3, .slice p4 q4 r4, .slice p5 q5 r5, .int .i64 u.retry]) V)
                (first
                  | exact ⟨HG1.out, HL7.out _ (Ext.refl wo).drew⟩
                  | exact ⟨((Ext.refl wo).alloc _).cell HG1.out, HL7.out _ ((Ext.refl wo).alloc _).drew⟩
                  | exact ⟨X5.out.cell HG1.out, HL7.out _ X5.out⟩)
                (first | (go_at_call 31; refine (concat_any (SRows.two (SR.out.ext ((Ext.refl wo).alloc _)) (SP.out.ext ((Ext.refl wo).alloc _))) (by simp; omega)).mono ?_; rintro e w5 ⟨v5, rfl, o5, x5⟩; rw [flat2] at o5; have X5 := Lib.hid (show Ext wo w5 from ((Ext.refl wo).alloc _).drew.trans x5); have O5 := Lib.hid o5; clear o5 x5; (obtain ⟨a5, c5, rfl, -⟩ := O5.out.row.form)))
              all_goals
                go_wp2_with fail
                go_meet
                have hO := O5.out.base (base' := wo.heap.size) (by simp)
                rw [List.length_append] at hO ⊢
                exact ⟨_, _, rfl, rfl, rfl, Lib.hid hO, X5⟩
            case rest =>
            obtain ⟨a6, c6, rfl, rfl, rfl, O6, X6⟩ := hcut
            obtain ⟨W6, rfl⟩ : ∃ x : World, x = wc := ⟨_, rfl⟩
            have HXT := Lib.hid (HX.out.trans X6.out)
            have hlr : (u.requires ++ u.partOf).length ≤ 20 := by rw [List.length_append]; omega
            have HSL := Lib.hid (show ShortAll (u.requires ++ u.partOf) from fun x hx => by
              unfold maxLen
              rcases List.mem_append.1 hx with hx | hx
              · have := (HLS.out u.requires (by simp [listsOf])).2 x hx; omega
              · have := (HLS.out u.partOf (by simp [listsOf])).2 x hx; omega)
            have HLK := Lib.hid (show lacks us n = !((u.requires ++ u.partOf).all (there us)) by unfold lacks; rw [HFU.out])
            generalize u.requires ++ u.partOf = l at *
            go_wp2_with fail
            go_loopw [81] (fun i wr3 => newRel3 us l W6 i wr3) (fun i _ => l.length - (intOf i).toNat)
            case atStart => exact ⟨0, Nat.zero_le _, rfl, Ext.refl _, Lib.hid (by simp)⟩
            case round =>
              obtain ⟨j, hj, rfl, HY, HA⟩ := hrel
              obtain ⟨wi, rfl⟩ : ∃ x : World, x = wr := ⟨_, rfl⟩
              by_cases hlt3 : j < l.length
              · obtain ⟨b6, o6, rfl, e6⟩ := (O6.out.row.ext HY.out).at j hlt3
                have hxl := HSL.out l[j] (List.getElem_mem hlt3)
                have HMX := Lib.hid (List.getElem_mem hlt3)
                have HTJ := Lib.hid (List.take_succ_eq_append_getElem hlt3)
                generalize l[j] = x at *
                have hg6 := (HXT.out.trans HY.out).cell HG0.out
                obtain ⟨v6, hu6, hl6, -⟩ := (NX.out.ext (HXT.out.trans HY.out)).units.look hxl
                obtain ⟨s7, p0, q0, r0, p1, q1, r1, p2, q2, r2, p3, q3, r3, p4, q4, r4, p5, q5, r5, t7, rfl⟩ := hu6.like
                have hl60 := hl6 wi (Ext.refl wi)
                clear hl6 hu6
                cases ht : there us x with
                | true =>
                  rw [ht] at hl60
                  have HTX := Lib.hid ht
                  clear ht
                  go_wp2_with fail
                  go_roundw
                  case rel => exact ⟨j + 1, by omega, by go_num, Lib.hid (HY.out.alloc _), Lib.hid (fun y hy => by
                    rw [HTJ.out] at hy
                    rcases List.mem_append.1 hy with hy | hy
                    · exact HA.out y hy
                    · rw [List.mem_singleton] at hy; rw [hy]; exact HTX.out)⟩
                  case measure => simp [intOf]; omega
                | false =>
                  rw [ht] at hl60
                  have HTX := Lib.hid ht
                  clear ht
                  have HE : Hid (newErr us = some (16, n)) := Lib.hid (by
                    unfold newErr
                    have h9 : lacks us n = true := by
                      rw [HLK.out]
                      simp only [Bool.not_eq_true', List.all_eq_false]
                      exact ⟨x, HMX.out, by rw [HTX.out]; simp⟩
                    rw [if_neg h16, HTW.out]
                    dsimp only
                    rw [← HF.out, HDK.out, List.find?_cons_of_pos h9])
                  go_wp2_with fail
                  go_ret3
                  unfold newPost
                  rw [HE.out]
                  exact ⟨(NX.out.x.trans (HXT.out.trans HY.out)).alloc _, rfl⟩
              · go_wp2_with fail
                go_roundw
                case rel =>
                  refine ⟨k + 1, by omega, by go_num, Lib.hid (HXT.out.trans HY.out), Lib.hid ?_⟩
                  have h9 : lacks us n = false := by
                    rw [HLK.out]
                    simp only [Bool.not_eq_false', List.all_eq_true]
                    intro x hx
                    refine HA.out x ?_
                    rw [List.take_of_length_le (by omega)]
                    exact hx
                  rw [← HF.out, HDK.out, List.find?_cons_of_neg (by rw [h9]; simp)]
                case measure => simp [intOf]; omega
          · have hkl : k = (namesOf us).length := by omega
            subst hkl
            rw [List.drop_length] at HF
            have hne := HF.out.symm
            have HNE := Lib.hid (show needsP us = none from hne)
            have NO := Lib.hid (NX.out.ext HX.out)
            have HNB := Names_any NO.out.cg NO.out.units HND.out hlen
            clear hne
            go_wp2_with (go_at_call 21; refine HNB.mono ?_; rintro e w7 ⟨v7, rfl, o7, x7⟩; have O7 := Lib.hid o7; have X7 := Lib.hid x7; clear o7 x7 HNB; (obtain ⟨a7, c7, rfl, -⟩ := O7.out.row.form))
            have N7 := Lib.hid (NO.out.ext X7.out)
            have hgl : w.heap.size + 1 + 1 < w7.heap.size := (Array.getElem?_eq_some_iff.1 N7.out.cg).1
            have ST := Lib.hid (show GStat w7 (w.heap.size + 1 + 1) w.heap.size (w.heap.size + 1) us from ⟨⟨_, N7.out.cg⟩, ⟨_, N7.out.units⟩, by omega, by omega, by omega⟩)
            go_loopw [102] (fun i wr4 => newRel4 us w7 (w.heap.size + 1) i wr4) (fun i _ => (namesOf us).length - (intOf i).toNat)
            case atStart => exact ⟨0, 0, fun _ => none, Nat.zero_le _, rfl, Lib.hid (PutN.start N7.out.beh)⟩
            case round =>
              obtain ⟨wp, rfl⟩ : ∃ x : World, x = wr := ⟨_, rfl⟩
              obtain ⟨k, nb, bget, hk, rfl, HP⟩ := hrel
              by_cases hlt4 : k < (namesOf us).length
              · obtain ⟨b2, o2, rfl, e2⟩ := (O7.out.row.keepM N7.out.beh HP.out.fr).at k hlt4
                have hmem := sortS_mem.1 (List.getElem_mem hlt4)
                have HTK := Lib.hid (List.take_succ_eq_append_getElem hlt4)
                generalize (namesOf us)[k] = n at *
                obtain ⟨u, hfu⟩ := Option.isSome_iff_exists.1 (there_iff.2 hmem)
                have hum := findU_name hfu
                have hul : n.length ≤ maxLen := by have := HS.out.name u hum.1; rw [hum.2] at this; unfold maxLen; omega
                have HLS := Lib.hid (HS.out.lists u hum.1)
                obtain ⟨v7, hu7, hl7⟩ := N7.out.units.lookM N7.out.beh HP.out.fr (by omega) hul
                rw [hfu] at hu7
                replace hu7 : UnitIs w7 v7 u := hu7
                have HFU := Lib.hid hfu
                obtain ⟨p0, q0, r0, p1, q1, r1, p2, q2, r2, p3, q3, r3, p4, q4, r4, p5, q5, r5, rfl, -, sa, sb, sr, -, -⟩ := hu7.shape
                have hsb := sb
                obtain ⟨_, _, e9, -⟩ := hsb.form
                cases e9
                have SA := Lib.hid (sa.keepM N7.out.beh HP.out.fr)
                have SB := Lib.hid sb
                have SR := Lib.hid (sr.keepM N7.out.beh HP.out.fr)
                have hb2 := (HLS.out u.after (by simp [listsOf])).1
                have hb3 := (HLS.out u.before (by simp [listsOf])).1
                have hb4 := (HLS.out u.requires (by simp [listsOf])).1
                have hc0 := (ST.out.cells HP.out.fr).1
                have hl8 := hl7 wp (Ext.refl wp)
                clear hu7 sa sb sr hsb hfu hum hmem hl7
                go_upto_region 27 with fail
                obtain ⟨W, hW⟩ : ∃ W : World, W = wp.alloc (.cells #[Value.string (ba u.name), Value.slice p0 q0 r0, Value.slice p1 q1 r1, Value.slice p2 u.before.length r2, Value.slice p3 q3 r3, Value.slice p4 q4 r4, Value.slice p5 q5 r5, Value.int IntKind.i64 u.retry] 45) := ⟨_, rfl⟩
                have xW : Ext wp W := by rw [hW]; exact (Ext.refl wp).alloc _
                have bW : W.heap[wp.heap.size]? = some (.cells #[Value.string (ba u.name), Value.slice p0 q0 r0, Value.slice p1 q1 r1, Value.slice p2 u.before.length r2, Value.slice p3 q3 r3, Value.slice p4 q4 r4, Value.slice p5 q5 r5, Value.int IntKind.i64 u.retry] 45 (0, 0)) := by rw [hW]; exact heap_alloc_new _ _
                rw [← hW]
                clear hW hl8 hc0 e2
                have k2 : W.cell? ⟨wp.heap.size, 2, none⟩ = some (.slice p1 q1 r1) := by rw [cell_blk bW]; rfl
                have k4 : W.cell? ⟨wp.heap.size, 4, none⟩ = some (.slice p3 q3 r3) := by rw [cell_blk bW]; rfl
                have XW := Lib.hid xW
                have BW := Lib.hid bW
                have hsl : ShortAll (u.after ++ u.requires) := fun x hx => by
                  unfold maxLen
                  rcases List.mem_append.1 hx with hx | hx
                  · have := (HLS.out u.after (by simp [listsOf])).2 x hx; omega
                  · have := (HLS.out u.requires (by simp [listsOf])).2 x hx; omega
                have HSL := Lib.hid hsl
                have hll : (u.after ++ u.requires).length ≤ 20 := by rw [List.length_append]; omega
                obtain ⟨l, hll2⟩ : ∃ l, l = u.after ++ u.requires := ⟨_, rfl⟩
                rw [← hll2] at HSL hll
                have HL2 := Lib.hid hll2
                have HLL := Lib.hid hll
                clear bW hsl xW hll hll2
                go_wp2_with (first
                  | (go_at_call 31; refine (concat_any (SRows.two0 (SA.out.ext (XW.out.alloc _)) (SR.out.ext (XW.out.alloc _))) (by simp; omega)).mono ?_; rintro e w5 ⟨v5, rfl, o5, x5⟩; rw [flat2, ← HL2.out] at o5; have X5 := Lib.hid (show Ext W w5 from ((Ext.refl W).alloc _).trans x5); have O5 := Lib.hid (o5.base (base' := wp.heap.size) (by have := XW.out.sz; simp; omega)); clear o5 x5;
                      have PG := Lib.hid (HP.out.g (XW.out.trans X5.out) O5.out.row (fun b hb => (O5.out.lt b hb).1)); (obtain ⟨a5, c5, rfl, -⟩ := O5.out.row.form))
                  | (go_at_call 32; refine (put_any ST.out PG.out hul HSL.out (by have := HLL.out; omega)).mono ?_; rintro e w8 ⟨rfl, nb8, bget8, hp8, hk8⟩; have P8 := Lib.hid hp8; have K8 := Lib.hid hk8; clear hp8 hk8;
                      have c8 : w8.cell? ⟨wp.heap.size, 3, none⟩ = some (.slice p2 u.before.length r2) := (by
                        have hw7 := HP.out.fr.size
                        have h1 := X5.out.get BW.out
                        have h2 := K8.out.keep wp.heap.size (Array.getElem?_eq_some_iff.1 h1).1 (by omega) (fun q hq => by have := ((HP.out.beh.rows q).lt _ hq).2; omega)
                        rw [cell_blk (h2.trans h1)]; rfl)))
                have hl20 : l.length ≤ 20 := HLL.out
                obtain ⟨bh2, hbh2⟩ : ∃ bh2, bh2 = putP us (((namesOf us).take k).foldl (behOne us) fun _ => []) n l := ⟨_, rfl⟩
                have P82 := P8
                rw [← hbh2] at P82
                have HB2 := Lib.hid hbh2
                have hk16 : 30 * k + l.length ≤ 600 := by omega
                clear hbh2
                go_loopw [124] (fun i wr5 => newRel5 us w7 (w.heap.size + 1) (30 * k + l.length) n bh2 u.before i wr5) (fun i _ => u.before.length - (intOf i).toNat)
                case atStart => exact ⟨0, nb8, bget8, Nat.zero_le _, rfl, Lib.hid P82.out.n⟩
                case round =>
                  obtain ⟨wq, rfl⟩ : ∃ x : World, x = wr := ⟨_, rfl⟩
                  obtain ⟨j, nbj, bgetj, hj, rfl, HPJ⟩ := hrel
                  by_cases hlt5 : j < u.before.length
                  · obtain ⟨b9, o9, rfl, e9⟩ := (SB.out.keepM N7.out.beh HPJ.out.fr).at j hlt5
                    have hxl : (u.before[j]).length ≤ maxLen := by have := (HLS.out u.before (by simp [listsOf])).2 _ (List.getElem_mem hlt5); unfold maxLen; omega
                    have HTJ := Lib.hid (List.take_succ_eq_append_getElem hlt5)
                    generalize u.before[j] = x at *
                    have PG := Lib.hid (HPJ.out.g ((Ext.refl wq).alloc (.cells #[.string (ba n)] 9)) (SRow.one wq n) (fun b hb => by cases hb; exact Nat.le_refl _))
                    have HN1 := Lib.hid (show ShortAll [n] from fun y hy => by rw [List.mem_singleton] at hy; rw [hy]; exact hul)
                    go_wp2_with (go_at_call 32; refine (put_any ST.out PG.out hxl HN1.out (by simp; omega)).mono ?_; rintro e w11 ⟨rfl, nb11, bget11, hp11, -⟩; have P11 := Lib.hid hp11; clear hp11)
                    go_roundw
                    case rel =>
                      refine ⟨j + 1, nb11, bget11, by omega, by go_num, Lib.hid ?_⟩
                      have h := P11.out.n
                      rw [HTJ.out]
                      unfold putAll at h ⊢
                      rw [List.foldl_append]
                      exact h
                    case measure => simp [intOf]; omega
                  · go_wp2_with fail
                    go_roundw
                    case rel =>
                      refine ⟨k + 1, nbj, bgetj, by omega, by go_num, Lib.hid ?_⟩
                      have h := HPJ.out
                      rw [List.take_of_length_le (by omega)] at h
                      rw [HTK.out, List.foldl_append]
                      show PutN w7 _ _ (behOne us _ n) _ _ _
                      rw [behOne_some HFU.out, ← HL2.out, ← HB2.out]
                      exact h.mono (by omega)
                    case measure => simp [intOf]; omega
              · have hkl : k = (namesOf us).length := by omega
                subst hkl
                rw [List.take_length] at HP
                have SS := Lib.hid (PutN.sstat (us := us) HP.out N7.out.cg N7.out.units N7.out.beh HND.out HS.out (by omega) (by omega))
                have HSO := sort_g SS.out
                have XP := Lib.hid (N7.out.x.grow HP.out.fr (fun q hq => by cases hq; omega))
                have hgw : w.heap.size + 1 + 1 < wp.heap.size := by have := HP.out.fr.size; omega
                by_cases hh : headS (orderOf us).2 = []
                · have HE : Hid (newErr us = none) := Lib.hid (by
                    unfold newErr
                    rw [if_neg h16, HTW.out]
                    dsimp only
                    rw [HNE.out]
                    dsimp only
                    rw [if_pos hh])
                  unfold sortPost at HSO
                  rw [show sortP (behP us) us.length (namesOf us) [] = orderOf us from rfl, hh, show ba [] = ⟨#[]⟩ from rfl] at HSO
                  clear hh
                  go_wp2_with (go_at_call 33; refine HSO.mono ?_; rintro e w9 ⟨rfl, ov, oo, cg, fr⟩; have OO := Lib.hid oo; have CG := Lib.hid cg; have FR := Lib.hid fr; clear oo cg fr HSO)
                  go_ret3
                  unfold newPost
                  rw [HE.out]
                  obtain ⟨nb9, hg9⟩ := SS.out.graph FR.out CG.out OO.out (by omega) (by omega)
                  exact ⟨XP.out.grow FR.out (fun q hq => by cases hq; omega), _, _, _, _, _, _, rfl, hg9⟩
                · have HE : Hid (newErr us = some (19, headS (orderOf us).2)) := Lib.hid (by
                    unfold newErr
                    rw [if_neg h16, HTW.out]
                    dsimp only
                    rw [HNE.out]
                    dsimp only
                    rw [if_neg hh])
                  unfold sortPost at HSO
                  rw [show sortP (behP us) us.length (namesOf us) [] = orderOf us from rfl] at HSO
                  obtain ⟨y, r, hyr⟩ : ∃ y r, headS (orderOf us).2 = y :: r := by
                    cases hq : headS (orderOf us).2 with
                    | nil => exact absurd hq hh
                    | cons y r => exact ⟨_, _, rfl⟩
                  rw [hyr] at HSO
                  have HYR := Lib.hid hyr
                  clear hh hyr
                  go_wp2_with (go_at_call 33; refine HSO.mono ?_; rintro e w9 ⟨rfl, ov, oo, cg, fr⟩; have FR := Lib.hid fr; clear oo cg fr HSO)
                  go_ret3
                  unfold newPost
                  rw [HE.out, HYR.out]
                  exact ⟨XP.out.grow FR.out (fun q hq => by cases hq; omega), rfl⟩
end Go.Proofs.Ytobdjfibaemmhaa
