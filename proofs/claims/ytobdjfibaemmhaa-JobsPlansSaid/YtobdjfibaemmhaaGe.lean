/- A graph in memory: what stands behind what, as it grows; put. -/
import Derived.Test.YtobdjfibaemmhaaGd
import Derived.Deep.RegionHeld3
import Derived.Deep.RegionLaw
import Derived.Maps.AppendAt
namespace Go.Proofs.Ytobdjfibaemmhaa
open Go.RowKit Go.Maps Go.Lib

def bval (bget : Str → Option Value) (k : Str) : Value := (bget k).getD (.slice none 0 0)
structure BehG (w : World) (base bb nb : Nat) (bget : Str → Option Value) (bh : Beh) : Prop where
  map : MapIs w bb nb bget
  rows : ∀ k, OwnS w base (bval bget k) (bh k)
  apart : ∀ k k' b, k ≠ k' → (bval bget k).ownBlock = some b → (bval bget k').ownBlock ≠ some b
def addB (bh : Beh) (n : Str) (l : List Str) : Beh := fun k => if k = n then bh n ++ l else bh k
theorem bval_put (bget : Str → Option Value) (n k : Str) (v : Value) : bval (putK bget n v) k = if k = n then v else bval bget k := by
  unfold bval putK
  by_cases h : k = n
  · rw [if_pos h, if_pos h]; rfl
  · rw [if_neg h, if_neg h]
theorem BehG.ext {w w' : World} {base bb nb : Nat} {bget : Str → Option Value} {bh : Beh} (h : BehG w base bb nb bget bh) (x : Ext w w') : BehG w' base bb nb bget bh :=
  ⟨h.map.ext x, fun k => (h.rows k).ext x, h.apart⟩
theorem BehG.push {w w1 w2 w3 : World} {base bb nb : Nat} {bget : Str → Option Value} {bh : Beh} (h : BehG w base bb nb bget bh) (hbb : bb < base) {n : Str} {l : List Str} {v' : Value} (x1 : Ext w w1) (ho : OwnS w2 base v' (bh n ++ l))
    (g2 : w1.grownBy w2 (bval bget n).ownBlock) (nw : NewOrSame w1 (bval bget n) v') (m3 : MapIs w3 bb (nb + 1) (putK bget n v')) (g3 : w2.grownBy w3 (some bb)) :
    BehG w3 base bb (nb + 1) (putK bget n v') (addB bh n l) := by
  refine ⟨m3, fun k => ?_, fun k k' b hk hb => ?_⟩
  · rw [bval_put]
    unfold addB
    by_cases hkn : k = n
    · rw [if_pos hkn, if_pos hkn]
      exact ho.kept g3 (.inr fun e => by have := (ho.lt _ e).1; omega)
    · rw [if_neg hkn, if_neg hkn]
      have h1 := (h.rows k).ext x1
      have h2 : OwnS w2 base (bval bget k) (bh k) := h1.kept g2 (by
        cases hb : (bval bget k).ownBlock with
        | none => exact .inl rfl
        | some b => exact .inr fun e => h.apart k n b hkn hb e.symm)
      exact h2.kept g3 (.inr fun e => by have := (h2.lt _ e).1; omega)
  · rw [bval_put] at hb ⊢
    by_cases h1 : k = n
    · rw [if_pos h1] at hb
      have h2 : ¬ k' = n := fun e => hk (by rw [h1, e])
      rw [if_neg h2]
      rcases nw with e | ⟨q, e, hq⟩
      · rw [e] at hb
        exact h.apart n k' b (fun e => h2 e.symm) hb
      · rw [e] at hb
        cases hb
        intro e2
        have := ((h.rows k').lt _ e2).2
        have := x1.sz
        omega
    · rw [if_neg h1] at hb
      by_cases h2 : k' = n
      · rw [if_pos h2]
        rcases nw with e | ⟨q, e, hq⟩
        · rw [e]
          exact h.apart k n b (fun e => h1 e) hb
        · rw [e]
          intro e2
          cases e2
          have := ((h.rows k).lt _ hb).2
          have := x1.sz
          omega
      · rw [if_neg h2]
        exact h.apart k k' b hk hb
structure PutG (w0 : World) (bb M nb : Nat) (bget : Str → Option Value) (bh : Beh) (nv : Value) (xs : List Str) (w : World) : Prop where
  fr : w0.grownBy w (some bb)
  beh : BehG w w0.heap.size bb nb bget bh
  nbM : nb ≤ M
  len : ∀ k, (bh k).length ≤ M
  row : SRow w nv xs
  ap : ∀ k b, (bval bget k).ownBlock = some b → nv.ownBlock ≠ some b
theorem SRow.own_lt {w : World} {v : Value} {l : List Str} (h : SRow w v l) (hl : l ≠ []) : ∀ k, v.ownBlock = some k → k < w.heap.size := by
  obtain ⟨a, cap, rfl, -, -, -, hc⟩ := h
  intro k hk
  obtain ⟨b, o, rfl, h⟩ := hc 0 (List.length_pos_iff.2 hl)
  cases hk
  exact World.block_lt_of_cell? w _ h
theorem PutG.push {w0 w w1 w2 w3 : World} {bb M nb : Nat} {bget : Str → Option Value} {bh : Beh} {nv : Value} {xs : List Str} (h : PutG w0 bb M nb bget bh nv xs w) (hbb : bb < w0.heap.size) (hxs : xs ≠ []) {n x : Str} {v' : Value} (x1 : Ext w w1)
    (ho : OwnS w2 w0.heap.size v' (bh n ++ [x])) (g2 : w1.grownBy w2 (bval bget n).ownBlock) (nw : NewOrSame w1 (bval bget n) v') (m3 : MapIs w3 bb (nb + 1) (putK bget n v')) (g3 : w2.grownBy w3 (some bb)) :
    PutG w0 bb (M + 1) (nb + 1) (putK bget n v') (addB bh n [x]) nv xs w3 := by
  have hlt := h.row.own_lt hxs
  refine ⟨?_, h.beh.push hbb x1 ho g2 nw m3 g3, by have := h.nbM; omega, fun k => ?_, ?_, fun k b hb => ?_⟩
  · have h1 : w0.grownBy w1 (some bb) := h.fr.trans (below_grown x1 (some bb))
    have h2 : w0.grownBy w2 (some bb) := h1.andThen g2 fun j hj => .inl ((h.beh.rows n).lt _ hj).1
    exact h2.trans g3
  · unfold addB
    have h1 := h.len k
    have h2 := h.len n
    split
    · rw [List.length_append]; simp; omega
    · omega
  · refine ((h.row.ext x1).grown g2 ?_).grown g3 ?_
    · cases hb : nv.ownBlock with
      | none => exact .inl rfl
      | some b => exact .inr fun e => h.ap n b e.symm hb
    · obtain ⟨a, cap, rfl, -, -, -, hc⟩ := h.row
      obtain ⟨b, o, rfl, hcell⟩ := hc 0 (List.length_pos_iff.2 hxs)
      refine .inr fun e => ?_
      cases e
      obtain ⟨D, ⟨es, clock, hm, -⟩, -⟩ := h.beh.map
      simp [World.cell?, hm] at hcell
  · rw [bval_put] at hb
    by_cases h1 : k = n
    · rw [if_pos h1] at hb
      rcases nw with e | ⟨q, e, hq⟩
      · rw [e] at hb
        exact h.ap n b hb
      · rw [e] at hb
        cases hb
        intro e2
        have := hlt _ e2
        have := x1.sz
        omega
    · rw [if_neg h1] at hb
      exact h.ap k b hb
end Go.Proofs.Ytobdjfibaemmhaa
