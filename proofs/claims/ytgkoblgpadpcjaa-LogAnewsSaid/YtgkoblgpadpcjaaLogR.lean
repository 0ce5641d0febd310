/- A log: its records' row grows; Append. -/
import Derived.Test.YtgkoblgpadpcjaaLogQ
namespace Go.Proofs.Ytgkoblgpadpcjaa
open Go.RowKit

theorem Try.underlying92' : Try.prog.underlying 92 = some (.slice 22) := by kernel_rfl
theorem Try.info22' : (Try.prog.info? 22).map (fun i => (i.zero, i.size, i.bytes)) = some (some (.slice none 0 0), 1, 24) := by kernel_rfl
theorem own_apart {w : World} {b1 b2 : Nat} {e1 e2 : TypeId} {s1 s2 : Nat} {v u : Value} {n m : Nat} {xs ys : List Value} (hne : e1 ≠ e2) (h1 : w.ownsRow b1 e1 s1 v n xs) (h2 : w.ownsRow b2 e2 s2 u m ys) : v.ownBlock = none ∨ v.ownBlock ≠ u.ownBlock := by
  rcases h1.2 with ⟨rfl, _⟩ | ⟨g, c, cur, rfl, _, hg, _⟩
  · exact .inl rfl
  · refine .inr fun e => ?_
    rcases h2.2 with ⟨rfl, _⟩ | ⟨g', c', cur', rfl, _, hg', _⟩
    · simp [Value.ownBlock] at e
    · simp only [Value.ownBlock, Option.some.injEq] at e
      subst e
      rw [hg] at hg'
      simp only [Option.some.injEq, Obj.cells.injEq] at hg'
      exact hne hg'.2.1
theorem src_lit1 (w : World) (v : Value) (t : TypeId) (c : Nat) : Src (w.alloc (.cells #[v] t)) (.slice (some ⟨w.heap.size, 0, none⟩) 1 c) 1 [v] := by
  refine ⟨_, _, rfl, (fun h => by cases h), fun ad had j y hy => ?_⟩
  cases had
  rw [Addr.add_lit, cell_new0, Nat.zero_add]
  simpa using hy
/-- Records' row behind an append. -/
theorem RecRow.push {base : Nat} {w w2 : World} {lv lv' v : Value} {ls : List (List UInt8)} {b : List UInt8} {vs : List Value} (hr : w.ownsRow base 22 1 lv ls.length vs) (hi : ∀ i, (h : i < ls.length) → ∃ v, vs[i]? = some v ∧ OwnBytes w base v ls[i]) (hv : OwnBytes w base v b)
    (o2 : w2.ownsRow base 22 1 lv' (ls.length + 1) (vs ++ [v])) (g2 : (w.alloc (.cells #[v] 22)).grownBy w2 lv.ownBlock) : RecRow base w2 lv' (ls ++ [b]) := by
  have hrl := hr.1
  refine ⟨vs ++ [v], by rw [List.length_append]; exact o2, fun i hi' => ?_⟩
  have keep : ∀ {u : Value} {x : List UInt8}, OwnBytes w base u x → OwnBytes w2 base u x := fun {u x} ho =>
    (ho.alloc _).kept g2 (own_apart (by decide) (ho.alloc _) (hr.alloc (.cells #[v] 22)))
  by_cases h : i < ls.length
  · obtain ⟨u, hu, ho⟩ := hi i h
    exact ⟨u, by rw [List.getElem?_append_left (by omega)]; exact hu, by rw [List.getElem_append_left h]; exact keep ho⟩
  · have hl : i = ls.length := by simp at hi'; omega
    subst hl
    refine ⟨v, ?_, by simpa using keep hv⟩
    rw [List.getElem?_append_right (by omega)]
    simp [show vs.length = ls.length by omega]
theorem RecRow.shape {base : Nat} {w : World} {lv : Value} {ls : List (List UInt8)} (h : RecRow base w lv ls) : ∃ a c, lv = .slice a ls.length c := by
  obtain ⟨vs, h, -⟩ := h
  rcases h.2 with ⟨rfl, h0⟩ | ⟨g, cap, cur, rfl, _⟩
  · exact ⟨_, _, by rw [h0]⟩
  · exact ⟨_, _, rfl⟩
theorem FreshBytes.ownb {w w' : World} {v' : Value} {m : List UInt8} {base : Nat} (h : FreshBytes w w' (.slice none 0 0) v' m) (hb : base ≤ w.heap.size) : OwnBytes w' base v' m := by
  rcases h.own with ⟨rfl, rfl⟩ | ⟨_, h, _⟩
  · exact OwnBytes.nil _ _
  · exact h.le hb
section
variable {base g kb l : Nat} {w w' : World} {lv : Value} {D : Dk} {L : Lg}
/-- The log behind the append of a record: its row has grown, and is laid into its cell. -/
theorem LogAt.pushed (h : LogAt base w g kb l lv D L) {v lv' : Value} {b : List UInt8} (hv : OwnBytes w base v b) {vs : List Value} (hr : w.ownsRow base 22 1 lv L.list.length vs) (hi : ∀ i, (h : i < L.list.length) → ∃ v, vs[i]? = some v ∧ OwnBytes w base v L.list[i])
    (o2 : w'.ownsRow base 22 1 lv' (L.list.length + 1) (vs ++ [v])) (g2 : (w.alloc (.cells #[v] 22)).grownBy w' lv.ownBlock) :
    LogAt base (w'.setCell ⟨l, 5, none⟩ lv') g kb l lv' D { L with list := L.list ++ [b] } ∧ LOnly base g kb l lv.ownBlock w (w'.setCell ⟨l, 5, none⟩ lv') ∧ w'.cell? ⟨l, 5, none⟩ = some lv ∧ w'.frozen? ⟨l, 5, none⟩ = false := by
  have hne : ∀ (k : Nat) (cs : Array Value) (t : TypeId) (fz : Nat × Nat), t ≠ 22 → w.heap[k]? = some (.cells cs t fz) → w'.heap[k]? = some (.cells cs t fz) := by
    intro k cs t fz ht hh
    have hk : k < w.heap.size := (Array.getElem?_eq_some_iff.1 hh).1
    have e1 := g2.block k (by simp; omega) (by
      intro e
      rcases hr.2 with ⟨rfl, _⟩ | ⟨q, cap, cur, rfl, _, hq, _⟩
      · simp [Value.ownBlock] at e
      · simp only [Value.ownBlock, Option.some.injEq] at e
        subst e
        rw [hh] at hq
        simp only [Option.some.injEq, Obj.cells.injEq] at hq
        exact ht hq.2.1)
    rw [e1, heap_at_old _ _ _ hk, hh]
  have hb := hne l _ 119 _ (by decide) h.blk
  have hrow := RecRow.push hr hi hv o2 g2
  obtain ⟨cv, d⟩ := h.disk
  have d' : DiskAt base w' g kb cv D := d.same fun k hk => by
    rcases hk with rfl | rfl | hk
    · exact (hne _ _ 111 _ (by decide) d.blk).trans d.blk.symm
    · exact (hne _ _ 63 _ (by decide) d.row).trans d.row.symm
    · rcases d.cache.2 with ⟨rfl, _⟩ | ⟨q, cap, cur, rfl, _, hq, _⟩
      · simp [Value.ownBlock] at hk
      · simp only [Value.ownBlock, Option.some.injEq] at hk
        subst hk
        exact (hne _ _ 113 _ (by decide) hq).trans hq.symm
  refine ⟨?_, ?_, by simp only [World.cell?, hb]; rfl, by simp [World.frozen?, hb]⟩
  · have hl' : ∀ k, k ≠ l → (w'.setCell ⟨l, 5, none⟩ lv').heap[k]? = w'.heap[k]? := fun k hk => Below.heap_setCell w' _ lv' k hk
    refine ⟨⟨cv, d'.same fun k hk => hl' k ?_⟩, h.hl, ?_, hrow.same fun k cs t ht hh => hl' k ?_, h.six, h.half, h.at_⟩
    · rintro rfl
      rcases hk with rfl | rfl | hk
      · have := hb.symm.trans d'.blk; simp at this
      · have := hb.symm.trans d'.row; simp at this
      · rcases d'.cache.2 with ⟨rfl, _⟩ | ⟨q, cap, cur, rfl, _, hq, _⟩
        · simp [Value.ownBlock] at hk
        · simp only [Value.ownBlock, Option.some.injEq] at hk
          subst hk
          have := hb.symm.trans hq
          simp at this
    · rw [setCell_get w' l 5 lv' _ _ _ hb]; rfl
    · rintro rfl
      have := hb.symm.trans hh
      simp only [Option.some.injEq, Obj.cells.injEq] at this
      rcases ht with rfl | rfl <;> simp at this
  · refine LOnly.setL ⟨?_, ?_, ?_, ?_, ?_⟩ 5 lv'
    · exact g2.os.trans rfl
    · exact g2.tape.trans rfl
    · exact g2.output.trans rfl
    · exact Nat.le_trans (by simp) g2.size
    · intro k hk _ _ _ h4 _
      rw [g2.block k (by simp; omega) h4, heap_at_old _ _ _ hk]
end
end Go.Proofs.Ytgkoblgpadpcjaa
