/- A graph in memory: Pull. -/
import Derived.Test.YtobdjfibaemmhaaGa
import Derived.Test.YtobdjfibaemmhaaGraphP
import Derived.Deep.LoopGhost
namespace Go.Proofs.Ytobdjfibaemmhaa
open Go.RowKit Go.Maps Go.Lib

theorem run_append_room_at {P : Program} (w : World) (t ty e : TypeId) (i : TypeInfo) (ht : P.underlying t = some (.slice e)) (hi : P.info? e = some i) (h1s : i.size = 1)
    (g o sLen sCap : Nat) (cur : Array Value) (hg : w.heap[g]? = some (.cells cur e (0, 0)))
    (a : Addr) (m c : Nat) (news : List Value) (hl : news.length = m) (hnews : ∀ j u, news[j]? = some u → w.cell? (a.add j) = some u) (h1 : ∀ u ∈ news, u.oneCell' = true)
    (hroom : sLen + m ≤ sCap) (hfit : o + sLen + news.length ≤ cur.size) :
    (Builtin.append_ #[t, t] ty #[.slice (some ⟨g, o, none⟩) sLen sCap, .slice (some a) m c]).run P w =
      .ok (.slice (some ⟨g, o, none⟩) (sLen + m) sCap) (w.setRow g (cur.toList.take (o + sLen) ++ news ++ cur.toList.drop (o + sLen + news.length)).toArray) := by
  have hf := run_firstCells_some (P := P) w i.size m a m c news (by rw [h1s]; omega) hnews
  have hst := run_storeCells_at P g (o + sLen) e news 0 cur w hg (by simpa using hfit) h1
  simp only [Nat.add_zero] at hst
  simp [Builtin.append_, run_underlying ht, sizeOf, typeInfo, hi, Builtin.lenOf, hroom, hf, Addr.add_lit, hst, h1s]
  simp [h1s] at hf
  simp [hf, hst]
/-- Texts that the call itself holds, from some place of a block on. -/
def OffS (w : World) (base : Nat) (v : Value) (l : List Str) : Prop :=
  (v = .slice none 0 0 ∧ l = []) ∨
  ∃ g o cap cur, v = .slice (some ⟨g, o, none⟩) l.length cap ∧ base ≤ g ∧ w.heap[g]? = some (.cells cur 9 (0, 0)) ∧ l.length ≤ cap ∧ cap ≤ maxLen ∧ o + cap ≤ cur.size ∧ (cur.toList.drop o).take l.length = strVals l
theorem OwnS.off {w : World} {base : Nat} {v : Value} {l : List Str} (h : OwnS w base v l) : OffS w base v l := by
  rcases h.2 with ⟨rfl, h0⟩ | ⟨g, cap, cur, rfl, hb, hg, hn, hm, hs, ht⟩
  · exact .inl ⟨rfl, List.eq_nil_of_length_eq_zero h0⟩
  · exact .inr ⟨g, 0, cap, cur, rfl, hb, hg, hn, hm, by omega, by simpa using ht⟩
theorem OffS.form {w : World} {base : Nat} {v : Value} {l : List Str} (h : OffS w base v l) : ∃ a cap, v = .slice a l.length cap ∧ l.length ≤ cap ∧ cap ≤ 9223372036854775807 := by
  rcases h with ⟨rfl, rfl⟩ | ⟨g, o, cap, cur, rfl, hb, hg, hn, hm, _⟩
  · exact ⟨_, _, rfl, by simp, by simp⟩
  · exact ⟨_, _, rfl, hn, by unfold maxLen at hm; omega⟩
theorem OffS.lt {w : World} {base : Nat} {v : Value} {l : List Str} (h : OffS w base v l) : ∀ k, v.ownBlock = some k → base ≤ k ∧ k < w.heap.size := by
  intro k hk
  rcases h with ⟨rfl, rfl⟩ | ⟨g, o, cap, cur, rfl, hb, hg, hn, hm, _⟩
  · cases hk
  · cases hk; exact ⟨hb, (Array.getElem?_eq_some_iff.1 hg).1⟩
theorem OffS.grown {w w' : World} {base : Nat} {v : Value} {l : List Str} {row : Option Nat} (h : OffS w base v l) (g : w.grownBy w' row) (hr : v.ownBlock = none ∨ v.ownBlock ≠ row) : OffS w' base v l := by
  rcases h with h | ⟨b, o, cap, cur, rfl, hb, hg, rest⟩
  · exact .inl h
  · refine .inr ⟨b, o, cap, cur, rfl, hb, ?_, rest⟩
    rw [g.block b (Array.getElem?_eq_some_iff.1 hg).1 (fun e => by rcases hr with h | h; cases h; exact h e)]
    exact hg
theorem OffS.ext {w w' : World} {base : Nat} {v : Value} {l : List Str} (h : OffS w base v l) (x : Ext w w') : OffS w' base v l := by
  rcases h with h | ⟨b, o, cap, cur, rfl, hb, hg, rest⟩
  · exact .inl h
  · exact .inr ⟨b, o, cap, cur, rfl, hb, x.get hg, rest⟩
theorem OffS.cell {w : World} {base : Nat} {g o n cap : Nat} {l : List Str} (h : OffS w base (.slice (some ⟨g, o, none⟩) n cap) l) (i : Nat) (hi : i < l.length) : w.cell? ⟨g, o + i, none⟩ = some (encStr l[i]) := by
  rcases h with ⟨h, _⟩ | ⟨b, o', cap', cur, e, hb, hg, hn, hm, hs, ht⟩
  · cases h
  · simp only [Value.slice.injEq, Option.some.injEq, Addr.mk.injEq, and_true] at e
    obtain ⟨⟨rfl, rfl⟩, rfl, rfl⟩ := e
    rw [cell_blk hg]
    have h1 : ((cur.toList.drop o).take l.length)[i]? = (strVals l)[i]? := by rw [ht]
    rw [List.getElem?_take_of_lt hi, List.getElem?_drop, strVals_get l i hi, Array.getElem?_toList] at h1
    exact h1
theorem OffS.some_of {w : World} {base : Nat} {v : Value} {l : List Str} (h : OffS w base v l) (hl : 0 < l.length) : ∃ g o cap, v = .slice (some ⟨g, o, none⟩) l.length cap := by
  rcases h with ⟨_, rfl⟩ | ⟨b, o', cap', cur, e, hb, hg, hn, hm, hs, ht⟩
  · cases hl
  · exact ⟨_, _, _, e⟩
theorem OffS.tail {w : World} {base : Nat} {v : Value} {a : Option Addr} {n cap : Nat} {x : Str} {r : List Str} (h : OffS w base (.slice a n cap) (x :: r)) (hv : v = Go.sliced a 1 n cap 1) : OffS w base v r := by
  rcases h with ⟨_, h⟩ | ⟨b, o', cap', cur, e, hb, hg, hn, hm, hs, ht⟩
  · cases h
  · simp only [Value.slice.injEq] at e
    obtain ⟨rfl, rfl, rfl⟩ := e
    simp only [List.length_cons] at hn hv ht
    by_cases h1 : cap = 1
    · subst h1
      obtain rfl : r = [] := List.eq_nil_of_length_eq_zero (by omega)
      refine .inr ⟨b, o', 0, cur, ?_, hb, hg, by simp, by unfold maxLen; omega, by omega, by simp [strVals]⟩
      rw [hv]; simp [Go.sliced]
    · refine .inr ⟨b, o' + 1, cap - 1, cur, ?_, hb, hg, by omega, by unfold maxLen at hm ⊢; omega, by omega, ?_⟩
      · rw [hv]
        simp only [Go.sliced, if_neg h1, Option.map_some, Addr.add_lit, Nat.one_mul, Nat.add_sub_cancel]
      · have := congrArg (List.drop 1) ht
        rw [List.drop_take, List.drop_drop] at this
        simpa [strVals] using this
theorem grown_drew_alloc (w : World) (o : Obj) (row : Option Nat) : w.grownBy (w.drew.alloc o) row :=
  let h := World.grownBy_alloc w.drew o row
  ⟨h.os, h.tape, h.output, h.size, h.block⟩
theorem heap_drew_alloc (w : World) (o : Obj) : (w.drew.alloc o).heap[w.heap.size]? = some o := by
  show (w.drew.heap.push _)[w.heap.size]? = _
  have : w.drew.heap = w.heap := rfl
  rw [this]
  simp
theorem run_append_off {w : World} {base : Nat} {v u : Value} {l m : List Str} (t ty : TypeId) (ht : Try.prog.underlying t = some (.slice 9)) (h : OffS w base v l) (hu : SRow w u m) (hlen : (l.length + m.length) * 16 ≤ 140737488355328) (hbase : base ≤ w.heap.size) :
    ∃ v' w', (Builtin.append_ #[t, t] ty #[v, u]).run Try.prog w = .ok v' w' ∧ OffS w' base v' (l ++ m) ∧ w.grownBy w' v.ownBlock := by
  obtain ⟨i0, hi, hz0, hz1, hz2⟩ := info_parts Try.info9
  obtain ⟨ao, c, rfl, hnone, hcells⟩ := hu.src
  rcases h with ⟨rfl, rfl⟩ | ⟨g, o, cap, cur, rfl, hb, hg, hn, hm, hs, hx⟩
  · obtain ⟨v', w', h1, h2, h3, h4⟩ := run_append_src (P := Try.prog) w base t ty 9 i0 _ 1 16 ht hi hz0 hz1 hz2 rfl (by decide) _ 0 [] (World.ownsRow_nil w base 9 1) _ m.length (strVals m) (by simp [strVals_length]) hu.src (strVals_oneCell m) (by unfold maxLen; omega) (by simp at hlen; omega) hbase
    rw [Nat.zero_add, List.nil_append] at h2
    exact ⟨v', w', h1, OwnS.off h2, h3⟩
  · cases ao with
    | none =>
      obtain ⟨rfl, h0⟩ := hnone rfl
      obtain rfl : m = [] := List.eq_nil_of_length_eq_zero h0
      refine ⟨_, w, ?_, .inr ⟨g, o, cap, cur, rfl, hb, hg, by simpa using hn, hm, hs, by simpa using hx⟩, World.grownBy.refl _ _⟩
      simp [Builtin.append_, run_underlying ht, sizeOf, typeInfo, hi, Builtin.lenOf, Builtin.firstCells, hn, storeCells]
    | some ad =>
      have hnews := hcells ad rfl
      have hlm : (strVals m).length = m.length := strVals_length m
      by_cases hroom : l.length + m.length ≤ cap
      · have hr := run_append_room_at (P := Try.prog) w t ty 9 i0 ht hi hz1 g o l.length cap cur hg ad m.length c (strVals m) hlm hnews (strVals_oneCell m) hroom (by rw [hlm]; omega)
        refine ⟨_, _, hr, .inr ⟨g, o, cap, _, by rw [List.length_append], hb, setRow_heap w g cur _ 9 _ hg, by rw [List.length_append]; exact hroom, hm, ?_, ?_⟩, grown_setRow _ _ _⟩
        · simp only [List.size_toArray, List.length_append, List.length_take, List.length_drop, Array.length_toList]
          omega
        · have e1 : (cur.toList.take (o + l.length)).drop o = strVals l := by rw [List.drop_take, Nat.add_sub_cancel_left]; exact hx
          have e3 : cur.toList.length = cur.size := by simp
          have e2 : o ≤ (cur.toList.take (o + l.length)).length := by rw [List.length_take]; omega
          show (List.drop o ((cur.toList.take (o + l.length)) ++ strVals m ++ cur.toList.drop (o + l.length + (strVals m).length))).take (l ++ m).length = strVals (l ++ m)
          rw [List.append_assoc, List.drop_append_of_le_length e2, e1, ← List.append_assoc, ← strVals_append]
          rw [List.take_append_of_le_length (by rw [strVals_length]; exact Nat.le_refl _), List.take_of_length_le (by rw [strVals_length]; exact Nat.le_refl _)]
      · have holds : ∀ j u, (strVals l)[j]? = some u → w.cell? ((⟨g, o, none⟩ : Addr).add j) = some u := fun j u hj => by
          have hj' : j < l.length := by
            have := (List.getElem?_eq_some_iff.1 hj).1
            rwa [strVals_length] at this
          rw [Addr.add_lit, OffS.cell (.inr ⟨g, o, cap, cur, rfl, hb, hg, hn, hm, hs, hx⟩ : OffS w base (.slice (some ⟨g, o, none⟩) l.length cap) l) j hj', ← strVals_get l j hj', hj]
        have hr := run_append_grow (P := Try.prog) w t ty 9 i0 _ ht hi hz0 ⟨g, o, none⟩ l.length cap (strVals l) (by rw [hz1, strVals_length]; omega) holds ad m.length c (strVals m) (by rw [hz1, strVals_length]; omega) hnews (by omega) (by omega) (growslice_fits (by omega) (by rw [hz2]; exact hlen))
        refine ⟨_, _, hr, ?_, grown_drew_alloc _ _ _⟩
        have hge := grownCap_ge w (l.length + m.length) cap 9
        have hle := grownCap_le_maxLen w (l.length + m.length) cap 9 (by unfold maxLen; omega)
        refine .inr ⟨w.heap.size, 0, _, _, by rw [List.length_append], hbase, heap_drew_alloc _ _, by rw [List.length_append]; exact hge, hle, ?_, ?_⟩
        · have h1 : (Value.string ⟨#[]⟩).cells.size = 1 := rfl
          simp only [Array.size_append, size_zeroCells, h1, List.size_toArray, strVals_length]
          omega
        · simp only [List.drop_zero, Array.toList_append]
          rw [← strVals_append] 
          rw [List.take_append_of_le_length (by rw [strVals_length]; exact Nat.le_refl _), List.take_of_length_le (by rw [strVals_length]; exact Nat.le_refl _)]
end Go.Proofs.Ytobdjfibaemmhaa
