/- RecBack: the rows that are gathered, and the function part whole. -/
import Derived.Test.YtgkoblgpadpcjaaRecBackP
namespace Go.Proofs.Ytgkoblgpadpcjaa.recBack
open Go.RowKit Go.Proofs.Ytgkoblgpadpcjaa.recApart

theorem own_ne {w : World} {b1 b2 : Nat} {e1 e2 : TypeId} {s1 s2 : Nat} {v u : Value} {n m : Nat} {xs ys : List Value} (hne : e1 ≠ e2) (h1 : w.ownsRow b1 e1 s1 v n xs) (h2 : w.ownsRow b2 e2 s2 u m ys) : v.ownBlock = none ∨ v.ownBlock ≠ u.ownBlock := by
  rcases h1.2 with ⟨rfl, _⟩ | ⟨g, c, cur, rfl, _, hg, _⟩
  · exact .inl rfl
  · refine .inr fun e => ?_
    rcases h2.2 with ⟨rfl, _⟩ | ⟨g', c', cur', rfl, _, hg', _⟩
    · simp [Value.ownBlock] at e
    · simp only [Value.ownBlock, Option.some.injEq] at e
      subst e
      rw [hg] at hg'
      simp only [Option.some.injEq, Obj.cells.injEq] at hg'
      exact hne hg'.2.1
/-- The parts that were gathered so far (a row of the call's own), and all their bytes. -/
def Acc (base : Nat) (w : World) (pv av : Value) (ls : List (List UInt8)) : Prop :=
  ∃ vs : List Value, w.ownsRow base 32 1 pv ls.length vs ∧ OwnBytes w base av ls.flatten ∧ ∀ i, (h : i < ls.length) → ∃ v, vs[i]? = some v ∧ OwnBytes w base v ls[i] ∧ (v.ownBlock = none ∨ v.ownBlock ≠ av.ownBlock)
theorem ownsRow_below {w w' : World} {base B : Nat} {e : TypeId} {size n : Nat} {v : Value} {xs : List Value} (h : w.ownsRow base e size v n xs) (hb : Below B w w') (hB : w.heap.size ≤ B) : w'.ownsRow base e size v n xs := by
  refine ⟨h.1, ?_⟩
  rcases h.2 with h2 | ⟨g, c, cur, rfl, hg, hh, r⟩
  · exact .inl h2
  · exact .inr ⟨g, c, cur, rfl, hg, by rw [hb.block g (by have := (Array.getElem?_eq_some_iff.1 hh).1; omega)]; exact hh, r⟩
theorem Acc.ext {base : Nat} {w w' : World} {pv av : Value} {ls : List (List UInt8)} (h : Acc base w pv av ls) (hx : Ext w w') : Acc base w' pv av ls := by
  obtain ⟨vs, h1, h2, h3⟩ := h
  refine ⟨vs, ownsRow_below h1 hx (Nat.le_refl _), ownsRow_below h2 hx (Nat.le_refl _), fun i hi => ?_⟩
  obtain ⟨v, hv, ho, hn⟩ := h3 i hi
  exact ⟨v, hv, ownsRow_below ho hx (Nat.le_refl _), hn⟩
theorem Acc.start (w : World) (base : Nat) (hb : base ≤ w.heap.size) : Acc base ((w.alloc (.cells #[] 32)).alloc (.cells #[] 5)) (.slice (some ⟨w.heap.size, 0, none⟩) 0 0) (.slice (some ⟨w.heap.size + 1, 0, none⟩) 0 0) [] := by
  refine ⟨[], World.ownsRow.alloc (World.ownsRow_made w #[] 0 hb (by decide) rfl) _, ?_, fun i hi => absurd hi (by simp)⟩
  have := OwnBytes.empty (w.alloc (.cells #[] 32)) base (by simp; omega)
  simpa using this
/-- Behind the first append: a part more in the row; what is gathered as bytes stands. -/
def Acc1 (base : Nat) (w : World) (pv av : Value) (ls : List (List UInt8)) (l : List UInt8) (v2 : Value) (b2 : Nat) : Prop :=
  ∃ vs : List Value, w.ownsRow base 32 1 pv (ls ++ [l]).length vs ∧ OwnBytes w base av ls.flatten ∧ OwnBytes w b2 v2 l ∧ ∀ i, (h : i < (ls ++ [l]).length) → ∃ v, vs[i]? = some v ∧ OwnBytes w base v (ls ++ [l])[i] ∧ (v.ownBlock = none ∨ v.ownBlock ≠ av.ownBlock)
theorem Acc.push1 {base b2 : Nat} {w wa w2 : World} {pv av pv' v1 v2 : Value} {ls : List (List UInt8)} {l : List UInt8} {n : Nat} {xs ys : List Value} (h : Acc base wa pv av ls) (hxs : wa.ownsRow base 32 1 pv n xs) (hb : base ≤ w.heap.size) (hav : ∀ k, av.ownBlock = some k → k < w.heap.size) (h1 : OwnBytes wa w.heap.size v1 l) (h2 : OwnBytes wa b2 v2 l)
    (hn : n = ls.length) (hy : ys = xs ++ [v1]) (hq : ∀ i, (h : i < ls.length) → ∃ v, xs[i]? = some v ∧ OwnBytes wa base v ls[i] ∧ (v.ownBlock = none ∨ v.ownBlock ≠ av.ownBlock))
    (o : w2.ownsRow base 32 1 pv' (n + 1) ys) (g : wa.grownBy w2 pv.ownBlock) : Acc1 base w2 pv' av ls l v2 b2 := by
  subst hn hy
  have hxl : xs.length = ls.length := by have := hxs.1; omega
  obtain ⟨vs, a1, a2, a3⟩ := h
  refine ⟨xs ++ [v1], by simpa using o, a2.kept g (own_ne (by decide) a2 hxs), h2.kept g (own_ne (by decide) h2 hxs), fun i hi => ?_⟩
  by_cases hlt : i < ls.length
  · obtain ⟨v, hv, ho, hne⟩ := hq i hlt
    refine ⟨v, by rw [List.getElem?_append_left (by omega)]; exact hv, ?_, hne⟩
    rw [List.getElem_append_left hlt]
    exact ho.kept g (own_ne (by decide) ho hxs)
  · have hil : i = ls.length := by simp at hi; omega
    subst hil
    refine ⟨v1, by rw [List.getElem?_append_right (by omega)]; simp [hxl], ?_, ?_⟩
    · rw [List.getElem_append_right (by omega)]
      simpa using (h1.le hb).kept g (own_ne (by decide) h1 hxs)
    · cases hv : v1.ownBlock with
      | none => exact .inl rfl
      | some k =>
        refine .inr fun e => ?_
        have := (h1.lt k hv).1
        have := hav k e.symm
        omega
theorem Acc1.push2 {base b2 : Nat} {w w3 : World} {pv av av' v2 : Value} {ls : List (List UInt8)} {l : List UInt8} (h : Acc1 base w pv av ls l v2 b2) (o : OwnBytes w3 base av' (ls.flatten ++ l)) (g : w.grownBy w3 av.ownBlock) (hn : NewOrSame w av av') : Acc base w3 pv av' (ls ++ [l]) := by
  obtain ⟨vs, a1, a2, a3, a4⟩ := h
  refine ⟨vs, World.ownsRow.kept a1 g (own_ne (by decide) a1 a2), by rw [List.flatten_append]; simpa using o, fun i hi => ?_⟩
  obtain ⟨v, hv, ho, hne⟩ := a4 i hi
  refine ⟨v, hv, ho.kept g hne, ?_⟩
  rcases hne with hne | hne
  · exact .inl hne
  · rcases hn with hn | ⟨k, hk, hk2⟩
    · exact .inr (by rw [hn]; exact hne)
    · cases hv : v.ownBlock with
      | none => exact .inl rfl
      | some q =>
        refine .inr fun e => ?_
        rw [hk] at e
        have := (ho.lt q hv).2
        simp at e
        omega
theorem Acc.rows {base : Nat} {w : World} {pv av : Value} {ls : List (List UInt8)} (h : Acc base w pv av ls) (hl : ls.length ≤ 9223372036854775807) : Rows' w pv ls := by
  obtain ⟨vs, h1, h2, h3⟩ := h
  have h1' := h1
  rcases h1.2 with ⟨rfl, h0⟩ | ⟨g, c, cur, rfl, _, hg, hc, hm, hs, ht⟩
  · exact ⟨none, 0, by rw [h0], hl, fun i hi => by omega⟩
  · refine ⟨_, c, rfl, hl, fun i hi => ?_⟩
    obtain ⟨v, hv, ho, -⟩ := h3 i hi
    refine ⟨g, 0, v, rfl, ?_, ho.bytes⟩
    have := h1'.cells (g := g) rfl i v hv
    rw [Addr.add_lit] at this
    exact this
theorem Acc.shape {base : Nat} {w : World} {pv av : Value} {ls : List (List UInt8)} (h : Acc base w pv av ls) : ∃ a n c b m d, pv = .slice a n c ∧ av = .slice b m d ∧ m = ls.flatten.length := by
  obtain ⟨vs, h1, h2, h3⟩ := h
  obtain ⟨b, d, hb, -⟩ := h2.bytes
  rcases h1.2 with ⟨rfl, h0⟩ | ⟨g, c, cur, rfl, _⟩
  · exact ⟨none, 0, 0, b, _, d, rfl, hb, rfl⟩
  · exact ⟨_, _, c, b, _, d, rfl, hb, rfl⟩
theorem src_lit (w : World) (v : Value) (t : TypeId) : Src (w.alloc (.cells #[v] t)) (.slice (some ⟨w.heap.size, 0, none⟩) 1 1) 1 [v] := by
  refine ⟨_, _, rfl, (fun h => by cases h), fun ad had j y hy => ?_⟩
  cases had
  have hj : j = 0 := by have := (List.getElem?_eq_some_iff.1 hy).1; simp at this; omega
  subst hj
  rw [Addr.add_lit, cell_new0]
  simpa using hy
theorem Acc.below {base : Nat} {w w2 W0 : World} {v : Value} {n : Nat} {e : TypeId} {xs : List Value} {s : Nat} (h : w.ownsRow base e s v n xs) (hb : Below base W0 w) (hB : base ≤ w.heap.size) (g : w.grownBy w2 v.ownBlock) : Below base W0 w2 :=
  hb.grown g hB (fun k hk => (h.lt k hk).1)
theorem Acc.avlt {base : Nat} {w : World} {pv av : Value} {ls : List (List UInt8)} (h : Acc base w pv av ls) : ∀ k, av.ownBlock = some k → k < w.heap.size := by
  obtain ⟨vs, h1, h2, h3⟩ := h
  exact fun k hk => (h2.lt k hk).2
theorem Acc.bytes {base : Nat} {w : World} {pv av : Value} {ls : List (List UInt8)} (h : Acc base w pv av ls) : Bytes w av ls.flatten := by
  obtain ⟨vs, h1, h2, h3⟩ := h
  exact h2.bytes
theorem Try.info32 : (Try.prog.info? 32).map (fun i => (i.zero, i.size, i.bytes)) = some (some (.slice none 0 0), 1, 24) := by kernel_rfl

theorem wpList_push1 {w1 wc : World} {ops : Array Oper} {rest : List Oper} {o : Oper} {a : Act} {Q : Exit → Act → World → Prop}
    (hg : o.guard = none) (s x : Operand) (hop : o.op = Op.call { callee := Callee.builtin Builtin.append, args := #[s, x], argTypes := #[44, 44] })
    (base b2 : Nat) (pv av v1 v2 : Value) (ls : List (List UInt8)) (l : List UInt8) (h : Acc base w1 pv av ls) (hn : ls.length ≤ 1048576) (hv1 : v1.oneCell' = true) (hb : base ≤ wc.heap.size) (hc : wc.heap.size ≤ w1.heap.size) (hav : ∀ k, av.ownBlock = some k → k < wc.heap.size)
    (h1 : OwnBytes w1 wc.heap.size v1 l) (h2 : OwnBytes w1 b2 v2 l) (hs : a.eval s = pv) (hx : a.eval x = .slice (some ⟨w1.heap.size, 0, none⟩) 1 1)
    (hK : ∀ pv' w2, Acc1 base w2 pv' av ls l v2 b2 → (∀ W0, Below base W0 w1 → Below base W0 w2) → base ≤ w2.heap.size → wpList Try.prog ops Q rest (a.put o.dst pv') w2) :
    wpList Try.prog ops Q (o :: rest) a (w1.alloc (.cells #[v1] 32)) := by
  obtain ⟨i0, hi, hz0, hz1, hz2⟩ := info_parts Try.info32
  have hA := h.ext ((Ext.refl w1).alloc (.cells #[v1] 32))
  obtain ⟨vs, a1, a2, a3⟩ := hA
  refine wpList_append_src _ hg s x 44 hop base 32 i0 _ 1 24 Try.underlying44 hi hz0 hz1 hz2 rfl (by decide) _ _ hs hx ls.length vs a1 1 [v1] rfl (src_lit w1 v1 32) (by simpa using hv1) (by unfold maxLen; omega) (by omega) (by simp; omega) ?_
  intro pv' w2 o2 g2 _
  refine hK _ _ (Acc.push1 (w := wc) (h.ext ((Ext.refl w1).alloc (.cells #[v1] 32))) a1 hb hav (h1.alloc _) (h2.alloc _) rfl rfl a3 o2 g2) (fun W0 hW => Acc.below a1 (hW.alloc (by omega) _) (by simp; omega) g2) ?_
  have := g2.size
  simp at this
  omega
theorem wpList_push2 {w : World} {ops : Array Oper} {rest : List Oper} {o : Oper} {a : Act} {Q : Exit → Act → World → Prop}
    (hg : o.guard = none) (s x : Operand) (hop : o.op = Op.call { callee := Callee.builtin Builtin.append, args := #[s, x], argTypes := #[22, 22] })
    (base b2 : Nat) (pv av v2 : Value) (ls : List (List UInt8)) (l : List UInt8) (h : Acc1 base w pv av ls l v2 b2) (hlen : ls.flatten.length + l.length ≤ 1048576) (hb : base ≤ w.heap.size)
    (hs : a.eval s = av) (hx : a.eval x = v2)
    (hK : ∀ av' w2, Acc base w2 pv av' (ls ++ [l]) → (∀ W0, Below base W0 w → Below base W0 w2) → wpList Try.prog ops Q rest (a.put o.dst av') w2) :
    wpList Try.prog ops Q (o :: rest) a w := by
  have h' := h
  obtain ⟨vs, a1, a2, a3, a4⟩ := h
  refine wpList_append_bytes _ hg s x 22 hop Try.underlying22 base _ _ hs hx _ l a2 a3.bytes (by omega) hb ?_
  intro av' w2 o2 g2 n2
  exact hK _ _ (Acc1.push2 h' o2 g2 n2) (fun W0 hW => Acc.below a2 hW hb g2)
end Go.Proofs.Ytgkoblgpadpcjaa.recBack
