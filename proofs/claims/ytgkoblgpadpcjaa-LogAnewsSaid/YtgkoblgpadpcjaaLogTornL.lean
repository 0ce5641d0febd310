/- LogTorn: the plain law; a row of slices of others' bytes beside a log. -/
import Derived.Test.YtgkoblgpadpcjaaLogOp
namespace Go.Proofs.Ytgkoblgpadpcjaa
open Go.RowKit

theorem St.same {D D' : Dk} {h E : Nat} {rs : List (List UInt8)} (s : St D h E rs) (hc : Calm0 D') (hk : D'.kept = D.kept) : St D' h E rs :=
  s.turn hc (by rw [hk]) (fun a _ => by rw [hk]) (by rw [hk]; exact s.stop)
theorem Lv.planned {D : Dk} {L : Lg} {rs : List (List UInt8)} (h : Lv D L rs) (f : Int) (k : Nat) : Lv { D with fate := f, keeps := k } L rs :=
  ⟨h.st.same ⟨h.st.calm.down, h.st.calm.cache⟩ rfl, h.list, h.at_, h.dead, h.tail⟩
theorem crash_same {D : Dk} (h : D.cache = []) (k : Nat) : (D.crash k).kept = D.kept := diskPower.crash_kept h k
theorem roomL_few (lst : List (List UInt8)) (h : ∀ b ∈ lst, b.length ≤ 300) : roomL lst ≤ 6 * lst.length := by
  induction lst with
  | nil => simp [roomL]
  | cons b r ih =>
    have h1 := h b (by simp)
    have h2 := ih fun c hc => h c (by simp [hc])
    have h3 : sectorsOf b.length ≤ 6 := by unfold sectorsOf; omega
    simp only [roomL, List.length_cons]
    omega
/-- A slice expression x[:hi], under a guard that holds. -/
theorem wpList_slice_to2 {P : Program} {ops : Array Oper} {rest : List Oper} {o : Oper} {a : Act} {w : World} {Q : Exit → Act → World → Prop} (hw : Region.wanted o (yielded ops a.tmps) = true) (t : TypeId) (x hi : Operand) (ho : o.op = .slice t x none (some hi) none)
    (ht : P.underlying t = some (.slice (P.elem t))) (hs : ∀ w, (sizeOf (P.elem t)).run P w = .ok 1 w) (ad : Option Addr) (n c m : Nat) (hx : a.eval x = .slice ad n c) (hl : a.eval hi = .int .i64 (m : Int)) (hm : m ≤ c)
    (h : wpList P ops Q rest (a.put o.dst (.slice ad m c)) w) : wpList P ops Q (o :: rest) a w := by
  have hr : (Instr.slice t (.slice ad n c) none (some (.int .i64 (m : Int))) none).run P w = .ok (.slice ad m c) w := by
    rw [run_slice_h w t ad n c ht .i64 (m : Int) (by omega) (by omega), hs]
    show Result.ok (Go.sliced ad 0 (m : Int).toNat c 1) w = _
    congr 1
    cases ad with
    | none => simp [Go.sliced]
    | some x => simp [Go.sliced, Addr.add]
  have hr2 := (run_sliceAt_slice (w := w) t (.slice ad n c) none (some (.int .i64 (m : Int))) none ht).trans hr
  refine wpList_value hw _ ?_ h
  simp only [execOp, ho, hx, hl, Option.map_some, Option.map_none, Sem.run_bind, hr2, Result.andThen, Sem.run_pure]
namespace logTorn
/-- What is there, and how much of it was told to be kept. -/
structure TS (D : Dk) (L : Lg) (lst : List (List UInt8)) (t : Nat) : Prop where
  ways : (Lv D L lst ∧ t = lst.length) ∨ (L.dead = true ∧ Off D ∧ t < lst.length ∧ ∃ t', (t' = t ∨ t' = t + 1) ∧ St D.lit 1 1 (lst.take t'))
  half : L.half = 1
  epoch : L.epoch = 1
  len : L.list.length ≤ lst.length
  kept : D.kept.length = 1500
  small : ∀ b ∈ lst, b.length ≤ 300
  cache : D.cache = []
theorem TS.step {D : Dk} {L : Lg} {lst : List (List UInt8)} {t : Nat} (h : TS D L lst t) {b : List UInt8} (hb : b.length ≤ 300) (hl : lst.length ≤ 30) :
    (appendP D L b).1.steps ≤ D.steps + 70 ∧ (((appendP D L b).2.2 = 0 ∧ TS (appendP D L b).1 (appendP D L b).2.1 (lst ++ [b]) (lst.length + 1)) ∨ ((appendP D L b).2.2 ≠ 0 ∧ TS (appendP D L b).1 (appendP D L b).2.1 (lst ++ [b]) t)) := by
  have hsm : ∀ c ∈ lst ++ [b], c.length ≤ 300 := fun c hc => by
    rcases List.mem_append.1 hc with h1 | h1
    · exact h.small c h1
    · rw [List.mem_singleton.1 h1]; exact hb
  have hlen : (lst ++ [b]).length = lst.length + 1 := by simp
  rcases h.ways with ⟨lv, ht⟩ | ⟨hd, ho, htl, t', ht', st⟩
  · have hr := roomL_few lst h.small
    have hs : sectorsOf b.length ≤ 6 := by unfold sectorsOf; omega
    have hh : halfOf D = 749 := by unfold halfOf; rw [h.kept]
    rcases append_lv lv (b := b) (by omega) (by omega) with ⟨g1, g2, g3, g4, g5, g6, g7, g8⟩ | ⟨g1, g2, g3, g4, g5, g6, g7⟩
    · refine ⟨g4, .inl ⟨g1, .inl ⟨g2, hlen.symm⟩, by rw [g8, h.half], by rw [g6, h.epoch], by rw [g2.list]; exact Nat.le_refl _, g5.trans h.kept, hsm, g2.st.calm.cache⟩⟩
    · have hdie : (L.die 3).dead = true := by unfold Lg.die; simp
      rw [h.half, h.epoch] at g7
      have hli : L.list.length ≤ (lst ++ [b]).length := by rw [lv.list, hlen]; omega
      refine ⟨g5, .inr ⟨by rw [g1]; decide, .inr ⟨by rw [g2]; exact hdie, g3, by omega, ?_⟩, by rw [g2]; exact h.half, by rw [g2]; exact h.epoch, by rw [g2]; exact hli, g6.trans h.kept, hsm, g3.cache⟩⟩
      rcases g7 with g7 | g7
      · exact ⟨t, .inl rfl, by rw [ht, List.take_left]; exact g7⟩
      · exact ⟨t + 1, .inr rfl, by rw [ht, ← hlen, List.take_length]; exact g7⟩
  · rw [append_dead b hd]
    refine ⟨Nat.le_add_right _ _, .inr ⟨by show (3 : Nat) ≠ 0; decide, .inr ⟨hd, ho, by omega, t', ht', ?_⟩, h.half, h.epoch, by rw [hlen]; exact Nat.le_succ_of_le h.len, h.kept, hsm, h.cache⟩⟩
    rw [List.take_append_of_le_length (by omega)]
    exact st
theorem TS.done {D : Dk} {L : Lg} {lst : List (List UInt8)} {t : Nat} (h : TS D L lst t) (k : Nat) : ∃ t', t ≤ t' ∧ t' ≤ t + 1 ∧ t' ≤ lst.length ∧ St { D.crash k with down := false } 1 1 (lst.take t') := by
  have hc : Calm0 { D.crash k with down := false } := ⟨rfl, rfl⟩
  have hk : ({ D.crash k with down := false } : Dk).kept = D.kept := crash_same h.cache k
  rcases h.ways with ⟨lv, ht⟩ | ⟨hd, ho, htl, t', ht', st⟩
  · refine ⟨t, Nat.le_refl _, Nat.le_succ _, by omega, ?_⟩
    rw [ht, List.take_length]
    have := lv.st.same hc hk
    rw [h.half, h.epoch] at this
    exact this
  · exact ⟨t', by omega, by omega, by omega, st.same hc hk⟩
end logTorn
/-- A row of slices, the call's own, over bytes that were there ahead of the call. -/
def RowF (w0 w : World) (v : Value) (ls : List (List UInt8)) : Prop :=
  ∃ vs : List Value, w.ownsRow w0.heap.size 22 1 v ls.length vs ∧ ∀ i, (h : i < ls.length) → ∃ u, vs[i]? = some u ∧ Bytes w0 u ls[i]
theorem RowF.keep {w0 a b : World} {v : Value} {ls : List (List UInt8)} (h : RowF w0 a v ls) (hs : ∀ k, v.ownBlock = some k → b.heap[k]? = a.heap[k]?) : RowF w0 b v ls := by
  obtain ⟨vs, h1, h2⟩ := h
  exact ⟨vs, row_same h1 fun k hk => hs k hk.symm, h2⟩
theorem RowF.typed {w0 a : World} {v : Value} {ls : List (List UInt8)} (h : RowF w0 a v ls) {k : Nat} (hk : v.ownBlock = some k) : ∃ cs, a.heap[k]? = some (.cells cs 22 (0, 0)) := by
  obtain ⟨vs, h1, -⟩ := h
  rcases h1.2 with ⟨rfl, _⟩ | ⟨q, cap, cur, rfl, _, hh, _⟩
  · cases hk
  · simp only [Value.ownBlock, Option.some.injEq] at hk
    subst hk
    exact ⟨_, hh⟩
theorem RowF.ext {w0 a b : World} {v : Value} {ls : List (List UInt8)} (h : RowF w0 a v ls) (x : Ext a b) : RowF w0 b v ls :=
  h.keep fun k hk => by obtain ⟨cs, hc⟩ := h.typed hk; exact x.block k (Array.getElem?_eq_some_iff.1 hc).1
theorem RowF.shape {w0 a : World} {v : Value} {ls : List (List UInt8)} (h : RowF w0 a v ls) : ∃ b c, v = .slice b ls.length c := by
  obtain ⟨vs, h1, -⟩ := h
  rcases h1.2 with ⟨rfl, h0⟩ | ⟨g, cap, cur, rfl, _⟩
  · exact ⟨_, _, by rw [h0]⟩
  · exact ⟨_, _, rfl⟩
theorem RowF.push {w0 wr w8 : World} {v v8 u : Value} {ls : List (List UInt8)} {b : List UInt8} {vs : List Value} (h1 : wr.ownsRow w0.heap.size 22 1 v ls.length vs) (h2 : ∀ i, (h : i < ls.length) → ∃ u, vs[i]? = some u ∧ Bytes w0 u ls[i]) (hb : Bytes w0 u b)
    (o8 : w8.ownsRow w0.heap.size 22 1 v8 (ls.length + 1) (vs ++ [u])) : RowF w0 w8 v8 (ls ++ [b]) := by
  have hl := h1.1
  refine ⟨vs ++ [u], by rw [List.length_append]; exact o8, fun i hi => ?_⟩
  by_cases hlt : i < ls.length
  · obtain ⟨x, hx, hbx⟩ := h2 i hlt
    exact ⟨x, by rw [List.getElem?_append_left (by omega)]; exact hx, by rw [List.getElem_append_left hlt]; exact hbx⟩
  · have hil : i = ls.length := by simp at hi; omega
    subst hil
    refine ⟨u, ?_, by simpa using hb⟩
    rw [List.getElem?_append_right (by omega)]
    simp [show vs.length = ls.length by omega]
theorem RowF.rows {w0 w : World} {v : Value} {ls : List (List UInt8)} (h : RowF w0 w v ls) (x : Below w0.heap.size w0 w) (hl : ls.length ≤ 9223372036854775807) : Rows' w v ls := by
  obtain ⟨a, c, rfl⟩ := h.shape
  obtain ⟨vs, h1, h2⟩ := h
  refine ⟨a, c, rfl, hl, fun i hi => ?_⟩
  obtain ⟨u, hu, hb⟩ := h2 i hi
  have h1' := h1
  rcases h1.2 with ⟨e, h0⟩ | ⟨q, cap, cur, e, _⟩
  · omega
  · simp only [Value.slice.injEq] at e
    obtain ⟨rfl, -, rfl⟩ := e
    have := h1'.cells (g := q) rfl i u hu
    rw [Addr.add_lit] at this
    exact ⟨q, 0, u, rfl, this, hb.below x (Nat.le_refl _)⟩
theorem Rows'.take {w : World} {a : Option Addr} {n c : Nat} {ls : List (List UInt8)} (h : Rows' w (.slice a n c) ls) (m : Nat) (hm : m ≤ ls.length) : Rows' w (.slice a m c) (ls.take m) := by
  obtain ⟨a', c', e, hl, hc⟩ := h
  simp only [Value.slice.injEq] at e
  obtain ⟨rfl, rfl, rfl⟩ := e
  have hlm : (ls.take m).length = m := by rw [List.length_take]; omega
  refine ⟨a, c, by rw [hlm], by omega, fun i hi => ?_⟩
  obtain ⟨b, o, u, h1, h2, h3⟩ := hc i (by omega)
  exact ⟨b, o, u, h1, h2, by simpa using h3⟩
section
variable {base g kb l : Nat} {w0 a b : World} {lv v : Value} {D : Dk} {L : Lg} {ls : List (List UInt8)}
theorem RowF.lonly {lb : Option Nat} (h : RowF w0 a v ls) (la : LogAt base a g kb l lv D L) (o : LOnly base g kb l lb a b) (hb : lb = none ∨ lb = lv.ownBlock) (hn : v.ownBlock = none ∨ v.ownBlock ≠ lv.ownBlock) : RowF w0 b v ls :=
  h.keep fun k hk => by
    obtain ⟨cs, hc⟩ := h.typed hk
    obtain ⟨cv, d⟩ := la.disk
    refine o.block k (Array.getElem?_eq_some_iff.1 hc).1 ?_ ?_ ?_ ?_ (.inr fun cs' fz' e => by rw [hc] at e; simp at e)
    · rintro rfl; have := hc.symm.trans d.blk; simp at this
    · rintro rfl; have := hc.symm.trans d.row; simp at this
    · rintro rfl; have := hc.symm.trans la.blk; simp at this
    · intro e
      rcases hb with hb | hb
      · rw [hb] at e; cases e
      · rw [hb] at e
        rcases hn with hn | hn
        · rw [hn] at hk; cases hk
        · exact hn (hk.trans e)
theorem RowF.donly (h : RowF w0 a v ls) (d : Disk base a g kb D) (o : DOnly base g kb a b) : RowF w0 b v ls :=
  h.keep fun k hk => by
    obtain ⟨cs, hc⟩ := h.typed hk
    obtain ⟨cv, d⟩ := d
    refine o.block k (Array.getElem?_eq_some_iff.1 hc).1 ?_ ?_ (.inr fun cs' fz' e => by rw [hc] at e; simp at e)
    · rintro rfl; have := hc.symm.trans d.blk; simp at this
    · rintro rfl; have := hc.symm.trans d.row; simp at this
/-- A row of slices that is none of the log's own has turned. -/
theorem LogAt.beside {t : Option Nat} (h : LogAt base a g kb l lv D L) (ht : ∀ k, t = some k → ∃ cs, a.heap[k]? = some (.cells cs 22 (0, 0))) (hn : t = none ∨ t ≠ lv.ownBlock) (hs : ∀ k, k < a.heap.size → some k ≠ t → b.heap[k]? = a.heap[k]?) : LogAt base b g kb l lv D L := by
  have key : ∀ (k : Nat) (cs : Array Value) (ty : TypeId) (fz : Nat × Nat), ty ≠ 22 → a.heap[k]? = some (.cells cs ty fz) → b.heap[k]? = a.heap[k]? := by
    intro k cs ty fz hne hh
    refine hs k (Array.getElem?_eq_some_iff.1 hh).1 fun e => ?_
    obtain ⟨cs', hc⟩ := ht k e.symm
    rw [hh] at hc
    simp only [Option.some.injEq, Obj.cells.injEq] at hc
    exact hne hc.2.1
  obtain ⟨cv, d⟩ := h.disk
  refine ⟨⟨cv, d.same fun k hk => ?_⟩, h.hl, (key l _ _ _ (by decide) h.blk).trans h.blk, ?_, h.six, h.half, h.at_⟩
  · rcases hk with rfl | rfl | hk
    · exact key _ _ _ _ (by decide) d.blk
    · exact key _ _ _ _ (by decide) d.row
    · rcases d.cache.2 with ⟨rfl, _⟩ | ⟨q, cap, cur, rfl, -, hh, -⟩
      · simp [Value.ownBlock] at hk
      · simp only [Value.ownBlock, Option.some.injEq] at hk
        subst hk
        exact key _ _ _ _ (by decide) hh
  · obtain ⟨vs, h1, h2⟩ := h.rows
    refine ⟨vs, row_same h1 fun k hk => ?_, fun i hi => ?_⟩
    · refine hs k (h1.lt k hk.symm).2 fun e => ?_
      rcases hn with hn | hn
      · rw [hn] at e; cases e
      · exact hn (e.symm.trans hk)
    · obtain ⟨u, hu, ho⟩ := h2 i hi
      refine ⟨u, hu, row_same ho fun k hk => ?_⟩
      rcases ho.2 with ⟨rfl, _⟩ | ⟨q, cap, cur, rfl, -, hh, -⟩
      · simp [Value.ownBlock] at hk
      · simp only [Value.ownBlock, Option.some.injEq] at hk
        subst hk
        exact key _ _ _ _ (by decide) hh
end
end Go.Proofs.Ytgkoblgpadpcjaa
