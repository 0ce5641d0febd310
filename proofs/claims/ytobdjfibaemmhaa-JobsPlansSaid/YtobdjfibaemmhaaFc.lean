/- A unit in memory; clone. -/
import Derived.Test.YtobdjfibaemmhaaFb
import Derived.Laws.CopyOwn
namespace Go.Proofs.Ytobdjfibaemmhaa
open Go.RowKit Go.Maps Go.Lib

def unitCells (n : Str) (xs : List Value) (r : Int) : Array Value := (.string (ba n) :: (xs ++ [.int .i64 r])).toArray
def listsOf (u : Un) : List (List Str) := [u.files, u.after, u.before, u.requires, u.wants, u.partOf]
/-- A unit's value. -/
def UnitIs (w : World) (v : Value) (u : Un) : Prop :=
  ∃ xs : List Value, v = .agg (unitCells u.name xs u.retry) ∧ xs.length = 6 ∧ ∀ j, j < 6 → ∃ x l, xs[j]? = some x ∧ (listsOf u)[j]? = some l ∧ SRow w x l
theorem UnitIs.ext {w w' : World} {v : Value} {u : Un} (h : UnitIs w v u) (x : Ext w w') : UnitIs w' v u := by
  obtain ⟨xs, h1, h2, h3⟩ := h
  refine ⟨xs, h1, h2, fun j hj => ?_⟩
  obtain ⟨y, l, h4, h5, h6⟩ := h3 j hj
  exact ⟨y, l, h4, h5, h6.ext x⟩
/-- A unit's value whose rows the call itself has made, from block base on. -/
def UnitOwn (w : World) (base : Nat) (v : Value) (u : Un) : Prop :=
  ∃ xs : List Value, v = .agg (unitCells u.name xs u.retry) ∧ xs.length = 6 ∧ ∀ j, j < 6 → ∃ x l, xs[j]? = some x ∧ (listsOf u)[j]? = some l ∧ OwnS w base x l
theorem UnitOwn.is {w : World} {base : Nat} {v : Value} {u : Un} (h : UnitOwn w base v u) : UnitIs w v u := by
  obtain ⟨xs, h1, h2, h3⟩ := h
  refine ⟨xs, h1, h2, fun j hj => ?_⟩
  obtain ⟨y, l, h4, h5, h6⟩ := h3 j hj
  exact ⟨y, l, h4, h5, h6.row⟩
theorem UnitOwn.grown {w w' : World} {base : Nat} {v : Value} {u : Un} {row : Option Nat} (h : UnitOwn w base v u) (g : w.grownBy w' row) (hr : ∀ k, row = some k → k < base) : UnitOwn w' base v u := by
  obtain ⟨xs, h1, h2, h3⟩ := h
  refine ⟨xs, h1, h2, fun j hj => ?_⟩
  obtain ⟨y, l, h4, h5, h6⟩ := h3 j hj
  refine ⟨y, l, h4, h5, h6.kept g ?_⟩
  cases hb : y.ownBlock with
  | none => exact .inl rfl
  | some k => exact .inr fun e => by have := (h6.lt _ hb).1; have := hr k (by rw [← e]); omega
theorem UnitOwn.base {w : World} {base base' : Nat} {v : Value} {u : Un} (h : UnitOwn w base v u) (hb : base' ≤ base) : UnitOwn w base' v u := by
  obtain ⟨xs, h1, h2, h3⟩ := h
  refine ⟨xs, h1, h2, fun j hj => ?_⟩
  obtain ⟨y, l, h4, h5, h6⟩ := h3 j hj
  exact ⟨y, l, h4, h5, h6.base hb⟩
theorem UnitIs.shape {w : World} {v : Value} {u : Un} (h : UnitIs w v u) : ∃ a0 n0 c0 a1 n1 c1 a2 n2 c2 a3 n3 c3 a4 n4 c4 a5 n5 c5, v = .agg #[.string (ba u.name), .slice a0 n0 c0, .slice a1 n1 c1, .slice a2 n2 c2, .slice a3 n3 c3, .slice a4 n4 c4, .slice a5 n5 c5, .int .i64 u.retry] ∧
    SRow w (.slice a0 n0 c0) u.files ∧ SRow w (.slice a1 n1 c1) u.after ∧ SRow w (.slice a2 n2 c2) u.before ∧ SRow w (.slice a3 n3 c3) u.requires ∧ SRow w (.slice a4 n4 c4) u.wants ∧ SRow w (.slice a5 n5 c5) u.partOf := by
  obtain ⟨xs, rfl, h2, h3⟩ := h
  match xs, h2 with
  | [y0, y1, y2, y3, y4, y5], _ =>
    obtain ⟨x, l, e, e', g0⟩ := h3 0 (by decide)
    simp [listsOf] at e e'
    subst e e'
    obtain ⟨x, l, e, e', g1⟩ := h3 1 (by decide)
    simp [listsOf] at e e'
    subst e e'
    obtain ⟨x, l, e, e', g2⟩ := h3 2 (by decide)
    simp [listsOf] at e e'
    subst e e'
    obtain ⟨x, l, e, e', g3⟩ := h3 3 (by decide)
    simp [listsOf] at e e'
    subst e e'
    obtain ⟨x, l, e, e', g4⟩ := h3 4 (by decide)
    simp [listsOf] at e e'
    subst e e'
    obtain ⟨x, l, e, e', g5⟩ := h3 5 (by decide)
    simp [listsOf] at e e'
    subst e e'
    obtain ⟨a0, c0, rfl, -⟩ := g0.form
    obtain ⟨a1, c1, rfl, -⟩ := g1.form
    obtain ⟨a2, c2, rfl, -⟩ := g2.form
    obtain ⟨a3, c3, rfl, -⟩ := g3.form
    obtain ⟨a4, c4, rfl, -⟩ := g4.form
    obtain ⟨a5, c5, rfl, -⟩ := g5.form
    exact ⟨_, _, _, _, _, _, _, _, _, _, _, _, _, _, _, _, _, _, rfl, g0, g1, g2, g3, g4, g5⟩
theorem Try.info45 : (Try.prog.info? 45).map (·.size) = some 8 := by kernel_rfl
theorem Try.results30 : Try.f30.results = #[.cell 2 45] := by kernel_rfl
def CellOK (w wr : World) (x : Value) (l : List Str) : Prop := SRow w x l ∨ OwnS wr (w.heap.size + 3) x l
def ptrs (B : Nat) : Array Value := #[.pointer (some ⟨B, 1, none⟩), .pointer (some ⟨B, 2, none⟩), .pointer (some ⟨B, 3, none⟩), .pointer (some ⟨B, 4, none⟩), .pointer (some ⟨B, 5, none⟩), .pointer (some ⟨B, 6, none⟩)]
structure CloneAt (w : World) (Z : Array Value) (n : Str) (xs : List Value) (r : Int) (ls : List (List Str)) (k : Nat) (wr : World) : Prop where
  x : Ext w wr
  b0 : wr.heap[w.heap.size]? = some (.cells (unitCells n xs r) 45 (0, 0))
  b1 : wr.heap[w.heap.size + 1]? = some (.cells Z 45 (0, 0))
  b2 : wr.heap[w.heap.size + 2]? = some (.cells (ptrs w.heap.size) 79 (0, 0))
  ok : ∀ j, j < 6 → ∃ x l, xs[j]? = some x ∧ ls[j]? = some l ∧ CellOK w wr x l ∧ (j < k → OwnS wr (w.heap.size + 3) x l)
def cloneRel (w : World) (Z : Array Value) (n : Str) (r : Int) (ls : List (List Str)) (i : Value) (wr : World) : Prop :=
  ∃ (k : Nat) (xs : List Value), k ≤ 6 ∧ i = .int .i64 k ∧ xs.length = 6 ∧ Hid (CloneAt w Z n xs r ls k wr)
def clonePost (w : World) (u : Un) (e : Ending) (w' : World) : Prop := ∃ v, e = .returned v ∧ UnitOwn w' (w.heap.size + 3) v u ∧ Ext w w'
theorem unit_one (n : Str) (xs : List Value) (r : Int) (h : ∀ x ∈ xs, x.oneCell' = true) : (unitCells n xs r).all (·.oneCell') = true := by
  rw [Array.all_eq_true_iff_forall_mem]
  intro x hx
  simp only [unitCells, List.mem_toArray, List.mem_cons, List.mem_append, List.not_mem_nil, or_false] at hx
  rcases hx with rfl | hx | rfl
  · rfl
  · exact h x hx
  · rfl
theorem unit_cell (n : Str) (xs : List Value) (r : Int) (k : Nat) (x : Value) (h : xs[k]? = some x) : (unitCells n xs r)[k + 1]? = some x := by
  have := (List.getElem?_eq_some_iff.1 h).1
  simp [unitCells, List.getElem?_append_left this, h]
theorem unit_set (n : Str) (xs : List Value) (r : Int) (k : Nat) (x : Value) (h : k < xs.length) : (unitCells n xs r).setIfInBounds (k + 1) x = unitCells n (xs.set k x) r := by
  apply Array.toList_inj.1
  simp [unitCells, List.set_append_left _ _ h]
theorem three_a (w : World) (o1 o2 o3 : Obj) : (((w.alloc o1).alloc o2).alloc o3).heap[w.heap.size]? = some o1 := by
  show (((w.heap.push o1).push o2).push o3)[w.heap.size]? = _
  rw [Array.getElem?_push, Array.getElem?_push, Array.getElem?_push]
  simp
  omega
theorem three_b (w : World) (o1 o2 o3 : Obj) : (((w.alloc o1).alloc o2).alloc o3).heap[w.heap.size + 1]? = some o2 := by
  show (((w.heap.push o1).push o2).push o3)[w.heap.size + 1]? = _
  rw [Array.getElem?_push, Array.getElem?_push, Array.getElem?_push]
  simp
theorem three_c (w : World) (o1 o2 o3 : Obj) : (((w.alloc o1).alloc o2).alloc o3).heap[w.heap.size + 2]? = some o3 := by
  show (((w.heap.push o1).push o2).push o3)[w.heap.size + 2]? = _
  rw [Array.getElem?_push]
  simp
theorem cell_blk {w : World} {b : Nat} {cs : Array Value} {t : TypeId} {fz : Nat × Nat} (h : w.heap[b]? = some (.cells cs t fz)) (i : Nat) : w.cell? ⟨b, i, none⟩ = cs[i]? := by
  simp only [World.cell?, h]; rfl
theorem grown_setCell (w : World) (b i : Nat) (u : Value) : w.grownBy (w.setCell ⟨b, i, none⟩ u) (some b) :=
  ⟨rfl, rfl, rfl, by simp [World.setCell], fun k _ hk => Below.heap_setCell w ⟨b, i, none⟩ u k fun e => hk (by rw [e])⟩
theorem grown_setRow (w : World) (b : Nat) (cs : Array Value) : w.grownBy (w.setRow b cs) (some b) := by
  refine ⟨rfl, rfl, rfl, by simp [World.setRow], fun k _ hk => setRow_other w b k cs fun e => hk (by rw [e])⟩
theorem setCell_blk {w : World} {b : Nat} {cs : Array Value} {t : TypeId} {fz : Nat × Nat} (h : w.heap[b]? = some (.cells cs t fz)) (i : Nat) (u : Value) : (w.setCell ⟨b, i, none⟩ u).heap[b]? = some (.cells (cs.setIfInBounds i u) t fz) := by
  simp [World.setCell, Array.getElem?_modify, h]
theorem CloneAt.step {w : World} {Z : Array Value} {n : Str} {xs : List Value} {r : Int} {ls : List (List Str)} {wr w7 : World} {k : Nat} {l : List Str} {v : Value} (h : CloneAt w Z n xs r ls k wr) (hxs : xs.length = 6) (hk : k < 6) (x7 : Ext wr w7) (hl : ls[k]? = some l) (o : OwnS w7 wr.heap.size v l) :
    CloneAt w Z n (xs.set k v) r ls (k + 1) (w7.setCell ⟨w.heap.size, k + 1, none⟩ v) := by
  have hsz : w.heap.size + 2 < wr.heap.size := (Array.getElem?_eq_some_iff.1 h.b2).1
  refine ⟨(h.x.trans x7).grow (grown_setCell _ _ _ _) (fun q hq => by cases hq; exact Nat.le_refl _), ?_, ?_, ?_, fun j hj => ?_⟩
  · rw [setCell_blk (x7.get h.b0), unit_set _ _ _ _ _ (by omega)]
  · rw [Below.heap_setCell _ _ _ _ (by simp)]; exact x7.get h.b1
  · rw [Below.heap_setCell _ _ _ _ (by simp)]; exact x7.get h.b2
  · by_cases hjk : k = j
    · subst hjk
      have ho : OwnS (w7.setCell ⟨w.heap.size, k + 1, none⟩ v) (w.heap.size + 3) v l := (o.base (by omega)).kept (grown_setCell _ _ _ _) (.inr fun e => by have := (o.lt _ e).1; omega)
      exact ⟨v, l, by simp [hxs, hk], hl, .inr ho, fun _ => ho⟩
    · obtain ⟨x, l, h1, h2, h3, h4⟩ := h.ok j hj
      refine ⟨x, l, by rw [List.getElem?_set_ne hjk]; exact h1, h2, ?_, fun hj2 => ?_⟩
      · rcases h3 with h3 | h3
        · exact .inl h3
        · exact .inr ((h3.ext x7).kept (grown_setCell _ _ _ _) (.inr fun e => by have := (h3.lt _ e).1; omega))
      · have h3 := h4 (by omega)
        exact (h3.ext x7).kept (grown_setCell _ _ _ _) (.inr fun e => by have := (h3.lt _ e).1; omega)
set_option maxRecDepth 100000 in
set_option maxHeartbeats 2000000 in
theorem uclone_any {w : World} {v : Value} {u : Un} (h : UnitIs w v u) (hl : ∀ l ∈ listsOf u, l.length * 16 ≤ 140737488355328) : Calls Try.prog 30 #[v] w (clonePost w u) := by
  have HU := Lib.hid h
  obtain ⟨a0, n0, c0, a1, n1, c1, a2, n2, c2, a3, n3, c3, a4, n4, c4, a5, n5, c5, rfl, g⟩ := h.shape
  clear g h
  go_enter Try.func30, Try.ntmps30
  go_upto_region 2 with fail
  obtain ⟨Z, hZ⟩ : ∃ Z : Array Value, Z = #[.string ⟨#[]⟩, .slice none 0 0, .slice none 0 0, .slice none 0 0, .slice none 0 0, .slice none 0 0, .slice none 0 0, .int .i64 0] := ⟨_, rfl⟩
  go_loopw [13] (fun i wr => cloneRel w Z u.name u.retry (listsOf u) i wr) (fun i _ => 6 - (intOf i).toNat)
  case atStart =>
    obtain ⟨xs, e1, e2, e3⟩ := HU.out
    simp only [Value.agg.injEq] at e1
    refine ⟨0, xs, by omega, rfl, e2, (((Ext.refl w).alloc _).alloc _).alloc _, ?_, ?_, ?_, fun j hj => ?_⟩
    · rw [← e1]; exact three_a w _ _ _
    · rw [hZ]; exact three_b w _ _ _
    · exact three_c w _ _ _
    · obtain ⟨x, l, h1, h2, h3⟩ := e3 j hj
      exact ⟨x, l, h1, h2, .inl h3, fun h => absurd h (Nat.not_lt_zero _)⟩
  case round =>
    obtain ⟨k, xs, hk, rfl, hxs, HC⟩ := hrel
    by_cases hlt : k < 6
    · obtain ⟨x, l, h1, h2, h3, -⟩ := HC.out.ok k hlt
      have hl2 := hl l (List.mem_of_getElem? h2)
      have hs : SRow wr x l := h3.elim (fun h => h.ext HC.out.x) OwnS.row
      have e2 : wr.cell? ⟨w.heap.size + 2, k, none⟩ = some (.pointer (some ⟨w.heap.size, k + 1, none⟩)) := by
        rw [cell_blk HC.out.b2]
        match k, hlt with
        | 0, _ => rfl
        | 1, _ => rfl
        | 2, _ => rfl
        | 3, _ => rfl
        | 4, _ => rfl
        | 5, _ => rfl
      have e0 : wr.cell? ⟨w.heap.size, k + 1, none⟩ = some x := by rw [cell_blk HC.out.b0]; exact unit_cell _ _ _ _ _ h1
      have hcl := clone_any hs hl2
      obtain ⟨ax, cx, rfl, -⟩ := hs.form
      have HS := Lib.hid (And.intro h1 (And.intro h2 h3))
      clear h1 h2 h3 hs
      go_wp2_with (go_at_call 46; refine hcl.mono ?_; rintro e w7 ⟨v7, rfl, o7, x7⟩; have O7 := Lib.hid o7; have X7 := Lib.hid x7; have F0 := x7.cell e0; have F1 : w7.frozen? ⟨w.heap.size, k + 1, none⟩ = false := (by rw [World.frozen?, x7.get HC.out.b0]; rfl); clear o7 x7 hcl; (obtain ⟨a7, c7, rfl, -⟩ := O7.out.row.form))
      go_roundw
      case rel => exact ⟨k + 1, xs.set k (.slice a7 l.length c7), by omega, by go_num, by rw [List.length_set]; exact hxs, Lib.hid (HC.out.step hxs hlt X7.out HS.out.2.1 O7.out)⟩
      case measure => simp [intOf]; omega
    · obtain rfl : k = 6 := by omega
      have hall : (unitCells u.name xs u.retry).all (·.oneCell') = true := unit_one _ _ _ fun x hx => by
        obtain ⟨j, hj, rfl⟩ := List.getElem_of_mem hx
        obtain ⟨x, l, h1, _, h3, -⟩ := HC.out.ok j (by omega)
        rw [List.getElem?_eq_getElem hj] at h1
        cases h1
        have hs : SRow wr xs[j] l := h3.elim (fun h => h.ext HC.out.x) OwnS.row
        obtain ⟨a, c, e, -⟩ := hs.form
        rw [e]; rfl
      have hsz : (unitCells u.name xs u.retry).size = 8 := by simp [unitCells, hxs]
      have hi : (Try.prog.info? 45).map (·.size) = some (unitCells u.name xs u.retry).size := by rw [hsz]; exact Try.info45
      have HR : Hid (Z.size = (unitCells u.name xs u.retry).size) := by rw [hsz, hZ]; rfl
      have HI := Lib.hid hi
      have HA := Lib.hid hall
      have HX := Lib.hid hxs
      have HN := Lib.hid hsz
      obtain ⟨R0, hR0⟩ : ∃ R0, R0 = unitCells u.name xs u.retry := ⟨_, rfl⟩
      have HC0 := HC.out.b0
      rw [← hR0] at HI HA HR HN HC0
      have HB0 := Lib.hid HC0
      have HR0 := Lib.hid hR0
      clear hall hsz hi hlt hxs hZ hR0 HC0
      go_wp2_with (first
        | (refine wpList_load_row rfl 45 (.tmp 1) rfl w.heap.size rfl 45 R0 (0, 0) _ HB0.out Try.underlying45 rfl HI.out ?_)
        | (refine wpList_store_row rfl 45 (.tmp 2) (.tmp 24) rfl (w.heap.size + 1) R0 rfl rfl 45 Z HC.out.b1 HI.out HR.out HA.out ?_))
      refine bodyPost_ret (results_cell_row Try.results30 _ _ (w.heap.size + 1) 45 R0 (0, 0) _ rfl (setRow_heap _ _ _ _ _ _ HC.out.b1) Try.underlying45 rfl HI.out) rfl ?_
      have X9 := below_setRow HC.out.x (Nat.le_succ w.heap.size) R0
      refine ⟨_, rfl, ⟨xs, by rw [HR0.out], HX.out, fun j hj => ?_⟩, X9⟩
      obtain ⟨x, l, h1, h2, -, h4⟩ := HC.out.ok j hj
      have h := h4 hj
      exact ⟨x, l, h1, h2, h.kept (row := some (w.heap.size + 1)) (grown_setRow _ _ _) (.inr fun e => by have := (h.lt _ e).1; omega)⟩
end Go.Proofs.Ytobdjfibaemmhaa
