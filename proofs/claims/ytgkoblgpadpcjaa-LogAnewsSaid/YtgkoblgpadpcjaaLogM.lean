/- A log in memory. -/
import Derived.Test.YtgkoblgpadpcjaaLogL
import Derived.Test.YtgkoblgpadpcjaaDiskPowerW
import Derived.Laws.CopyOwn
namespace Go.Proofs.Ytgkoblgpadpcjaa
open Go.RowKit

/-- Records: a row of slices of the call's own, each over bytes of the call's own. -/
def RecRow (base : Nat) (w : World) (lv : Value) (ls : List (List UInt8)) : Prop :=
  ∃ vs : List Value, w.ownsRow base 22 1 lv ls.length vs ∧ ∀ i, (h : i < ls.length) → ∃ v, vs[i]? = some v ∧ OwnBytes w base v ls[i]
structure LogAt (base : Nat) (w : World) (g kb l : Nat) (lv : Value) (D : Dk) (L : Lg) : Prop where
  disk : Disk base w g kb D
  hl : base ≤ l
  blk : w.heap[l]? = some (.cells #[.pointer (some ⟨g, 0, none⟩), .int .i64 L.epoch, .int .i64 L.top, .int .i64 L.half, .int .i64 L.at_, lv, .bool L.dead] 119 (0, 0))
  rows : RecRow base w lv L.list
  six : 6 ≤ D.kept.length
  half : L.half ≤ 1
  at_ : L.at_ ≤ halfOf D
/-- Only the disk's own blocks, the log's block and its row of records have turned, and there are more blocks. -/
structure LOnly (base g kb l : Nat) (lb : Option Nat) (w w' : World) : Prop where
  os : w'.os = w.os
  tape : w'.tape = w.tape
  output : w'.output = w.output
  size : w.heap.size ≤ w'.heap.size
  block : ∀ k, k < w.heap.size → k ≠ g → k ≠ kb → k ≠ l → some k ≠ lb → (k < base ∨ NotW w k) → w'.heap[k]? = w.heap[k]?
section
variable {base g kb l : Nat} {lb lb' : Option Nat} {a b c : World}
theorem LOnly.refl : LOnly base g kb l lb a a := ⟨rfl, rfl, rfl, Nat.le_refl _, fun _ _ _ _ _ _ _ => rfl⟩
theorem LOnly.trans (h : LOnly base g kb l lb a b) (k : LOnly base g kb l lb' b c) (hn : lb' = lb ∨ ∀ q, lb' = some q → a.heap.size ≤ q) : LOnly base g kb l lb a c :=
  ⟨k.os.trans h.os, k.tape.trans h.tape, k.output.trans h.output, Nat.le_trans h.size k.size, fun i hi h1 h2 h3 h4 h5 => by
    have e := h.block i hi h1 h2 h3 h4 h5
    refine (k.block i (Nat.lt_of_lt_of_le hi h.size) h1 h2 h3 ?_ (h5.imp id fun hn cs fz => ?_)).trans e
    · rcases hn with rfl | hn
      · exact h4
      · intro e2
        have := hn i e2.symm
        omega
    · rw [e]; exact hn cs fz⟩
theorem DOnly.lonly (h : DOnly base g kb a b) : LOnly base g kb l lb a b := ⟨h.os, h.tape, h.output, h.size, fun k hk h1 h2 _ _ h5 => h.block k hk h1 h2 h5⟩
theorem Ext.lonly (h : Ext a b) : LOnly base g kb l lb a b := ⟨h.os, h.tape, h.output, h.size, fun k hk _ _ _ _ _ => h.block k hk⟩
theorem LOnly.drew (h : LOnly base g kb l lb a b) : LOnly base g kb l lb a b.drew := ⟨h.os, h.tape, h.output, h.size, h.block⟩
theorem LOnly.setL (h : LOnly base g kb l lb a b) (i : Nat) (u : Value) : LOnly base g kb l lb a (b.setCell ⟨l, i, none⟩ u) :=
  ⟨h.os, h.tape, h.output, by simp [World.setCell]; exact h.size, fun k hk h1 h2 h3 h4 h5 => (Below.heap_setCell b _ u k h3).trans (h.block k hk h1 h2 h3 h4 h5)⟩
theorem LOnly.below (h : LOnly base g kb l lb a b) (hg : base ≤ g) (hk : base ≤ kb) (hl : base ≤ l) (hlb : ∀ q, lb = some q → base ≤ q) (hs : base ≤ a.heap.size) : Below base a b :=
  ⟨h.os, h.tape, h.output, h.size, fun k hk' => h.block k (by omega) (by omega) (by omega) (by omega) (fun e => by have := hlb k e.symm; omega) (.inl hk')⟩
end
theorem RecRow.same {base : Nat} {w w' : World} {lv : Value} {ls : List (List UInt8)} (h : RecRow base w lv ls) (hs : ∀ (k : Nat) (cs : Array Value) (t : TypeId), (t = 22 ∨ t = 5) → w.heap[k]? = some (.cells cs t (0, 0)) → w'.heap[k]? = w.heap[k]?) : RecRow base w' lv ls := by
  have key : ∀ {e s n : Nat} {v : Value} {xs : List Value} (_ : e = 22 ∨ e = 5), w.ownsRow base e s v n xs → w'.ownsRow base e s v n xs := by
    intro e s n v xs he o
    refine row_same o fun k hk => ?_
    rcases o.2 with ⟨rfl, _⟩ | ⟨q, cap, cur, rfl, -, hh, -⟩
    · cases hk
    · simp only [Value.ownBlock, Option.some.injEq] at hk
      subst hk
      exact hs _ _ _ he hh
  obtain ⟨vs, h1, h2⟩ := h
  refine ⟨vs, key (.inl rfl) h1, fun i hi => ?_⟩
  obtain ⟨v, hv, ho⟩ := h2 i hi
  exact ⟨v, hv, key (.inr rfl) ho⟩
section
variable {base g kb l : Nat} {w w' : World} {lv : Value} {D D' : Dk} {L : Lg}
theorem LogAt.same (h : LogAt base w g kb l lv D L) (hd : Disk base w' g kb D') (hk : D'.kept.length = D.kept.length) (hl : w'.heap[l]? = w.heap[l]?) (hs : ∀ (k : Nat) (cs : Array Value) (t : TypeId), (t = 22 ∨ t = 5) → w.heap[k]? = some (.cells cs t (0, 0)) → w'.heap[k]? = w.heap[k]?) : LogAt base w' g kb l lv D' L :=
  ⟨hd, h.hl, hl.trans h.blk, h.rows.same hs, by rw [hk]; exact h.six, h.half, by unfold halfOf; rw [hk]; exact h.at_⟩
/-- The disk alone has turned. -/
theorem LogAt.only (h : LogAt base w g kb l lv D L) (o : DOnly base g kb w w') (hd : Disk base w' g kb D') (hk : D'.kept.length = D.kept.length) : LogAt base w' g kb l lv D' L := by
  obtain ⟨cv, d⟩ := h.disk
  have key : ∀ (k : Nat) (cs : Array Value) (t : TypeId), t ≠ 113 → t ≠ 111 → t ≠ 63 → w.heap[k]? = some (.cells cs t (0, 0)) → w'.heap[k]? = w.heap[k]? := by
    intro k cs t h1 h2 h3 hh
    refine (o.keep hh h1 ?_ ?_).trans hh.symm
    · rintro rfl; have := hh.symm.trans d.blk; simp only [Option.some.injEq, Obj.cells.injEq] at this; exact h2 this.2.1
    · rintro rfl; have := hh.symm.trans d.row; simp only [Option.some.injEq, Obj.cells.injEq] at this; exact h3 this.2.1
  refine h.same hd hk (key l _ _ (by decide) (by decide) (by decide) h.blk) fun k cs t ht hh => key k cs t ?_ ?_ ?_ hh
  · rcases ht with rfl | rfl <;> decide
  · rcases ht with rfl | rfl <;> decide
  · rcases ht with rfl | rfl <;> decide
theorem LogAt.ext (h : LogAt base w g kb l lv D L) (x : Ext w w') : LogAt base w' g kb l lv D L :=
  h.same (h.disk.ext x) rfl (x.block l (Array.getElem?_eq_some_iff.1 h.blk).1) fun k cs t _ hh => x.block k (Array.getElem?_eq_some_iff.1 hh).1
/-- A scalar of the log is set. -/
theorem LogAt.put (h : LogAt base w g kb l lv D L) (i : Nat) (u : Value) (L' : Lg) (lv' : Value)
    (hc : (#[.pointer (some ⟨g, 0, none⟩), .int .i64 L.epoch, .int .i64 L.top, .int .i64 L.half, .int .i64 L.at_, lv, .bool L.dead] : Array Value).setIfInBounds i u = #[.pointer (some ⟨g, 0, none⟩), .int .i64 L'.epoch, .int .i64 L'.top, .int .i64 L'.half, .int .i64 L'.at_, lv', .bool L'.dead])
    (hr : RecRow base w lv' L'.list) (h1 : L'.half ≤ 1) (h2 : L'.at_ ≤ halfOf D) : LogAt base (w.setCell ⟨l, i, none⟩ u) g kb l lv' D L' := by
  have ho : ∀ k, k ≠ l → (w.setCell ⟨l, i, none⟩ u).heap[k]? = w.heap[k]? := fun k hk => Below.heap_setCell w _ u k hk
  have hb := h.blk
  have hd : Disk base (w.setCell ⟨l, i, none⟩ u) g kb D := by
    obtain ⟨cv, d⟩ := h.disk
    have hg : g ≠ l := by rintro rfl; have := hb.symm.trans d.blk; simp at this
    have hk : kb ≠ l := by rintro rfl; have := hb.symm.trans d.row; simp at this
    refine ⟨cv, d.hg, d.hk, (ho g hg).trans d.blk, (ho kb hk).trans d.row, row_same d.cache fun k hk => ho k ?_, d.wf⟩
    rintro rfl
    rcases d.cache.2 with ⟨rfl, _⟩ | ⟨q, cap, cur, rfl, -, hh, -⟩
    · cases hk
    · simp only [Value.ownBlock, Option.some.injEq] at hk
      subst hk
      have := hb.symm.trans hh
      simp at this
  refine ⟨hd, h.hl, ?_, hr.same fun k cs t ht hh => ho k ?_, h.six, h1, h2⟩
  · rw [setCell_get w l i u _ _ _ hb, hc]
  · rintro rfl
    have := hb.symm.trans hh
    simp only [Option.some.injEq, Obj.cells.injEq] at this
    rcases ht with rfl | rfl <;> simp at this
theorem LogAt.cells (h : LogAt base w g kb l lv D L) :
    w.cell? ⟨l, 0, none⟩ = some (.pointer (some ⟨g, 0, none⟩)) ∧ w.cell? ⟨l, 1, none⟩ = some (.int .i64 L.epoch) ∧ w.cell? ⟨l, 2, none⟩ = some (.int .i64 L.top) ∧ w.cell? ⟨l, 3, none⟩ = some (.int .i64 L.half) ∧ w.cell? ⟨l, 4, none⟩ = some (.int .i64 L.at_) ∧ w.cell? ⟨l, 5, none⟩ = some lv ∧ w.cell? ⟨l, 6, none⟩ = some (.bool L.dead) ∧ ∀ i, w.frozen? ⟨l, i, none⟩ = false := by
  have hh := h.blk
  refine ⟨?_, ?_, ?_, ?_, ?_, ?_, ?_, fun i => by simp [World.frozen?, hh]⟩ <;> (simp only [World.cell?, hh]; rfl)
end

set_option maxRecDepth 100000 in
theorem sectors_any (n : Nat) (hn : n ≤ 140737488355328) (w : World) : Calls Try.prog 71 #[.int .i64 (n : Int)] w fun e w' => e = .returned (.int .i64 (sectorsOf n : Nat)) ∧ w = w' := by
  have hq : ((16 + (n : Int) + 63 - 1) : Int).tdiv 63 = ((sectorsOf n : Nat) : Int) := by
    rw [Int.tdiv_eq_ediv_of_nonneg (by omega)]
    unfold sectorsOf
    omega
  go_enter Try.func71, Try.ntmps71
  have hw : wrap64 ((sectorsOf n : Nat) : Int) = ((sectorsOf n : Nat) : Int) := IntWalk.wrap64_in _ (by unfold sectorsOf; omega)
  go_wp2_with fail
  go_ret
  exact ⟨by rw [hw]; rfl, rfl⟩
set_option maxRecDepth 100000 in
theorem half_any (base g kb : Nat) (D : Dk) (w : World) (h : Disk base w g kb D) (h2 : 2 ≤ D.kept.length) : Calls Try.prog 72 #[.pointer (some ⟨g, 0, none⟩)] w fun e w' => e = .returned (.int .i64 (halfOf D : Nat)) ∧ w = w' := by
  have hm := h.wf.most
  go_enter Try.func72, Try.ntmps72
  go_wp2_with fail
  refine (Len_any base g kb D _ h).mono ?_
  rintro e w' ⟨rfl, rfl⟩
  go_wp2_with fail
  go_ret
  have e : (((D.kept.length : Int) - 2) / 2) = ((halfOf D : Nat) : Int) := by unfold halfOf; omega
  exact ⟨by rw [e]; rfl, rfl⟩
end Go.Proofs.Ytgkoblgpadpcjaa
