/- Small laws for walks: an append of one cell to a row that the call owns; a row of bits. -/
import Derived.Test.YtgkoblgpadpcjaaRows
import Derived.WalkKit
import Derived.Lib.Hide
import Derived.BigRegion
import Derived.RegionTactic
import Derived.ChangeAlike
namespace Go.Proofs.Ytgkoblgpadpcjaa
open Go.RowKit

theorem wpList_append_one {P : Program} (w : World) {ops : Array Oper} {rest : List Oper} {o : Oper} {a : Act} {Q : Exit → Act → World → Prop}
    (hg : o.guard = none) (s x : Operand) (t : TypeId) (hop : o.op = Op.call { callee := Callee.builtin Builtin.append, args := #[s, x], argTypes := #[t, t] })
    (base : Nat) (e : TypeId) (i : TypeInfo) (z : Value) (bytes : Nat) (h1 : P.underlying t = some (.slice e)) (h2 : P.info? e = some i) (h3 : i.zero = some z) (h4 : i.size = 1) (h5 : i.bytes = bytes) (h6 : z.cells.size = 1)
    (v : Value) (n : Nat) (xs : List Value) (hs : a.eval s = v) (hown : w.ownsRow base e 1 v n xs) (u : Value) (hx : a.eval x = .slice (some ⟨w.heap.size, 0, none⟩) 1 1) (h1c : u.oneCell' = true)
    (hn : n + 1 ≤ maxLen) (hb : (n + 1) * bytes ≤ 140737488355328) (hbase : base ≤ w.heap.size)
    (hK : ∀ v' w', w'.ownsRow base e 1 v' (n + 1) (xs ++ [u]) → (w.alloc (.cells #[u] e)).grownBy w' v.ownBlock → wpList P ops Q rest (a.put o.dst v') w') :
    wpList P ops Q (o :: rest) a (w.alloc (.cells #[u] e)) :=
  wpList_append_own (w.alloc (.cells #[u] e)) hg s x t hop base e i z 1 bytes h1 h2 h3 h4 h5 h6 (by decide) v n xs hs (hown.alloc _) ⟨w.heap.size, 0, none⟩ 1 1 [u] hx rfl
    (by intro j c hj
        match j, hj with
        | 0, hj => simp at hj; subst hj; simp [Addr.add])
    (by intro c hc; simp at hc; subst hc; exact h1c) hn hb (by simp; omega)
    (fun v' w' ho hgr _ => hK v' w' ho hgr)

theorem below_append_one {B : Nat} {W w w' : World} {o : Obj} {v : Value} {base e size n : Nat} {xs : List Value} (hbel : Below B W w) (hB : B ≤ w.heap.size) (hbase : B ≤ base)
    (hown : w.ownsRow base e size v n xs) (hgr : (w.alloc o).grownBy w' v.ownBlock) : Below B W w' :=
  (hbel.alloc hB _).grown hgr (by simp; omega) (fun q hq => Nat.le_trans hbase (hown.lt q hq).1)

def Bytes (w : World) (v : Value) (l : List UInt8) : Prop :=
  ∃ a cap, v = .slice a l.length cap ∧ l.length ≤ 9223372036854775807 ∧
    ∀ i, (h : i < l.length) → ∃ b o, a = some ⟨b, o, none⟩ ∧ w.cell? ⟨b, o + i, none⟩ = some (.int .u8 l[i].toNat)

def RowsOf (w : World) (b o : Nat) (ls : List (List UInt8)) : Prop :=
  ∀ i, (h : i < ls.length) → ∃ v, w.cell? ⟨b, o + i, none⟩ = some v ∧ Bytes w v ls[i]

theorem Bytes.below {B : Nat} {w w' : World} {v : Value} {l : List UInt8} (h : Bytes w v l) (hb : Below B w w') (hB : w.heap.size ≤ B) : Bytes w' v l := by
  obtain ⟨a, cap, rfl, hl, hc⟩ := h
  refine ⟨a, cap, rfl, hl, fun i hi => ?_⟩
  obtain ⟨b, o, rfl, hcell⟩ := hc i hi
  exact ⟨b, o, rfl, (hb.cell (Nat.lt_of_lt_of_le (World.block_lt_of_cell? w _ hcell) hB)).trans hcell⟩
theorem Bytes.alloc {w : World} {v : Value} {l : List UInt8} (h : Bytes w v l) (o : Obj) : Bytes (w.alloc o) v l :=
  h.below ((Below.refl w.heap.size w).alloc (Nat.le_refl _) o) (Nat.le_refl _)
theorem Bytes.drew {w : World} {v : Value} {l : List UInt8} (h : Bytes w v l) : Bytes w.drew v l := h
theorem Bytes.lit (w : World) (cs : Array Value) (l : List UInt8) (t : TypeId) (hl : cs.toList = l.map fun b => Value.int .u8 b.toNat) (hm : l.length ≤ 9223372036854775807) (n : Nat) (hn : n = l.length) (cap : Nat) (fz : Nat × Nat) :
    Bytes (w.alloc (.cells cs t fz)) (.slice (some ⟨w.heap.size, 0, none⟩) n cap) l := by
  subst hn
  refine ⟨_, _, rfl, hm, fun i hi => ⟨_, _, rfl, ?_⟩⟩
  have hh : (w.alloc (.cells cs t fz)).heap[w.heap.size]? = some (.cells cs t fz) := by show (w.heap.push _)[w.heap.size]? = _; simp
  have : cs[i]? = some (.int .u8 l[i].toNat) := by
    rw [← Array.getElem?_toList, hl]; simp [hi]
  simp only [World.cell?, hh, Nat.zero_add]; exact this
theorem RowsOf.one {w : World} {b : Nat} {v : Value} {l : List UInt8} (hc : w.cell? ⟨b, 0, none⟩ = some v) (h : Bytes w v l) : RowsOf w b 0 [l] := by
  intro i hi
  match i, hi with
  | 0, _ => exact ⟨v, hc, h⟩
theorem RowsOf.two {w : World} {b : Nat} {v u : Value} {l m : List UInt8} (hc : w.cell? ⟨b, 0, none⟩ = some v) (h : Bytes w v l) (hd : w.cell? ⟨b, 1, none⟩ = some u) (hm : Bytes w u m) : RowsOf w b 0 [l, m] := by
  intro i hi
  match i, hi with
  | 0, _ => exact ⟨v, hc, h⟩
  | 1, _ => exact ⟨u, hd, hm⟩
theorem cell_new0 (w : World) (cs : Array Value) (t : TypeId) (j : Nat) : (w.alloc (.cells cs t)).cell? ⟨w.heap.size, j, none⟩ = cs[j]? := by
  have hh : (w.alloc (.cells cs t)).heap[w.heap.size]? = some (.cells cs t (0, 0)) := by show (w.heap.push _)[w.heap.size]? = _; simp
  simp only [World.cell?, hh]; rfl
/-- What the walk is told of a slice of integers that came in. -/
def IsRow (k : IntKind) (w : World) (a : Option Addr) (len cap : Nat) (zs : List Int) : Prop :=
  (a = none ∧ len = 0 ∧ cap = 0 ∧ zs = []) ∨
  ∃ x, a = some x ∧ len ≤ cap ∧ cap ≤ maxLen ∧ zs.length = cap ∧ (∀ i, i < zs.length → w.cell? (x.add i) = some (.int k (zs.getD i 0))) ∧ ∀ n ∈ zs, (Lit.int k n).wf = true
theorem wf_u8 {n : Int} (h : (Lit.int .u8 n).wf = true) : 0 ≤ n ∧ n < 256 := by
  simp [Lit.wf, IntKind.min, IntKind.max, IntKind.signed, IntKind.bits] at h
  omega
theorem IsRow.bytes {w : World} {a : Option Addr} {len cap : Nat} {zs : List Int} (h : IsRow .u8 w a len cap zs) :
    ∃ l : List UInt8, l.length = len ∧ Bytes w (.slice a len cap) l := by
  rcases h with ⟨rfl, rfl, rfl, rfl⟩ | ⟨x, rfl, hl, hm, hz, hc, hwf⟩
  · exact ⟨[], rfl, none, 0, rfl, by simp, fun i hi => absurd hi (by simp)⟩
  · refine ⟨(zs.take len).map fun n => UInt8.ofNat n.toNat, by simp; omega, some x, cap, by simp; omega, by simp; unfold maxLen at hm; omega, fun i hi => ?_⟩
    have hi' : i < zs.length := by simp at hi; omega
    have hcell := hc i hi'
    obtain ⟨b, o, sp⟩ := x
    have hsp : sp = none := by
      have h0 := hc 0 (by omega)
      simpa [Addr.add] using World.cell?_spot h0
    subst hsp
    refine ⟨b, o, rfl, ?_⟩
    have e : (⟨b, o, none⟩ : Addr).add i = ⟨b, o + i, none⟩ := Addr.add_lit ..
    rw [e] at hcell
    rw [hcell]
    obtain ⟨h0, h1⟩ := wf_u8 (hwf _ (List.getElem_mem hi'))
    have e1 : zs.getD i 0 = zs[i] := by simp [List.getD, hi']
    rw [e1]
    simp only [List.getElem_map, List.getElem_take, UInt8.toNat_ofNat']
    congr 2
    omega
theorem ret_int {k : IntKind} {a b : Int} (h : a = b) : Ending.returned (.int k a) = .returned (.int k b) := by rw [h]

def bit (n i : Nat) : Nat := (n.testBit i).toNat
def bitVals (N m : Nat) : List Value := (List.range m).map fun i => .int .i64 (bit N i : Nat)
theorem bitVals_succ (N m : Nat) : bitVals N m ++ [.int .i64 (bit N m : Nat)] = bitVals N (m + 1) := by
  simp [bitVals, List.range_succ]
theorem bitVals_length (N m : Nat) : (bitVals N m).length = m := by simp [bitVals]
theorem bitVals_get (N m i : Nat) (h : i < m) : (bitVals N m)[i]? = some (.int .i64 (bit N i : Nat)) := by
  simp [bitVals, h]
theorem bit_le (N i : Nat) : bit N i ≤ 1 := by unfold bit; cases N.testBit i <;> simp

structure BitRow (w : World) (g N m : Nat) : Prop where
  cell : ∀ i, i < m → w.cell? ⟨g, i, none⟩ = some (.int .i64 (bit N i : Nat))
  frozen : ∀ i, w.frozen? ⟨g, i, none⟩ = false

theorem BitRow.alloc {w : World} {g N m : Nat} (h : BitRow w g N m) (hg : g < w.heap.size) (o : Obj) : BitRow (w.alloc o) g N m :=
  ⟨fun i hi => (World.cell?_of_block (w := w) (Below.heap_alloc w o g hg)).trans (h.cell i hi), fun i => (World.frozen?_of_block (w := w) (Below.heap_alloc w o g hg)).trans (h.frozen i)⟩
theorem BitRow.drew {w : World} {g N m : Nat} (h : BitRow w g N m) : BitRow w.drew g N m := ⟨h.cell, h.frozen⟩
theorem BitRow.other {w : World} {g N m : Nat} (h : BitRow w g N m) (a : Addr) (hne : g ≠ a.block) (u : Value) : BitRow (w.setCell a u) g N m :=
  ⟨fun i hi => (World.cell?_of_block (w := w) (Below.heap_setCell w a u g hne)).trans (h.cell i hi), fun i => (World.frozen?_of_block (w := w) (Below.heap_setCell w a u g hne)).trans (h.frozen i)⟩
theorem setCell_frozen (w : World) (p q : Addr) (u : Value) : (w.setCell p u).frozen? q = w.frozen? q := by
  unfold World.frozen? World.setCell
  simp only [Array.getElem?_modify]
  by_cases h : p.block = q.block
  · rw [if_pos h]
    cases w.heap[q.block]? with
    | none => rfl
    | some o => cases o <;> rfl
  · rw [if_neg h]
theorem setCell_cell_ne (w : World) (g i j : Nat) (u : Value) (h : j ≠ i) : (w.setCell ⟨g, i, none⟩ u).cell? ⟨g, j, none⟩ = w.cell? ⟨g, j, none⟩ := by
  unfold World.cell? World.setCell
  simp only [Array.getElem?_modify, if_true]
  cases hh : w.heap[g]? with
  | none => rfl
  | some o => cases o <;> simp [Ne.symm h]
theorem setCell_cell_eq (w : World) (g i : Nat) (u v : Value) (h : w.cell? ⟨g, i, none⟩ = some v) : (w.setCell ⟨g, i, none⟩ u).cell? ⟨g, i, none⟩ = some u := by
  unfold World.cell? World.setCell at *
  simp only [Array.getElem?_modify, if_true]
  cases hh : w.heap[g]? with
  | none => simp [hh] at h
  | some o =>
    cases o with
    | cells c e f =>
      simp only [hh] at h
      have : i < c.size := by
        simp at h
        exact (Array.getElem?_eq_some_iff.1 h).1
      simp [this]
    | _ => simp [hh] at h
theorem BitRow.set {w : World} {g N m : Nat} (h : BitRow w g N m) (k : Nat) (hk : k < m) (N' : Nat) (u : Value) (hu : u = .int .i64 (bit N' k : Nat)) (hN : ∀ i, i ≠ k → N'.testBit i = N.testBit i) :
    BitRow (w.setCell ⟨g, k, none⟩ u) g N' m := by
  refine ⟨fun i hi => ?_, fun i => (setCell_frozen ..).trans (h.frozen i)⟩
  by_cases hik : i = k
  · subst hik; rw [setCell_cell_eq w g i u _ (h.cell i hi), hu]
  · rw [setCell_cell_ne w g k i u hik, h.cell i hi]
    simp [bit, hN i hik]
theorem BitRow.of_owns {w : World} {base g N m cap : Nat} (h : w.ownsRow base 3 1 (.slice (some ⟨g, 0, none⟩) m cap) m (bitVals N m)) : BitRow w g N m :=
  ⟨fun i hi => by rw [h.cellAt i (by omega), bitVals_get N m i hi], fun i => h.frozenAt i⟩
theorem owns_some {w : World} {base e size n : Nat} {v : Value} {xs : List Value} (h : w.ownsRow base e size v n xs) (hn : 0 < n) :
    ∃ g cap, v = .slice (some ⟨g, 0, none⟩) n cap ∧ base ≤ g ∧ g < w.heap.size := by
  rcases h.2 with ⟨_, h0⟩ | ⟨g, cap, cur, rfl, hb, hg, _⟩
  · omega
  · exact ⟨g, cap, rfl, hb, (Array.getElem?_eq_some_iff.1 hg).1⟩
end Go.Proofs.Ytgkoblgpadpcjaa
