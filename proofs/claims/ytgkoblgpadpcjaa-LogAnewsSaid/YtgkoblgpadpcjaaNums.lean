/- Small facts on numbers in the walk's spelling. -/
import Derived.Test.YtgkoblgpadpcjaaKit2
import Derived.Test.YtgkoblgpadpcjaaCrc
namespace Go.Proofs.Ytgkoblgpadpcjaa
open Go.RowKit
theorem and_i64_mask (n : Int) (m : Nat) (hm : m < 9223372036854775808) : ∃ q : Nat, q ≤ m ∧ bits .and .i64 n (m : Int) = (q : Int) := by
  refine ⟨(BitVec.ofInt 64 n &&& BitVec.ofInt 64 (m : Int)).toNat, ?_, ?_⟩
  · rw [BitVec.toNat_and]
    have : (BitVec.ofInt 64 (m : Int)).toNat = m := ofInt_u64 m (by omega)
    rw [this]; exact Nat.and_le_right
  · have h1 : (BitVec.ofInt 64 n &&& BitVec.ofInt 64 (m : Int)).toNat ≤ m := by
      rw [BitVec.toNat_and]
      have : (BitVec.ofInt 64 (m : Int)).toNat = m := ofInt_u64 m (by omega)
      rw [this]; exact Nat.and_le_right
    show IntKind.i64.wrap ((BitVec.ofInt 64 n &&& BitVec.ofInt 64 (m : Int)).toNat : Int) = _
    exact IntWalk.i64_in _ (by omega)
/-- A row that the call has made, as one of bytes. -/
def One (w0 wc : World) (x : Value) (l : List UInt8) : Prop :=
  ∃ g c, x = .slice (some ⟨g, 0, none⟩) l.length c ∧ w0.heap.size ≤ g ∧ OwnBytes wc w0.heap.size x l ∧ Below w0.heap.size w0 wc
theorem one_of {w0 W1 w2 : World} {a0 : Option Addr} {x : Value} {l : List UInt8} (hl : 0 < l.length) (b1 : Below w0.heap.size w0 W1) (f1 : FreshBytes W1 w2 (.slice a0 0 0) x l) : One w0 w2 x l := by
  have s1 := b1.size
  rcases f1.own with ⟨rfl, _⟩ | ⟨_, o1, gx, cx, rfl, h1, h1'⟩
  · simp at hl
  · exact ⟨gx, cx, rfl, by omega, o1.le s1, b1.trans (f1.below.mono s1)⟩
theorem One.bytes {w0 wc : World} {x : Value} {l : List UInt8} (h : One w0 wc x l) : Bytes wc x l := by
  obtain ⟨g, c, _, _, o, _⟩ := h; exact o.bytes
/-- One byte of a row of the call's own is turned. -/
theorem tells_step {w0 wr : World} {ax : Option Addr} {kx cx p : Nat} {l xs : List UInt8} {k : Nat}
    (T : One w0 wr (.slice ax kx cx) (turnTo l p xs k)) (hp : p + k < l.length) (hk : k < xs.length) :
    ∃ g, ∃ q r : Nat, ax = some ⟨g, 0, none⟩ ∧ w0.heap.size ≤ g ∧ wr.cell? ⟨g, p + k, none⟩ = some (.int .u8 q) ∧ wr.frozen? ⟨g, p + k, none⟩ = false ∧ bits .xor .u8 q (xs[k].toNat) = (r : Int) ∧
      One w0 (wr.setCell ⟨g, p + k, none⟩ (.int .u8 r)) (.slice ax kx cx) (turnTo l p xs (k + 1)) := by
  have hl := turnTo_length l p xs k
  have hs := turnTo_succ l p xs k (by omega) hk
  obtain ⟨g, c, e, hg, o, hb⟩ := T
  simp only [Value.slice.injEq] at e
  obtain ⟨rfl, rfl, rfl⟩ := e
  have o' := o.set rfl (p + k) ((turnTo l p xs k)[p + k] ^^^ xs[k]) _ rfl
  rw [← hs] at o'
  refine ⟨g, _, _, rfl, hg, o.cell rfl (p + k) (by omega), o.frozen rfl _, xor_u8 _ _, g, cx, by simp [turnTo], hg, o', hb.setCell hg _⟩
theorem RowsOf.blk1 {W w0 : World} {g : Nat} {v : Value} {l : List UInt8} (hb : Bytes w0 v l) (hbel : Below w0.heap.size w0 W) (hh : W.heap[g]? = some (.cells #[v] 22 (0, 0))) : RowsOf W g 0 [l] :=
  RowsOf.one (by simp only [World.cell?, hh]; rfl) (hb.below hbel (Nat.le_refl _))
theorem RowsOf.blk2 {W w0 : World} {g : Nat} {v u : Value} {l m : List UInt8} (hb : Bytes w0 v l) (hm : Bytes w0 u m) (hbel : Below w0.heap.size w0 W) (hh : W.heap[g]? = some (.cells #[v, u] 22 (0, 0))) : RowsOf W g 0 [l, m] :=
  RowsOf.two (by simp only [World.cell?, hh]; rfl) (hb.below hbel (Nat.le_refl _)) (by simp only [World.cell?, hh]; rfl) (hm.below hbel (Nat.le_refl _))
theorem Bytes.tail {w : World} {b o k cap : Nat} {l : List UInt8} (h : Bytes w (.slice (some ⟨b, o, none⟩) k cap) l) (p : Nat) (hp : p < l.length) : Bytes w (.slice (some ⟨b, o + p, none⟩) (l.length - p) (cap - p)) (l.drop p) := by
  have h1 := h.sliced p l.length (by omega) (Nat.le_refl _) _ rfl
  obtain ⟨a', cap', he, hl, _, _, _⟩ := h
  simp only [Value.slice.injEq] at he
  obtain ⟨_, _, rfl⟩ := he
  rw [List.take_length] at h1
  simpa [Go.sliced, show ¬ cap = p by omega, Addr.add_lit] using h1
/-- A world with more blocks. -/
def Ext (w0 W : World) : Prop := Below w0.heap.size w0 W
theorem Ext.refl (w : World) : Ext w w := Below.refl _ _
theorem Ext.drew {w0 W : World} (h : Ext w0 W) : Ext w0 W.drew := Below.drew h
theorem Ext.alloc {w0 W : World} (h : Ext w0 W) (o : Obj) : Ext w0 (W.alloc o) := Below.alloc h h.size o
theorem Ext.cell {w0 W : World} (h : Ext w0 W) {a : Addr} {v : Value} (hc : w0.cell? a = some v) : W.cell? a = some v := (Below.cell h (World.block_lt_of_cell? w0 a hc)).trans hc
theorem Ext.mono {w0 W : World} {B : Nat} (hB : B ≤ w0.heap.size) (h : Ext w0 W) : Below B w0 W := Below.mono h hB
theorem nf1 (s : Nat) : (s + 1 = s) = False := by simp
theorem nf2 (s : Nat) : (s + 1 + 1 = s) = False := eq_false (by omega)
theorem nf3 (s : Nat) : (s + 1 + 1 + 1 = s) = False := eq_false (by omega)
theorem nf4 (s : Nat) : (s = s + 1) = False := by simp
theorem nf5 (s : Nat) : (s = s + 1 + 1) = False := eq_false (by omega)
theorem nf6 (s : Nat) : (s = s + 1 + 1 + 1) = False := eq_false (by omega)
theorem drew_heap (w : World) : w.drew.heap = w.heap := rfl
theorem alloc_get (w : World) (o : Obj) (k : Nat) : (w.alloc o).heap[k]? = if k = w.heap.size then some o else w.heap[k]? := by
  show (w.heap.push o)[k]? = _
  rw [Array.getElem?_push]
theorem alloc_size (w : World) (o : Obj) : (w.alloc o).heap.size = w.heap.size + 1 := by simp
/-- A row of n slices of bytes, at the head of a block. -/
def RowsN (W : World) (g n : Nat) (ls : List (List UInt8)) : Prop := ls.length = n ∧ RowsOf W g 0 ls
theorem RowsN.one {w0 W : World} {g : Nat} {v : Value} {l : List UInt8} (hb : Bytes w0 v l) (hbel : Ext w0 W) (hh : W.heap[g]? = some (.cells #[v] 22 (0, 0))) : RowsN W g 1 [l] := ⟨rfl, RowsOf.blk1 hb hbel hh⟩
theorem RowsN.two {w0 W : World} {g : Nat} {v u : Value} {l m : List UInt8} (hb : Bytes w0 v l) (hm : Bytes w0 u m) (hbel : Ext w0 W) (hh : W.heap[g]? = some (.cells #[v, u] 22 (0, 0))) : RowsN W g 2 [l, m] := ⟨rfl, RowsOf.blk2 hb hm hbel hh⟩
theorem crc_any {W : World} {g n : Nat} {ls : List (List UInt8)} (h : RowsN W g n ls) (hn : n ≤ 9223372036854775807) :
    Calls Try.prog 18 #[.slice (some ⟨g, 0, none⟩) n n] W fun e w' => e = .returned (.int .u32 (crcOf ls.flatten : Nat)) ∧ W = w' := by
  obtain ⟨rfl, hr⟩ := h
  exact crc_of ls g 0 _ W hn hr
end Go.Proofs.Ytgkoblgpadpcjaa
