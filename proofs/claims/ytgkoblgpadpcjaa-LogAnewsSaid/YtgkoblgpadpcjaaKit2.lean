/- More small laws for walks. -/
import Derived.Test.YtgkoblgpadpcjaaKit
import Derived.Test.YtgkoblgpadpcjaaCrcLaw
import Derived.Deep.RegionLaw
import Derived.Laws.BitsAllLaws
import Derived.Deep.CutRange
namespace Go.Proofs.Ytgkoblgpadpcjaa
open Go.RowKit
theorem below_then {B : Nat} {w0 W1 w2 : World} {v v' : Value} {m : List UInt8} (f : FreshBytes W1 w2 v v' m) (h : Below B w0 W1) (hB : B ≤ W1.heap.size) : Below B w0 w2 :=
  h.trans (f.below.mono hB)
theorem Two.alloc {w0 wc : World} {x y : Value} {l m : List UInt8} (h : Two w0 wc x y l m) (o : Obj) : Two w0 (wc.alloc o) x y l m := by
  obtain ⟨h1, h2, h3, h4⟩ := h
  refine ⟨h1.alloc o, h2.alloc o, fun hp => ?_, h4.alloc h4.size o⟩
  obtain ⟨gx, cx, gy, cy, e1, e2, e3, e4, e5, e6, e7⟩ := h3 hp
  exact ⟨gx, cx, gy, cy, e1, e2, e3, e4, e5, e6.alloc o, e7.alloc o⟩
theorem Two.drew {w0 wc : World} {x y : Value} {l m : List UInt8} (h : Two w0 wc x y l m) : Two w0 wc.drew x y l m := by
  obtain ⟨h1, h2, h3, h4⟩ := h
  exact ⟨h1, h2, h3, h4.drew⟩
theorem RowsOf.new1 (w : World) (g : Nat) (hg : g = w.heap.size) (v : Value) (l : List UInt8) (h : Bytes w v l) : RowsOf (w.alloc (.cells #[v] 22)) g 0 [l] := by
  subst hg
  exact RowsOf.one (cell_new0 w #[v] 22 0) (h.alloc _)
theorem Two.open {w0 wc : World} {ax ay : Option Addr} {k k' cx cy : Nat} {X Y : List UInt8} (h : Two w0 wc (.slice ax k cx) (.slice ay k' cy) X Y) (hpos : 0 < X.length) :
    ∃ gx gy, ax = some ⟨gx, 0, none⟩ ∧ ay = some ⟨gy, 0, none⟩ ∧ gx ≠ gy ∧ (∀ i, (h : i < X.length) → wc.cell? ⟨gx, i, none⟩ = some (.int .u8 X[i].toNat)) ∧ (∀ i, (h : i < Y.length) → wc.cell? ⟨gy, i, none⟩ = some (.int .u8 Y[i].toNat)) ∧
      (∀ i, wc.frozen? ⟨gx, i, none⟩ = false) ∧ (∀ i, wc.frozen? ⟨gy, i, none⟩ = false) := by
  obtain ⟨gx, cx', gy, cy', e1, e2, hne, h1, h2, o1, o2⟩ := h.2.2.1 hpos
  simp only [Value.slice.injEq] at e1 e2
  obtain ⟨rfl, rfl, rfl⟩ := e1
  obtain ⟨rfl, rfl, rfl⟩ := e2
  exact ⟨gx, gy, rfl, rfl, hne, fun i hi => o1.cell rfl i hi, fun i hi => o2.cell rfl i hi, fun i => o1.frozen rfl i, fun i => o2.frozen rfl i⟩
theorem Two.set1 {w0 wc : World} {gx : Nat} {ay : Option Addr} {k k' cx cy : Nat} {X Y : List UInt8} (h : Two w0 wc (.slice (some ⟨gx, 0, none⟩) k cx) (.slice ay k' cy) X Y) (i : Nat) (hi : i < X.length) (b : UInt8) (u : Value) (hu : u = .int .u8 b.toNat) :
    Two w0 (wc.setCell ⟨gx, i, none⟩ u) (.slice (some ⟨gx, 0, none⟩) k cx) (.slice ay k' cy) (X.set i b) Y := by
  obtain ⟨gx', cx', gy, cy', e1, e2, hne, h1, h2, o1, o2⟩ := h.2.2.1 (by omega)
  simp only [Value.slice.injEq, Option.some.injEq, Addr.mk.injEq, and_true] at e1 e2
  obtain ⟨rfl, rfl, rfl⟩ := e1
  obtain ⟨rfl, rfl, rfl⟩ := e2
  have o1' := o1.set rfl i b u hu
  have o2' := o2.other ⟨gx, i, none⟩ (by simp [Value.ownBlock]; exact fun h => hne h.symm) u
  refine ⟨o1'.bytes, o2'.bytes, fun _ => ⟨gx, cx, gy, cy, by simp, rfl, hne, h1, h2, o1', o2'⟩, h.2.2.2.setCell h1 u⟩
theorem Two.swap {w0 wc : World} {x y : Value} {X Y : List UInt8} (hl : X.length = Y.length) (h : Two w0 wc x y X Y) : Two w0 wc y x Y X := by
  refine ⟨h.2.1, h.1, fun hp => ?_, h.2.2.2⟩
  obtain ⟨gx, cx, gy, cy, e1, e2, hne, h1, h2, o1, o2⟩ := h.2.2.1 (by omega)
  exact ⟨gy, cy, gx, cx, e2, e1, hne.symm, h2, h1, o2, o1⟩
theorem Bytes.at {w : World} {a : Option Addr} {k cap : Nat} {l : List UInt8} (h : Bytes w (.slice a k cap) l) (i : Nat) (hi : i < l.length) : ∃ b o, a = some ⟨b, o, none⟩ ∧ w.cell? ⟨b, o + i, none⟩ = some (.int .u8 l[i].toNat) := by
  obtain ⟨a', cap', he, _, _, _, hc⟩ := h
  simp only [Value.slice.injEq] at he
  obtain ⟨rfl, -, -⟩ := he
  exact hc i hi
theorem turnTo_succ (l : List UInt8) (at0 : Nat) (xs : List UInt8) (k : Nat) (h : at0 + k < (turnTo l at0 xs k).length) (hx : k < xs.length) :
    turnTo l at0 xs (k + 1) = (turnTo l at0 xs k).set (at0 + k) ((turnTo l at0 xs k)[at0 + k] ^^^ xs[k]) := by
  simp [turnTo, List.getD, h, hx]
theorem xor_u8 (a b : UInt8) : bits .xor .u8 (a.toNat : Int) (b.toNat : Int) = ((a ^^^ b).toNat : Int) := by
  rw [UInt8.toNat_xor]; exact u8_xor_nat _ _ a.toNat_lt b.toNat_lt
theorem joins_step {w1 wr : World} {ax ay ac : Option Addr} {kx cx ky cy kc cc : Nat} {xs ys lc : List UInt8} {k : Nat}
    (T : Two w1 wr (.slice ax kx cx) (.slice ay ky cy) (turnTo xs 0 lc k) (turnTo ys 0 lc k)) (C : Bytes w1 (.slice ac kc cc) lc) (hx : k < xs.length) (_hy : k < ys.length) (hxy : xs.length = ys.length) (hc : k < lc.length) :
    ∃ gx gy bc oc, ∃ p q r p' q' : Nat, ax = some ⟨gx, 0, none⟩ ∧ ay = some ⟨gy, 0, none⟩ ∧ ac = some ⟨bc, oc, none⟩ ∧
      wr.cell? ⟨gx, k, none⟩ = some (.int .u8 p) ∧ wr.frozen? ⟨gx, k, none⟩ = false ∧ wr.cell? ⟨bc, oc + k, none⟩ = some (.int .u8 r) ∧ bits .xor .u8 p r = (p' : Int) ∧
      (wr.setCell ⟨gx, k, none⟩ (.int .u8 p')).drew.cell? ⟨gy, k, none⟩ = some (.int .u8 q) ∧ (wr.setCell ⟨gx, k, none⟩ (.int .u8 p')).drew.frozen? ⟨gy, k, none⟩ = false ∧ (wr.setCell ⟨gx, k, none⟩ (.int .u8 p')).drew.cell? ⟨bc, oc + k, none⟩ = some (.int .u8 r) ∧
      bits .xor .u8 q r = (q' : Int) ∧
      Two w1 ((wr.setCell ⟨gx, k, none⟩ (.int .u8 p')).drew.setCell ⟨gy, k, none⟩ (.int .u8 q')).drew (.slice ax kx cx) (.slice ay ky cy) (turnTo xs 0 lc (k + 1)) (turnTo ys 0 lc (k + 1)) := by
  have lx := turnTo_length xs 0 lc k
  have ly := turnTo_length ys 0 lc k
  have sx := turnTo_succ xs 0 lc k (by omega) hc
  have sy := turnTo_succ ys 0 lc k (by omega) hc
  simp only [Nat.zero_add] at sx sy
  obtain ⟨gx, gy, rfl, rfl, hne, cX, cY, fX, fY⟩ := T.open (by omega)
  obtain ⟨bc, oc, rfl, cC⟩ := (C.below T.2.2.2 (Nat.le_refl _)).at k hc
  have T1 := (T.set1 k (by omega) ((turnTo xs 0 lc k)[k] ^^^ lc[k]) _ rfl).drew
  rw [← sx] at T1
  have lx1 := turnTo_length xs 0 lc (k + 1)
  obtain ⟨gx', gy', e1, e2, -, -, cY1, -, fY1⟩ := T1.open (by omega)
  simp only [Option.some.injEq, Addr.mk.injEq, and_true] at e1 e2
  obtain rfl := e1
  obtain rfl := e2
  obtain ⟨bc', oc', e3, cC1⟩ := (C.below T1.2.2.2 (Nat.le_refl _)).at k hc
  simp only [Option.some.injEq, Addr.mk.injEq, and_true] at e3
  obtain ⟨rfl, rfl⟩ := e3
  have T2 := ((T1.swap (by omega)).set1 k (by omega) ((turnTo ys 0 lc k)[k] ^^^ lc[k]) _ rfl).drew.swap (by simp; omega)
  rw [← sy] at T2
  exact ⟨gx, gy, bc, oc, _, _, _, _, _, rfl, rfl, rfl, cX k (by omega), fX k, cC, xor_u8 _ _, cY1 k (by omega), fY1 k, cC1, xor_u8 _ _, T2⟩
end Go.Proofs.Ytgkoblgpadpcjaa
