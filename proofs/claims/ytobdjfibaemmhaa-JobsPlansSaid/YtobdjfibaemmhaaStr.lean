/- Slices of texts: how they are read, and those that a call holds itself. -/
import Derived.Test.YtobdjfibaemmhaaKit
import Derived.Test.YtobdjfibaemmhaaGraphM
import Derived.Shelf.SlicesE.DeleteFunc
namespace Go.Proofs.Ytobdjfibaemmhaa
open Go.RowKit Go.Maps

def Ext (w0 W : World) : Prop := Below w0.heap.size w0 W
theorem Ext.refl (w : World) : Ext w w := Below.refl _ _
theorem Ext.drew {w0 W : World} (h : Ext w0 W) : Ext w0 W.drew := Below.drew h
theorem Ext.drewN {w0 W : World} (h : Ext w0 W) (q : Nat) : Ext w0 (W.drewN q) := ⟨h.os, h.tape, h.output, h.size, h.block⟩
theorem Ext.alloc {w0 W : World} (h : Ext w0 W) (o : Obj) : Ext w0 (W.alloc o) := Below.alloc h h.size o
theorem Ext.trans {w0 W W' : World} (h : Ext w0 W) (k : Ext W W') : Ext w0 W' := Below.trans h (Below.mono k h.size)
theorem Ext.cell {w0 W : World} (h : Ext w0 W) {a : Addr} {v : Value} (hc : w0.cell? a = some v) : W.cell? a = some v := (Below.cell h (World.block_lt_of_cell? w0 a hc)).trans hc
theorem Ext.mono {w0 W : World} {B : Nat} (hB : B ≤ w0.heap.size) (h : Ext w0 W) : Below B w0 W := Below.mono h hB
theorem Ext.get {w0 W : World} (h : Ext w0 W) {k : Nat} {o : Obj} (hc : w0.heap[k]? = some o) : W.heap[k]? = some o := (h.block k (Array.getElem?_eq_some_iff.1 hc).1).trans hc
theorem Ext.sz {w0 W : World} (h : Ext w0 W) : w0.heap.size ≤ W.heap.size := h.size
theorem Ext.map {H : Type} {w0 W : World} (h : Ext w0 W) {P : Program} {k : TypeId} {R : Value → Option (DataW H × List MemPlace)} {b n : Nat} {D : DataW H} (hm : w0.ownsMap P k R b n D) : W.ownsMap P k R b n D := by
  obtain ⟨es, clock, hb, F, hs, hD⟩ := hm
  exact ⟨es, clock, h.get hb, F, hs, hD⟩
theorem Ext.own {w0 W : World} (h : Ext w0 W) {base e s n : Nat} {v : Value} {xs : List Value} (o : w0.ownsRow base e s v n xs) : W.ownsRow base e s v n xs := by
  refine ⟨o.1, ?_⟩
  rcases o.2 with hn | ⟨g, cap, cur, rfl, hbb, hgg, rest⟩
  · exact .inl hn
  · exact .inr ⟨g, cap, cur, rfl, hbb, h.get hgg, rest⟩
theorem own_base {w : World} {base base' e s n : Nat} {v : Value} {xs : List Value} (h : w.ownsRow base e s v n xs) (hb : base' ≤ base) : w.ownsRow base' e s v n xs := by
  refine ⟨h.1, h.2.imp id ?_⟩
  rintro ⟨g, cap, cur, e, h1, r⟩
  exact ⟨g, cap, cur, e, Nat.le_trans hb h1, r⟩

def strVals (l : List Str) : List Value := l.map encStr
theorem strVals_length (l : List Str) : (strVals l).length = l.length := by simp [strVals]
theorem strVals_append (l m : List Str) : strVals (l ++ m) = strVals l ++ strVals m := by simp [strVals]
theorem strVals_get (l : List Str) (i : Nat) (h : i < l.length) : (strVals l)[i]? = some (encStr l[i]) := by simp [strVals, h]
theorem strVals_oneCell (l : List Str) : ∀ u ∈ strVals l, u.oneCell' = true := by
  intro u hu
  obtain ⟨_, _, rfl⟩ := List.mem_map.1 hu
  rfl
/-- A slice that reads as texts. -/
def SRow (w : World) (v : Value) (l : List Str) : Prop :=
  ∃ a cap, v = .slice a l.length cap ∧ l.length ≤ cap ∧ cap ≤ 9223372036854775807 ∧ (a = none → cap = 0) ∧
    ∀ i, (h : i < l.length) → ∃ b o, a = some ⟨b, o, none⟩ ∧ w.cell? ⟨b, o + i, none⟩ = some (encStr l[i])
theorem SRow.ext {w w' : World} {v : Value} {l : List Str} (h : SRow w v l) (x : Ext w w') : SRow w' v l := by
  obtain ⟨a, cap, rfl, hl, hm, hn, hc⟩ := h
  refine ⟨a, cap, rfl, hl, hm, hn, fun i hi => ?_⟩
  obtain ⟨b, o, rfl, hcell⟩ := hc i hi
  exact ⟨b, o, rfl, x.cell hcell⟩
theorem SRow.drew {w : World} {v : Value} {l : List Str} (h : SRow w v l) : SRow w.drew v l := h
theorem SRow.alloc {w : World} {v : Value} {l : List Str} (h : SRow w v l) (o : Obj) : SRow (w.alloc o) v l := h.ext ((Ext.refl w).alloc o)
theorem SRow.nil (w : World) : SRow w (.slice none 0 0) [] := ⟨none, 0, rfl, by simp, by simp, fun _ => rfl, fun i hi => absurd hi (by simp)⟩
/-- Texts that the call itself holds, from block base on. -/
def OwnS (w : World) (base : Nat) (v : Value) (l : List Str) : Prop := w.ownsRow base 9 1 v l.length (strVals l)
theorem OwnS.row {w : World} {base : Nat} {v : Value} {l : List Str} (h : OwnS w base v l) : SRow w v l := by
  rcases h.2 with ⟨rfl, h0⟩ | ⟨g, cap, cur, rfl, hb, hg, hnc, hcm, hcs, htake⟩
  · obtain rfl := List.eq_nil_of_length_eq_zero h0
    exact SRow.nil w
  · refine ⟨some ⟨g, 0, none⟩, cap, rfl, hnc, by unfold maxLen at hcm; omega, (fun h => by cases h), fun i hi => ⟨g, 0, rfl, ?_⟩⟩
    rw [Nat.zero_add, World.ownsRow.cellAt h i (by omega), strVals_get l i hi]
theorem OwnS.ext {w w' : World} {base : Nat} {v : Value} {l : List Str} (h : OwnS w base v l) (x : Ext w w') : OwnS w' base v l := x.own h
theorem OwnS.base {w : World} {base base' : Nat} {v : Value} {l : List Str} (h : OwnS w base v l) (hb : base' ≤ base) : OwnS w base' v l := own_base h hb
theorem OwnS.nil (w : World) (base : Nat) : OwnS w base (.slice none 0 0) [] := World.ownsRow_nil _ _ _ _
theorem OwnS.kept {w w' : World} {base : Nat} {v : Value} {l : List Str} {row : Option Nat} (h : OwnS w base v l) (hg : w.grownBy w' row) (hne : v.ownBlock = none ∨ v.ownBlock ≠ row) : OwnS w' base v l := World.ownsRow.kept h hg hne
theorem OwnS.lt {w : World} {base : Nat} {v : Value} {l : List Str} (h : OwnS w base v l) : ∀ k, v.ownBlock = some k → base ≤ k ∧ k < w.heap.size := World.ownsRow.lt h
theorem SRow.src {w : World} {u : Value} {m : List Str} (h : SRow w u m) : Src w u m.length (strVals m) := by
  obtain ⟨a, cap, rfl, hl, hm, hn, hc⟩ := h
  refine ⟨a, cap, rfl, fun h => ⟨hn h, by have := hn h; omega⟩, fun ad had j y hu => ?_⟩
  have hj : j < m.length := by
    have := (List.getElem?_eq_some_iff.1 hu).1
    simpa [strVals] using this
  obtain ⟨b, o, he, hcell⟩ := hc j hj
  obtain rfl := Option.some.inj (had.symm.trans he)
  rw [Addr.add_lit, hcell, ← strVals_get m j hj, hu]
theorem SRow.form {w : World} {u : Value} {m : List Str} (h : SRow w u m) : ∃ a cap, u = .slice a m.length cap ∧ m.length ≤ cap ∧ cap ≤ 9223372036854775807 := by
  obtain ⟨a, cap, rfl, hl, hm, _⟩ := h
  exact ⟨a, cap, rfl, hl, hm⟩
theorem Try.info9 : (Try.prog.info? 9).map (fun i => (i.zero, i.size, i.bytes)) = some (some (.string ⟨#[]⟩), 1, 16) := by kernel_rfl
theorem wpList_append_str (w : World) {ops : Array Oper} {rest : List Oper} {o : Oper} {a : Act} {Q : Exit → Act → World → Prop}
    (hg : o.guard = none) (s x : Operand) (t : TypeId) (hop : o.op = Op.call { callee := Callee.builtin Builtin.append, args := #[s, x], argTypes := #[t, t] })
    (ht : Try.prog.underlying t = some (.slice 9)) (base : Nat) (v u : Value) (hs : a.eval s = v) (hx : a.eval x = u) (l m : List Str) (hown : OwnS w base v l) (hb : SRow w u m)
    (hlen : (l.length + m.length) * 16 ≤ 140737488355328) (hbase : base ≤ w.heap.size)
    (hK : ∀ v' w', OwnS w' base v' (l ++ m) → w.grownBy w' v.ownBlock → NewOrSame w v v' → wpList Try.prog ops Q rest (a.put o.dst v') w') :
    wpList Try.prog ops Q (o :: rest) a w := by
  obtain ⟨i0, hi, hz0, hz1, hz2⟩ := info_parts Try.info9
  exact wpList_append_src w hg s x t hop base 9 i0 _ 1 16 ht hi hz0 hz1 hz2 rfl (by decide) v u hs hx l.length (strVals l) hown m.length (strVals m) (by simp [strVals_length]) hb.src (strVals_oneCell m) (by unfold maxLen; omega) (by omega) hbase
    (fun v' w' h1 h2 h3 => hK v' w' (by unfold OwnS; rw [List.length_append, strVals_append]; exact h1) h2 h3)
theorem step_append_str {ops : Array Oper} {o : Oper} {a : Act} {w : World} {K : Act → World → Prop} {Q : Exit → Act → World → Prop} {E : Prop}
    (hg : o.guard = none) (s x : Operand) (t : TypeId) (hop : o.op = Op.call { callee := Callee.builtin Builtin.append, args := #[s, x], argTypes := #[t, t] })
    (ht : Try.prog.underlying t = some (.slice 9)) (base : Nat) (v u : Value) (hs : a.eval s = v) (hx : a.eval x = u) (l m : List Str) (hown : OwnS w base v l) (hb : SRow w u m)
    (hlen : (l.length + m.length) * 16 ≤ 140737488355328) (hbase : base ≤ w.heap.size)
    (hK : ∀ v' w', OwnS w' base v' (l ++ m) → w.grownBy w' v.ownBlock → NewOrSame w v v' → K (a.put o.dst v') w') :
    if Region.wanted o (yielded ops a.tmps) = true then Oper.wp Try.prog o a w K Q else E := by
  obtain ⟨i0, hi, hz0, hz1, hz2⟩ := info_parts Try.info9
  exact step_append_src hg s x t hop base 9 i0 _ 1 16 ht hi hz0 hz1 hz2 rfl (by decide) v u hs hx l.length (strVals l) hown m.length (strVals m) (by simp [strVals_length]) hb.src (strVals_oneCell m) (by unfold maxLen; omega) (by omega) hbase
    (fun v' w' h1 h2 h3 => hK v' w' (by unfold OwnS; rw [List.length_append, strVals_append]; exact h1) h2 h3)
theorem grown_ext {w w' : World} {row : Option Nat} (h : w.grownBy w' row) (hr : ∀ k, row = some k → w.heap.size ≤ k) : Ext w w' :=
  ⟨h.os, h.tape, h.output, h.size, fun k hk => h.block k hk fun e => by have := hr k e.symm; omega⟩
theorem Ext.grow {w wr w' : World} {row : Option Nat} (x : Ext w wr) (g : wr.grownBy w' row) (hr : ∀ k, row = some k → w.heap.size ≤ k) : Ext w w' :=
  ⟨g.os.trans x.os, g.tape.trans x.tape, g.output.trans x.output, Nat.le_trans x.size g.size, fun k hk => (g.block k (Nat.lt_of_lt_of_le hk x.size) fun e => by have := hr k e.symm; omega).trans (x.block k hk)⟩
theorem SRow.grown {w w' : World} {v : Value} {l : List Str} {row : Option Nat} (h : SRow w v l) (g : w.grownBy w' row) (hr : v.ownBlock = none ∨ v.ownBlock ≠ row) : SRow w' v l := by
  obtain ⟨a, cap, rfl, hl, hm, hn, hc⟩ := h
  refine ⟨a, cap, rfl, hl, hm, hn, fun i hi => ?_⟩
  obtain ⟨b, o, rfl, hcell⟩ := hc i hi
  refine ⟨b, o, rfl, ?_⟩
  rw [← hcell]
  refine World.cell?_of_block (w := w) (g.block b (World.block_lt_of_cell? w _ hcell) fun e => ?_)
  rcases hr with h | h
  · cases h
  · exact h e
end Go.Proofs.Ytobdjfibaemmhaa
