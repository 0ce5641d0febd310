/- Arguments of the log's statements, opened. -/
import Derived.Test.YtgkoblgpadpcjaaLogCa
namespace Go.Proofs.Ytgkoblgpadpcjaa
open Go.RowKit Go.ChangeShapes Go.WideShapes Go.ChangeAt

/-- A slice that came in, of elements of c cells; each element is told by R. -/
def ListAt {α : Type} (c : Nat) (R : Nat → Nat → α → Prop) (v : Value) (l : List α) : Prop :=
  ∃ a cap, v = .slice a l.length cap ∧ l.length ≤ 140737488355328 ∧ ∀ i, (h : i < l.length) → ∃ bb o, a = some ⟨bb, o, none⟩ ∧ R bb (o + i * c) l[i]
theorem listAt_of {α : Type} {c : Nat} {R : Nat → Nat → α → Prop} {a : Option Addr} {len cap : Nat} (hl : len ≤ 140737488355328) (h : ∀ i, i < len → ∃ x bb o, a = some ⟨bb, o, none⟩ ∧ R bb (o + i * c) x) : ∃ l, ListAt c R (.slice a len cap) l := by
  have hp : ∀ i : Fin len, ∃ x bb o, a = some ⟨bb, o, none⟩ ∧ R bb (o + i * c) x := fun i => h i i.2
  refine ⟨List.ofFn fun i : Fin len => Classical.choose (hp i), a, cap, by rw [List.length_ofFn], by rw [List.length_ofFn]; exact hl, fun i hi => ?_⟩
  rw [List.length_ofFn] at hi
  have := Classical.choose_spec (hp ⟨i, hi⟩)
  simpa using this
theorem ListAt.at {α : Type} {c : Nat} {R : Nat → Nat → α → Prop} {a : Option Addr} {n cap : Nat} {l : List α} (h : ListAt c R (.slice a n cap) l) (i : Nat) (hi : i < l.length) : ∃ bb o, a = some ⟨bb, o, none⟩ ∧ R bb (o + i * c) l[i] := by
  obtain ⟨a', c', e, -, hc⟩ := h
  simp only [Value.slice.injEq] at e
  obtain ⟨rfl, -, -⟩ := e
  exact hc i hi
theorem ListAt.mono {α : Type} {c : Nat} {R S : Nat → Nat → α → Prop} {v : Value} {l : List α} (h : ListAt c R v l) (hrs : ∀ b o x, R b o x → S b o x) : ListAt c S v l := by
  obtain ⟨a, cap, e, hl, hc⟩ := h
  refine ⟨a, cap, e, hl, fun i hi => ?_⟩
  obtain ⟨bb, o, ha, hr⟩ := hc i hi
  exact ⟨bb, o, ha, hrs _ _ _ hr⟩
/-- Bytes in a cell. -/
def CellBytes (w : World) (b o : Nat) (x : List UInt8) : Prop := ∃ u, w.cell? ⟨b, o, none⟩ = some u ∧ Bytes w u x ∧ x.length ≤ 140737488355328
def CellRows (w : World) (b o : Nat) (x : List (List UInt8)) : Prop := ∃ u, w.cell? ⟨b, o, none⟩ = some u ∧ ListAt 1 (CellBytes w) u x
def CellInt (w : World) (b o : Nat) (x : Int) : Prop := w.cell? ⟨b, o, none⟩ = some (.int .i64 x) ∧ -9223372036854775808 ≤ x ∧ x ≤ 9223372036854775807
structure Opl where
  kind : Int
  n : Int
  b : List UInt8
  keeps : Nat
def CellOp (w : World) (b o : Nat) (x : Opl) : Prop := w.cell? ⟨b, o, none⟩ = some (.int .i64 x.kind) ∧ w.cell? ⟨b, o + 1, none⟩ = some (.int .i64 x.n) ∧ (∃ u, w.cell? ⟨b, o + 2, none⟩ = some u ∧ Bytes w u x.b ∧ x.b.length ≤ 140737488355328) ∧ w.cell? ⟨b, o + 3, none⟩ = some (.int .u64 x.keeps) ∧
  -9223372036854775808 ≤ x.kind ∧ x.kind ≤ 9223372036854775807 ∧ x.keeps < 18446744073709551616
theorem CellBytes.ext {w w' : World} {b o : Nat} {x : List UInt8} (h : CellBytes w b o x) (e : Ext w w') : CellBytes w' b o x := by
  obtain ⟨u, h1, h2, h3⟩ := h; exact ⟨u, e.cell h1, h2.ext e, h3⟩
theorem CellRows.ext {w w' : World} {b o : Nat} {x : List (List UInt8)} (h : CellRows w b o x) (e : Ext w w') : CellRows w' b o x := by
  obtain ⟨u, h1, h2⟩ := h; exact ⟨u, e.cell h1, h2.mono fun _ _ _ k => k.ext e⟩
section
variable {H : Type} {enc : TypeId × Value → H} {W : World} {base : Nat} {held : Bool} {fuel : Nat}
theorem cells22' : Try.prog.cellsOf 22 = 1 := by kernel_rfl
theorem bytes22' : Try.prog.bytesOf 22 = 24 := by kernel_rfl
theorem cells92' : Try.prog.cellsOf 92 = 1 := by kernel_rfl
theorem bytes92' : Try.prog.bytesOf 92 = 24 := by kernel_rfl
theorem bytes3' : Try.prog.bytesOf 3 = 8 := by kernel_rfl
theorem cells99' : Try.prog.cellsOf 99 = 4 := by kernel_rfl
theorem bytes99' : Try.prog.bytesOf 99 = 48 := by kernel_rfl
theorem one_of_len {es : List Value} (h : es.length = 1) : ∃ v, es = [v] := by
  match es, h with
  | [v], _ => exact ⟨v, rfl⟩
set_option maxRecDepth 100000 in
theorem open_bytes_cell {e : List Value} {y : DataW H × List MemPlace} {bb o : Nat} (hel : e.length = 1) (hec : W.cell? ⟨bb, o, none⟩ = e[0]?) (ht : DataW.trod enc Try.prog W base (fun _ => true) held fuel 22 e = some y) (hw : Within 22 y.1) : ∃ x, CellBytes W bb o x := by
  obtain ⟨v, rfl⟩ := one_of_len hel
  obtain ⟨v', l, e', hb, hl⟩ := open_b ht hw
  simp only [List.cons.injEq, and_true] at e'
  subst e'
  exact ⟨l, v, by rw [hec]; rfl, hb, hl⟩
set_option maxRecDepth 100000 in
theorem open_rows {cs : List Value} {x : DataW H × List MemPlace} (h : DataW.trod enc Try.prog W base (fun _ => true) held fuel 92 cs = some x) (hw : Within 92 x.1) : ∃ v l, cs = [v] ∧ ListAt 1 (CellBytes W) v l := by
  obtain ⟨a, len, cap, m, rfl, -, -, hlm, -, -, hi⟩ := open_sl Try.underlying92 (by rw [bytes22']; decide) (by rw [cells22']; decide) h hw
  rw [cells22'] at hi
  obtain ⟨l, hl⟩ := listAt_of (R := CellBytes W) (c := 1) (a := a) (cap := cap) hlm (fun i hii => by
    obtain ⟨bb, o, es, y, he, hel, hec, ht, hwy⟩ := hi i hii
    obtain ⟨z, hz⟩ := open_bytes_cell hel (by simpa using hec 0 (by decide)) ht hwy
    exact ⟨z, bb, o, he, by simpa using hz⟩)
  exact ⟨_, l, rfl, hl⟩
set_option maxRecDepth 100000 in
theorem open_rowss {cs : List Value} {x : DataW H × List MemPlace} (h : DataW.trod enc Try.prog W base (fun _ => true) held fuel 102 cs = some x) (hw : Within 102 x.1) : ∃ v l, cs = [v] ∧ ListAt 1 (CellRows W) v l := by
  obtain ⟨a, len, cap, m, rfl, -, -, hlm, -, -, hi⟩ := open_sl Try.underlying102 (by rw [bytes92']; decide) (by rw [cells92']; decide) h hw
  rw [cells92'] at hi
  obtain ⟨l, hl⟩ := listAt_of (R := CellRows W) (c := 1) (a := a) (cap := cap) hlm (fun i hii => by
    obtain ⟨bb, o, es, y, he, hel, hec, ht, hwy⟩ := hi i hii
    obtain ⟨v, rfl⟩ := one_of_len hel
    obtain ⟨v', z, e', hz⟩ := open_rows ht hwy
    simp only [List.cons.injEq, and_true] at e'
    subst e'
    exact ⟨z, bb, o, he, v, by simpa using hec 0 (by decide), hz⟩)
  exact ⟨_, l, rfl, hl⟩
set_option maxRecDepth 100000 in
theorem open_ints' {cs : List Value} {x : DataW H × List MemPlace} (h : DataW.trod enc Try.prog W base (fun _ => true) held fuel 103 cs = some x) (hw : Within 103 x.1) : ∃ v l, cs = [v] ∧ ListAt 1 (CellInt W) v l := by
  obtain ⟨a, len, cap, m, rfl, -, -, hlm, -, -, hi⟩ := open_sl Try.underlying103 (by rw [bytes3']; decide) (by rw [cells3']; decide) h hw
  rw [cells3'] at hi
  obtain ⟨l, hl⟩ := listAt_of (R := CellInt W) (c := 1) (a := a) (cap := cap) hlm (fun i hii => by
    obtain ⟨bb, o, es, y, he, hel, hec, ht, hwy⟩ := hi i hii
    obtain ⟨v, rfl⟩ := one_of_len hel
    obtain ⟨n, e', h1, h2⟩ := open_i64 ht
    simp only [List.cons.injEq, and_true] at e'
    subst e'
    exact ⟨n, bb, o, he, by simpa using hec 0 (by decide), h1, h2⟩)
  exact ⟨_, l, rfl, hl⟩
set_option maxRecDepth 100000 in
theorem open_opl {cs : List Value} {x : DataW H × List MemPlace} (h : DataW.trod enc Try.prog W base (fun _ => true) held fuel 97 cs = some x) (hw : Within 97 x.1) : ∃ v l, cs = [v] ∧ ListAt 4 (CellOp W) v l := by
  obtain ⟨a, len, cap, m, rfl, -, -, hlm, -, -, hi⟩ := open_sl Try.underlying97 (by rw [bytes99']; decide) (by rw [cells99']; decide) h hw
  rw [cells99'] at hi
  obtain ⟨l, hl⟩ := listAt_of (R := CellOp W) (c := 4) (a := a) (cap := cap) hlm (fun i hii => by
    obtain ⟨bb, o, es, y, he, hel, hec, ht, hwy⟩ := hi i hii
    obtain ⟨xs, n, hf2, hx, hcl, hxl, hj⟩ := DataW.trod_struct Try.underlying99 ht
    obtain ⟨c0, c1, c2, c3, rfl⟩ : ∃ c0 c1 c2 c3, es = [c0, c1, c2, c3] := by
      match es, hel with
      | [c0, c1, c2, c3], _ => exact ⟨_, _, _, _, rfl⟩
    have hxl4 : xs.length = 4 := hxl
    subst hx
    have g0 : DataW.trod enc Try.prog W base (fun _ => true) held n 3 (([c0, c1, c2, c3].drop 0).take (Try.prog.cellsOf 3)) = xs[0]? := hj 0 _ rfl
    have g1 : DataW.trod enc Try.prog W base (fun _ => true) held n 3 (([c0, c1, c2, c3].drop 1).take (Try.prog.cellsOf 3)) = xs[1]? := hj 1 _ rfl
    have g2 : DataW.trod enc Try.prog W base (fun _ => true) held n 22 (([c0, c1, c2, c3].drop 2).take (Try.prog.cellsOf 22)) = xs[2]? := hj 2 _ rfl
    have g3 : DataW.trod enc Try.prog W base (fun _ => true) held n 56 (([c0, c1, c2, c3].drop 3).take (Try.prog.cellsOf 56)) = xs[3]? := hj 3 _ rfl
    rw [cells3'] at g0 g1
    rw [cells22'] at g2
    rw [cells56] at g3
    rw [List.getElem?_eq_getElem (by omega)] at g0 g1 g2 g3
    obtain ⟨k, e0, hk⟩ := open_i64 g0
    obtain ⟨pl, e1, hpl⟩ := open_i64 g1
    obtain ⟨v2, b, e2, hb, hbl⟩ := open_b g2 (hwy.fields Try.underlying99 2 _ _ rfl (by rw [List.getElem?_map, List.getElem?_eq_getElem (by omega)]; rfl))
    obtain ⟨kp, e3, hkp⟩ := open_u64 g3
    simp at e0 e1 e2 e3
    subst e0 e1 e2 e3
    exact ⟨⟨k, pl, b, kp⟩, bb, o, he, by simpa using hec 0 (by decide), by simpa using hec 1 (by decide), ⟨_, by simpa using hec 2 (by decide), hb, hbl⟩, by simpa using hec 3 (by decide), hk.1, hk.2, hkp⟩)
  exact ⟨_, l, rfl, hl⟩
end
end Go.Proofs.Ytgkoblgpadpcjaa
