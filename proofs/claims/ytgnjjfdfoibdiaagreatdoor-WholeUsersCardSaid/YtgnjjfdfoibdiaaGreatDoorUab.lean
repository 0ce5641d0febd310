/- A part of the proof of WholeUsers. -/
import Derived.BigRegion
import Derived.ChangeAlike
import Derived.Deep.CutRange
import Derived.Deep.RegionLaw
import Derived.Laws.BitsAllLaws
import Derived.Lib.Hide
import Derived.Outline
import Derived.RegionTactic
import Derived.Shelf.SlicesE.DeleteFunc
import Derived.Test.YtgnjjfdfoibdiaaGreatDoorRows
import Derived.WalkKit
import Derived.Test.YtgnjjfdfoibdiaaGreatDoorUaa
set_option linter.all false
namespace Go.Proofs.YtgnjjfdfoibdiaaGreatDoor
section
open Go.RowKit
theorem zDu {P : Program} (w : World) {ops : Array Oper} {rest : List Oper} {o : Oper} {a : Act} {Q : Exit → Act → World → Prop}
  (hg : o.guard = none) (s x : Operand) (t : TypeId) (hop : o.op = Op.call { callee := Callee.builtin Builtin.append, args := #[s, x], argTypes := #[t, t] })
  (base : Nat) (e : TypeId) (i : TypeInfo) (z : Value) (bytes : Nat) (h1 : P.underlying t = some (.slice e)) (h2 : P.info? e = some i) (h3 : i.zero = some z) (h4 : i.size = 1) (h5 : i.bytes = bytes) (h6 : z.cells.size = 1)
  (v : Value) (n : Nat) (xs : List Value) (hs : a.eval s = v) (hown : w.ownsRow base e 1 v n xs) (u : Value) (hx : a.eval x = .slice (some ⟨w.heap.size, 0, none⟩) 1 1) (h1c : u.oneCell' = true)
  (hn : n + 1 ≤ maxLen) (hb : (n + 1) * bytes ≤ 140737488355328) (hbase : base ≤ w.heap.size)
  (hK : ∀ v' w', w'.ownsRow base e 1 v' (n + 1) (xs ++ [u]) → (w.alloc (.cells #[u] e)).grownBy w' v.ownBlock → wpList P ops Q rest (a.put o.dst v') w') :
  wpList P ops Q (o :: rest) a (w.alloc (.cells #[u] e)) :=
 wpList_append_own (w.alloc (.cells #[u] e)) hg s x t hop base e i z 1 bytes h1 h2 h3 h4 h5 h6 (by decide) v n xs hs (hown.alloc _) ⟨w.heap.size, 0, none⟩ 1 1 [u] hx rfl
  (by intro j c hj
      match j, hj with
      | 0, hj => simp at hj; subst hj; simp [Addr.add])
  (by intro c hc; simp at hc; subst hc; exact h1c) hn hb (by simp; omega)
  (fun v' w' ho hgr _ => hK v' w' ho hgr)
theorem zGv {B : Nat} {W w w' : World} {o : Obj} {v : Value} {base e size n : Nat} {xs : List Value} (hbel : Below B W w) (hB : B ≤ w.heap.size) (hbase : B ≤ base)
  (hown : w.ownsRow base e size v n xs) (hgr : (w.alloc o).grownBy w' v.ownBlock) : Below B W w' :=
 (hbel.alloc hB _).grown hgr (by simp; omega) (fun q hq => Nat.le_trans hbase (hown.lt q hq).1)
def Bytes (w : World) (v : Value) (l : List UInt8) : Prop :=
 ∃ a cap, v = .slice a l.length cap ∧ l.length ≤ cap ∧ cap ≤ 9223372036854775807 ∧ (a = none → cap = 0) ∧
  ∀ i, (h : i < l.length) → ∃ b o, a = some ⟨b, o, none⟩ ∧ w.cell? ⟨b, o + i, none⟩ = some (.int .u8 l[i].toNat)
def RowsOf (w : World) (b o : Nat) (ls : List (List UInt8)) : Prop :=
 ∀ i, (h : i < ls.length) → ∃ v, w.cell? ⟨b, o + i, none⟩ = some v ∧ Bytes w v ls[i]
theorem Bytes.below {B : Nat} {w w' : World} {v : Value} {l : List UInt8} (h : Bytes w v l) (hb : Below B w w') (hB : w.heap.size ≤ B) : Bytes w' v l := by
 obtain ⟨a, cap, rfl, hl, hm, hn, hc⟩ := h;refine ⟨a, cap, rfl, hl, hm, hn, fun i hi => ?_⟩;obtain ⟨b, o, rfl, hcell⟩ := hc i hi;exact ⟨b, o, rfl, (hb.cell (Nat.lt_of_lt_of_le (World.block_lt_of_cell? w _ hcell) hB)).trans hcell⟩
theorem Bytes.alloc {w : World} {v : Value} {l : List UInt8} (h : Bytes w v l) (o : Obj) : Bytes (w.alloc o) v l :=
 h.below ((Below.refl w.heap.size w).alloc (Nat.le_refl _) o) (Nat.le_refl _)
theorem RowsOf.one {w : World} {b : Nat} {v : Value} {l : List UInt8} (hc : w.cell? ⟨b, 0, none⟩ = some v) (h : Bytes w v l) : RowsOf w b 0 [l] := by
 intro i hi
 match i, hi with
 | 0, _ => exact ⟨v, hc, h⟩
theorem RowsOf.two {w : World} {b : Nat} {v u : Value} {l m : List UInt8} (hc : w.cell? ⟨b, 0, none⟩ = some v) (h : Bytes w v l) (hd : w.cell? ⟨b, 1, none⟩ = some u) (hm : Bytes w u m) : RowsOf w b 0 [l, m] := by
 intro i hi
 match i, hi with
 | 0, _ => exact ⟨v, hc, h⟩
 | 1, _ => exact ⟨u, hd, hm⟩
theorem zHh (w : World) (cs : Array Value) (t : TypeId) (j : Nat) : (w.alloc (.cells cs t)).cell? ⟨w.heap.size, j, none⟩ = cs[j]? := by
 have hh : (w.alloc (.cells cs t)).heap[w.heap.size]? = some (.cells cs t (0, 0)) := by show (w.heap.push _)[w.heap.size]? = _; simp
 simp only [World.cell?, hh]; rfl
def IsRow (k : IntKind) (w : World) (a : Option Addr) (len cap : Nat) (zs : List Int) : Prop :=
 (a = none ∧ len = 0 ∧ cap = 0 ∧ zs = []) ∨
 ∃ x, a = some x ∧ len ≤ cap ∧ cap ≤ maxLen ∧ zs.length = cap ∧ (∀ i, i < zs.length → w.cell? (x.add i) = some (.int k (zs.getD i 0))) ∧ ∀ n ∈ zs, (Lit.int k n).wf = true
theorem wf_u8 {n : Int} (h : (Lit.int .u8 n).wf = true) : 0 ≤ n ∧ n < 256 := by
 simp [Lit.wf, IntKind.min, IntKind.max, IntKind.signed, IntKind.bits] at h;omega
theorem IsRow.bytes {w : World} {a : Option Addr} {len cap : Nat} {zs : List Int} (h : IsRow .u8 w a len cap zs) :
  ∃ l : List UInt8, l.length = len ∧ Bytes w (.slice a len cap) l := by
 rcases h with ⟨rfl, rfl, rfl, rfl⟩ | ⟨x, rfl, hl, hm, hz, hc, hwf⟩
 ·exact ⟨[], rfl, none, 0, rfl, by simp, by simp, fun _ => rfl, fun i hi => absurd hi (by simp)⟩
 ·refine ⟨(zs.take len).map fun n => UInt8.ofNat n.toNat, by simp; omega, some x, cap, by simp; omega, by simp; omega, by unfold maxLen at hm; omega, (fun h => by cases h), fun i hi => ?_⟩;have hi' : i < zs.length := by simp at hi; omega
  have hcell := hc i hi';obtain ⟨b, o, sp⟩ := x
  have hsp : sp = none := by
   have h0 := hc 0 (by omega);simpa [Addr.add] using World.cell?_spot h0
  subst hsp;refine ⟨b, o, rfl, ?_⟩;have e : (⟨b, o, none⟩ : Addr).add i = ⟨b, o + i, none⟩ := Addr.add_lit ..;rw [e] at hcell;rw [hcell];obtain ⟨h0, h1⟩ := wf_u8 (hwf _ (List.getElem_mem hi'));have e1 : zs.getD i 0 = zs[i] := by simp [List.getD, hi']
  rw [e1];simp only [List.getElem_map, List.getElem_take, UInt8.toNat_ofNat'];congr 2;omega
def zAa (l : List UInt8) : List Value := l.map fun b => .int .u8 b.toNat
theorem zAc (l : List UInt8) : (zAa l).length = l.length := by simp [zAa]
theorem zEw (l m : List UInt8) : zAa (l ++ m) = zAa l ++ zAa m := by simp [zAa]
theorem zDd (l : List UInt8) (i : Nat) (h : i < l.length) : (zAa l)[i]? = some (.int .u8 l[i].toNat) := by simp [zAa, h]
def OwnBytes (w : World) (base : Nat) (v : Value) (l : List UInt8) : Prop := w.ownsRow base 5 1 v l.length (zAa l)
theorem OwnBytes.bytes {w : World} {base : Nat} {v : Value} {l : List UInt8} (h : OwnBytes w base v l) : Bytes w v l := by
 rcases h.2 with ⟨rfl, h0⟩ | ⟨g, cap, cur, rfl, hb, hg, hnc, hcm, hcs, htake⟩
 ·obtain rfl := List.eq_nil_of_length_eq_zero h0;exact ⟨none, 0, rfl, by simp, by simp, fun _ => rfl, fun i hi => absurd hi (by simp)⟩
 ·refine ⟨some ⟨g, 0, none⟩, cap, rfl, hnc, by unfold maxLen at hcm; omega, (fun h => by cases h), fun i hi => ⟨g, 0, rfl, ?_⟩⟩;rw [Nat.zero_add, World.ownsRow.cellAt h i (by omega), zDd l i hi]
theorem OwnBytes.nil (w : World) (base : Nat) : OwnBytes w base (.slice none 0 0) [] := World.ownsRow_nil _ _ _ _
theorem OwnBytes.alloc {w : World} {base : Nat} {v : Value} {l : List UInt8} (h : OwnBytes w base v l) (o : Obj) : OwnBytes (w.alloc o) base v l := World.ownsRow.alloc h o
theorem OwnBytes.kept {w w' : World} {base : Nat} {v : Value} {l : List UInt8} {row : Option Nat} (h : OwnBytes w base v l) (hg : w.grownBy w' row) (hne : v.ownBlock = none ∨ v.ownBlock ≠ row) : OwnBytes w' base v l := World.ownsRow.kept h hg hne
theorem OwnBytes.keptBelow {w w' : World} {base B : Nat} {v : Value} {l : List UInt8} (h : OwnBytes w base v l) (hb : Below B w w') (hB : ∀ k, v.ownBlock = some k → k < B) : OwnBytes w' base v l := by
 refine ⟨h.1, ?_⟩
 rcases h.2 with hn | ⟨g, cap, cur, rfl, hbb, hgg, rest⟩
 ·exact .inl hn
 ·exact .inr ⟨g, cap, cur, rfl, hbb, by rw [hb.block g (hB g rfl)]; exact hgg, rest⟩
theorem OwnBytes.lt {w : World} {base : Nat} {v : Value} {l : List UInt8} (h : OwnBytes w base v l) : ∀ k, v.ownBlock = some k → base ≤ k ∧ k < w.heap.size := World.ownsRow.lt h
theorem zF5 : (Tryz.prog.info? 5).map (fun i => (i.zero, i.size, i.bytes)) = some (some (.int .u8 0), 1, 1) := by kernel_rfl
theorem zAm (l : List UInt8) : ∀ u ∈ zAa l, u.oneCell' = true := by
 intro u hu;obtain ⟨_, _, rfl⟩ := List.mem_map.1 hu;rfl
def zB8 (w : World) (v v' : Value) : Prop := v'.ownBlock = v.ownBlock ∨ ∃ k, v'.ownBlock = some k ∧ w.heap.size ≤ k
def Src (w : World) (u : Value) (m : Nat) (news : List Value) : Prop :=
 ∃ a c, u = .slice a m c ∧ (a = none → c = 0 ∧ m = 0) ∧ ∀ ad, a = some ad → ∀ j y, news[j]? = some y → w.cell? (ad.add j) = some y
theorem zFg {P : Program} (w : World) (base : Nat) (t ty e : TypeId) (i : TypeInfo) (z : Value) (size bytes : Nat) (ht : P.underlying t = some (.slice e)) (hi : P.info? e = some i) (hz : i.zero = some z)
  (hsize : i.size = size) (hby : i.bytes = bytes) (hzs : z.cells.size = size) (hsz : 0 < size)
  (v : Value) (n : Nat) (xs : List Value) (hown : w.ownsRow base e size v n xs)
  (u : Value) (m : Nat) (news : List Value) (hl : news.length = m * size) (hsrc : Src w u m news) (h1 : ∀ u ∈ news, u.oneCell' = true)
  (h63 : n + m ≤ maxLen) (hbytes : (n + m) * bytes ≤ 140737488355328) (hbase : base ≤ w.heap.size) :
  ∃ v' w', (Builtin.append_ #[t, t] ty #[v, u]).run P w = .ok v' w' ∧ w'.ownsRow base e size v' (n + m) (xs ++ news) ∧ w.grownBy w' v.ownBlock ∧ zB8 w v v' := by
 obtain ⟨ao, c, rfl, hnone, hcells⟩ := hsrc
 cases ao with
 | none =>
   obtain ⟨rfl, rfl⟩ := hnone rfl;obtain rfl : news = [] := List.eq_nil_of_length_eq_zero (by simpa using hl);exact ⟨v, w, run_append_owned_none (P := P) w base t ty e i size ht hi v n xs hown, by simpa using hown, World.grownBy.refl _ _, .inl rfl⟩
 | some ad =>
   have hn := hcells ad rfl
   rcases hown.2 with ⟨rfl, rfl⟩ | ⟨g, cap, cur, rfl, hbg, hg, hnc, hcm, hcs, htake⟩
   ·by_cases hm : m = 0
    ·subst hm;obtain ⟨v', w', hr, h2, h3, h4⟩ := run_append_own (P := P) w base t ty e i z size bytes ht hi hz hsize hby hzs hsz _ _ xs hown ad 0 c news hl hn h1 h63 hbytes hbase;have : v' = .slice none 0 0 := h4.2 ⟨rfl, rfl⟩;exact ⟨v', w', hr, h2, h3, .inl (by rw [this])⟩
    ·obtain ⟨v', w', hr, h2, h3, h4⟩ := run_append_own (P := P) w w.heap.size t ty e i z size bytes ht hi hz hsize hby hzs hsz _ _ xs ⟨hown.1, .inl ⟨rfl, rfl⟩⟩ ad m c news hl hn h1 h63 hbytes (Nat.le_refl _);refine ⟨v', w', hr, ⟨h2.1, ?_⟩, h3, ?_⟩
     ·rcases h2.2 with h | ⟨g, cap, cur, hv, hb, rest⟩
      ·exact .inl h
      ·exact .inr ⟨g, cap, cur, hv, Nat.le_trans hbase hb, rest⟩
     ·rcases h2.2 with ⟨h, _⟩ | ⟨g, cap, cur, hv, hb, rest⟩
      ·exact .inl (by rw [h])
      ·exact .inr ⟨g, by rw [hv]; rfl, hb⟩
   ·by_cases hroom : n + m ≤ cap
    ·obtain ⟨w', hr, h2, h3⟩ := run_append_fits (P := P) w base t ty e i size ht hi hsize g n cap xs hown ad m c news hl hn h1 hroom;exact ⟨_, w', hr, h2, h3, .inl rfl⟩
    ·subst hsize; subst hby;have holds : ∀ j u, xs[j]? = some u → w.cell? ((⟨g, 0, none⟩ : Addr).add j) = some u := hown.cells (g := g) rfl;have hr := run_append_grow (P := P) w t ty e i z ht hi hz ⟨g, 0, none⟩ n cap xs hown.1 holds ad m c news hl hn (by omega) (by unfold maxLen at h63; omega) (growslice_fits (by omega) hbytes);obtain ⟨v', w', hr', h2, h3, _⟩ := run_append_own (P := P) w base t ty e i z i.size i.bytes ht hi hz rfl rfl hzs hsz _ _ xs hown ad m c news hl hn h1 h63 hbytes hbase;rw [hr] at hr';simp only [Result.ok.injEq] at hr';obtain ⟨rfl, rfl⟩ := hr';exact ⟨_, _, hr, h2, h3, .inr ⟨w.heap.size, rfl, Nat.le_refl _⟩⟩
theorem zBu {P : Program} (w : World) {ops : Array Oper} {rest : List Oper} {o : Oper} {a : Act} {Q : Exit → Act → World → Prop}
  (hg : o.guard = none) (s x : Operand) (t : TypeId) (hop : o.op = Op.call { callee := Callee.builtin Builtin.append, args := #[s, x], argTypes := #[t, t] })
  (base : Nat) (e : TypeId) (i : TypeInfo) (z : Value) (size bytes : Nat) (ht : P.underlying t = some (.slice e)) (hi : P.info? e = some i) (hz : i.zero = some z)
  (hsize : i.size = size) (hby : i.bytes = bytes) (hzs : z.cells.size = size) (hsz : 0 < size)
  (v u : Value) (hs : a.eval s = v) (hx : a.eval x = u) (n : Nat) (xs : List Value) (hown : w.ownsRow base e size v n xs) (m : Nat) (news : List Value) (hl : news.length = m * size) (hsrc : Src w u m news) (h1 : ∀ u ∈ news, u.oneCell' = true)
  (h63 : n + m ≤ maxLen) (hbytes : (n + m) * bytes ≤ 140737488355328) (hbase : base ≤ w.heap.size)
  (hK : ∀ v' w', w'.ownsRow base e size v' (n + m) (xs ++ news) → w.grownBy w' v.ownBlock → zB8 w v v' → wpList P ops Q rest (a.put o.dst v') w') :
  wpList P ops Q (o :: rest) a w := by
 refine wpList_plain hg fun K hK' => ?_
 obtain ⟨v', w', hrun, r1, r2, r3⟩ := zFg (P := P) w base t o.type e i z size bytes ht hi hz hsize hby hzs hsz v n xs hown u m news hl hsrc h1 h63 hbytes hbase;unfold Oper.wp;simp [execOp, hop, resolve, invoke, builtin, hs, hx, hrun, Result.andThen];exact hK' _ _ (hK _ _ r1 r2 r3)
theorem zA8 {P : Program} {ops : Array Oper} {o : Oper} {a : Act} {w : World} {K : Act → World → Prop} {Q : Exit → Act → World → Prop} {E : Prop}
  (hg : o.guard = none) (s x : Operand) (t : TypeId) (hop : o.op = Op.call { callee := Callee.builtin Builtin.append, args := #[s, x], argTypes := #[t, t] })
  (base : Nat) (e : TypeId) (i : TypeInfo) (z : Value) (size bytes : Nat) (ht : P.underlying t = some (.slice e)) (hi : P.info? e = some i) (hz : i.zero = some z)
  (hsize : i.size = size) (hby : i.bytes = bytes) (hzs : z.cells.size = size) (hsz : 0 < size)
  (v u : Value) (hs : a.eval s = v) (hx : a.eval x = u) (n : Nat) (xs : List Value) (hown : w.ownsRow base e size v n xs) (m : Nat) (news : List Value) (hl : news.length = m * size) (hsrc : Src w u m news) (h1 : ∀ u ∈ news, u.oneCell' = true)
  (h63 : n + m ≤ maxLen) (hbytes : (n + m) * bytes ≤ 140737488355328) (hbase : base ≤ w.heap.size)
  (hK : ∀ v' w', w'.ownsRow base e size v' (n + m) (xs ++ news) → w.grownBy w' v.ownBlock → zB8 w v v' → K (a.put o.dst v') w') :
  if Region.wanted o (yielded ops a.tmps) = true then Oper.wp P o a w K Q else E := by
 have hw : Region.wanted o (yielded ops a.tmps) = true := by simp [Region.wanted, hg]
 rw [if_pos hw];obtain ⟨v', w', hrun, r1, r2, r3⟩ := zFg (P := P) w base t o.type e i z size bytes ht hi hz hsize hby hzs hsz v n xs hown u m news hl hsrc h1 h63 hbytes hbase;unfold Oper.wp;simp [execOp, hop, resolve, invoke, builtin, hs, hx, hrun, Result.andThen];exact hK _ _ r1 r2 r3
structure FreshRow (e : TypeId) (size : Nat) (w w' : World) (v v' : Value) (m : Nat) (news : List Value) : Prop where
 grown : w.grownBy w' none
 own : (m = 0 ∧ v' = v) ∨ (0 < m ∧ w'.ownsRow w.heap.size e size v' m news ∧ ∃ g cap, v' = .slice (some ⟨g, 0, none⟩) m cap ∧ w.heap.size ≤ g ∧ g < w'.heap.size)
theorem zGu {P : Program} (w : World) (t ty e : TypeId) (i : TypeInfo) (z : Value) (size bytes : Nat) (ht : P.underlying t = some (.slice e)) (hi : P.info? e = some i) (hz : i.zero = some z)
  (hsize : i.size = size) (hby : i.bytes = bytes) (hzs : z.cells.size = size) (hsz : 0 < size)
  (a0 : Option Addr) (u : Value) (m : Nat) (news : List Value) (hl : news.length = m * size) (hsrc : Src w u m news) (h1 : ∀ u ∈ news, u.oneCell' = true)
  (h63 : m ≤ maxLen) (hbytes : m * bytes ≤ 140737488355328) :
  ∃ v' w', (Builtin.append_ #[t, t] ty #[.slice a0 0 0, u]).run P w = .ok v' w' ∧ FreshRow e size w w' (.slice a0 0 0) v' m news := by
 obtain ⟨ao, c, rfl, hnone, hcells⟩ := hsrc
 by_cases hm : m = 0
 ·subst hm;obtain rfl : news = [] := List.eq_nil_of_length_eq_zero (by simpa using hl);refine ⟨.slice a0 0 0, w, ?_, World.grownBy.refl _ _, .inl ⟨rfl, rfl⟩⟩
  cases ao with
  | none => cases a0 <;> simp [Builtin.append_, run_underlying ht, sizeOf, typeInfo, hi, Builtin.lenOf, Builtin.firstCells, storeCells]
  | some ad => cases a0 <;> simp [Builtin.append_, run_underlying ht, sizeOf, typeInfo, hi, Builtin.lenOf, Builtin.firstCells, storeCells, loadCells, loadCellsFrom]
 ·cases ao with
  | none => exact absurd (hnone rfl).2 hm
  | some ad =>
    have hn := hcells ad rfl
    cases a0 with
    | none =>
      obtain ⟨v', w', hr, h2, h3, h4⟩ := run_append_own (P := P) w w.heap.size t ty e i z size bytes ht hi hz hsize hby hzs hsz _ 0 [] (World.ownsRow_nil w _ e size) ad m c news hl hn h1 (by omega) (by simpa using hbytes) (Nat.le_refl _);rw [Nat.zero_add, List.nil_append] at h2;refine ⟨v', w', hr, h3, .inr ⟨by omega, h2, ?_⟩⟩
      obtain ⟨g, cap, h5, h6, h7⟩ : ∃ g cap, v' = .slice (some ⟨g, 0, none⟩) m cap ∧ w.heap.size ≤ g ∧ g < w'.heap.size := by
       rcases h2.2 with ⟨_, h0⟩ | ⟨g, cap, cur, h5, h6, h7, _⟩
       ·omega
       ·exact ⟨g, cap, h5, h6, (Array.getElem?_eq_some_iff.1 h7).1⟩
      exact ⟨g, cap, h5, h6, h7⟩
    | some a1 =>
      subst hsize; subst hby;have hr := run_append_grow (P := P) w t ty e i z ht hi hz a1 0 0 [] (by simp) (by simp) ad m c news hl hn (by omega) (by unfold maxLen at h63; omega) (growslice_fits (by omega) (by simpa using hbytes));obtain ⟨v', w', hr', h2, h3, h4⟩ := run_append_own (P := P) w w.heap.size t ty e i z i.size i.bytes ht hi hz rfl rfl hzs hsz _ 0 [] (World.ownsRow_nil w _ e i.size) ad m c news hl hn h1 (by omega) (by simpa using hbytes) (Nat.le_refl _);have hr2 := run_append_nil (P := P) w t ty e i z ht hi hz ad m c news hl hn (by omega) (by unfold maxLen at h63; omega) (by omega);rw [hr2] at hr';simp only [Result.ok.injEq] at hr';obtain ⟨rfl, rfl⟩ := hr';rw [Nat.zero_add, List.nil_append] at h2;simp only [Nat.zero_add, Array.empty_append] at hr;refine ⟨_, _, hr, h3, .inr ⟨by omega, h2, _, _, rfl, Nat.le_refl _, by simp⟩⟩
theorem zEq {P : Program} (w : World) {ops : Array Oper} {rest : List Oper} {o : Oper} {a : Act} {Q : Exit → Act → World → Prop}
  (hg : o.guard = none) (s x : Operand) (t : TypeId) (hop : o.op = Op.call { callee := Callee.builtin Builtin.append, args := #[s, x], argTypes := #[t, t] })
  (e : TypeId) (i : TypeInfo) (z : Value) (size bytes : Nat) (ht : P.underlying t = some (.slice e)) (hi : P.info? e = some i) (hz : i.zero = some z)
  (hsize : i.size = size) (hby : i.bytes = bytes) (hzs : z.cells.size = size) (hsz : 0 < size)
  (a0 : Option Addr) (u : Value) (hs : a.eval s = .slice a0 0 0) (hx : a.eval x = u) (m : Nat) (news : List Value) (hl : news.length = m * size) (hsrc : Src w u m news) (h1 : ∀ u ∈ news, u.oneCell' = true)
  (h63 : m ≤ maxLen) (hbytes : m * bytes ≤ 140737488355328)
  (hK : ∀ v' w', FreshRow e size w w' (.slice a0 0 0) v' m news → wpList P ops Q rest (a.put o.dst v') w') :
  wpList P ops Q (o :: rest) a w := by
 refine wpList_plain hg fun K hK' => ?_
 obtain ⟨v', w', hrun, r1⟩ := zGu (P := P) w t o.type e i z size bytes ht hi hz hsize hby hzs hsz a0 u m news hl hsrc h1 h63 hbytes;unfold Oper.wp;simp [execOp, hop, resolve, invoke, builtin, hs, hx, hrun, Result.andThen];exact hK' _ _ (hK _ _ r1)
theorem zJ5 {P : Program} {ops : Array Oper} {o : Oper} {a : Act} {w : World} {K : Act → World → Prop} {Q : Exit → Act → World → Prop} {E : Prop}
  (hg : o.guard = none) (s x : Operand) (t : TypeId) (hop : o.op = Op.call { callee := Callee.builtin Builtin.append, args := #[s, x], argTypes := #[t, t] })
  (e : TypeId) (i : TypeInfo) (z : Value) (size bytes : Nat) (ht : P.underlying t = some (.slice e)) (hi : P.info? e = some i) (hz : i.zero = some z)
  (hsize : i.size = size) (hby : i.bytes = bytes) (hzs : z.cells.size = size) (hsz : 0 < size)
  (a0 : Option Addr) (u : Value) (hs : a.eval s = .slice a0 0 0) (hx : a.eval x = u) (m : Nat) (news : List Value) (hl : news.length = m * size) (hsrc : Src w u m news) (h1 : ∀ u ∈ news, u.oneCell' = true)
  (h63 : m ≤ maxLen) (hbytes : m * bytes ≤ 140737488355328)
  (hK : ∀ v' w', FreshRow e size w w' (.slice a0 0 0) v' m news → K (a.put o.dst v') w') :
  if Region.wanted o (yielded ops a.tmps) = true then Oper.wp P o a w K Q else E := by
 have hw : Region.wanted o (yielded ops a.tmps) = true := by simp [Region.wanted, hg]
 rw [if_pos hw];obtain ⟨v', w', hrun, r1⟩ := zGu (P := P) w t o.type e i z size bytes ht hi hz hsize hby hzs hsz a0 u m news hl hsrc h1 h63 hbytes;unfold Oper.wp;simp [execOp, hop, resolve, invoke, builtin, hs, hx, hrun, Result.andThen];exact hK _ _ r1
theorem Bytes.src {w : World} {u : Value} {m : List UInt8} (h : Bytes w u m) : Src w u m.length (zAa m) := by
 obtain ⟨a, cap, rfl, hl, hm, hn, hc⟩ := h;refine ⟨a, cap, rfl, fun h => ⟨hn h, by have := hn h; omega⟩, fun ad had j y hu => ?_⟩
 have hj : j < m.length := by
  have := (List.getElem?_eq_some_iff.1 hu).1;simpa [zAa] using this
 obtain ⟨b, o, he, hcell⟩ := hc j hj;obtain rfl := Option.some.inj (had.symm.trans he);rw [Addr.add_lit, hcell, ← zDd m j hj, hu]
theorem zEr (w : World) {ops : Array Oper} {rest : List Oper} {o : Oper} {a : Act} {Q : Exit → Act → World → Prop}
  (hg : o.guard = none) (s x : Operand) (t : TypeId) (hop : o.op = Op.call { callee := Callee.builtin Builtin.append, args := #[s, x], argTypes := #[t, t] })
  (ht : Tryz.prog.underlying t = some (.slice 5)) (base : Nat) (v u : Value) (hs : a.eval s = v) (hx : a.eval x = u) (l m : List UInt8) (hown : OwnBytes w base v l) (hb : Bytes w u m)
  (hlen : l.length + m.length ≤ 140737488355328) (hbase : base ≤ w.heap.size)
  (hK : ∀ v' w', OwnBytes w' base v' (l ++ m) → w.grownBy w' v.ownBlock → zB8 w v v' → wpList Tryz.prog ops Q rest (a.put o.dst v') w') :
  wpList Tryz.prog ops Q (o :: rest) a w := by
 obtain ⟨i0, hi, hz0, hz1, hz2⟩ := info_parts zF5
 exact zBu w hg s x t hop base 5 i0 _ 1 1 ht hi hz0 hz1 hz2 rfl (by decide) v u hs hx l.length (zAa l) hown m.length (zAa m) (by simp [zAc]) hb.src (zAm m) (by unfold maxLen; omega) (by omega) hbase
  (fun v' w' h1 h2 h3 => hK v' w' (by unfold OwnBytes; rw [List.length_append, zEw]; exact h1) h2 h3)
theorem zFp {ops : Array Oper} {o : Oper} {a : Act} {w : World} {K : Act → World → Prop} {Q : Exit → Act → World → Prop} {E : Prop}
  (hg : o.guard = none) (s x : Operand) (t : TypeId) (hop : o.op = Op.call { callee := Callee.builtin Builtin.append, args := #[s, x], argTypes := #[t, t] })
  (ht : Tryz.prog.underlying t = some (.slice 5)) (base : Nat) (v u : Value) (hs : a.eval s = v) (hx : a.eval x = u) (l m : List UInt8) (hown : OwnBytes w base v l) (hb : Bytes w u m)
  (hlen : l.length + m.length ≤ 140737488355328) (hbase : base ≤ w.heap.size)
  (hK : ∀ v' w', OwnBytes w' base v' (l ++ m) → w.grownBy w' v.ownBlock → zB8 w v v' → K (a.put o.dst v') w') :
  if Region.wanted o (yielded ops a.tmps) = true then Oper.wp Tryz.prog o a w K Q else E := by
 obtain ⟨i0, hi, hz0, hz1, hz2⟩ := info_parts zF5
 exact zA8 hg s x t hop base 5 i0 _ 1 1 ht hi hz0 hz1 hz2 rfl (by decide) v u hs hx l.length (zAa l) hown m.length (zAa m) (by simp [zAc]) hb.src (zAm m) (by unfold maxLen; omega) (by omega) hbase
  (fun v' w' h1 h2 h3 => hK v' w' (by unfold OwnBytes; rw [List.length_append, zEw]; exact h1) h2 h3)
structure FreshBytes (w w' : World) (v v' : Value) (m : List UInt8) : Prop where
 grown : w.grownBy w' none
 own : (m = [] ∧ v' = v) ∨ (0 < m.length ∧ OwnBytes w' w.heap.size v' m ∧ ∃ g cap, v' = .slice (some ⟨g, 0, none⟩) m.length cap ∧ w.heap.size ≤ g ∧ g < w'.heap.size)
theorem FreshRow.toBytes {w w' : World} {v v' : Value} {m : List UInt8} (h : FreshRow 5 1 w w' v v' m.length (zAa m)) : FreshBytes w w' v v' m :=
 ⟨h.grown, h.own.imp (fun h => ⟨List.eq_nil_of_length_eq_zero h.1, h.2⟩) id⟩
theorem FreshBytes.below {w w' : World} {v v' : Value} {m : List UInt8} (h : FreshBytes w w' v v' m) : Below w.heap.size w w' :=
 ⟨h.grown.os, h.grown.tape, h.grown.output, h.grown.size, fun k hk => h.grown.block k hk (by simp)⟩
theorem FreshBytes.bytes {w w' : World} {a0 : Option Addr} {v' : Value} {m : List UInt8} (h : FreshBytes w w' (.slice a0 0 0) v' m) : Bytes w' v' m := by
 rcases h.own with ⟨rfl, rfl⟩ | ⟨_, h, _⟩
 ·exact ⟨a0, 0, rfl, by simp, by simp, fun _ => rfl, fun i hi => absurd hi (by simp)⟩
 ·exact h.bytes
theorem zA1 (w : World) {ops : Array Oper} {rest : List Oper} {o : Oper} {a : Act} {Q : Exit → Act → World → Prop}
  (hg : o.guard = none) (s x : Operand) (t : TypeId) (hop : o.op = Op.call { callee := Callee.builtin Builtin.append, args := #[s, x], argTypes := #[t, t] })
  (ht : Tryz.prog.underlying t = some (.slice 5)) (a0 : Option Addr) (u : Value) (hs : a.eval s = .slice a0 0 0) (hx : a.eval x = u) (m : List UInt8) (hb : Bytes w u m) (hlen : m.length ≤ 140737488355328)
  (hK : ∀ v' w', FreshBytes w w' (.slice a0 0 0) v' m → wpList Tryz.prog ops Q rest (a.put o.dst v') w') :
  wpList Tryz.prog ops Q (o :: rest) a w := by
 obtain ⟨i0, hi, hz0, hz1, hz2⟩ := info_parts zF5
 exact zEq w hg s x t hop 5 i0 _ 1 1 ht hi hz0 hz1 hz2 rfl (by decide) a0 u hs hx m.length (zAa m) (by simp [zAc]) hb.src (zAm m) (by unfold maxLen; omega) (by omega)
  (fun v' w' h => hK v' w' h.toBytes)
theorem zDe {ops : Array Oper} {o : Oper} {a : Act} {w : World} {K : Act → World → Prop} {Q : Exit → Act → World → Prop} {E : Prop}
  (hg : o.guard = none) (s x : Operand) (t : TypeId) (hop : o.op = Op.call { callee := Callee.builtin Builtin.append, args := #[s, x], argTypes := #[t, t] })
  (ht : Tryz.prog.underlying t = some (.slice 5)) (a0 : Option Addr) (u : Value) (hs : a.eval s = .slice a0 0 0) (hx : a.eval x = u) (m : List UInt8) (hb : Bytes w u m) (hlen : m.length ≤ 140737488355328)
  (hK : ∀ v' w', FreshBytes w w' (.slice a0 0 0) v' m → K (a.put o.dst v') w') :
  if Region.wanted o (yielded ops a.tmps) = true then Oper.wp Tryz.prog o a w K Q else E := by
 obtain ⟨i0, hi, hz0, hz1, hz2⟩ := info_parts zF5
 exact zJ5 hg s x t hop 5 i0 _ 1 1 ht hi hz0 hz1 hz2 rfl (by decide) a0 u hs hx m.length (zAa m) (by simp [zAc]) hb.src (zAm m) (by unfold maxLen; omega) (by omega)
  (fun v' w' h => hK v' w' h.toBytes)
theorem Bytes.sliced {w : World} {a : Option Addr} {n cap : Nat} {l : List UInt8} (h : Bytes w (.slice a n cap) l) (lo hi : Nat) (h1 : lo ≤ hi) (h2 : hi ≤ l.length) (u : Value) (hu : u = Go.sliced a lo hi cap 1) :
  Bytes w u ((l.take hi).drop lo) := by
 obtain ⟨a', cap', he, hl, hm, hn, hc⟩ := h;simp only [Value.slice.injEq] at he;obtain ⟨rfl, rfl, rfl⟩ := he;subst hu;have hlen : ((l.take hi).drop lo).length = hi - lo := by simp; omega
 refine ⟨if cap = lo then a else a.map (·.add (lo * 1)), cap - lo, by rw [hlen]; rfl, by omega, by omega, ?_, ?_⟩
 ·intro hh
  split at hh
  ·omega
  ·have := hn (by simpa using hh); omega
 ·intro i hi';rw [hlen] at hi';obtain ⟨b, o, rfl, hcell⟩ := hc (lo + i) (by omega);refine ⟨b, o + lo, ?_, ?_⟩
  ·rw [if_neg (by omega)]; simp [Addr.add_lit]
  ·rw [Nat.add_assoc, hcell]; simp
theorem Bytes.take {w : World} {a : Option Addr} {k cap : Nat} {l : List UInt8} (h : Bytes w (.slice a k cap) l) (n : Nat) (hn : n ≤ l.length) : Bytes w (.slice a n cap) (l.take n) := by
 obtain ⟨a', cap', he, hl, hm, hnil, hc⟩ := h;simp only [Value.slice.injEq] at he;obtain ⟨rfl, rfl, rfl⟩ := he;have hlen : (l.take n).length = n := by simp; omega
 refine ⟨a, cap, by rw [hlen], by omega, hm, hnil, fun i hi => ?_⟩;obtain ⟨b, o, he, hcell⟩ := hc i (by omega);exact ⟨b, o, he, by rw [hcell]; simp⟩
theorem OwnBytes.le {w : World} {base base' : Nat} {v : Value} {l : List UInt8} (h : OwnBytes w base v l) (hb : base' ≤ base) : OwnBytes w base' v l :=
 ⟨h.1, h.2.elim Or.inl (fun ⟨g, cap, cur, hv, hg, r⟩ => Or.inr ⟨g, cap, cur, hv, Nat.le_trans hb hg, r⟩)⟩
theorem OwnBytes.other {w : World} {base : Nat} {v : Value} {l : List UInt8} (h : OwnBytes w base v l) (a : Addr) (hne : v.ownBlock ≠ some a.block) (u : Value) : OwnBytes (w.setCell a u) base v l :=
 h.kept (row := some a.block) ⟨rfl, rfl, rfl, by simp [World.setCell], fun k _ hk => Below.heap_setCell w a u k (fun e => hk (by rw [e]))⟩ (Or.inr hne)
theorem ret_int {k : IntKind} {a b : Int} (h : a = b) : Ending.returned (.int k a) = .returned (.int k b) := by rw [h]
def bit (n i : Nat) : Nat := (n.testBit i).toNat
def zEx (N m : Nat) : List Value := (List.range m).map fun i => .int .i64 (bit N i : Nat)
theorem zLa (N m : Nat) : zEx N m ++ [.int .i64 (bit N m : Nat)] = zEx N (m + 1) := by
 simp [zEx, List.range_succ]
theorem bitVals_get (N m i : Nat) (h : i < m) : (zEx N m)[i]? = some (.int .i64 (bit N i : Nat)) := by
 simp [zEx, h]
theorem zPa (N i : Nat) : bit N i ≤ 1 := by unfold bit; cases N.testBit i <;> simp
structure BitRow (w : World) (g N m : Nat) : Prop where
 cell : ∀ i, i < m → w.cell? ⟨g, i, none⟩ = some (.int .i64 (bit N i : Nat))
 frozen : ∀ i, w.frozen? ⟨g, i, none⟩ = false
theorem BitRow.alloc {w : World} {g N m : Nat} (h : BitRow w g N m) (hg : g < w.heap.size) (o : Obj) : BitRow (w.alloc o) g N m :=
 ⟨fun i hi => (World.cell?_of_block (w := w) (Below.heap_alloc w o g hg)).trans (h.cell i hi), fun i => (World.frozen?_of_block (w := w) (Below.heap_alloc w o g hg)).trans (h.frozen i)⟩
theorem BitRow.drew {w : World} {g N m : Nat} (h : BitRow w g N m) : BitRow w.drew g N m := ⟨h.cell, h.frozen⟩
theorem BitRow.other {w : World} {g N m : Nat} (h : BitRow w g N m) (a : Addr) (hne : g ≠ a.block) (u : Value) : BitRow (w.setCell a u) g N m :=
 ⟨fun i hi => (World.cell?_of_block (w := w) (Below.heap_setCell w a u g hne)).trans (h.cell i hi), fun i => (World.frozen?_of_block (w := w) (Below.heap_setCell w a u g hne)).trans (h.frozen i)⟩
theorem zN6 (w : World) (p q : Addr) (u : Value) : (w.setCell p u).frozen? q = w.frozen? q := by
 unfold World.frozen? World.setCell;simp only [Array.getElem?_modify]
 by_cases h : p.block = q.block
 ·rw [if_pos h]
  cases w.heap[q.block]? with
  | none => rfl
  | some o => cases o <;> rfl
 ·rw [if_neg h]
theorem zMk (w : World) (g i j : Nat) (u : Value) (h : j ≠ i) : (w.setCell ⟨g, i, none⟩ u).cell? ⟨g, j, none⟩ = w.cell? ⟨g, j, none⟩ := by
 unfold World.cell? World.setCell;simp only [Array.getElem?_modify, if_true]
 cases hh : w.heap[g]? with
 | none => rfl
 | some o => cases o <;> simp [Ne.symm h]
theorem zMl (w : World) (g i : Nat) (u v : Value) (h : w.cell? ⟨g, i, none⟩ = some v) : (w.setCell ⟨g, i, none⟩ u).cell? ⟨g, i, none⟩ = some u := by
 unfold World.cell? World.setCell at *;simp only [Array.getElem?_modify, if_true]
 cases hh : w.heap[g]? with
 | none => simp [hh] at h
 | some o =>
   cases o with
   | cells c e f =>
     simp only [hh] at h
     have : i < c.size := by
      simp at h;exact (Array.getElem?_eq_some_iff.1 h).1
     simp [this]
   | _ => simp [hh] at h
theorem BitRow.set {w : World} {g N m : Nat} (h : BitRow w g N m) (k : Nat) (hk : k < m) (N' : Nat) (u : Value) (hu : u = .int .i64 (bit N' k : Nat)) (hN : ∀ i, i ≠ k → N'.testBit i = N.testBit i) :
  BitRow (w.setCell ⟨g, k, none⟩ u) g N' m := by
 refine ⟨fun i hi => ?_, fun i => (zN6 ..).trans (h.frozen i)⟩
 by_cases hik : i = k
 ·subst hik; rw [zMl w g i u _ (h.cell i hi), hu]
 ·rw [zMk w g k i u hik, h.cell i hi];simp [bit, hN i hik]
theorem zIj {w : World} {base g N m cap : Nat} (h : w.ownsRow base 3 1 (.slice (some ⟨g, 0, none⟩) m cap) m (zEx N m)) : BitRow w g N m :=
 ⟨fun i hi => by rw [h.cellAt i (by omega), bitVals_get N m i hi], fun i => h.frozenAt i⟩
theorem owns_some {w : World} {base e size n : Nat} {v : Value} {xs : List Value} (h : w.ownsRow base e size v n xs) (hn : 0 < n) :
  ∃ g cap, v = .slice (some ⟨g, 0, none⟩) n cap ∧ base ≤ g ∧ g < w.heap.size := by
 rcases h.2 with ⟨_, h0⟩ | ⟨g, cap, cur, rfl, hb, hg, _⟩
 ·omega
 ·exact ⟨g, cap, rfl, hb, (Array.getElem?_eq_some_iff.1 hg).1⟩
end
section
def zEy (c : Nat) : Nat := if c % 2 = 1 then (c / 2) ^^^ 3988292384 else c / 2
def zDs : Nat → Nat → Nat
 | 0, c => c
 | j + 1, c => zEy (zDs j c)
def byteStep (c : Nat) (b : UInt8) : Nat := zDs 8 (c ^^^ b.toNat)
def zCn (c : Nat) (l : List UInt8) : Nat := l.foldl byteStep c
def zA3 (l : List UInt8) : Nat := 4294967295 ^^^ zCn 4294967295 l
theorem xor_lt (a b : Nat) (ha : a < 4294967296) (hb : b < 4294967296) : a ^^^ b < 4294967296 :=
 Nat.xor_lt_two_pow (n := 32) ha hb
theorem bitStep_lt (c : Nat) (h : c < 4294967296) : zEy c < 4294967296 := by
 unfold zEy; split
 ·exact xor_lt _ _ (by omega) (by omega)
 ·omega
theorem bitsN_lt (j c : Nat) (h : c < 4294967296) : zDs j c < 4294967296 := by
 induction j with
 | zero => exact h
 | succ j ih => exact bitStep_lt _ ih
theorem byteStep_lt (c : Nat) (b : UInt8) (h : c < 4294967296) : byteStep c b < 4294967296 :=
 bitsN_lt _ _ (xor_lt _ _ h (by have := b.toNat_lt; omega))
theorem zJh (l : List UInt8) : ∀ c : Nat, c < 4294967296 → zCn c l < 4294967296 := by
 induction l with
 | nil => intro c h; exact h
 | cons b l ih => intro c h; exact ih _ (byteStep_lt c b h)
theorem zH5 (l : List UInt8) : zA3 l < 4294967296 := xor_lt _ _ (by omega) (zJh _ _ (by omega))
theorem zJi (c : Nat) (a b : List UInt8) : zCn c (a ++ b) = zCn (zCn c a) b := by
 simp [zCn, List.foldl_append]
theorem crcRun_snoc (c : Nat) (a : List UInt8) (b : UInt8) : zCn c (a ++ [b]) = zDs 8 (zCn c a ^^^ b.toNat) := by
 rw [zJi]; rfl
theorem zLr (c : Nat) (l : List UInt8) (k : Nat) (h : k < l.length) :
  zCn c (l.take (k + 1)) = zDs 8 (zCn c (l.take k) ^^^ l[k].toNat) := by
 rw [List.take_succ_eq_append_getElem h, crcRun_snoc]
theorem zLs (c : Nat) (ls : List (List UInt8)) (k : Nat) (h : k < ls.length) :
  zCn c (ls.take (k + 1)).flatten = zCn (zCn c (ls.take k).flatten) ls[k] := by
 rw [List.take_succ_eq_append_getElem h, List.flatten_append, zJi];simp
theorem zNa (c : Nat) (h : c % 2 = 1) : zEy c = (c / 2) ^^^ 3988292384 := if_pos h
theorem zHj (c : Nat) (h : c % 2 = 0) : zEy c = c / 2 := if_neg (by omega)
theorem and_one_odd (c : Nat) (hc : c < 4294967296) (h : c % 2 = 1) : bits .and .u32 (c : Int) 1 = 1 := by
 have := u32_and_nat c 1 hc (by omega);rw [nat_mask1, h] at this; exact_mod_cast this
theorem and_one_even (c : Nat) (hc : c < 4294967296) (h : c % 2 = 0) : bits .and .u32 (c : Int) 1 = 0 := by
 have := u32_and_nat c 1 hc (by omega);rw [nat_mask1, h] at this; exact_mod_cast this
theorem xor_u32 (a b : Nat) (ha : a < 4294967296) (hb : b < 4294967296) : bits .xor .u32 (a : Int) (b : Int) = ((a ^^^ b : Nat) : Int) := u32_xor_nat a b ha hb
theorem xor_poly (c : Nat) (hc : c < 4294967296) : bits .xor .u32 ((c : Int) / 2) 3988292384 = ((c / 2 ^^^ 3988292384 : Nat) : Int) := by
 have := u32_xor_nat (c / 2) 3988292384 (by omega) (by omega);simpa using this
theorem not_u32 (a : Nat) (ha : a < 4294967296) : bits .xor .u32 IntKind.u32.max (a : Int) = ((4294967295 ^^^ a : Nat) : Int) := u32_xor_nat 4294967295 a (by omega) ha
def zG5 : List UInt8 → Nat
 | [] => 0
 | b :: l => b.toNat + 256 * zG5 l
theorem mnum_bit (l : List UInt8) : ∀ k, (h : k < l.length) → ∀ j, j < 8 → bit (zG5 l) (8 * k + j) = l[k].toNat / 2 ^ j % 2 := by
 induction l with
 | nil => intro k h; exact absurd h (by simp)
 | cons b l ih =>
   intro k h j hj;have hb := b.toNat_lt
   match k with
   | 0 =>
     have : (zG5 (b :: l)).testBit (8 * 0 + j) = b.toNat.testBit j := by
      have e : zG5 (b :: l) = 2 ^ 8 * zG5 l + b.toNat := by simp [zG5]; omega
      rw [e, Nat.mul_zero, Nat.zero_add, Nat.testBit_two_pow_mul_add _ hb, if_pos hj]
     simp only [bit, this, List.getElem_cons_zero];rw [Nat.testBit_eq_decide_div_mod_eq];have := Nat.mod_two_eq_zero_or_one (b.toNat / 2 ^ j)
     rcases this with h | h <;> simp [h]
   | k + 1 =>
     have e : zG5 (b :: l) = 2 ^ 8 * zG5 l + b.toNat := by simp [zG5]; omega
     have : (zG5 (b :: l)).testBit (8 * (k + 1) + j) = (zG5 l).testBit (8 * k + j) := by
      rw [e, Nat.testBit_two_pow_mul_add _ hb, if_neg (by omega)];congr 1; omega
     simp only [bit, this];exact ih k (by simpa using h) j hj
theorem mnum_lt (l : List UInt8) : zG5 l < 2 ^ (8 * l.length) := by
 induction l with
 | nil => simp [zG5]
 | cons b l ih =>
   have hb := b.toNat_lt
   have : (2 : Nat) ^ (8 * (b :: l).length) = 256 * 2 ^ (8 * l.length) := by
    rw [List.length_cons, Nat.mul_add, Nat.pow_add]; omega
   simp only [zG5]; omega
theorem mnum_bit_hi (l : List UInt8) (i : Nat) (h : 8 * l.length ≤ i) : bit (zG5 l) i = 0 := by
 have := mnum_lt l;have h2 : zG5 l < 2 ^ i := Nat.lt_of_lt_of_le this (Nat.pow_le_pow_right (by omega) h);simp [bit, Nat.testBit_lt_two_pow h2]
theorem shr_mod (x j : Nat) : ((x : Int) / 2 ^ j).tmod 2 = ((x / 2 ^ j % 2 : Nat) : Int) := by
 have e : ((x : Int) / 2 ^ j) = ((x / 2 ^ j : Nat) : Int) := by simp
 rw [e]; exact (Int.ofNat_tmod ..).symm
def poly33 : Nat := 7976584769
def polyCells : Array Value := #[.int .i64 1, .int .i64 0, .int .i64 0, .int .i64 0, .int .i64 0, .int .i64 0, .int .i64 1, .int .i64 0, .int .i64 0, .int .i64 1, .int .i64 1, .int .i64 0,
 .int .i64 0, .int .i64 0, .int .i64 0, .int .i64 0, .int .i64 1, .int .i64 0, .int .i64 0, .int .i64 0, .int .i64 1, .int .i64 1, .int .i64 1, .int .i64 0,
 .int .i64 1, .int .i64 1, .int .i64 0, .int .i64 1, .int .i64 1, .int .i64 0, .int .i64 1, .int .i64 1, .int .i64 1]
theorem polyCells_eq : polyCells.toList = zEx poly33 33 := by kernel_rfl
theorem BitRow.poly (w : World) : BitRow (w.alloc (.cells polyCells 3)) w.heap.size poly33 33 := by
 have h := World.ownsRow_lit (base := w.heap.size) (e := 3) (size := 1) w polyCells 33 (Nat.le_refl _) (by decide) rfl;rw [polyCells_eq] at h;exact zIj h
def zG2 (N j : Nat) : Nat := N ^^^ (2 ^ j - 1)
theorem flipN_zero (N : Nat) : zG2 N 0 = N := by simp [zG2]
theorem flipN_bit (N j : Nat) : bit (zG2 N (j + 1)) j = 1 - bit (zG2 N j) j := by
 simp only [bit, zG2, Nat.testBit_xor, Nat.testBit_two_pow_sub_one]
 cases N.testBit j <;> simp
theorem flipN_other (N j i : Nat) (h : i ≠ j) : (zG2 N (j + 1)).testBit i = (zG2 N j).testBit i := by
 simp only [zG2, Nat.testBit_xor, Nat.testBit_two_pow_sub_one];congr 1;simp; omega
def addN (N k j : Nat) : Nat := N ^^^ ((poly33 % 2 ^ j) * 2 ^ k)
theorem zLd (N k j i : Nat) : (addN N k j).testBit i = (N.testBit i ^^ (decide (k ≤ i) && (decide (i - k < j) && poly33.testBit (i - k)))) := by
 simp only [addN, Nat.testBit_xor];congr 1;rw [Nat.mul_comm, Nat.testBit_two_pow_mul];simp [Nat.testBit_mod_two_pow]
theorem addN_zero (N k : Nat) : addN N k 0 = N := by simp [addN, Nat.mod_one]
theorem addN_bit (N k j : Nat) : bit (addN N k (j + 1)) (k + j) = (bit (addN N k j) (k + j) + bit poly33 j) % 2 := by
 have e : k + j - k = j := by omega
 simp only [bit, zLd, e]
 cases N.testBit (k + j) <;> cases poly33.testBit j <;> simp
theorem addN_other (N k j i : Nat) (h : i ≠ k + j) : (addN N k (j + 1)).testBit i = (addN N k j).testBit i := by
 simp only [zLd];congr 1
 by_cases hk : k ≤ i
 ·have : decide (i - k < j + 1) = decide (i - k < j) := by simp; omega
  rw [this]
 ·simp [hk]
theorem addN_end (N k : Nat) : addN N k 33 = N ^^^ (poly33 * 2 ^ k) := by
 simp only [addN]; congr 1
def zL2 (N : Nat) : Nat → Nat
 | 0 => N
 | k + 1 => if bit (zL2 N k) k = 1 then zL2 N k ^^^ (poly33 * 2 ^ k) else zL2 N k
def outN (N m : Nat) : Nat → Nat
 | 0 => 0
 | j + 1 => outN N m j + (1 - bit N (m + j)) * 2 ^ j
theorem zPo (N m j : Nat) : outN N m j < 2 ^ j := by
 induction j with
 | zero => simp [outN]
 | succ j ih =>
   have : (1 - bit N (m + j)) * 2 ^ j ≤ 2 ^ j := by
    have : 1 - bit N (m + j) ≤ 1 := by omega
    calc (1 - bit N (m + j)) * 2 ^ j ≤ 1 * 2 ^ j := Nat.mul_le_mul_right _ this
     _ = 2 ^ j := by omega
   simp only [outN, Nat.pow_succ]; omega
theorem outN_step (N m j : Nat) (hj : j < 32) : ((outN N m j : Nat) + (1 - (bit N (m + j) : Nat)) * 2 ^ j % 4294967296 : Int) % 4294967296 = (outN N m (j + 1) : Nat) := by
 have h1 := zPo N m j;have h2 := zPo N m (j + 1);have h3 : (2 : Nat) ^ (j + 1) ≤ 4294967296 := Nat.pow_le_pow_right (n := 2) (by omega) (show j + 1 ≤ 32 by omega);have h4 : (2 : Nat) ^ j * 2 ≤ 4294967296 := by rw [← Nat.pow_succ]; exact h3
 have e : ((1 - (bit N (m + j) : Nat) : Int)) * 2 ^ j = (((1 - bit N (m + j)) * 2 ^ j : Nat) : Int) := by
  have := zPa N (m + j);rw [Int.natCast_mul, Int.natCast_sub this]; simp
 have h5 : (1 - bit N (m + j)) * 2 ^ j ≤ 2 ^ j := by
  calc (1 - bit N (m + j)) * 2 ^ j ≤ 1 * 2 ^ j := Nat.mul_le_mul_right _ (by omega)
   _ = 2 ^ j := by omega
 rw [e];simp only [outN] at h2 ⊢;generalize (1 - bit N (m + j)) * 2 ^ j = q at *;generalize (2 : Nat) ^ j = r at *;omega
def refSum (l : List UInt8) : Nat := outN (zL2 (zG2 (zG5 l) 32) (8 * l.length)) (8 * l.length) 32
theorem half_xor (a b : Nat) : (a ^^^ b) / 2 = a / 2 ^^^ b / 2 := by
 have := Nat.shiftRight_xor_distrib (a := a) (b := b) (i := 1);simpa [Nat.shiftRight_eq_div_pow] using this
theorem mod_xor (a b : Nat) : (a ^^^ b) % 2 = (a % 2 + b % 2) % 2 := by
 have h : (a ^^^ b).testBit 0 = (a.testBit 0 ^^ b.testBit 0) := Nat.testBit_xor a b 0;simp only [Nat.testBit_zero] at h
 rcases Nat.mod_two_eq_zero_or_one a with ha | ha <;> rcases Nat.mod_two_eq_zero_or_one b with hb | hb <;>
  rcases Nat.mod_two_eq_zero_or_one (a ^^^ b) with hc | hc <;> simp [ha, hb, hc] at h ⊢
theorem bitStep_xor (a b : Nat) : zEy (a ^^^ b) = zEy a ^^^ zEy b := by
 unfold zEy;rw [half_xor, mod_xor]
 rcases Nat.mod_two_eq_zero_or_one a with ha | ha <;> rcases Nat.mod_two_eq_zero_or_one b with hb | hb <;> simp [ha, hb]
 ·ac_rfl
 ·ac_rfl
 ·generalize a / 2 = x;generalize b / 2 = y;have : x ^^^ 3988292384 ^^^ (y ^^^ 3988292384) = x ^^^ y ^^^ (3988292384 ^^^ 3988292384) := by ac_rfl
  rw [this]; simp
theorem bitsN_xor (j a b : Nat) : zDs j (a ^^^ b) = zDs j a ^^^ zDs j b := by
 induction j with
 | zero => rfl
 | succ j ih => simp only [zDs, ih, bitStep_xor]
theorem bitsN_add (i j c : Nat) : zDs (i + j) c = zDs i (zDs j c) := by
 induction i with
 | zero => simp [zDs]
 | succ i ih => rw [Nat.add_right_comm]; simp only [zDs, ih]
theorem bitStep_two (z : Nat) : zEy (2 * z) = z := by
 rw [zHj _ (by omega)]; omega
theorem bitsN_pow (j z : Nat) : zDs j (z * 2 ^ j) = z := by
 induction j generalizing z with
 | zero => simp [zDs]
 | succ j ih =>
   have : z * 2 ^ (j + 1) = (2 * z) * 2 ^ j := by rw [Nat.pow_succ]; ac_rfl
   simp only [zDs];rw [this, ih, bitStep_two]
theorem cat_xor (b m : Nat) (hb : b < 256) : b + 256 * m = b ^^^ (m * 2 ^ 8) := by
 refine Nat.eq_of_testBit_eq fun i => ?_
 have e : b + 256 * m = 2 ^ 8 * m + b := by omega
 rw [e, Nat.testBit_two_pow_mul_add _ (by omega), Nat.testBit_xor, Nat.mul_comm m, Nat.testBit_two_pow_mul]
 by_cases h : i < 8
 ·rw [if_pos h, decide_eq_false (by omega)]; simp
 ·rw [if_neg h, decide_eq_true (by omega)];have h8 : (2 : Nat) ^ 8 ≤ 2 ^ i := Nat.pow_le_pow_right (by omega) (by omega);have : b.testBit i = false := Nat.testBit_lt_two_pow (by omega);simp [this]
theorem crcRun_eq (l : List UInt8) : ∀ c, zCn c l = zDs (8 * l.length) (c ^^^ zG5 l) := by
 induction l with
 | nil => intro c; simp [zCn, zG5, zDs]
 | cons b l ih =>
   intro c;have e : 8 * (b :: l).length = 8 * l.length + 8 := by simp; omega
   have h1 : zCn c (b :: l) = zCn (zDs 8 (c ^^^ b.toNat)) l := rfl;rw [h1, ih, e, bitsN_add, zG5, cat_xor _ _ b.toNat_lt];congr 1;rw [← Nat.xor_assoc, bitsN_xor 8 (c ^^^ b.toNat), bitsN_pow]
theorem redN_div (F k : Nat) : zL2 F k / 2 ^ k = zDs k F := by
 induction k with
 | zero => simp [zL2, zDs]
 | succ k ih =>
   have hp : ∀ x : Nat, x / 2 ^ (k + 1) = x / 2 ^ k / 2 := fun x => by rw [Nat.pow_succ, Nat.div_div_eq_div_mul]
   have hx : ∀ x y : Nat, (x ^^^ y) / 2 ^ k = x / 2 ^ k ^^^ y / 2 ^ k := fun x y => by
    have := Nat.shiftRight_xor_distrib (a := x) (b := y) (i := k);simpa [Nat.shiftRight_eq_div_pow] using this
   have hb : bit (zL2 F k) k = zL2 F k / 2 ^ k % 2 := by
    unfold bit; rw [Nat.testBit_eq_decide_div_mod_eq]
    rcases Nat.mod_two_eq_zero_or_one (zL2 F k / 2 ^ k) with h | h <;> simp [h]
   simp only [zL2, zDs];rw [hb, ih, hp]
   rcases Nat.mod_two_eq_zero_or_one (zDs k F) with h | h
   ·rw [if_neg (by omega), zHj _ h, ih]
   ·rw [if_pos h, zNa _ h, hx, ih, Nat.mul_div_cancel _ (Nat.two_pow_pos k), half_xor]; rfl
theorem outN_testBit (N m j : Nat) : ∀ i, (outN N m j).testBit i = (decide (i < j) && !N.testBit (m + i)) := by
 induction j with
 | zero => intro i; simp [outN]
 | succ j ih =>
   intro i;have e : outN N m (j + 1) = 2 ^ j * (1 - bit N (m + j)) + outN N m j := by simp only [outN]; rw [Nat.mul_comm]; omega
   rw [e, Nat.testBit_two_pow_mul_add _ (zPo N m j), ih]
   by_cases h : i < j
   ·simp [h]; omega
   ·rw [if_neg h]
    by_cases h2 : i = j
    ·subst h2;simp [bit]
     cases N.testBit (m + i) <;> simp
    ·have h3 : ¬ i < j + 1 := by omega
     have h4 : i - j ≠ 0 := by omega
     simp [h3];have : 1 - bit N (m + j) ≤ 1 := by omega
     rcases Nat.le_one_iff_eq_zero_or_eq_one.1 this with h5 | h5 <;> rw [h5]
     ·simp
     ·have : (1 : Nat).testBit (i - j) = false := Nat.testBit_lt_two_pow (by have := Nat.pow_le_pow_right (n := 2) (by omega) (show 1 ≤ i - j by omega); omega);exact this
theorem refSum_eq (l : List UInt8) : refSum l = zA3 l := by
 have h := redN_div (zG2 (zG5 l) 32) (8 * l.length);have hc := crcRun_eq l 4294967295;have hx : zG2 (zG5 l) 32 = 4294967295 ^^^ zG5 l := by unfold zG2; rw [Nat.xor_comm]
 rw [hx, ← hc] at h;have hlt := zJh l 4294967295 (by omega);unfold refSum zA3;rw [hx];refine Nat.eq_of_testBit_eq fun i => ?_
 rw [outN_testBit, Nat.testBit_xor, ← h, Nat.testBit_div_two_pow];have e1 : (4294967295 : Nat).testBit i = decide (i < 32) := Nat.testBit_two_pow_sub_one 32 i;rw [e1]
 by_cases hi : i < 32
 ·simp [hi, Nat.add_comm]
 ·have e2 : (zL2 (4294967295 ^^^ zG5 l) (8 * l.length)).testBit (i + 8 * l.length) = (zCn 4294967295 l).testBit i := by rw [← h, Nat.testBit_div_two_pow]
  have h8 : (2 : Nat) ^ 32 ≤ 2 ^ i := Nat.pow_le_pow_right (by omega) (by omega);have := Nat.testBit_lt_two_pow (x := zCn 4294967295 l) (i := i) (by omega);rw [e2]; simp [hi, this]
end
section
open Go.RowKit
theorem Bytes.at {w : World} {a : Option Addr} {k cap : Nat} {l : List UInt8} (h : Bytes w (.slice a k cap) l) (i : Nat) (hi : i < l.length) : ∃ b o, a = some ⟨b, o, none⟩ ∧ w.cell? ⟨b, o + i, none⟩ = some (.int .u8 l[i].toNat) := by
 obtain ⟨a', cap', he, _, _, _, hc⟩ := h;simp only [Value.slice.injEq] at he;obtain ⟨rfl, -, -⟩ := he;exact hc i hi
end
section
open Go.RowKit Go.Maps
def Ext (w0 W : World) : Prop := Below w0.heap.size w0 W
theorem Ext.refl (w : World) : Ext w w := Below.refl _ _
theorem xr (w : World) : Ext w w := Ext.refl w
theorem Ext.drew {w0 W : World} (h : Ext w0 W) : Ext w0 W.drew := Below.drew h
theorem Ext.drewN {w0 W : World} (h : Ext w0 W) (q : Nat) : Ext w0 (W.drewN q) := ⟨h.os, h.tape, h.output, h.size, h.block⟩
theorem Ext.alloc {w0 W : World} (h : Ext w0 W) (o : Obj) : Ext w0 (W.alloc o) := Below.alloc h h.size o
theorem Ext.trans {w0 W W' : World} (h : Ext w0 W) (k : Ext W W') : Ext w0 W' := Below.trans h (Below.mono k h.size)
theorem Ext.cell {w0 W : World} (h : Ext w0 W) {a : Addr} {v : Value} (hc : w0.cell? a = some v) : W.cell? a = some v := (Below.cell h (World.block_lt_of_cell? w0 a hc)).trans hc
theorem Ext.get {w0 W : World} (h : Ext w0 W) {k : Nat} {o : Obj} (hc : w0.heap[k]? = some o) : W.heap[k]? = some o := (h.block k (Array.getElem?_eq_some_iff.1 hc).1).trans hc
theorem Ext.sz {w0 W : World} (h : Ext w0 W) : w0.heap.size ≤ W.heap.size := h.size
theorem Ext.map {H : Type} {w0 W : World} (h : Ext w0 W) {P : Program} {k : TypeId} {R : Value → Option (DataW H × List MemPlace)} {b n : Nat} {D : DataW H} (hm : w0.ownsMap P k R b n D) : W.ownsMap P k R b n D := by
 obtain ⟨es, clock, hb, F, hs, hD⟩ := hm;exact ⟨es, clock, h.get hb, F, hs, hD⟩
theorem Ext.own {w0 W : World} (h : Ext w0 W) {base e s n : Nat} {v : Value} {xs : List Value} (o : w0.ownsRow base e s v n xs) : W.ownsRow base e s v n xs := by
 refine ⟨o.1, ?_⟩
 rcases o.2 with hn | ⟨g, cap, cur, rfl, hbb, hgg, rest⟩
 ·exact .inl hn
 ·exact .inr ⟨g, cap, cur, rfl, hbb, h.get hgg, rest⟩
theorem zBm {w : World} {base base' e s n : Nat} {v : Value} {xs : List Value} (h : w.ownsRow base e s v n xs) (hb : base' ≤ base) : w.ownsRow base' e s v n xs := by
 refine ⟨h.1, h.2.imp id ?_⟩;rintro ⟨g, cap, cur, e, h1, r⟩;exact ⟨g, cap, cur, e, Nat.le_trans hb h1, r⟩
def zBh (l : List Str) : List Value := l.map encStr
theorem zIb (l : List Str) : (zBh l).length = l.length := by simp [zBh]
theorem zIc (l m : List Str) : zBh (l ++ m) = zBh l ++ zBh m := by simp [zBh]
theorem zMh (l : List Str) (i : Nat) (h : i < l.length) : (zBh l)[i]? = some (encStr l[i]) := by simp [zBh, h]
theorem zHa (l : List Str) : ∀ u ∈ zBh l, u.oneCell' = true := by
 intro u hu;obtain ⟨_, _, rfl⟩ := List.mem_map.1 hu;rfl
def SRow (w : World) (v : Value) (l : List Str) : Prop :=
 ∃ a cap, v = .slice a l.length cap ∧ l.length ≤ cap ∧ cap ≤ 9223372036854775807 ∧ (a = none → cap = 0) ∧
  ∀ i, (h : i < l.length) → ∃ b o, a = some ⟨b, o, none⟩ ∧ w.cell? ⟨b, o + i, none⟩ = some (encStr l[i])
theorem SRow.ext {w w' : World} {v : Value} {l : List Str} (h : SRow w v l) (x : Ext w w') : SRow w' v l := by
 obtain ⟨a, cap, rfl, hl, hm, hn, hc⟩ := h;refine ⟨a, cap, rfl, hl, hm, hn, fun i hi => ?_⟩;obtain ⟨b, o, rfl, hcell⟩ := hc i hi;exact ⟨b, o, rfl, x.cell hcell⟩
theorem SRow.nil (w : World) : SRow w (.slice none 0 0) [] := ⟨none, 0, rfl, by simp, by simp, fun _ => rfl, fun i hi => absurd hi (by simp)⟩
def OwnS (w : World) (base : Nat) (v : Value) (l : List Str) : Prop := w.ownsRow base 9 1 v l.length (zBh l)
theorem OwnS.row {w : World} {base : Nat} {v : Value} {l : List Str} (h : OwnS w base v l) : SRow w v l := by
 rcases h.2 with ⟨rfl, h0⟩ | ⟨g, cap, cur, rfl, hb, hg, hnc, hcm, hcs, htake⟩
 ·obtain rfl := List.eq_nil_of_length_eq_zero h0;exact SRow.nil w
 ·refine ⟨some ⟨g, 0, none⟩, cap, rfl, hnc, by unfold maxLen at hcm; omega, (fun h => by cases h), fun i hi => ⟨g, 0, rfl, ?_⟩⟩;rw [Nat.zero_add, World.ownsRow.cellAt h i (by omega), zMh l i hi]
theorem OwnS.ext {w w' : World} {base : Nat} {v : Value} {l : List Str} (h : OwnS w base v l) (x : Ext w w') : OwnS w' base v l := x.own h
theorem OwnS.base {w : World} {base base' : Nat} {v : Value} {l : List Str} (h : OwnS w base v l) (hb : base' ≤ base) : OwnS w base' v l := zBm h hb
theorem OwnS.nil (w : World) (base : Nat) : OwnS w base (.slice none 0 0) [] := World.ownsRow_nil _ _ _ _
theorem OwnS.lt {w : World} {base : Nat} {v : Value} {l : List Str} (h : OwnS w base v l) : ∀ k, v.ownBlock = some k → base ≤ k ∧ k < w.heap.size := World.ownsRow.lt h
theorem SRow.src {w : World} {u : Value} {m : List Str} (h : SRow w u m) : Src w u m.length (zBh m) := by
 obtain ⟨a, cap, rfl, hl, hm, hn, hc⟩ := h;refine ⟨a, cap, rfl, fun h => ⟨hn h, by have := hn h; omega⟩, fun ad had j y hu => ?_⟩
 have hj : j < m.length := by
  have := (List.getElem?_eq_some_iff.1 hu).1;simpa [zBh] using this
 obtain ⟨b, o, he, hcell⟩ := hc j hj;obtain rfl := Option.some.inj (had.symm.trans he);rw [Addr.add_lit, hcell, ← zMh m j hj, hu]
theorem SRow.form {w : World} {u : Value} {m : List Str} (h : SRow w u m) : ∃ a cap, u = .slice a m.length cap ∧ m.length ≤ cap ∧ cap ≤ 9223372036854775807 := by
 obtain ⟨a, cap, rfl, hl, hm, _⟩ := h;exact ⟨a, cap, rfl, hl, hm⟩
theorem zPc : (Tryz.prog.info? 9).map (fun i => (i.zero, i.size, i.bytes)) = some (some (.string ⟨#[]⟩), 1, 16) := by kernel_rfl
theorem zBt (w : World) {ops : Array Oper} {rest : List Oper} {o : Oper} {a : Act} {Q : Exit → Act → World → Prop}
  (hg : o.guard = none) (s x : Operand) (t : TypeId) (hop : o.op = Op.call { callee := Callee.builtin Builtin.append, args := #[s, x], argTypes := #[t, t] })
  (ht : Tryz.prog.underlying t = some (.slice 9)) (base : Nat) (v u : Value) (hs : a.eval s = v) (hx : a.eval x = u) (l m : List Str) (hown : OwnS w base v l) (hb : SRow w u m)
  (hlen : (l.length + m.length) * 16 ≤ 140737488355328) (hbase : base ≤ w.heap.size)
  (hK : ∀ v' w', OwnS w' base v' (l ++ m) → w.grownBy w' v.ownBlock → zB8 w v v' → wpList Tryz.prog ops Q rest (a.put o.dst v') w') :
  wpList Tryz.prog ops Q (o :: rest) a w := by
 obtain ⟨i0, hi, hz0, hz1, hz2⟩ := info_parts zPc
 exact zBu w hg s x t hop base 9 i0 _ 1 16 ht hi hz0 hz1 hz2 rfl (by decide) v u hs hx l.length (zBh l) hown m.length (zBh m) (by simp [zIb]) hb.src (zHa m) (by unfold maxLen; omega) (by omega) hbase
  (fun v' w' h1 h2 h3 => hK v' w' (by unfold OwnS; rw [List.length_append, zIc]; exact h1) h2 h3)
theorem zHc {ops : Array Oper} {o : Oper} {a : Act} {w : World} {K : Act → World → Prop} {Q : Exit → Act → World → Prop} {E : Prop}
  (hg : o.guard = none) (s x : Operand) (t : TypeId) (hop : o.op = Op.call { callee := Callee.builtin Builtin.append, args := #[s, x], argTypes := #[t, t] })
  (ht : Tryz.prog.underlying t = some (.slice 9)) (base : Nat) (v u : Value) (hs : a.eval s = v) (hx : a.eval x = u) (l m : List Str) (hown : OwnS w base v l) (hb : SRow w u m)
  (hlen : (l.length + m.length) * 16 ≤ 140737488355328) (hbase : base ≤ w.heap.size)
  (hK : ∀ v' w', OwnS w' base v' (l ++ m) → w.grownBy w' v.ownBlock → zB8 w v v' → K (a.put o.dst v') w') :
  if Region.wanted o (yielded ops a.tmps) = true then Oper.wp Tryz.prog o a w K Q else E := by
 obtain ⟨i0, hi, hz0, hz1, hz2⟩ := info_parts zPc
 exact zA8 hg s x t hop base 9 i0 _ 1 16 ht hi hz0 hz1 hz2 rfl (by decide) v u hs hx l.length (zBh l) hown m.length (zBh m) (by simp [zIb]) hb.src (zHa m) (by unfold maxLen; omega) (by omega) hbase
  (fun v' w' h1 h2 h3 => hK v' w' (by unfold OwnS; rw [List.length_append, zIc]; exact h1) h2 h3)
theorem grown_ext {w w' : World} {row : Option Nat} (h : w.grownBy w' row) (hr : ∀ k, row = some k → w.heap.size ≤ k) : Ext w w' :=
 ⟨h.os, h.tape, h.output, h.size, fun k hk => h.block k hk fun e => by have := hr k e.symm; omega⟩
theorem Ext.grow {w wr w' : World} {row : Option Nat} (x : Ext w wr) (g : wr.grownBy w' row) (hr : ∀ k, row = some k → w.heap.size ≤ k) : Ext w w' :=
 ⟨g.os.trans x.os, g.tape.trans x.tape, g.output.trans x.output, Nat.le_trans x.size g.size, fun k hk => (g.block k (Nat.lt_of_lt_of_le hk x.size) fun e => by have := hr k e.symm; omega).trans (x.block k hk)⟩
end
section
open Go.RowKit
theorem crc_of (ls : List (List UInt8)) (b o cap : Nat) (w : World) (hl : ls.length ≤ 9223372036854775807) (hr : RowsOf w b o ls) :
  Calls Tryz.prog 37 #[.slice (some ⟨b, o, none⟩) ls.length cap] w fun e w' => e = .returned (.int .u32 (zA3 ls.flatten : Nat)) ∧ w = w' := by
 go_enter Tryz.func37, Tryz.ntmps37
 go_wp2
 go_loop [3, 10] (fun c i => ∃ k : Nat, k ≤ ls.length ∧ i = .int .i64 k ∧ c = .int .u32 (zCn 4294967295 (ls.take k).flatten : Nat)) (fun _ i => ls.length - (intOf i).toNat)
 case atStart => exact ⟨0, Nat.zero_le _, rfl, rfl⟩
 case round =>
  obtain ⟨k, hk, rfl, rfl⟩ := hrel;have hclt := zJh (ls.take k).flatten 4294967295 (by omega)
  by_cases hlt : k < ls.length
  ·have hsucc := zh (zLs 4294967295 ls k hlt);generalize zCn 4294967295 (ls.take k).flatten = c0 at *;obtain ⟨v, hv, hb⟩ := hr k hlt;obtain ⟨a, cap', rfl, hlc', hlm', _, hc⟩ := hb;have hlen : ls[k].length ≤ 9223372036854775807 := by omega
   clear hlc' hlm'
   ·generalize ls[k] = l at *
    go_wp2
    go_loop [3, 16] (fun c i => ∃ j : Nat, j ≤ l.length ∧ i = .int .i64 j ∧ c = .int .u32 (zCn c0 (l.take j) : Nat)) (fun _ i => l.length - (intOf i).toNat)
    case atStart => exact ⟨0, Nat.zero_le _, rfl, rfl⟩
    case round =>
     obtain ⟨j, hj, rfl, rfl⟩ := hrel;have hclt1 := zJh (l.take j) c0 hclt
     by_cases hltj : j < l.length
     ·have hsucc1 := zh (zLr c0 l j hltj);obtain ⟨b', o', rfl, hcell⟩ := hc j hltj;have hb8 : l[j].toNat < 256 := l[j].toNat_lt;clear hc hr;generalize zCn c0 (l.take j) = c1 at *;generalize l[j].toNat = x at *;have hxor := xor_u32 c1 x hclt1 (by omega);have hclt2 := xor_lt c1 x hclt1 (by omega);generalize c1 ^^^ x = c2 at *
      go_wp2
      go_loop [3, 24] (fun c i => ∃ m : Nat, m ≤ 8 ∧ i = .int .i64 m ∧ c = .int .u32 (zDs m c2 : Nat)) (fun _ i => 8 - (intOf i).toNat)
      case atStart => exact ⟨0, Nat.zero_le _, rfl, rfl⟩
      case round =>
       obtain ⟨m, hm, rfl, rfl⟩ := hrel;have hclt3 := bitsN_lt m c2 hclt2
       by_cases hm8 : m < 8
       ·have hs3 : zDs (m + 1) c2 = zEy (zDs m c2) := rfl;have Hs3 := zh hs3;clear hs3;generalize zDs m c2 = c3 at *
        rcases Nat.mod_two_eq_zero_or_one c3 with hodd | hodd
        ·have hand := and_one_even c3 hclt3 hodd;have Hodd := zh hodd; clear hodd
         go_wp2
         go_round
         case rel => exact ⟨m + 1, by omega, by go_num, by rw [Hs3.out, zHj _ Hodd.out]; go_num⟩
         case measure => simp [intOf]; omega
        ·have hand := and_one_odd c3 hclt3 hodd;have hx3 := xor_poly c3 hclt3;have Hodd := zh hodd; clear hodd
         go_wp2
         go_round
         case rel => exact ⟨m + 1, by omega, by go_num, by rw [Hs3.out, zNa _ Hodd.out]⟩
         case measure => simp [intOf]; omega
       ·have hm8' : m = 8 := by omega
        subst hm8'
        go_wp2
        go_round
        case rel => exact ⟨j + 1, by omega, by go_num, by rw [hsucc1.out]⟩
        case measure => simp [intOf]; omega
     ·have hjl : j = l.length := by omega
      subst hjl;have htk : l.take l.length = l := List.take_length;have Htk := zh htk; clear htk
      go_wp2
      go_round
      case rel => exact ⟨k + 1, by omega, by go_num, by rw [hsucc.out, Htk.out]⟩
      case measure => simp [intOf]; omega
  ·have hkl : k = ls.length := by omega
   subst hkl;have htk : ls.take ls.length = ls := List.take_length;rw [htk] at hclt
   go_wp2
   go_ret
   exact ⟨by rw [not_u32 _ hclt]; rfl, rfl⟩
end
section
open Go.RowKit
set_option maxRecDepth 100000
def One (w0 wc : World) (x : Value) (l : List UInt8) : Prop :=
 ∃ g c, x = .slice (some ⟨g, 0, none⟩) l.length c ∧ w0.heap.size ≤ g ∧ OwnBytes wc w0.heap.size x l ∧ Below w0.heap.size w0 wc
theorem RowsOf.blk1 {W w0 : World} {g : Nat} {v : Value} {l : List UInt8} (hb : Bytes w0 v l) (hbel : Below w0.heap.size w0 W) (hh : W.heap[g]? = some (.cells #[v] 23 (0, 0))) : RowsOf W g 0 [l] :=
 RowsOf.one (by simp only [World.cell?, hh]; rfl) (hb.below hbel (Nat.le_refl _))
theorem RowsOf.blk2 {W w0 : World} {g : Nat} {v u : Value} {l m : List UInt8} (hb : Bytes w0 v l) (hm : Bytes w0 u m) (hbel : Below w0.heap.size w0 W) (hh : W.heap[g]? = some (.cells #[v, u] 23 (0, 0))) : RowsOf W g 0 [l, m] :=
 RowsOf.two (by simp only [World.cell?, hh]; rfl) (hb.below hbel (Nat.le_refl _)) (by simp only [World.cell?, hh]; rfl) (hm.below hbel (Nat.le_refl _))
theorem drew_heap (w : World) : w.drew.heap = w.heap := rfl
theorem alloc_get (w : World) (o : Obj) (k : Nat) : (w.alloc o).heap[k]? = if k = w.heap.size then some o else w.heap[k]? := by
 show (w.heap.push o)[k]? = _;rw [Array.getElem?_push]
theorem alloc_size (w : World) (o : Obj) : (w.alloc o).heap.size = w.heap.size + 1 := by simp
def RowsN (W : World) (g n : Nat) (ls : List (List UInt8)) : Prop := ls.length = n ∧ RowsOf W g 0 ls
theorem RowsN.one {w0 W : World} {g : Nat} {v : Value} {l : List UInt8} (hb : Bytes w0 v l) (hbel : Ext w0 W) (hh : W.heap[g]? = some (.cells #[v] 23 (0, 0))) : RowsN W g 1 [l] := ⟨rfl, RowsOf.blk1 hb hbel hh⟩
theorem RowsN.two {w0 W : World} {g : Nat} {v u : Value} {l m : List UInt8} (hb : Bytes w0 v l) (hm : Bytes w0 u m) (hbel : Ext w0 W) (hh : W.heap[g]? = some (.cells #[v, u] 23 (0, 0))) : RowsN W g 2 [l, m] := ⟨rfl, RowsOf.blk2 hb hm hbel hh⟩
theorem zIr {W : World} {g n : Nat} {ls : List (List UInt8)} (h : RowsN W g n ls) (hn : n ≤ 9223372036854775807) :
  Calls Tryz.prog 37 #[.slice (some ⟨g, 0, none⟩) n n] W fun e w' => e = .returned (.int .u32 (zA3 ls.flatten : Nat)) ∧ W = w' := by
 obtain ⟨rfl, hr⟩ := h;exact crc_of ls g 0 _ W hn hr
end
end Go.Proofs.YtgnjjfdfoibdiaaGreatDoor
