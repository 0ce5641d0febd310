/- Small laws for walks: an append of one cell to a row that the call owns; a row of bits. -/
import Derived.Test.YtobdjfibaemmhaaRows
import Derived.WalkKit
import Derived.Lib.Hide
import Derived.BigRegion
import Derived.RegionTactic
import Derived.ChangeAlike
namespace Go.Proofs.Ytobdjfibaemmhaa
open Go.RowKit

theorem wpList_append_one {P : Program} (w : World) {ops : Array Oper} {rest : List Oper} {o : Oper} {a : Act} {Q : Exit → Act → World → Prop}
    (hg : o.guard = none) (s x : Operand) (t : TypeId) (hop : o.op = Op.call { callee := Callee.builtin Builtin.append, args := #[s, x], argTypes := #[t, t] })
    (base : Nat) (e : TypeId) (i : TypeInfo) (z : Value) (bytes : Nat) (h1 : P.underlying t = some (.slice e)) (h2 : P.info? e = some i) (h3 : i.zero = some z) (h4 : i.size = 1) (h5 : i.bytes = bytes) (h6 : z.cells.size = 1)
    (v : Value) (n : Nat) (xs : List Value) (hs : a.eval s = v) (hown : w.ownsRow base e 1 v n xs) (u : Value) (hx : a.eval x = .slice (some ⟨w.heap.size, 0, none⟩) 1 1) (h1c : u.oneCell' = true)
    (hn : n + 1 ≤ maxLen) (hb : (n + 1) * bytes ≤ 140737488355328) (hbase : base ≤ w.heap.size)
    (hK : ∀ v' w', w'.ownsRow base e 1 v' (n + 1) (xs ++ [u]) → (w.alloc (.cells #[u] e)).grownBy w' v.ownBlock → wpList P ops Q rest (a.put o.dst v') w') :
    wpList P ops Q (o :: rest) a (w.alloc (.cells #[u] e)) :=
  wpList_append_own (w.alloc (.cells #[u] e)) hg s x t hop base e i z 1 bytes h1 h2 h3 h4 h5 h6 (by decide) v n xs hs (hown.alloc _) ⟨w.heap.size, 0, none⟩ 1 1 [u] hx rfl
    (by intro j c hj
        match j, hj with
        | 0, hj => simp at hj; subst hj; simp [Addr.add])
    (by intro c hc; simp at hc; subst hc; exact h1c) hn hb (by simp; omega)
    (fun v' w' ho hgr _ => hK v' w' ho hgr)

theorem below_append_one {B : Nat} {W w w' : World} {o : Obj} {v : Value} {base e size n : Nat} {xs : List Value} (hbel : Below B W w) (hB : B ≤ w.heap.size) (hbase : B ≤ base)
    (hown : w.ownsRow base e size v n xs) (hgr : (w.alloc o).grownBy w' v.ownBlock) : Below B W w' :=
  (hbel.alloc hB _).grown hgr (by simp; omega) (fun q hq => Nat.le_trans hbase (hown.lt q hq).1)

def Bytes (w : World) (v : Value) (l : List UInt8) : Prop :=
  ∃ a cap, v = .slice a l.length cap ∧ l.length ≤ cap ∧ cap ≤ 9223372036854775807 ∧ (a = none → cap = 0) ∧
    ∀ i, (h : i < l.length) → ∃ b o, a = some ⟨b, o, none⟩ ∧ w.cell? ⟨b, o + i, none⟩ = some (.int .u8 l[i].toNat)

def RowsOf (w : World) (b o : Nat) (ls : List (List UInt8)) : Prop :=
  ∀ i, (h : i < ls.length) → ∃ v, w.cell? ⟨b, o + i, none⟩ = some v ∧ Bytes w v ls[i]

theorem Bytes.below {B : Nat} {w w' : World} {v : Value} {l : List UInt8} (h : Bytes w v l) (hb : Below B w w') (hB : w.heap.size ≤ B) : Bytes w' v l := by
  obtain ⟨a, cap, rfl, hl, hm, hn, hc⟩ := h
  refine ⟨a, cap, rfl, hl, hm, hn, fun i hi => ?_⟩
  obtain ⟨b, o, rfl, hcell⟩ := hc i hi
  exact ⟨b, o, rfl, (hb.cell (Nat.lt_of_lt_of_le (World.block_lt_of_cell? w _ hcell) hB)).trans hcell⟩
theorem Bytes.alloc {w : World} {v : Value} {l : List UInt8} (h : Bytes w v l) (o : Obj) : Bytes (w.alloc o) v l :=
  h.below ((Below.refl w.heap.size w).alloc (Nat.le_refl _) o) (Nat.le_refl _)
theorem Bytes.drew {w : World} {v : Value} {l : List UInt8} (h : Bytes w v l) : Bytes w.drew v l := h
theorem Bytes.lit (w : World) (cs : Array Value) (l : List UInt8) (t : TypeId) (hl : cs.toList = l.map fun b => Value.int .u8 b.toNat) (cap : Nat) (hlc : l.length ≤ cap) (hm : cap ≤ 9223372036854775807) (n : Nat) (hn : n = l.length) (fz : Nat × Nat) :
    Bytes (w.alloc (.cells cs t fz)) (.slice (some ⟨w.heap.size, 0, none⟩) n cap) l := by
  subst hn
  refine ⟨_, _, rfl, hlc, hm, (fun h => by cases h), fun i hi => ⟨_, _, rfl, ?_⟩⟩
  have hh : (w.alloc (.cells cs t fz)).heap[w.heap.size]? = some (.cells cs t fz) := by show (w.heap.push _)[w.heap.size]? = _; simp
  have : cs[i]? = some (.int .u8 l[i].toNat) := by
    rw [← Array.getElem?_toList, hl]; simp [hi]
  simp only [World.cell?, hh, Nat.zero_add]; exact this
theorem RowsOf.one {w : World} {b : Nat} {v : Value} {l : List UInt8} (hc : w.cell? ⟨b, 0, none⟩ = some v) (h : Bytes w v l) : RowsOf w b 0 [l] := by
  intro i hi
  match i, hi with
  | 0, _ => exact ⟨v, hc, h⟩
theorem RowsOf.two {w : World} {b : Nat} {v u : Value} {l m : List UInt8} (hc : w.cell? ⟨b, 0, none⟩ = some v) (h : Bytes w v l) (hd : w.cell? ⟨b, 1, none⟩ = some u) (hm : Bytes w u m) : RowsOf w b 0 [l, m] := by
  intro i hi
  match i, hi with
  | 0, _ => exact ⟨v, hc, h⟩
  | 1, _ => exact ⟨u, hd, hm⟩
theorem cell_new0 (w : World) (cs : Array Value) (t : TypeId) (j : Nat) : (w.alloc (.cells cs t)).cell? ⟨w.heap.size, j, none⟩ = cs[j]? := by
  have hh : (w.alloc (.cells cs t)).heap[w.heap.size]? = some (.cells cs t (0, 0)) := by show (w.heap.push _)[w.heap.size]? = _; simp
  simp only [World.cell?, hh]; rfl
/-- What the walk is told of a slice of integers that came in. -/
def IsRow (k : IntKind) (w : World) (a : Option Addr) (len cap : Nat) (zs : List Int) : Prop :=
  (a = none ∧ len = 0 ∧ cap = 0 ∧ zs = []) ∨
  ∃ x, a = some x ∧ len ≤ cap ∧ cap ≤ maxLen ∧ zs.length = cap ∧ (∀ i, i < zs.length → w.cell? (x.add i) = some (.int k (zs.getD i 0))) ∧ ∀ n ∈ zs, (Lit.int k n).wf = true
theorem wf_u8 {n : Int} (h : (Lit.int .u8 n).wf = true) : 0 ≤ n ∧ n < 256 := by
  simp [Lit.wf, IntKind.min, IntKind.max, IntKind.signed, IntKind.bits] at h
  omega
theorem IsRow.bytes {w : World} {a : Option Addr} {len cap : Nat} {zs : List Int} (h : IsRow .u8 w a len cap zs) :
    ∃ l : List UInt8, l.length = len ∧ Bytes w (.slice a len cap) l := by
  rcases h with ⟨rfl, rfl, rfl, rfl⟩ | ⟨x, rfl, hl, hm, hz, hc, hwf⟩
  · exact ⟨[], rfl, none, 0, rfl, by simp, by simp, fun _ => rfl, fun i hi => absurd hi (by simp)⟩
  · refine ⟨(zs.take len).map fun n => UInt8.ofNat n.toNat, by simp; omega, some x, cap, by simp; omega, by simp; omega, by unfold maxLen at hm; omega, (fun h => by cases h), fun i hi => ?_⟩
    have hi' : i < zs.length := by simp at hi; omega
    have hcell := hc i hi'
    obtain ⟨b, o, sp⟩ := x
    have hsp : sp = none := by
      have h0 := hc 0 (by omega)
      simpa [Addr.add] using World.cell?_spot h0
    subst hsp
    refine ⟨b, o, rfl, ?_⟩
    have e : (⟨b, o, none⟩ : Addr).add i = ⟨b, o + i, none⟩ := Addr.add_lit ..
    rw [e] at hcell
    rw [hcell]
    obtain ⟨h0, h1⟩ := wf_u8 (hwf _ (List.getElem_mem hi'))
    have e1 : zs.getD i 0 = zs[i] := by simp [List.getD, hi']
    rw [e1]
    simp only [List.getElem_map, List.getElem_take, UInt8.toNat_ofNat']
    congr 2
    omega
def byteVals (l : List UInt8) : List Value := l.map fun b => .int .u8 b.toNat
theorem byteVals_length (l : List UInt8) : (byteVals l).length = l.length := by simp [byteVals]
theorem byteVals_append (l m : List UInt8) : byteVals (l ++ m) = byteVals l ++ byteVals m := by simp [byteVals]
theorem byteVals_get (l : List UInt8) (i : Nat) (h : i < l.length) : (byteVals l)[i]? = some (.int .u8 l[i].toNat) := by simp [byteVals, h]
/-- Bytes that the call itself holds, from block base on. -/
def OwnBytes (w : World) (base : Nat) (v : Value) (l : List UInt8) : Prop := w.ownsRow base 5 1 v l.length (byteVals l)
theorem OwnBytes.bytes {w : World} {base : Nat} {v : Value} {l : List UInt8} (h : OwnBytes w base v l) : Bytes w v l := by
  rcases h.2 with ⟨rfl, h0⟩ | ⟨g, cap, cur, rfl, hb, hg, hnc, hcm, hcs, htake⟩
  · obtain rfl := List.eq_nil_of_length_eq_zero h0
    exact ⟨none, 0, rfl, by simp, by simp, fun _ => rfl, fun i hi => absurd hi (by simp)⟩
  · refine ⟨some ⟨g, 0, none⟩, cap, rfl, hnc, by unfold maxLen at hcm; omega, (fun h => by cases h), fun i hi => ⟨g, 0, rfl, ?_⟩⟩
    rw [Nat.zero_add, World.ownsRow.cellAt h i (by omega), byteVals_get l i hi]
theorem OwnBytes.nil (w : World) (base : Nat) : OwnBytes w base (.slice none 0 0) [] := World.ownsRow_nil _ _ _ _
theorem OwnBytes.empty (w : World) (base : Nat) (hb : base ≤ w.heap.size) : OwnBytes (w.alloc (.cells #[] 5)) base (.slice (some ⟨w.heap.size, 0, none⟩) 0 0) [] :=
  World.ownsRow_lit w #[] 0 hb (by decide) rfl
theorem OwnBytes.alloc {w : World} {base : Nat} {v : Value} {l : List UInt8} (h : OwnBytes w base v l) (o : Obj) : OwnBytes (w.alloc o) base v l := World.ownsRow.alloc h o
theorem OwnBytes.drew {w : World} {base : Nat} {v : Value} {l : List UInt8} (h : OwnBytes w base v l) : OwnBytes w.drew base v l := World.ownsRow.drew h
theorem OwnBytes.kept {w w' : World} {base : Nat} {v : Value} {l : List UInt8} {row : Option Nat} (h : OwnBytes w base v l) (hg : w.grownBy w' row) (hne : v.ownBlock = none ∨ v.ownBlock ≠ row) : OwnBytes w' base v l := World.ownsRow.kept h hg hne
theorem OwnBytes.keptBelow {w w' : World} {base B : Nat} {v : Value} {l : List UInt8} (h : OwnBytes w base v l) (hb : Below B w w') (hB : ∀ k, v.ownBlock = some k → k < B) : OwnBytes w' base v l := by
  refine ⟨h.1, ?_⟩
  rcases h.2 with hn | ⟨g, cap, cur, rfl, hbb, hgg, rest⟩
  · exact .inl hn
  · exact .inr ⟨g, cap, cur, rfl, hbb, by rw [hb.block g (hB g rfl)]; exact hgg, rest⟩
theorem OwnBytes.lt {w : World} {base : Nat} {v : Value} {l : List UInt8} (h : OwnBytes w base v l) : ∀ k, v.ownBlock = some k → base ≤ k ∧ k < w.heap.size := World.ownsRow.lt h
theorem Try.info5 : (Try.prog.info? 5).map (fun i => (i.zero, i.size, i.bytes)) = some (some (.int .u8 0), 1, 1) := by kernel_rfl
theorem byteVals_oneCell (l : List UInt8) : ∀ u ∈ byteVals l, u.oneCell' = true := by
  intro u hu
  obtain ⟨_, _, rfl⟩ := List.mem_map.1 hu
  rfl
/-- The block of a row behind an append: the one of before, or a new one. -/
def NewOrSame (w : World) (v v' : Value) : Prop := v'.ownBlock = v.ownBlock ∨ ∃ k, v'.ownBlock = some k ∧ w.heap.size ≤ k
/-- A source of an append: m elements, the cells news; nil where it has no array. -/
def Src (w : World) (u : Value) (m : Nat) (news : List Value) : Prop :=
  ∃ a c, u = .slice a m c ∧ (a = none → c = 0 ∧ m = 0) ∧ ∀ ad, a = some ad → ∀ j y, news[j]? = some y → w.cell? (ad.add j) = some y
theorem run_append_src {P : Program} (w : World) (base : Nat) (t ty e : TypeId) (i : TypeInfo) (z : Value) (size bytes : Nat) (ht : P.underlying t = some (.slice e)) (hi : P.info? e = some i) (hz : i.zero = some z)
    (hsize : i.size = size) (hby : i.bytes = bytes) (hzs : z.cells.size = size) (hsz : 0 < size)
    (v : Value) (n : Nat) (xs : List Value) (hown : w.ownsRow base e size v n xs)
    (u : Value) (m : Nat) (news : List Value) (hl : news.length = m * size) (hsrc : Src w u m news) (h1 : ∀ u ∈ news, u.oneCell' = true)
    (h63 : n + m ≤ maxLen) (hbytes : (n + m) * bytes ≤ 140737488355328) (hbase : base ≤ w.heap.size) :
    ∃ v' w', (Builtin.append_ #[t, t] ty #[v, u]).run P w = .ok v' w' ∧ w'.ownsRow base e size v' (n + m) (xs ++ news) ∧ w.grownBy w' v.ownBlock ∧ NewOrSame w v v' := by
  obtain ⟨ao, c, rfl, hnone, hcells⟩ := hsrc
  cases ao with
  | none =>
    obtain ⟨rfl, rfl⟩ := hnone rfl
    obtain rfl : news = [] := List.eq_nil_of_length_eq_zero (by simpa using hl)
    exact ⟨v, w, run_append_owned_none (P := P) w base t ty e i size ht hi v n xs hown, by simpa using hown, World.grownBy.refl _ _, .inl rfl⟩
  | some ad =>
    have hn := hcells ad rfl
    rcases hown.2 with ⟨rfl, rfl⟩ | ⟨g, cap, cur, rfl, hbg, hg, hnc, hcm, hcs, htake⟩
    · by_cases hm : m = 0
      · subst hm
        obtain ⟨v', w', hr, h2, h3, h4⟩ := run_append_own (P := P) w base t ty e i z size bytes ht hi hz hsize hby hzs hsz _ _ xs hown ad 0 c news hl hn h1 h63 hbytes hbase
        have : v' = .slice none 0 0 := h4.2 ⟨rfl, rfl⟩
        exact ⟨v', w', hr, h2, h3, .inl (by rw [this])⟩
      · obtain ⟨v', w', hr, h2, h3, h4⟩ := run_append_own (P := P) w w.heap.size t ty e i z size bytes ht hi hz hsize hby hzs hsz _ _ xs ⟨hown.1, .inl ⟨rfl, rfl⟩⟩ ad m c news hl hn h1 h63 hbytes (Nat.le_refl _)
        refine ⟨v', w', hr, ⟨h2.1, ?_⟩, h3, ?_⟩
        · rcases h2.2 with h | ⟨g, cap, cur, hv, hb, rest⟩
          · exact .inl h
          · exact .inr ⟨g, cap, cur, hv, Nat.le_trans hbase hb, rest⟩
        · rcases h2.2 with ⟨h, _⟩ | ⟨g, cap, cur, hv, hb, rest⟩
          · exact .inl (by rw [h])
          · exact .inr ⟨g, by rw [hv]; rfl, hb⟩
    · by_cases hroom : n + m ≤ cap
      · obtain ⟨w', hr, h2, h3⟩ := run_append_fits (P := P) w base t ty e i size ht hi hsize g n cap xs hown ad m c news hl hn h1 hroom
        exact ⟨_, w', hr, h2, h3, .inl rfl⟩
      · subst hsize; subst hby
        have holds : ∀ j u, xs[j]? = some u → w.cell? ((⟨g, 0, none⟩ : Addr).add j) = some u := hown.cells (g := g) rfl
        have hr := run_append_grow (P := P) w t ty e i z ht hi hz ⟨g, 0, none⟩ n cap xs hown.1 holds ad m c news hl hn (by omega) (by unfold maxLen at h63; omega) (growslice_fits (by omega) hbytes)
        obtain ⟨v', w', hr', h2, h3, _⟩ := run_append_own (P := P) w base t ty e i z i.size i.bytes ht hi hz rfl rfl hzs hsz _ _ xs hown ad m c news hl hn h1 h63 hbytes hbase
        rw [hr] at hr'
        simp only [Result.ok.injEq] at hr'
        obtain ⟨rfl, rfl⟩ := hr'
        exact ⟨_, _, hr, h2, h3, .inr ⟨w.heap.size, rfl, Nat.le_refl _⟩⟩
theorem wpList_append_src {P : Program} (w : World) {ops : Array Oper} {rest : List Oper} {o : Oper} {a : Act} {Q : Exit → Act → World → Prop}
    (hg : o.guard = none) (s x : Operand) (t : TypeId) (hop : o.op = Op.call { callee := Callee.builtin Builtin.append, args := #[s, x], argTypes := #[t, t] })
    (base : Nat) (e : TypeId) (i : TypeInfo) (z : Value) (size bytes : Nat) (ht : P.underlying t = some (.slice e)) (hi : P.info? e = some i) (hz : i.zero = some z)
    (hsize : i.size = size) (hby : i.bytes = bytes) (hzs : z.cells.size = size) (hsz : 0 < size)
    (v u : Value) (hs : a.eval s = v) (hx : a.eval x = u) (n : Nat) (xs : List Value) (hown : w.ownsRow base e size v n xs) (m : Nat) (news : List Value) (hl : news.length = m * size) (hsrc : Src w u m news) (h1 : ∀ u ∈ news, u.oneCell' = true)
    (h63 : n + m ≤ maxLen) (hbytes : (n + m) * bytes ≤ 140737488355328) (hbase : base ≤ w.heap.size)
    (hK : ∀ v' w', w'.ownsRow base e size v' (n + m) (xs ++ news) → w.grownBy w' v.ownBlock → NewOrSame w v v' → wpList P ops Q rest (a.put o.dst v') w') :
    wpList P ops Q (o :: rest) a w := by
  refine wpList_plain hg fun K hK' => ?_
  obtain ⟨v', w', hrun, r1, r2, r3⟩ := run_append_src (P := P) w base t o.type e i z size bytes ht hi hz hsize hby hzs hsz v n xs hown u m news hl hsrc h1 h63 hbytes hbase
  unfold Oper.wp
  simp [execOp, hop, resolve, invoke, builtin, hs, hx, hrun, Result.andThen]
  exact hK' _ _ (hK _ _ r1 r2 r3)
theorem step_append_src {P : Program} {ops : Array Oper} {o : Oper} {a : Act} {w : World} {K : Act → World → Prop} {Q : Exit → Act → World → Prop} {E : Prop}
    (hg : o.guard = none) (s x : Operand) (t : TypeId) (hop : o.op = Op.call { callee := Callee.builtin Builtin.append, args := #[s, x], argTypes := #[t, t] })
    (base : Nat) (e : TypeId) (i : TypeInfo) (z : Value) (size bytes : Nat) (ht : P.underlying t = some (.slice e)) (hi : P.info? e = some i) (hz : i.zero = some z)
    (hsize : i.size = size) (hby : i.bytes = bytes) (hzs : z.cells.size = size) (hsz : 0 < size)
    (v u : Value) (hs : a.eval s = v) (hx : a.eval x = u) (n : Nat) (xs : List Value) (hown : w.ownsRow base e size v n xs) (m : Nat) (news : List Value) (hl : news.length = m * size) (hsrc : Src w u m news) (h1 : ∀ u ∈ news, u.oneCell' = true)
    (h63 : n + m ≤ maxLen) (hbytes : (n + m) * bytes ≤ 140737488355328) (hbase : base ≤ w.heap.size)
    (hK : ∀ v' w', w'.ownsRow base e size v' (n + m) (xs ++ news) → w.grownBy w' v.ownBlock → NewOrSame w v v' → K (a.put o.dst v') w') :
    if Region.wanted o (yielded ops a.tmps) = true then Oper.wp P o a w K Q else E := by
  have hw : Region.wanted o (yielded ops a.tmps) = true := by simp [Region.wanted, hg]
  rw [if_pos hw]
  obtain ⟨v', w', hrun, r1, r2, r3⟩ := run_append_src (P := P) w base t o.type e i z size bytes ht hi hz hsize hby hzs hsz v n xs hown u m news hl hsrc h1 h63 hbytes hbase
  unfold Oper.wp
  simp [execOp, hop, resolve, invoke, builtin, hs, hx, hrun, Result.andThen]
  exact hK _ _ r1 r2 r3
/-- What an append to a slice without capacity leaves: nothing was appended, and the slice is what it was; or a new row. -/
structure FreshRow (e : TypeId) (size : Nat) (w w' : World) (v v' : Value) (m : Nat) (news : List Value) : Prop where
  grown : w.grownBy w' none
  own : (m = 0 ∧ v' = v) ∨ (0 < m ∧ w'.ownsRow w.heap.size e size v' m news ∧ ∃ g cap, v' = .slice (some ⟨g, 0, none⟩) m cap ∧ w.heap.size ≤ g ∧ g < w'.heap.size)
theorem run_append_empty {P : Program} (w : World) (t ty e : TypeId) (i : TypeInfo) (z : Value) (size bytes : Nat) (ht : P.underlying t = some (.slice e)) (hi : P.info? e = some i) (hz : i.zero = some z)
    (hsize : i.size = size) (hby : i.bytes = bytes) (hzs : z.cells.size = size) (hsz : 0 < size)
    (a0 : Option Addr) (u : Value) (m : Nat) (news : List Value) (hl : news.length = m * size) (hsrc : Src w u m news) (h1 : ∀ u ∈ news, u.oneCell' = true)
    (h63 : m ≤ maxLen) (hbytes : m * bytes ≤ 140737488355328) :
    ∃ v' w', (Builtin.append_ #[t, t] ty #[.slice a0 0 0, u]).run P w = .ok v' w' ∧ FreshRow e size w w' (.slice a0 0 0) v' m news := by
  obtain ⟨ao, c, rfl, hnone, hcells⟩ := hsrc
  by_cases hm : m = 0
  · subst hm
    obtain rfl : news = [] := List.eq_nil_of_length_eq_zero (by simpa using hl)
    refine ⟨.slice a0 0 0, w, ?_, World.grownBy.refl _ _, .inl ⟨rfl, rfl⟩⟩
    cases ao with
    | none => cases a0 <;> simp [Builtin.append_, run_underlying ht, sizeOf, typeInfo, hi, Builtin.lenOf, Builtin.firstCells, storeCells]
    | some ad => cases a0 <;> simp [Builtin.append_, run_underlying ht, sizeOf, typeInfo, hi, Builtin.lenOf, Builtin.firstCells, storeCells, loadCells, loadCellsFrom]
  · cases ao with
    | none => exact absurd (hnone rfl).2 hm
    | some ad =>
      have hn := hcells ad rfl
      cases a0 with
      | none =>
        obtain ⟨v', w', hr, h2, h3, h4⟩ := run_append_own (P := P) w w.heap.size t ty e i z size bytes ht hi hz hsize hby hzs hsz _ 0 [] (World.ownsRow_nil w _ e size) ad m c news hl hn h1 (by omega) (by simpa using hbytes) (Nat.le_refl _)
        rw [Nat.zero_add, List.nil_append] at h2
        refine ⟨v', w', hr, h3, .inr ⟨by omega, h2, ?_⟩⟩
        obtain ⟨g, cap, h5, h6, h7⟩ : ∃ g cap, v' = .slice (some ⟨g, 0, none⟩) m cap ∧ w.heap.size ≤ g ∧ g < w'.heap.size := by
          rcases h2.2 with ⟨_, h0⟩ | ⟨g, cap, cur, h5, h6, h7, _⟩
          · omega
          · exact ⟨g, cap, h5, h6, (Array.getElem?_eq_some_iff.1 h7).1⟩
        exact ⟨g, cap, h5, h6, h7⟩
      | some a1 =>
        subst hsize; subst hby
        have hr := run_append_grow (P := P) w t ty e i z ht hi hz a1 0 0 [] (by simp) (by simp) ad m c news hl hn (by omega) (by unfold maxLen at h63; omega) (growslice_fits (by omega) (by simpa using hbytes))
        obtain ⟨v', w', hr', h2, h3, h4⟩ := run_append_own (P := P) w w.heap.size t ty e i z i.size i.bytes ht hi hz rfl rfl hzs hsz _ 0 [] (World.ownsRow_nil w _ e i.size) ad m c news hl hn h1 (by omega) (by simpa using hbytes) (Nat.le_refl _)
        have hr2 := run_append_nil (P := P) w t ty e i z ht hi hz ad m c news hl hn (by omega) (by unfold maxLen at h63; omega) (by omega)
        rw [hr2] at hr'
        simp only [Result.ok.injEq] at hr'
        obtain ⟨rfl, rfl⟩ := hr'
        rw [Nat.zero_add, List.nil_append] at h2
        simp only [Nat.zero_add, Array.empty_append] at hr
        refine ⟨_, _, hr, h3, .inr ⟨by omega, h2, _, _, rfl, Nat.le_refl _, by simp⟩⟩
theorem wpList_append_empty {P : Program} (w : World) {ops : Array Oper} {rest : List Oper} {o : Oper} {a : Act} {Q : Exit → Act → World → Prop}
    (hg : o.guard = none) (s x : Operand) (t : TypeId) (hop : o.op = Op.call { callee := Callee.builtin Builtin.append, args := #[s, x], argTypes := #[t, t] })
    (e : TypeId) (i : TypeInfo) (z : Value) (size bytes : Nat) (ht : P.underlying t = some (.slice e)) (hi : P.info? e = some i) (hz : i.zero = some z)
    (hsize : i.size = size) (hby : i.bytes = bytes) (hzs : z.cells.size = size) (hsz : 0 < size)
    (a0 : Option Addr) (u : Value) (hs : a.eval s = .slice a0 0 0) (hx : a.eval x = u) (m : Nat) (news : List Value) (hl : news.length = m * size) (hsrc : Src w u m news) (h1 : ∀ u ∈ news, u.oneCell' = true)
    (h63 : m ≤ maxLen) (hbytes : m * bytes ≤ 140737488355328)
    (hK : ∀ v' w', FreshRow e size w w' (.slice a0 0 0) v' m news → wpList P ops Q rest (a.put o.dst v') w') :
    wpList P ops Q (o :: rest) a w := by
  refine wpList_plain hg fun K hK' => ?_
  obtain ⟨v', w', hrun, r1⟩ := run_append_empty (P := P) w t o.type e i z size bytes ht hi hz hsize hby hzs hsz a0 u m news hl hsrc h1 h63 hbytes
  unfold Oper.wp
  simp [execOp, hop, resolve, invoke, builtin, hs, hx, hrun, Result.andThen]
  exact hK' _ _ (hK _ _ r1)
theorem step_append_empty {P : Program} {ops : Array Oper} {o : Oper} {a : Act} {w : World} {K : Act → World → Prop} {Q : Exit → Act → World → Prop} {E : Prop}
    (hg : o.guard = none) (s x : Operand) (t : TypeId) (hop : o.op = Op.call { callee := Callee.builtin Builtin.append, args := #[s, x], argTypes := #[t, t] })
    (e : TypeId) (i : TypeInfo) (z : Value) (size bytes : Nat) (ht : P.underlying t = some (.slice e)) (hi : P.info? e = some i) (hz : i.zero = some z)
    (hsize : i.size = size) (hby : i.bytes = bytes) (hzs : z.cells.size = size) (hsz : 0 < size)
    (a0 : Option Addr) (u : Value) (hs : a.eval s = .slice a0 0 0) (hx : a.eval x = u) (m : Nat) (news : List Value) (hl : news.length = m * size) (hsrc : Src w u m news) (h1 : ∀ u ∈ news, u.oneCell' = true)
    (h63 : m ≤ maxLen) (hbytes : m * bytes ≤ 140737488355328)
    (hK : ∀ v' w', FreshRow e size w w' (.slice a0 0 0) v' m news → K (a.put o.dst v') w') :
    if Region.wanted o (yielded ops a.tmps) = true then Oper.wp P o a w K Q else E := by
  have hw : Region.wanted o (yielded ops a.tmps) = true := by simp [Region.wanted, hg]
  rw [if_pos hw]
  obtain ⟨v', w', hrun, r1⟩ := run_append_empty (P := P) w t o.type e i z size bytes ht hi hz hsize hby hzs hsz a0 u m news hl hsrc h1 h63 hbytes
  unfold Oper.wp
  simp [execOp, hop, resolve, invoke, builtin, hs, hx, hrun, Result.andThen]
  exact hK _ _ r1
theorem Bytes.src {w : World} {u : Value} {m : List UInt8} (h : Bytes w u m) : Src w u m.length (byteVals m) := by
  obtain ⟨a, cap, rfl, hl, hm, hn, hc⟩ := h
  refine ⟨a, cap, rfl, fun h => ⟨hn h, by have := hn h; omega⟩, fun ad had j y hu => ?_⟩
  have hj : j < m.length := by
    have := (List.getElem?_eq_some_iff.1 hu).1
    simpa [byteVals] using this
  obtain ⟨b, o, he, hcell⟩ := hc j hj
  obtain rfl := Option.some.inj (had.symm.trans he)
  rw [Addr.add_lit, hcell, ← byteVals_get m j hj, hu]
theorem wpList_append_bytes (w : World) {ops : Array Oper} {rest : List Oper} {o : Oper} {a : Act} {Q : Exit → Act → World → Prop}
    (hg : o.guard = none) (s x : Operand) (t : TypeId) (hop : o.op = Op.call { callee := Callee.builtin Builtin.append, args := #[s, x], argTypes := #[t, t] })
    (ht : Try.prog.underlying t = some (.slice 5)) (base : Nat) (v u : Value) (hs : a.eval s = v) (hx : a.eval x = u) (l m : List UInt8) (hown : OwnBytes w base v l) (hb : Bytes w u m)
    (hlen : l.length + m.length ≤ 140737488355328) (hbase : base ≤ w.heap.size)
    (hK : ∀ v' w', OwnBytes w' base v' (l ++ m) → w.grownBy w' v.ownBlock → NewOrSame w v v' → wpList Try.prog ops Q rest (a.put o.dst v') w') :
    wpList Try.prog ops Q (o :: rest) a w := by
  obtain ⟨i0, hi, hz0, hz1, hz2⟩ := info_parts Try.info5
  exact wpList_append_src w hg s x t hop base 5 i0 _ 1 1 ht hi hz0 hz1 hz2 rfl (by decide) v u hs hx l.length (byteVals l) hown m.length (byteVals m) (by simp [byteVals_length]) hb.src (byteVals_oneCell m) (by unfold maxLen; omega) (by omega) hbase
    (fun v' w' h1 h2 h3 => hK v' w' (by unfold OwnBytes; rw [List.length_append, byteVals_append]; exact h1) h2 h3)
theorem step_append_bytes {ops : Array Oper} {o : Oper} {a : Act} {w : World} {K : Act → World → Prop} {Q : Exit → Act → World → Prop} {E : Prop}
    (hg : o.guard = none) (s x : Operand) (t : TypeId) (hop : o.op = Op.call { callee := Callee.builtin Builtin.append, args := #[s, x], argTypes := #[t, t] })
    (ht : Try.prog.underlying t = some (.slice 5)) (base : Nat) (v u : Value) (hs : a.eval s = v) (hx : a.eval x = u) (l m : List UInt8) (hown : OwnBytes w base v l) (hb : Bytes w u m)
    (hlen : l.length + m.length ≤ 140737488355328) (hbase : base ≤ w.heap.size)
    (hK : ∀ v' w', OwnBytes w' base v' (l ++ m) → w.grownBy w' v.ownBlock → NewOrSame w v v' → K (a.put o.dst v') w') :
    if Region.wanted o (yielded ops a.tmps) = true then Oper.wp Try.prog o a w K Q else E := by
  obtain ⟨i0, hi, hz0, hz1, hz2⟩ := info_parts Try.info5
  exact step_append_src hg s x t hop base 5 i0 _ 1 1 ht hi hz0 hz1 hz2 rfl (by decide) v u hs hx l.length (byteVals l) hown m.length (byteVals m) (by simp [byteVals_length]) hb.src (byteVals_oneCell m) (by unfold maxLen; omega) (by omega) hbase
    (fun v' w' h1 h2 h3 => hK v' w' (by unfold OwnBytes; rw [List.length_append, byteVals_append]; exact h1) h2 h3)
/-- What an append of bytes to a slice without capacity leaves. -/
structure FreshBytes (w w' : World) (v v' : Value) (m : List UInt8) : Prop where
  grown : w.grownBy w' none
  own : (m = [] ∧ v' = v) ∨ (0 < m.length ∧ OwnBytes w' w.heap.size v' m ∧ ∃ g cap, v' = .slice (some ⟨g, 0, none⟩) m.length cap ∧ w.heap.size ≤ g ∧ g < w'.heap.size)
theorem FreshRow.toBytes {w w' : World} {v v' : Value} {m : List UInt8} (h : FreshRow 5 1 w w' v v' m.length (byteVals m)) : FreshBytes w w' v v' m :=
  ⟨h.grown, h.own.imp (fun h => ⟨List.eq_nil_of_length_eq_zero h.1, h.2⟩) id⟩
theorem FreshBytes.below {w w' : World} {v v' : Value} {m : List UInt8} (h : FreshBytes w w' v v' m) : Below w.heap.size w w' :=
  ⟨h.grown.os, h.grown.tape, h.grown.output, h.grown.size, fun k hk => h.grown.block k hk (by simp)⟩
theorem FreshBytes.bytes {w w' : World} {a0 : Option Addr} {v' : Value} {m : List UInt8} (h : FreshBytes w w' (.slice a0 0 0) v' m) : Bytes w' v' m := by
  rcases h.own with ⟨rfl, rfl⟩ | ⟨_, h, _⟩
  · exact ⟨a0, 0, rfl, by simp, by simp, fun _ => rfl, fun i hi => absurd hi (by simp)⟩
  · exact h.bytes
theorem wpList_append_empty_bytes (w : World) {ops : Array Oper} {rest : List Oper} {o : Oper} {a : Act} {Q : Exit → Act → World → Prop}
    (hg : o.guard = none) (s x : Operand) (t : TypeId) (hop : o.op = Op.call { callee := Callee.builtin Builtin.append, args := #[s, x], argTypes := #[t, t] })
    (ht : Try.prog.underlying t = some (.slice 5)) (a0 : Option Addr) (u : Value) (hs : a.eval s = .slice a0 0 0) (hx : a.eval x = u) (m : List UInt8) (hb : Bytes w u m) (hlen : m.length ≤ 140737488355328)
    (hK : ∀ v' w', FreshBytes w w' (.slice a0 0 0) v' m → wpList Try.prog ops Q rest (a.put o.dst v') w') :
    wpList Try.prog ops Q (o :: rest) a w := by
  obtain ⟨i0, hi, hz0, hz1, hz2⟩ := info_parts Try.info5
  exact wpList_append_empty w hg s x t hop 5 i0 _ 1 1 ht hi hz0 hz1 hz2 rfl (by decide) a0 u hs hx m.length (byteVals m) (by simp [byteVals_length]) hb.src (byteVals_oneCell m) (by unfold maxLen; omega) (by omega)
    (fun v' w' h => hK v' w' h.toBytes)
theorem step_append_empty_bytes {ops : Array Oper} {o : Oper} {a : Act} {w : World} {K : Act → World → Prop} {Q : Exit → Act → World → Prop} {E : Prop}
    (hg : o.guard = none) (s x : Operand) (t : TypeId) (hop : o.op = Op.call { callee := Callee.builtin Builtin.append, args := #[s, x], argTypes := #[t, t] })
    (ht : Try.prog.underlying t = some (.slice 5)) (a0 : Option Addr) (u : Value) (hs : a.eval s = .slice a0 0 0) (hx : a.eval x = u) (m : List UInt8) (hb : Bytes w u m) (hlen : m.length ≤ 140737488355328)
    (hK : ∀ v' w', FreshBytes w w' (.slice a0 0 0) v' m → K (a.put o.dst v') w') :
    if Region.wanted o (yielded ops a.tmps) = true then Oper.wp Try.prog o a w K Q else E := by
  obtain ⟨i0, hi, hz0, hz1, hz2⟩ := info_parts Try.info5
  exact step_append_empty hg s x t hop 5 i0 _ 1 1 ht hi hz0 hz1 hz2 rfl (by decide) a0 u hs hx m.length (byteVals m) (by simp [byteVals_length]) hb.src (byteVals_oneCell m) (by unfold maxLen; omega) (by omega)
    (fun v' w' h => hK v' w' h.toBytes)
theorem Bytes.sliced {w : World} {a : Option Addr} {n cap : Nat} {l : List UInt8} (h : Bytes w (.slice a n cap) l) (lo hi : Nat) (h1 : lo ≤ hi) (h2 : hi ≤ l.length) (u : Value) (hu : u = Go.sliced a lo hi cap 1) :
    Bytes w u ((l.take hi).drop lo) := by
  obtain ⟨a', cap', he, hl, hm, hn, hc⟩ := h
  simp only [Value.slice.injEq] at he
  obtain ⟨rfl, rfl, rfl⟩ := he
  subst hu
  have hlen : ((l.take hi).drop lo).length = hi - lo := by simp; omega
  refine ⟨if cap = lo then a else a.map (·.add (lo * 1)), cap - lo, by rw [hlen]; rfl, by omega, by omega, ?_, ?_⟩
  · intro hh
    split at hh
    · omega
    · have := hn (by simpa using hh); omega
  · intro i hi'
    rw [hlen] at hi'
    obtain ⟨b, o, rfl, hcell⟩ := hc (lo + i) (by omega)
    refine ⟨b, o + lo, ?_, ?_⟩
    · rw [if_neg (by omega)]; simp [Addr.add_lit]
    · rw [Nat.add_assoc, hcell]; simp
theorem Bytes.take {w : World} {a : Option Addr} {k cap : Nat} {l : List UInt8} (h : Bytes w (.slice a k cap) l) (n : Nat) (hn : n ≤ l.length) : Bytes w (.slice a n cap) (l.take n) := by
  obtain ⟨a', cap', he, hl, hm, hnil, hc⟩ := h
  simp only [Value.slice.injEq] at he
  obtain ⟨rfl, rfl, rfl⟩ := he
  have hlen : (l.take n).length = n := by simp; omega
  refine ⟨a, cap, by rw [hlen], by omega, hm, hnil, fun i hi => ?_⟩
  obtain ⟨b, o, he, hcell⟩ := hc i (by omega)
  exact ⟨b, o, he, by rw [hcell]; simp⟩
theorem OwnBytes.le {w : World} {base base' : Nat} {v : Value} {l : List UInt8} (h : OwnBytes w base v l) (hb : base' ≤ base) : OwnBytes w base' v l :=
  ⟨h.1, h.2.elim Or.inl (fun ⟨g, cap, cur, hv, hg, r⟩ => Or.inr ⟨g, cap, cur, hv, Nat.le_trans hb hg, r⟩)⟩
theorem OwnBytes.cell {w : World} {base g n cap : Nat} {l : List UInt8} (h : OwnBytes w base (.slice (some ⟨g, 0, none⟩) n cap) l) (hn : n = l.length) (i : Nat) (hi : i < l.length) : w.cell? ⟨g, i, none⟩ = some (.int .u8 l[i].toNat) := by
  subst hn
  rw [World.ownsRow.cellAt h i (by omega), byteVals_get l i hi]
theorem OwnBytes.frozen {w : World} {base g n cap : Nat} {l : List UInt8} (h : OwnBytes w base (.slice (some ⟨g, 0, none⟩) n cap) l) (hn : n = l.length) (i : Nat) : w.frozen? ⟨g, i, none⟩ = false := by
  subst hn
  exact World.ownsRow.frozenAt h i
theorem OwnBytes.set {w : World} {base g n cap : Nat} {l : List UInt8} (h : OwnBytes w base (.slice (some ⟨g, 0, none⟩) n cap) l) (hn : n = l.length) (k : Nat) (b : UInt8) (u : Value) (hu : u = .int .u8 b.toNat) :
    OwnBytes (w.setCell ⟨g, k, none⟩ u) base (.slice (some ⟨g, 0, none⟩) n cap) (l.set k b) := by
  subst hn; subst hu
  have := (World.ownsRow.stored h k (.int .u8 b.toNat)).1
  unfold OwnBytes
  rw [List.length_set, byteVals, List.map_set]
  exact this
theorem OwnBytes.other {w : World} {base : Nat} {v : Value} {l : List UInt8} (h : OwnBytes w base v l) (a : Addr) (hne : v.ownBlock ≠ some a.block) (u : Value) : OwnBytes (w.setCell a u) base v l :=
  h.kept (row := some a.block) ⟨rfl, rfl, rfl, by simp [World.setCell], fun k _ hk => Below.heap_setCell w a u k (fun e => hk (by rw [e]))⟩ (Or.inr hne)
/-- Two rows that the call has made, apart from each other. -/
def Two (w0 wc : World) (x y : Value) (l m : List UInt8) : Prop :=
  Bytes wc x l ∧ Bytes wc y m ∧ (0 < l.length → ∃ gx cx gy cy, x = .slice (some ⟨gx, 0, none⟩) l.length cx ∧ y = .slice (some ⟨gy, 0, none⟩) m.length cy ∧ gx ≠ gy ∧ w0.heap.size ≤ gx ∧ w0.heap.size ≤ gy ∧
    OwnBytes wc w0.heap.size x l ∧ OwnBytes wc w0.heap.size y m) ∧ Below w0.heap.size w0 wc
theorem two_of {w0 W1 w2 W2 w3 : World} {a0 a1 : Option Addr} {x y : Value} {l m : List UInt8} (hlm : l.length = m.length) (b1 : Below w0.heap.size w0 W1) (f1 : FreshBytes W1 w2 (.slice a0 0 0) x l) (b2 : Below w2.heap.size w2 W2)
    (f2 : FreshBytes W2 w3 (.slice a1 0 0) y m) : Two w0 w3 x y l m := by
  have s1 := b1.size
  have s2 := f1.grown.size
  have s3 := b2.size
  have s4 := f2.grown.size
  have b3 : Below w2.heap.size w2 w3 := b2.trans (f2.below.mono s3)
  refine ⟨f1.bytes.below b3 (Nat.le_refl _), f2.bytes, fun hpos => ?_, b1.trans ((f1.below.mono s1).trans (b3.mono (by omega)))⟩
  rcases f1.own with ⟨rfl, _⟩ | ⟨_, o1, gx, cx, rfl, h1, h1'⟩
  · simp at hpos
  rcases f2.own with ⟨rfl, _⟩ | ⟨_, o2, gy, cy, rfl, h2, h2'⟩
  · exact absurd hlm (by simp only [List.length_nil]; omega)
  refine ⟨gx, cx, gy, cy, rfl, rfl, by omega, by omega, by omega, ?_, o2.le (by omega)⟩
  exact (o1.keptBelow b3 (fun k hk => (o1.lt k hk).2)).le (by omega)
theorem ret_int {k : IntKind} {a b : Int} (h : a = b) : Ending.returned (.int k a) = .returned (.int k b) := by rw [h]

def bit (n i : Nat) : Nat := (n.testBit i).toNat
def bitVals (N m : Nat) : List Value := (List.range m).map fun i => .int .i64 (bit N i : Nat)
theorem bitVals_succ (N m : Nat) : bitVals N m ++ [.int .i64 (bit N m : Nat)] = bitVals N (m + 1) := by
  simp [bitVals, List.range_succ]
theorem bitVals_length (N m : Nat) : (bitVals N m).length = m := by simp [bitVals]
theorem bitVals_get (N m i : Nat) (h : i < m) : (bitVals N m)[i]? = some (.int .i64 (bit N i : Nat)) := by
  simp [bitVals, h]
theorem bit_le (N i : Nat) : bit N i ≤ 1 := by unfold bit; cases N.testBit i <;> simp

structure BitRow (w : World) (g N m : Nat) : Prop where
  cell : ∀ i, i < m → w.cell? ⟨g, i, none⟩ = some (.int .i64 (bit N i : Nat))
  frozen : ∀ i, w.frozen? ⟨g, i, none⟩ = false

theorem BitRow.alloc {w : World} {g N m : Nat} (h : BitRow w g N m) (hg : g < w.heap.size) (o : Obj) : BitRow (w.alloc o) g N m :=
  ⟨fun i hi => (World.cell?_of_block (w := w) (Below.heap_alloc w o g hg)).trans (h.cell i hi), fun i => (World.frozen?_of_block (w := w) (Below.heap_alloc w o g hg)).trans (h.frozen i)⟩
theorem BitRow.drew {w : World} {g N m : Nat} (h : BitRow w g N m) : BitRow w.drew g N m := ⟨h.cell, h.frozen⟩
theorem BitRow.other {w : World} {g N m : Nat} (h : BitRow w g N m) (a : Addr) (hne : g ≠ a.block) (u : Value) : BitRow (w.setCell a u) g N m :=
  ⟨fun i hi => (World.cell?_of_block (w := w) (Below.heap_setCell w a u g hne)).trans (h.cell i hi), fun i => (World.frozen?_of_block (w := w) (Below.heap_setCell w a u g hne)).trans (h.frozen i)⟩
theorem setCell_frozen (w : World) (p q : Addr) (u : Value) : (w.setCell p u).frozen? q = w.frozen? q := by
  unfold World.frozen? World.setCell
  simp only [Array.getElem?_modify]
  by_cases h : p.block = q.block
  · rw [if_pos h]
    cases w.heap[q.block]? with
    | none => rfl
    | some o => cases o <;> rfl
  · rw [if_neg h]
theorem setCell_cell_ne (w : World) (g i j : Nat) (u : Value) (h : j ≠ i) : (w.setCell ⟨g, i, none⟩ u).cell? ⟨g, j, none⟩ = w.cell? ⟨g, j, none⟩ := by
  unfold World.cell? World.setCell
  simp only [Array.getElem?_modify, if_true]
  cases hh : w.heap[g]? with
  | none => rfl
  | some o => cases o <;> simp [Ne.symm h]
theorem setCell_cell_eq (w : World) (g i : Nat) (u v : Value) (h : w.cell? ⟨g, i, none⟩ = some v) : (w.setCell ⟨g, i, none⟩ u).cell? ⟨g, i, none⟩ = some u := by
  unfold World.cell? World.setCell at *
  simp only [Array.getElem?_modify, if_true]
  cases hh : w.heap[g]? with
  | none => simp [hh] at h
  | some o =>
    cases o with
    | cells c e f =>
      simp only [hh] at h
      have : i < c.size := by
        simp at h
        exact (Array.getElem?_eq_some_iff.1 h).1
      simp [this]
    | _ => simp [hh] at h
theorem BitRow.set {w : World} {g N m : Nat} (h : BitRow w g N m) (k : Nat) (hk : k < m) (N' : Nat) (u : Value) (hu : u = .int .i64 (bit N' k : Nat)) (hN : ∀ i, i ≠ k → N'.testBit i = N.testBit i) :
    BitRow (w.setCell ⟨g, k, none⟩ u) g N' m := by
  refine ⟨fun i hi => ?_, fun i => (setCell_frozen ..).trans (h.frozen i)⟩
  by_cases hik : i = k
  · subst hik; rw [setCell_cell_eq w g i u _ (h.cell i hi), hu]
  · rw [setCell_cell_ne w g k i u hik, h.cell i hi]
    simp [bit, hN i hik]
theorem BitRow.of_owns {w : World} {base g N m cap : Nat} (h : w.ownsRow base 3 1 (.slice (some ⟨g, 0, none⟩) m cap) m (bitVals N m)) : BitRow w g N m :=
  ⟨fun i hi => by rw [h.cellAt i (by omega), bitVals_get N m i hi], fun i => h.frozenAt i⟩
theorem owns_some {w : World} {base e size n : Nat} {v : Value} {xs : List Value} (h : w.ownsRow base e size v n xs) (hn : 0 < n) :
    ∃ g cap, v = .slice (some ⟨g, 0, none⟩) n cap ∧ base ≤ g ∧ g < w.heap.size := by
  rcases h.2 with ⟨_, h0⟩ | ⟨g, cap, cur, rfl, hb, hg, _⟩
  · omega
  · exact ⟨g, cap, rfl, hb, (Array.getElem?_eq_some_iff.1 hg).1⟩
end Go.Proofs.Ytobdjfibaemmhaa
