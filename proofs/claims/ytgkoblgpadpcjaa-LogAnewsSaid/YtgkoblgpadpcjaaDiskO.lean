/- The acts on a disk that came in, opened; a row of sectors; sectors held against each other. -/
import Derived.Test.YtgkoblgpadpcjaaDiskV
import Derived.Test.YtgkoblgpadpcjaaOpens
import Derived.Stop.BytesEq
namespace Go.Proofs.Ytgkoblgpadpcjaa
open Go.RowKit Go.ChangeShapes Go.WideShapes Go.ChangeAt

/-- An act on a disk. -/
structure Opv where
  kind : Int
  place : Int
  byte : UInt8
  keeps : Nat
def Opv.fits (o : Opv) : Prop := (-9223372036854775808 ≤ o.kind ∧ o.kind ≤ 9223372036854775807) ∧ (-9223372036854775808 ≤ o.place ∧ o.place ≤ 9223372036854775807) ∧ o.keeps < 18446744073709551616
/-- Acts lie in the world. -/
def OpsAt (w : World) (v : Value) (l : List Opv) : Prop :=
  ∃ a cap, v = .slice a l.length cap ∧ l.length ≤ 140737488355328 ∧ ∀ i, (h : i < l.length) → ∃ bb o, a = some ⟨bb, o, none⟩ ∧
    w.cell? ⟨bb, o + i * 4, none⟩ = some (.int .i64 l[i].kind) ∧ w.cell? ⟨bb, o + i * 4 + 1, none⟩ = some (.int .i64 l[i].place) ∧ w.cell? ⟨bb, o + i * 4 + 2, none⟩ = some (.int .u8 l[i].byte.toNat) ∧ w.cell? ⟨bb, o + i * 4 + 3, none⟩ = some (.int .u64 l[i].keeps) ∧ l[i].fits
theorem OpsAt.at {w0 w : World} {a : Option Addr} {n cap : Nat} {l : List Opv} (h : OpsAt w0 (.slice a n cap) l) (hx : Ext w0 w) (i : Nat) (hi : i < l.length) : ∃ bb o, a = some ⟨bb, o, none⟩ ∧
    w.cell? ⟨bb, o + i * 4, none⟩ = some (.int .i64 l[i].kind) ∧ w.cell? ⟨bb, o + i * 4 + 1, none⟩ = some (.int .i64 l[i].place) ∧ w.cell? ⟨bb, o + i * 4 + 2, none⟩ = some (.int .u8 l[i].byte.toNat) ∧ w.cell? ⟨bb, o + i * 4 + 3, none⟩ = some (.int .u64 l[i].keeps) ∧ l[i].fits := by
  obtain ⟨a', cap', e, -, hc⟩ := h
  simp only [Value.slice.injEq] at e
  obtain ⟨rfl, -, rfl⟩ := e
  obtain ⟨bb, o, rfl, h0, h1, h2, h3, hp⟩ := hc i hi
  exact ⟨bb, o, rfl, hx.cell h0, hx.cell h1, hx.cell h2, hx.cell h3, hp⟩
theorem cells60 : Try.prog.cellsOf 60 = 4 := by kernel_rfl
theorem bytes60 : Try.prog.bytesOf 60 = 32 := by kernel_rfl
theorem cells3' : Try.prog.cellsOf 3 = 1 := by kernel_rfl
theorem cells56 : Try.prog.cellsOf 56 = 1 := by kernel_rfl
theorem ops_of {w : World} {a : Option Addr} {len cap : Nat} (hl : len ≤ 140737488355328)
    (h : ∀ i, i < len → ∃ (p : Opv) (bb o : Nat), a = some ⟨bb, o, none⟩ ∧ w.cell? ⟨bb, o + i * 4, none⟩ = some (.int .i64 p.kind) ∧ w.cell? ⟨bb, o + i * 4 + 1, none⟩ = some (.int .i64 p.place) ∧ w.cell? ⟨bb, o + i * 4 + 2, none⟩ = some (.int .u8 p.byte.toNat) ∧ w.cell? ⟨bb, o + i * 4 + 3, none⟩ = some (.int .u64 p.keeps) ∧ p.fits) : ∃ l, OpsAt w (.slice a len cap) l := by
  have hp : ∀ i : Fin len, ∃ (p : Opv) (bb o : Nat), a = some ⟨bb, o, none⟩ ∧ w.cell? ⟨bb, o + i * 4, none⟩ = some (.int .i64 p.kind) ∧ w.cell? ⟨bb, o + i * 4 + 1, none⟩ = some (.int .i64 p.place) ∧ w.cell? ⟨bb, o + i * 4 + 2, none⟩ = some (.int .u8 p.byte.toNat) ∧ w.cell? ⟨bb, o + i * 4 + 3, none⟩ = some (.int .u64 p.keeps) ∧ p.fits := fun i => h i i.2
  refine ⟨List.ofFn fun i : Fin len => Classical.choose (hp i), a, cap, by rw [List.length_ofFn], by rw [List.length_ofFn]; exact hl, fun i hi => ?_⟩
  rw [List.length_ofFn] at hi
  have := Classical.choose_spec (hp ⟨i, hi⟩)
  simpa using this
set_option maxRecDepth 100000 in
theorem open_ops {H : Type} {enc : TypeId × Value → H} {W : World} {base : Nat} {held : Bool} {fuel : Nat} {cs : List Value} {x : DataW H × List MemPlace} (h : DataW.trod enc Try.prog W base (fun _ => true) held fuel 55 cs = some x) (hw : Within 55 x.1) : ∃ v l, cs = [v] ∧ OpsAt W v l := by
  obtain ⟨a, len, cap, m, rfl, hlc, hcm, hlm, hf, hn, hi⟩ := open_sl Try.underlying55 (by rw [bytes60]; decide) (by rw [cells60]; decide) h hw
  rw [cells60] at hi
  obtain ⟨l, hl⟩ := ops_of (w := W) (a := a) (cap := cap) hlm (fun i hii => by
    obtain ⟨bb, o, es, y, he, hel, hec, ht, hwy⟩ := hi i hii
    obtain ⟨xs, n, hf2, hx, hcl, hxl, hj⟩ := DataW.trod_struct Try.underlying60 ht
    obtain ⟨c0, c1, c2, c3, rfl⟩ : ∃ c0 c1 c2 c3, es = [c0, c1, c2, c3] := by
      match es, hel with
      | [c0, c1, c2, c3], _ => exact ⟨_, _, _, _, rfl⟩
    have hxl4 : xs.length = 4 := hxl
    have g0 : DataW.trod enc Try.prog W base (fun _ => true) held n 3 (([c0, c1, c2, c3].drop 0).take (Try.prog.cellsOf 3)) = xs[0]? := hj 0 _ rfl
    have g1 : DataW.trod enc Try.prog W base (fun _ => true) held n 3 (([c0, c1, c2, c3].drop 1).take (Try.prog.cellsOf 3)) = xs[1]? := hj 1 _ rfl
    have g2 : DataW.trod enc Try.prog W base (fun _ => true) held n 5 (([c0, c1, c2, c3].drop 2).take (Try.prog.cellsOf 5)) = xs[2]? := hj 2 _ rfl
    have g3 : DataW.trod enc Try.prog W base (fun _ => true) held n 56 (([c0, c1, c2, c3].drop 3).take (Try.prog.cellsOf 56)) = xs[3]? := hj 3 _ rfl
    rw [cells3'] at g0 g1
    rw [cells5] at g2
    rw [cells56] at g3
    rw [List.getElem?_eq_getElem (by omega)] at g0 g1 g2 g3
    obtain ⟨k, e0, hk⟩ := open_i64 g0
    obtain ⟨pl, e1, hpl⟩ := open_i64 g1
    obtain ⟨b, e2⟩ := open_u8 g2
    obtain ⟨kp, e3, hkp⟩ := open_u64 g3
    simp at e0 e1 e2 e3
    subst e0 e1 e2 e3
    exact ⟨⟨k, pl, b, kp⟩, bb, o, he, by simpa using hec 0 (by decide), by simpa using hec 1 (by decide), by simpa using hec 2 (by decide), by simpa using hec 3 (by decide), hk, hpl, hkp⟩)
  exact ⟨_, l, rfl, hl⟩

/-- A row of sectors, at a block of its own. -/
def SecRow (w : World) (b : Nat) (L : List (List UInt8)) : Prop := w.heap[b]? = some (.cells (flatK L).toArray 63 (0, 0)) ∧ ∀ s ∈ L, s.length = 64
theorem SecRow.ext {w w' : World} {b : Nat} {L : List (List UInt8)} (h : SecRow w b L) (x : Ext w w') : SecRow w' b L := ⟨x.keep h.1, h.2⟩
theorem SecRow.only {w w' : World} {b base g kb : Nat} {L : List (List UInt8)} (h : SecRow w b L) (o : DOnly base g kb w w') (hg : b ≠ g) (hk : b ≠ kb) : SecRow w' b L := ⟨o.keep h.1 (by decide) hg hk, h.2⟩
theorem SecRow.range {w : World} {b : Nat} {L : List (List UInt8)} (h : SecRow w b L) (i : Nat) (hi : i < L.length) : w.rangeAt b (i * 64) (byteVals L[i]) := by
  intro j v hj
  have hj64 : j < 64 := by
    have := (List.getElem?_eq_some_iff.1 hj).1
    rw [byteVals_length, h.2 _ (List.getElem_mem hi)] at this
    exact this
  rw [cell_of_row w b (i * 64 + j) _ 63 (0, 0) h.1]
  have := flatMap_idx byteVals 64 L (fun x hx => by rw [byteVals_length]; exact h.2 x hx) i j hi hj64
  rw [List.getElem?_toArray]
  unfold flatK
  rw [this]
  exact hj
theorem SecRow.there {w : World} {b : Nat} {L : List (List UInt8)} (h : SecRow w b L) (i : Nat) (hi : i < L.length) : w.there b (i * 64) 64 := by
  intro j hj
  refine ⟨?_, by simp [World.frozen?, h.1]⟩
  have hl : (byteVals L[i]).length = 64 := by rw [byteVals_length, h.2 _ (List.getElem_mem hi)]
  rw [h.range i hi j _ (List.getElem?_eq_getElem (by omega))]
  rfl
theorem SecRow.store {w : World} {b : Nat} {L : List (List UInt8)} (h : SecRow w b L) (i : Nat) (s : List UInt8) (hi : i < L.length) (hs : s.length = 64) : SecRow (w.setCells b (i * 64) (byteVals s)) b (L.set i s) := by
  refine ⟨?_, ?_⟩
  · rw [setCells_heap b _ _ w _ _ _ h.1]
    have e1 : L = L.take i ++ L[i] :: L.drop (i + 1) := by rw [List.getElem_cons_drop, List.take_append_drop]
    have e2 : L.set i s = L.take i ++ s :: L.drop (i + 1) := by rw [List.set_eq_take_append_cons_drop, if_pos hi]
    have hl : (flatK (L.take i)).length = i * 64 := by
      unfold flatK
      rw [flatMap_len byteVals 64 _ (fun x hx => by rw [byteVals_length]; exact h.2 x (List.mem_of_mem_take hx)), List.length_take]
      rw [Nat.min_eq_left (by omega)]
    have f1 : flatK L = flatK (L.take i) ++ byteVals L[i] ++ flatK (L.drop (i + 1)) := by
      have e3 : flatK (L.take i ++ L[i] :: L.drop (i + 1)) = flatK (L.take i) ++ byteVals L[i] ++ flatK (L.drop (i + 1)) := by
        unfold flatK
        rw [List.flatMap_append, List.flatMap_cons, List.append_assoc]
      rw [← e3, ← e1]
    have f2 : flatK (L.set i s) = flatK (L.take i) ++ byteVals s ++ flatK (L.drop (i + 1)) := by
      rw [e2]; simp [flatK]
    have := putAt_mid (byteVals s) (byteVals L[i]) (flatK (L.take i)) (flatK (L.drop (i + 1))) (by rw [byteVals_length, byteVals_length, hs, h.2 _ (List.getElem_mem hi)])
    rw [hl, ← f1, ← f2] at this
    rw [this]
  · intro x hx
    rcases List.mem_or_eq_of_mem_set hx with h1 | h1
    · exact h.2 x h1
    · rw [h1]; exact hs
theorem SecRow.new (w : World) (n : Nat) : SecRow (w.alloc (.cells (flatK (List.replicate n zero64)).toArray 63)) w.heap.size (List.replicate n zero64) :=
  ⟨heap_alloc_new w _, fun s hs => by rw [(List.mem_replicate.1 hs).2]; rfl⟩
theorem sec_eq (s t : List UInt8) (hs : s.length = 64) (ht : t.length = 64) (w : World) : (Op.equalIn 10000 63 (.agg (byteVals s).toArray) (.agg (byteVals t).toArray)).run Try.prog w = .ok (s == t) w :=
  run_equalIn_bytes w 9998 63 5 64 Try.underlying63 Try.underlying5 (fun w => by kernel_rfl) s t hs ht
end Go.Proofs.Ytgkoblgpadpcjaa
