/- A log: List, and the statement's same. -/
import Derived.Test.YtgkoblgpadpcjaaLogX
namespace Go.Proofs.Ytgkoblgpadpcjaa
open Go.RowKit

theorem RecRow.at {base : Nat} {w : World} {a : Option Addr} {n c : Nat} {ls : List (List UInt8)} (h : RecRow base w (.slice a n c) ls) (k : Nat) (hk : k < ls.length) :
    ∃ q au cu, a = some ⟨q, 0, none⟩ ∧ w.cell? ⟨q, k, none⟩ = some (.slice au ls[k].length cu) ∧ Bytes w (.slice au ls[k].length cu) ls[k] := by
  obtain ⟨vs, h1, h2⟩ := h
  obtain ⟨v, hv, ho⟩ := h2 k hk
  have hb := ho.bytes
  have h1' := h1
  rcases h1.2 with ⟨e, h0⟩ | ⟨q, cap, cur, e, _⟩
  · omega
  · simp only [Value.slice.injEq] at e
    obtain ⟨rfl, -, rfl⟩ := e
    have := h1'.cells (g := q) rfl k v hv
    rw [Addr.add_lit, Nat.zero_add] at this
    have hb2 := hb
    obtain ⟨au, cu, rfl, -⟩ := hb
    exact ⟨q, au, cu, rfl, this, hb2⟩
theorem RecRow.ext {base : Nat} {w w' : World} {lv : Value} {ls : List (List UInt8)} (h : RecRow base w lv ls) (x : Ext w w') : RecRow base w' lv ls :=
  h.same fun k _ _ _ hh => x.block k (Array.getElem?_eq_some_iff.1 hh).1
theorem RecRow.rows {base : Nat} {w : World} {lv : Value} {ls : List (List UInt8)} (h : RecRow base w lv ls) (hl : ls.length ≤ 9223372036854775807) : Rows' w lv ls := by
  obtain ⟨a, c, rfl⟩ := h.shape
  refine ⟨a, c, rfl, hl, fun i hi => ?_⟩
  obtain ⟨q, au, cu, rfl, hc, hb⟩ := h.at i hi
  exact ⟨q, 0, _, rfl, by rw [Nat.zero_add]; exact hc, hb⟩
theorem RecRow.le {base base' : Nat} {w : World} {lv : Value} {ls : List (List UInt8)} (h : RecRow base w lv ls) (hb : base' ≤ base) : RecRow base' w lv ls := by
  have key : ∀ {e s n : Nat} {v : Value} {xs : List Value}, w.ownsRow base e s v n xs → w.ownsRow base' e s v n xs := by
    intro e s n v xs o
    exact ⟨o.1, o.2.elim Or.inl (fun ⟨g, cap, cur, hv, hg, r⟩ => Or.inr ⟨g, cap, cur, hv, Nat.le_trans hb hg, r⟩)⟩
  obtain ⟨vs, h1, h2⟩ := h
  refine ⟨vs, key h1, fun i hi => ?_⟩
  obtain ⟨v, hv, ho⟩ := h2 i hi
  exact ⟨v, hv, key ho⟩
def listRel (w : World) (ls : List (List UInt8)) (ov i : Value) (wr : World) : Prop :=
  ∃ k, k ≤ ls.length ∧ i = .int .i64 k ∧ Hid (Ext w wr) ∧ Hid (RecRow w.heap.size wr ov (ls.take k))
def listPost (w : World) (ls : List (List UInt8)) (e : Ending) (w' : World) : Prop :=
  ∃ v, e = .returned v ∧ Ext w w' ∧ RecRow w.heap.size w' v ls
set_option maxRecDepth 100000 in
set_option maxHeartbeats 2000000 in
theorem LogList_any (base g kb l : Nat) (lv : Value) (D : Dk) (L : Lg) (w : World) (h : LogAt base w g kb l lv D L) (hll : L.list.length ≤ 1000000) (hbl : ∀ b ∈ L.list, b.length ≤ 16777216) :
    Calls Try.prog 57 #[.pointer (some ⟨l, 0, none⟩)] w (listPost w L.list) := by
  obtain ⟨al, cl, rfl⟩ := h.rows.shape
  obtain ⟨c0, c1, c2, c3, c4, c5, c6, hf⟩ := h.cells
  have HR := Lib.hid h.rows
  generalize L.list = ls at *
  clear h hf c0 c1 c2 c3 c4 c6
  go_enter Try.func57, Try.ntmps57
  go_wp2_with fail
  go_loopw [3, 11] (fun ov i wr => listRel w ls ov i wr) (fun _ i _ => ls.length - (intOf i).toNat)
  case atStart => exact ⟨0, Nat.zero_le _, rfl, Ext.refl w, RecRow.nil _ _⟩
  case round =>
    obtain ⟨k, hk, rfl, hx, hr⟩ := hrel
    by_cases hlt : k < ls.length
    · obtain ⟨q, au, cu, rfl, e0, eb⟩ := HR.out.at k hlt
      have e0 := hx.out.cell e0
      have EB := Lib.hid (eb.below hx.out (Nat.le_refl _))
      have hb16 := hbl _ (List.getElem_mem hlt)
      have HT := Lib.hid (show ls.take (k + 1) = ls.take k ++ [ls[k]] by rw [List.take_succ_eq_append_getElem hlt])
      have HTL := Lib.hid (show (ls.take k).length = k by rw [List.length_take]; omega)
      generalize ls[k] = b at *
      clear eb
      obtain ⟨ao, co, hov⟩ := hr.out.shape
      rw [HTL.out] at hov
      subst hov
      obtain ⟨i0, hi0, hz0, hz1, hz2⟩ := info_parts Try.info22'
      have HI := Lib.hid (And.intro hi0 (And.intro hz0 (And.intro hz1 hz2)))
      clear hi0 hz0 hz1 hz2
      have hs := hx.out.size
      go_wp2_with (first
        | (refine wpList_append_empty_bytes _ rfl (.const (.slice none 0 0)) (.tmp 16) 22 rfl Try.underlying22 _ _ rfl rfl b EB.out (by omega) ?_; intro v7 w7 f7; have x7 : Ext wr w7 := f7.below; have X7 := Lib.hid x7; have F7 := Lib.hid (f7.ownb hs); (obtain ⟨a7, c7, rfl, -⟩ := f7.bytes); (obtain ⟨vs, hr7, hi7⟩ := hr.out.ext x7); have HR7 := Lib.hid hr7; have HI7 := Lib.hid hi7; clear f7 x7 hr7 hi7)
        | (refine wpList_append_src _ rfl (.tmp 15) (.tmp 18) 92 rfl w.heap.size 22 i0 _ 1 24 Try.underlying92' HI.out.1 HI.out.2.1 HI.out.2.2.1 HI.out.2.2.2 rfl (by decide) _ _ rfl rfl _ vs (HR7.out.alloc _) 1 [.slice a7 b.length c7] rfl (src_lit1 _ _ _ _) (by simp [Value.oneCell']) (by rw [HTL.out]; unfold maxLen; omega) (by rw [HTL.out]; omega) (by have := X7.out.size; simp; omega) ?_; intro v8 w8 o8 g8 n8; (obtain ⟨a8, m8, c8, rfl⟩ := row_shape o8); have P8 := Lib.hid (RecRow.push HR7.out HI7.out F7.out o8 g8); have X8 := Lib.hid (show Ext w w8 from Below.trans (show Below w.heap.size w (w7.alloc (.cells #[.slice a7 b.length c7] 22)) from (hx.out.trans X7.out).alloc _) ⟨g8.os, g8.tape, g8.output, g8.size, fun k hk => g8.block k (by have := X7.out.size; have h9 := size_alloc w7 (.cells #[.slice a7 b.length c7] 22); omega) (fun e => by have := (HR7.out.lt k e.symm).1; omega)⟩); clear o8 g8 n8))
      go_roundw
      case rel => exact ⟨k + 1, by omega, by go_num, X8, Lib.hid (by rw [HT.out]; exact P8.out)⟩
      case measure => simp [intOf]; omega
    · go_wp2_with fail
      go_ret
      exact ⟨_, rfl, hx.out, by have := hr.out; rw [List.take_of_length_le (by omega)] at this; exact this⟩
theorem Rows'.at {w : World} {a : Option Addr} {n c : Nat} {ls : List (List UInt8)} (h : Rows' w (.slice a n c) ls) (k : Nat) (hk : k < ls.length) :
    ∃ b o au cu, a = some ⟨b, o, none⟩ ∧ w.cell? ⟨b, o + k, none⟩ = some (.slice au ls[k].length cu) ∧ Bytes w (.slice au ls[k].length cu) ls[k] := by
  obtain ⟨a', c', e, -, hc⟩ := h
  simp only [Value.slice.injEq] at e
  obtain ⟨rfl, rfl, rfl⟩ := e
  obtain ⟨b, o, u, rfl, h1, h2⟩ := hc k hk
  have h3 := h2
  obtain ⟨au, cu, rfl, -⟩ := h2
  exact ⟨b, o, au, cu, rfl, h1, h3⟩
def sameRel (w : World) (xs ys : List (List UInt8)) (i : Value) (wr : World) : Prop :=
  ∃ k, k ≤ ys.length ∧ i = .int .i64 k ∧ Hid (Ext w wr) ∧ Hid (xs.take k = ys.take k)
set_option maxRecDepth 100000 in
set_option maxHeartbeats 2000000 in
theorem logSame_any (v u : Value) (xs ys : List (List UInt8)) (w : World) (hv : Rows' w v xs) (hu : Rows' w u ys) :
    Calls Try.prog 59 #[v, u] w fun e w' => e = .returned (.bool (xs == ys)) ∧ Ext w w' := by
  have HV := Lib.hid hv
  have HU := Lib.hid hu
  obtain ⟨av, cv, rfl, hxl, -⟩ := hv
  obtain ⟨au, cu, rfl, hyl, -⟩ := hu
  by_cases hl : xs.length = ys.length
  · have HL := Lib.hid hl
    rw [hl] at HV ⊢
    obtain ⟨m, hm⟩ : ∃ m, m = ys.length := ⟨_, rfl⟩
    rw [← hm] at hyl HV HU ⊢
    have HM := Lib.hid hm
    clear hl hm hxl
    go_enter Try.func59, Try.ntmps59
    go_wp2_with fail
    go_loopw [14] (fun i wr => sameRel w xs ys i wr) (fun i _ => m - (intOf i).toNat)
    case atStart => exact ⟨0, Nat.zero_le _, rfl, Ext.refl w, rfl⟩
    case round =>
      obtain ⟨k, hk, rfl, hx, ht⟩ := hrel
      by_cases hlt : k < m
      · have hlx : k < xs.length := by have := HL.out; have := HM.out; omega
        have hly : k < ys.length := by have := HM.out; omega
        obtain ⟨b1, o1, a1, c1, rfl, e1, eb1⟩ := HV.out.at k hlx
        obtain ⟨b2, o2, a2, c2, rfl, e2, eb2⟩ := HU.out.at k hly
        have f1 := hx.out.cell e1
        have f2 := hx.out.cell e2
        have hc1 := fun n => run_bs (wr.drewN n) _ _ (eb1.below (hx.out.drewN n) (Nat.le_refl _))
        have hc2 := fun n => run_bs (wr.drewN n) _ _ (eb2.below (hx.out.drewN n) (Nat.le_refl _))
        generalize hxk : xs[k] = x at *
        generalize hyk : ys[k] = y at *
        have HXK := Lib.hid (And.intro hxk hyk)
        clear e1 e2 eb1 eb2 hxk hyk hk
        go_upto_region 6 with (fail)
        go_quiet (fail)
        go_wp2_with fail
        · rename_i hq
          have hxy : x ≠ y := by simpa using hq
          have HN := Lib.hid (show (xs == ys) = false by
            rw [beq_eq_false_iff_ne]
            intro e
            apply hxy
            rw [← HXK.out.1, ← HXK.out.2]
            simp only [e])
          clear hxy hq
          go_ret
          exact ⟨by rw [HN.out]; rfl, hx.out.drewN nq⟩
        · rename_i hq
          have hxy : x = y := by simpa using hq
          have HXY := Lib.hid hxy
          clear hxy hq
          go_roundw
          case rel =>
            refine ⟨k + 1, by omega, by go_num, Lib.hid (hx.out.drewN nq), Lib.hid ?_⟩
            rw [List.take_succ_eq_append_getElem hlx, List.take_succ_eq_append_getElem hly, ht.out, HXK.out.1, HXK.out.2, HXY.out]
          case measure => simp [intOf]; omega
      · go_wp2_with fail
        go_ret
        exact ⟨by
          have h1 := ht.out
          have h2 := HL.out
          have h3 := HM.out
          rw [List.take_of_length_le (by omega), List.take_of_length_le (by omega)] at h1
          rw [h1]; simp, hx.out⟩
  · have hne : ((xs.length : Int) != (ys.length : Int)) = true := by rw [bne_iff_ne]; omega
    have hx : (xs == ys) = false := by rw [beq_eq_false_iff_ne]; intro e; exact hl (by rw [e])
    have HX := Lib.hid hx
    clear hl hx
    go_enter Try.func59, Try.ntmps59
    go_wp2_with fail
    go_ret
    rw [HX.out]
    exact ⟨rfl, Ext.refl w⟩
end Go.Proofs.Ytgkoblgpadpcjaa
