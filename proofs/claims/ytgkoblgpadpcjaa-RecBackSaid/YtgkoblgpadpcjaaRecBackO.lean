/- RecBack: the pieces that came in, opened. -/
import Derived.Test.YtgkoblgpadpcjaaRecBackW
import Derived.Test.YtgkoblgpadpcjaaOpens
namespace Go.Proofs.Ytgkoblgpadpcjaa.recBack
open Go.RowKit Go.ChangeShapes Go.WideShapes Go.ChangeAt Go.Proofs.Ytgkoblgpadpcjaa.recApart

theorem cells46 : Try.prog.cellsOf 46 = 4 := by kernel_rfl
theorem cells3 : Try.prog.cellsOf 3 = 1 := by kernel_rfl
theorem cells24 : Try.prog.cellsOf 24 = 1 := by kernel_rfl
theorem cells22 : Try.prog.cellsOf 22 = 1 := by kernel_rfl
theorem cells42 : Try.prog.cellsOf 42 = 1 := by kernel_rfl
theorem bytes46 : Try.prog.bytesOf 46 = 64 := by kernel_rfl

theorem pcs_of {w : World} {f : Nat} {a : Option Addr} {len cap : Nat} (hl : len ≤ 140737488355328)
    (h : ∀ i, i < len → ∃ bb o d0 d1 d2 d3 p, a = some ⟨bb, o, none⟩ ∧ w.cell? ⟨bb, o + i * 4, none⟩ = some d0 ∧ w.cell? ⟨bb, o + i * 4 + 1, none⟩ = some d1 ∧ w.cell? ⟨bb, o + i * 4 + 2, none⟩ = some d2 ∧ w.cell? ⟨bb, o + i * 4 + 3, none⟩ = some d3 ∧ PcAt w f d0 d1 d2 d3 p) : ∃ l, PcsAt w f (.slice a len cap) l := by
  have hp : ∀ i : Fin len, ∃ p, ∃ bb o d0 d1 d2 d3, a = some ⟨bb, o, none⟩ ∧ w.cell? ⟨bb, o + i * 4, none⟩ = some d0 ∧ w.cell? ⟨bb, o + i * 4 + 1, none⟩ = some d1 ∧ w.cell? ⟨bb, o + i * 4 + 2, none⟩ = some d2 ∧ w.cell? ⟨bb, o + i * 4 + 3, none⟩ = some d3 ∧ PcAt w f d0 d1 d2 d3 p := by
    intro i
    obtain ⟨bb, o, d0, d1, d2, d3, p, hh⟩ := h i i.2
    exact ⟨p, bb, o, d0, d1, d2, d3, hh⟩
  refine ⟨List.ofFn fun i : Fin len => Classical.choose (hp i), a, cap, by rw [List.length_ofFn], by rw [List.length_ofFn]; exact hl, fun i hi => ?_⟩
  rw [List.length_ofFn] at hi
  have := Classical.choose_spec (hp ⟨i, hi⟩)
  simpa using this

set_option maxRecDepth 100000 in
theorem open_pcs {H : Type} {enc : TypeId × Value → H} {W : World} {base : Nat} {held : Bool} : ∀ fuel : Nat,
    (∀ cs (x : DataW H × List MemPlace), DataW.trod enc Try.prog W base (fun _ => true) held fuel 42 cs = some x → Within 42 x.1 → ∃ v l, cs = [v] ∧ PcsAt W (fuel / 2) v l) ∧
    (∀ cs (x : DataW H × List MemPlace), DataW.trod enc Try.prog W base (fun _ => true) held fuel 46 cs = some x → Within 46 x.1 → ∃ c0 c1 c2 c3 p, cs = [c0, c1, c2, c3] ∧ PcAt W ((fuel + 1) / 2) c0 c1 c2 c3 p)
  | 0 => ⟨fun cs x h => by simp [DataW.trod] at h, fun cs x h => by simp [DataW.trod] at h⟩
  | fuel + 1 => by
    obtain ⟨ihl, ihp⟩ := open_pcs (enc := enc) (W := W) (base := base) (held := held) fuel
    refine ⟨fun cs x h hw => ?_, fun cs x h hw => ?_⟩
    · obtain ⟨a, len, cap, m, rfl, hlc, hcm, hlm, hf, hn, hi⟩ := open_sl Try.underlying42 (by rw [bytes46]; decide) (by rw [cells46]; decide) h hw
      obtain rfl : fuel = m := by omega
      rw [cells46] at hi
      obtain ⟨l, hl⟩ := pcs_of (w := W) (f := (fuel + 1) / 2) (a := a) (cap := cap) hlm (fun i hii => by
        obtain ⟨bb, o, es, y, he, hel, hec, ht, hwy⟩ := hi i hii
        obtain ⟨c0, c1, c2, c3, p, rfl, hp⟩ := ihp es y ht hwy
        exact ⟨bb, o, c0, c1, c2, c3, p, he, by simpa using hec 0 (by decide), by simpa using hec 1 (by decide), by simpa using hec 2 (by decide), by simpa using hec 3 (by decide), hp⟩)
      exact ⟨_, l, rfl, hl⟩
    · obtain ⟨xs, n, hf, hx, hcl, hxl, hi⟩ := DataW.trod_struct Try.underlying46 h
      obtain rfl : fuel = n := by omega
      rw [cells46] at hcl
      obtain ⟨c0, c1, c2, c3, rfl⟩ : ∃ c0 c1 c2 c3, cs = [c0, c1, c2, c3] := by
        match cs, hcl with
        | [c0, c1, c2, c3], _ => exact ⟨_, _, _, _, rfl⟩
      have hxl4 : xs.length = 4 := hxl
      subst hx
      have g0 : DataW.trod enc Try.prog W base (fun _ => true) held fuel 3 (([c0, c1, c2, c3].drop 0).take (Try.prog.cellsOf 3)) = xs[0]? := hi 0 _ rfl
      have g1 : DataW.trod enc Try.prog W base (fun _ => true) held fuel 24 (([c0, c1, c2, c3].drop 1).take (Try.prog.cellsOf 24)) = xs[1]? := hi 1 _ rfl
      have g2 : DataW.trod enc Try.prog W base (fun _ => true) held fuel 22 (([c0, c1, c2, c3].drop 2).take (Try.prog.cellsOf 22)) = xs[2]? := hi 2 _ rfl
      have g3 : DataW.trod enc Try.prog W base (fun _ => true) held fuel 42 (([c0, c1, c2, c3].drop 3).take (Try.prog.cellsOf 42)) = xs[3]? := hi 3 _ rfl
      rw [cells3] at g0
      rw [cells24] at g1
      rw [cells22] at g2
      rw [cells42] at g3
      rw [List.getElem?_eq_getElem (by omega)] at g0 g1 g2 g3
      obtain ⟨k, e0, -⟩ := open_i64 g0
      obtain ⟨nn, e1, hn⟩ := open_u32 g1
      obtain ⟨v2, b, e2, hb, hbl⟩ := open_b g2 (hw.fields Try.underlying46 2 _ _ rfl (by rw [List.getElem?_map, List.getElem?_eq_getElem (by omega)]; rfl))
      obtain ⟨v3, l, e3, hl⟩ := ihl _ _ g3 (hw.fields Try.underlying46 3 _ _ rfl (by rw [List.getElem?_map, List.getElem?_eq_getElem (by omega)]; rfl))
      simp at e0 e1 e2 e3
      subst e0 e1 e2 e3
      refine ⟨_, _, _, _, .mk k nn b l, rfl, ?_⟩
      rw [show (fuel + 1 + 1) / 2 = fuel / 2 + 1 by omega]
      exact ⟨rfl, rfl, hn, hb, hbl, hl⟩
end Go.Proofs.Ytgkoblgpadpcjaa.recBack
