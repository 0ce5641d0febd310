/- Arguments that came in, opened: texts, and units. -/
import Derived.Test.YtobdjfibaemmhaaGo
import Derived.ChangeSlices
import Derived.ChangeArms
import Derived.SizedLaws
namespace Go.Proofs.Ytobdjfibaemmhaa
open Go.ChangeShapes Go.WideShapes Go.RowKit Go.Lib

/-- All that is met in a reading is within the form's reach. -/
def Within {H : Type} (t : TypeId) (d : DataW H) : Prop := ∀ n ∈ d.weights Try.prog t, n ≤ 140737488355328
theorem within_all {H : Type} (t : TypeId) (l : List (DataW H)) (h : ∀ n ∈ DataW.weightsAll Try.prog t l, n ≤ 140737488355328) : ∀ d ∈ l, Within t d := by
  induction l with
  | nil => intro d hd; cases hd
  | cons x r ih =>
    intro d hd n hn
    rcases List.mem_cons.1 hd with rfl | hd
    · exact h n (by simp only [DataW.weightsAll, List.mem_append]; exact .inl hn)
    · exact ih (fun n hn => h n (by simp only [DataW.weightsAll, List.mem_append]; exact .inr hn)) d hd n hn
theorem Within.elems {H : Type} {t e : TypeId} {l r : List (DataW H)} (ht : Try.prog.underlying t = some (.slice e)) (h : Within t (.slice l r)) : (l.length + r.length) * Try.prog.bytesOf e ≤ 140737488355328 ∧ ∀ d ∈ l, Within e d := by
  unfold Within at h
  simp only [DataW.weights, ht] at h
  refine ⟨h _ (by simp), within_all e l fun n hn => h n ?_⟩
  simp only [List.mem_cons, List.mem_append]
  exact .inr (.inl hn)
theorem Within.fields {H : Type} {t : TypeId} {fs : Array Field} {l : List (DataW H)} (ht : Try.prog.underlying t = some (.struct fs)) (h : Within t (.agg l)) (j : Nat) (f : Field) (d : DataW H) (hf : fs[j]? = some f) (hd : l[j]? = some d) : Within f.type d := by
  intro n hn
  refine h n ?_
  simp only [DataW.weights, ht]
  exact DataW.weights_mem_each (j := j) (by simp [hf]) hd n hn
theorem Within.of {H : Type} {ts : List TypeId} {ds : List (DataW H)} (h : (DataW.weightsEach Try.prog ts ds).all (· ≤ reachBytes) = true) (j : Nat) (t : TypeId) (d : DataW H) (ht : ts[j]? = some t) (hd : ds[j]? = some d) : Within t d := by
  intro n hn
  have h1 := List.all_eq_true.1 h n (DataW.weights_mem_each ht hd n hn)
  have h2 := reachBytes_lt
  simp at h1
  omega
/-- A number of 64 bits. -/
theorem open_i64 {H : Type} {enc : TypeId × Value → H} {W : World} {base : Nat} {sp : Nat → Bool} {held : Bool} {fuel : Nat} {cs : List Value} {x : DataW H × List MemPlace}
    (h : DataW.trod enc Try.prog W base sp held fuel 3 cs = some x) : ∃ n : Int, cs = [.int .i64 n] ∧ -9223372036854775808 ≤ n ∧ n ≤ 9223372036854775807 := by
  obtain ⟨n, rfl, -, hn⟩ := DataW.trod_int Try.underlying3 h
  exact ⟨n, rfl, by simpa [Lit.wf, IntKind.min, IntKind.max, IntKind.signed, IntKind.bits] using hn⟩
set_option maxRecDepth 100000 in
/-- A slice of elements of n cells each: each element's cells, and their reading. -/
theorem open_sl {H : Type} {enc : TypeId × Value → H} {W : World} {base : Nat} {held : Bool} {fuel : Nat} {t e : TypeId} {cs : List Value} {x : DataW H × List MemPlace} (ht : Try.prog.underlying t = some (.slice e)) (hb : 1 ≤ Try.prog.bytesOf e)
    (hc : 1 ≤ Try.prog.cellsOf e) (h : DataW.trod enc Try.prog W base (fun _ => true) held fuel t cs = some x) (hw : Within t x.1) :
    ∃ a len cap m, cs = [.slice a len cap] ∧ len ≤ cap ∧ cap ≤ 9223372036854775807 ∧ len ≤ 140737488355328 ∧ fuel = m + 1 ∧ (a = none → len = 0 ∧ cap = 0) ∧
      ∀ i, i < len → ∃ bb o es y, a = some ⟨bb, o, none⟩ ∧ es.length = Try.prog.cellsOf e ∧ (∀ j, j < Try.prog.cellsOf e → W.cell? ⟨bb, o + i * Try.prog.cellsOf e + j, none⟩ = es[j]?) ∧ DataW.trod enc Try.prog W base (fun _ => true) held m e es = some y ∧ Within e y.1 := by
  have hfu : ∃ m, fuel = m + 1 := by
    cases fuel with
    | zero => simp [DataW.trod] at h
    | succ m => exact ⟨m, rfl⟩
  rcases DataW.trod_slice ht h with ⟨rfl, _⟩ | ⟨a, len, cap, elems, rest, n, rfl, rfl, rfl, hbl, hl, hm, hel, hx, -, -⟩
  · obtain ⟨m, hm⟩ := hfu
    exact ⟨none, 0, 0, m, rfl, by simp, by simp, by simp, hm, fun _ => ⟨rfl, rfl⟩, fun i hi => absurd hi (by simp)⟩
  · obtain ⟨hr, he⟩ := hw.elems ht
    have hlen : len ≤ 140737488355328 := by
      refine Nat.le_trans ?_ hr
      simp only [List.length_map, hel]
      exact Nat.le_trans (by omega) (Nat.le_mul_of_pos_right _ hb)
    refine ⟨some a, len, cap, n, rfl, hl, by unfold maxLen at hm; omega, hlen, rfl, (fun h => by cases h), fun i hi => ?_⟩
    have h1 := hx i hi
    rw [List.getElem?_eq_getElem (show i < elems.length by omega)] at h1
    obtain ⟨es, h2, h3⟩ := Option.bind_eq_some_iff.1 h1
    obtain ⟨-, h4, h5⟩ := World.cells?_some h2
    have hsp : a.spot = none := by
      have g1 := hx 0 (by omega)
      rw [List.getElem?_eq_getElem (show 0 < elems.length by omega)] at g1
      obtain ⟨es0, g2, g3⟩ := Option.bind_eq_some_iff.1 g1
      obtain ⟨-, g4, g5⟩ := World.cells?_some g2
      have h6 := g5 0 (by omega)
      rw [List.getElem?_eq_getElem (show 0 < es0.length by omega), Nat.zero_mul] at h6
      have h7 := World.cell?_spot h6
      simpa [Addr.add] using h7
    obtain ⟨bb, o, sp⟩ := a
    simp only at hsp
    subst hsp
    refine ⟨bb, o, es, elems[i], rfl, h4, fun j hj => ?_, h3, he _ (List.mem_map_of_mem (List.getElem_mem _))⟩
    have := h5 j hj
    rw [Addr.add_lit, Addr.add_lit] at this
    exact this
theorem list_of {α : Type} {n : Nat} {P : Nat → α → Prop} (h : ∀ i, i < n → ∃ x, P i x) : ∃ l : List α, l.length = n ∧ ∀ i, (hi : i < l.length) → P i l[i] := by
  have hp : ∀ i : Fin n, ∃ x, P i x := fun i => h i i.2
  refine ⟨List.ofFn fun i : Fin n => Classical.choose (hp i), by rw [List.length_ofFn], fun i hi => ?_⟩
  rw [List.length_ofFn] at hi
  have := Classical.choose_spec (hp ⟨i, hi⟩)
  simpa using this
section
variable {H : Type} {enc : TypeId × Value → H} {W : World} {base : Nat} {held : Bool} {fuel : Nat}
theorem cells3' : Try.prog.cellsOf 3 = 1 := by kernel_rfl
theorem cells9' : Try.prog.cellsOf 9 = 1 := by kernel_rfl
theorem bytes9' : Try.prog.bytesOf 9 = 16 := by kernel_rfl
theorem cells23' : Try.prog.cellsOf 23 = 1 := by kernel_rfl
theorem cells45' : Try.prog.cellsOf 45 = 8 := by kernel_rfl
theorem bytes45' : Try.prog.bytesOf 45 = 168 := by kernel_rfl
theorem one_of_len {es : List Value} (h : es.length = 1) : ∃ v, es = [v] := by
  match es, h with
  | [v], _ => exact ⟨v, rfl⟩
theorem open_str {cs : List Value} {x : DataW H × List MemPlace} (h : DataW.trod enc Try.prog W base (fun _ => true) held fuel 9 cs = some x) : ∃ s : Str, cs = [.string (ba s)] ∧ s.length ≤ maxLen := by
  obtain ⟨s, rfl, -, hs⟩ := DataW.trod_string Try.underlying9 h
  exact ⟨s.data.toList, rfl, by simpa using hs⟩
set_option maxRecDepth 100000 in
theorem open_strs {cs : List Value} {x : DataW H × List MemPlace} (h : DataW.trod enc Try.prog W base (fun _ => true) held fuel 23 cs = some x) (hw : Within 23 x.1) : ∃ v l, cs = [v] ∧ SRow W v l ∧ ShortAll l ∧ l.length ≤ 140737488355328 := by
  obtain ⟨a, len, cap, m, rfl, hlc, hcm, hlm, -, hn, hi⟩ := open_sl Try.underlying23 (by rw [bytes9']; decide) (by rw [cells9']; decide) h hw
  rw [cells9'] at hi
  obtain ⟨l, hl, hP⟩ := list_of (P := fun i (s : Str) => s.length ≤ maxLen ∧ ∃ b o, a = some ⟨b, o, none⟩ ∧ W.cell? ⟨b, o + i, none⟩ = some (encStr s)) (fun i hii => by
    obtain ⟨bb, o, es, y, he, hel, hec, ht, hwy⟩ := hi i hii
    obtain ⟨s, rfl, hs⟩ := open_str ht
    have := hec 0 (by decide)
    refine ⟨s, hs, bb, o, he, ?_⟩
    rw [encStr_ba]
    simpa using this)
  subst hl
  refine ⟨_, l, rfl, ⟨a, cap, rfl, hlc, hcm, fun h => (hn h).2, fun i hii => (hP i hii).2⟩, fun x hx => ?_, hlm⟩
  obtain ⟨i, hii, rfl⟩ := List.getElem_of_mem hx
  exact (hP i hii).1
set_option maxRecDepth 100000 in
set_option maxHeartbeats 1000000 in
theorem open_units {cs : List Value} {x : DataW H × List MemPlace} (h : DataW.trod enc Try.prog W base (fun _ => true) held fuel 22 cs = some x) (hw : Within 22 x.1) : ∃ v us, cs = [v] ∧ UnitsIn W v us := by
  obtain ⟨a, len, cap, m, rfl, hlc, hcm, hlm, -, hn, hi⟩ := open_sl Try.underlying22 (by rw [bytes45']; decide) (by rw [cells45']; decide) h hw
  rw [cells45'] at hi
  obtain ⟨us, hl, hP⟩ := list_of (P := fun i (u : Un) => ∃ b o R, a = some ⟨b, o, none⟩ ∧ UnitIs W (.agg R) u ∧ W.rangeAt b (o + i * 8) R.toList) (fun i hii => by
    obtain ⟨bb, o, es, y, he, hel, hec, ht, hwy⟩ := hi i hii
    obtain ⟨xs, n, hf2, hx, hcl, hxl, hj⟩ := DataW.trod_struct Try.underlying45 ht
    obtain ⟨c0, c1, c2, c3, c4, c5, c6, c7, rfl⟩ : ∃ c0 c1 c2 c3 c4 c5 c6 c7, es = [c0, c1, c2, c3, c4, c5, c6, c7] := by
      match es, hel with
      | [c0, c1, c2, c3, c4, c5, c6, c7], _ => exact ⟨_, _, _, _, _, _, _, _, rfl⟩
    have hxl8 : xs.length = 8 := hxl
    subst hx
    have g0 : DataW.trod enc Try.prog W base (fun _ => true) held n 9 (([c0, c1, c2, c3, c4, c5, c6, c7].drop 0).take (Try.prog.cellsOf 9)) = xs[0]? := hj 0 _ rfl
    have g1 : DataW.trod enc Try.prog W base (fun _ => true) held n 23 (([c0, c1, c2, c3, c4, c5, c6, c7].drop 1).take (Try.prog.cellsOf 23)) = xs[1]? := hj 1 _ rfl
    have g2 : DataW.trod enc Try.prog W base (fun _ => true) held n 23 (([c0, c1, c2, c3, c4, c5, c6, c7].drop 2).take (Try.prog.cellsOf 23)) = xs[2]? := hj 2 _ rfl
    have g3 : DataW.trod enc Try.prog W base (fun _ => true) held n 23 (([c0, c1, c2, c3, c4, c5, c6, c7].drop 3).take (Try.prog.cellsOf 23)) = xs[3]? := hj 3 _ rfl
    have g4 : DataW.trod enc Try.prog W base (fun _ => true) held n 23 (([c0, c1, c2, c3, c4, c5, c6, c7].drop 4).take (Try.prog.cellsOf 23)) = xs[4]? := hj 4 _ rfl
    have g5 : DataW.trod enc Try.prog W base (fun _ => true) held n 23 (([c0, c1, c2, c3, c4, c5, c6, c7].drop 5).take (Try.prog.cellsOf 23)) = xs[5]? := hj 5 _ rfl
    have g6 : DataW.trod enc Try.prog W base (fun _ => true) held n 23 (([c0, c1, c2, c3, c4, c5, c6, c7].drop 6).take (Try.prog.cellsOf 23)) = xs[6]? := hj 6 _ rfl
    have g7 : DataW.trod enc Try.prog W base (fun _ => true) held n 3 (([c0, c1, c2, c3, c4, c5, c6, c7].drop 7).take (Try.prog.cellsOf 3)) = xs[7]? := hj 7 _ rfl
    rw [cells9'] at g0
    rw [cells23'] at g1 g2 g3 g4 g5 g6
    rw [cells3'] at g7
    rw [List.getElem?_eq_getElem (by omega)] at g0 g1 g2 g3 g4 g5 g6 g7
    obtain ⟨nm, e0, hnm⟩ := open_str g0
    obtain ⟨v1, l1, e1, s1, -, -⟩ := open_strs g1 (hwy.fields Try.underlying45 1 _ _ rfl (by rw [List.getElem?_map, List.getElem?_eq_getElem (by omega)]; rfl))
    obtain ⟨v2, l2, e2, s2, -, -⟩ := open_strs g2 (hwy.fields Try.underlying45 2 _ _ rfl (by rw [List.getElem?_map, List.getElem?_eq_getElem (by omega)]; rfl))
    obtain ⟨v3, l3, e3, s3, -, -⟩ := open_strs g3 (hwy.fields Try.underlying45 3 _ _ rfl (by rw [List.getElem?_map, List.getElem?_eq_getElem (by omega)]; rfl))
    obtain ⟨v4, l4, e4, s4, -, -⟩ := open_strs g4 (hwy.fields Try.underlying45 4 _ _ rfl (by rw [List.getElem?_map, List.getElem?_eq_getElem (by omega)]; rfl))
    obtain ⟨v5, l5, e5, s5, -, -⟩ := open_strs g5 (hwy.fields Try.underlying45 5 _ _ rfl (by rw [List.getElem?_map, List.getElem?_eq_getElem (by omega)]; rfl))
    obtain ⟨v6, l6, e6, s6, -, -⟩ := open_strs g6 (hwy.fields Try.underlying45 6 _ _ rfl (by rw [List.getElem?_map, List.getElem?_eq_getElem (by omega)]; rfl))
    obtain ⟨rt, e7, -⟩ := open_i64 g7
    simp at e0 e1 e2 e3 e4 e5 e6 e7
    subst e0 e1 e2 e3 e4 e5 e6 e7
    refine ⟨⟨nm, l1, l2, l3, l4, l5, l6, rt⟩, bb, o, #[.string (ba nm), c1, c2, c3, c4, c5, c6, .int .i64 rt], he, unit_lit (u := ⟨nm, l1, l2, l3, l4, l5, l6, rt⟩) _ _ _ _ _ _ s1 s2 s3 s4 s5 s6, fun j v hv => ?_⟩
    have hj8 : j < 8 := (List.getElem?_eq_some_iff.1 hv).1
    rw [hec j hj8]
    exact hv)
  subst hl
  exact ⟨_, us, rfl, a, cap, rfl, hlc, hcm, fun i hii => hP i hii⟩
theorem open_unitz {cs : List Value} {x : DataW H × List MemPlace} (h : DataW.trod enc Try.prog W base (fun _ => true) held fuel 22 cs = some x) (hw : Within 22 x.1) : ∃ v us, cs = [v] ∧ UnitsIn W v us ∧ ∀ n c, v = .slice none n c → c = 0 := by
  obtain ⟨v, us, rfl, hu⟩ := open_units h hw
  obtain ⟨a, len, cap, m, e, -, -, -, -, hn, -⟩ := open_sl Try.underlying22 (by rw [bytes45']; decide) (by rw [cells45']; decide) h hw
  cases e
  refine ⟨_, us, rfl, hu, fun n c e => ?_⟩
  cases e
  exact (hn rfl).2
end
end Go.Proofs.Ytobdjfibaemmhaa
