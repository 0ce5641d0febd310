/- Arguments that came in, opened: bytes, and how long they can be. -/
import Derived.Test.YtgkoblgpadpcjaaOpen
import Derived.ChangeSlices
import Derived.ChangeArms
import Derived.SizedLaws
namespace Go.Proofs.Ytgkoblgpadpcjaa
open Go.ChangeShapes Go.WideShapes Go.ChangeAt Go.RowKit

/-- All that is met in a reading is within the form's reach. -/
def Within {H : Type} (t : TypeId) (d : DataW H) : Prop := ∀ n ∈ d.weights Try.prog t, n ≤ 140737488355328
theorem within_all {H : Type} (t : TypeId) (l : List (DataW H)) (h : ∀ n ∈ DataW.weightsAll Try.prog t l, n ≤ 140737488355328) : ∀ d ∈ l, Within t d := by
  induction l with
  | nil => intro d hd; cases hd
  | cons x r ih =>
    intro d hd n hn
    rcases List.mem_cons.1 hd with rfl | hd
    · exact h n (by simp only [DataW.weightsAll, List.mem_append]; exact .inl hn)
    · exact ih (fun n hn => h n (by simp only [DataW.weightsAll, List.mem_append]; exact .inr hn)) d hd n hn
theorem Within.elems {H : Type} {t e : TypeId} {l r : List (DataW H)} (ht : Try.prog.underlying t = some (.slice e)) (h : Within t (.slice l r)) : (l.length + r.length) * Try.prog.bytesOf e ≤ 140737488355328 ∧ ∀ d ∈ l, Within e d := by
  unfold Within at h
  simp only [DataW.weights, ht] at h
  refine ⟨h _ (by simp), within_all e l fun n hn => h n ?_⟩
  simp only [List.mem_cons, List.mem_append]
  exact .inr (.inl hn)
theorem Within.fields {H : Type} {t : TypeId} {fs : Array Field} {l : List (DataW H)} (ht : Try.prog.underlying t = some (.struct fs)) (h : Within t (.agg l)) (j : Nat) (f : Field) (d : DataW H) (hf : fs[j]? = some f) (hd : l[j]? = some d) : Within f.type d := by
  intro n hn
  refine h n ?_
  simp only [DataW.weights, ht]
  exact DataW.weights_mem_each (j := j) (by simp [hf]) hd n hn
theorem Within.of {H : Type} {ts : List TypeId} {ds : List (DataW H)} (h : (DataW.weightsEach Try.prog ts ds).all (· ≤ reachBytes) = true) (j : Nat) (t : TypeId) (d : DataW H) (ht : ts[j]? = some t) (hd : ds[j]? = some d) : Within t d := by
  intro n hn
  have h1 := List.all_eq_true.1 h n (DataW.weights_mem_each ht hd n hn)
  have h2 := reachBytes_lt
  simp at h1
  omega
theorem bytesOf5 : Try.prog.bytesOf 5 = 1 := by kernel_rfl
/-- Bytes. -/
theorem open_b {H : Type} {enc : TypeId × Value → H} {W : World} {base : Nat} {held : Bool} {fuel : Nat} {cs : List Value} {x : DataW H × List MemPlace}
    (h : DataW.trod enc Try.prog W base (fun _ => true) held fuel 22 cs = some x) (hw : Within 22 x.1) : ∃ v l, cs = [v] ∧ Bytes W v l ∧ l.length ≤ 140737488355328 := by
  rcases open_ints Try.underlying22 Try.underlying5 cells5 h with ⟨rfl, _⟩ | ⟨a, len, cap, zs, rfl, _, hl, hm, hz, rfl, hcell, hwz⟩
  · exact ⟨_, [], rfl, ⟨none, 0, rfl, by simp, by simp, fun _ => rfl, fun i hi => absurd hi (by simp)⟩, by simp⟩
  · rw [if_pos rfl] at hz
    have hr := (hw.elems Try.underlying22).1
    have hr1 : len * 1 ≤ 140737488355328 := by
      refine Nat.le_trans ?_ hr
      rw [bytesOf5]
      simp [lits]
      omega
    obtain ⟨l, hll, hb⟩ := IsRow.bytes (.inr ⟨a, rfl, hl, hm, hz, hcell, hwz⟩ : IsRow .u8 W (some a) len cap zs)
    exact ⟨_, l, rfl, hb, by omega⟩
/-- A number of 64 bits. -/
theorem open_i64 {H : Type} {enc : TypeId × Value → H} {W : World} {base : Nat} {sp : Nat → Bool} {held : Bool} {fuel : Nat} {cs : List Value} {x : DataW H × List MemPlace}
    (h : DataW.trod enc Try.prog W base sp held fuel 3 cs = some x) : ∃ n : Int, cs = [.int .i64 n] ∧ -9223372036854775808 ≤ n ∧ n ≤ 9223372036854775807 := by
  obtain ⟨n, rfl, -, hn⟩ := DataW.trod_int Try.underlying3 h
  exact ⟨n, rfl, by simpa [Lit.wf, IntKind.min, IntKind.max, IntKind.signed, IntKind.bits] using hn⟩
theorem open_u32 {H : Type} {enc : TypeId × Value → H} {W : World} {base : Nat} {sp : Nat → Bool} {held : Bool} {fuel : Nat} {cs : List Value} {x : DataW H × List MemPlace}
    (h : DataW.trod enc Try.prog W base sp held fuel 24 cs = some x) : ∃ n : Nat, cs = [.int .u32 n] ∧ n < 4294967296 := by
  obtain ⟨n, rfl, -, hn⟩ := DataW.trod_int Try.underlying24 h
  have h2 : 0 ≤ n ∧ n ≤ 4294967295 := by simpa [Lit.wf, IntKind.min, IntKind.max, IntKind.signed, IntKind.bits] using hn
  exact ⟨n.toNat, by rw [Int.toNat_of_nonneg h2.1], by omega⟩
theorem open_u64 {H : Type} {enc : TypeId × Value → H} {W : World} {base : Nat} {sp : Nat → Bool} {held : Bool} {fuel : Nat} {cs : List Value} {x : DataW H × List MemPlace}
    (h : DataW.trod enc Try.prog W base sp held fuel 56 cs = some x) : ∃ n : Nat, cs = [.int .u64 n] ∧ n < 18446744073709551616 := by
  obtain ⟨n, rfl, -, hn⟩ := DataW.trod_int Try.underlying56 h
  have h2 : 0 ≤ n ∧ n ≤ 18446744073709551615 := by simpa [Lit.wf, IntKind.min, IntKind.max, IntKind.signed, IntKind.bits] using hn
  exact ⟨n.toNat, by rw [Int.toNat_of_nonneg h2.1], by omega⟩
theorem open_u8 {H : Type} {enc : TypeId × Value → H} {W : World} {base : Nat} {sp : Nat → Bool} {held : Bool} {fuel : Nat} {cs : List Value} {x : DataW H × List MemPlace}
    (h : DataW.trod enc Try.prog W base sp held fuel 5 cs = some x) : ∃ b : UInt8, cs = [.int .u8 b.toNat] := by
  obtain ⟨n, rfl, -, hn⟩ := DataW.trod_int Try.underlying5 h
  obtain ⟨b, hb⟩ := byte_of_wf hn
  exact ⟨b, by rw [hb]⟩
set_option maxRecDepth 100000 in
/-- A slice of elements of n cells each: each element's cells, and their reading. -/
theorem open_sl {H : Type} {enc : TypeId × Value → H} {W : World} {base : Nat} {held : Bool} {fuel : Nat} {t e : TypeId} {cs : List Value} {x : DataW H × List MemPlace} (ht : Try.prog.underlying t = some (.slice e)) (hb : 1 ≤ Try.prog.bytesOf e)
    (hc : 1 ≤ Try.prog.cellsOf e) (h : DataW.trod enc Try.prog W base (fun _ => true) held fuel t cs = some x) (hw : Within t x.1) :
    ∃ a len cap m, cs = [.slice a len cap] ∧ len ≤ cap ∧ cap ≤ 9223372036854775807 ∧ len ≤ 140737488355328 ∧ fuel = m + 1 ∧ (a = none → len = 0 ∧ cap = 0) ∧
      ∀ i, i < len → ∃ bb o es y, a = some ⟨bb, o, none⟩ ∧ es.length = Try.prog.cellsOf e ∧ (∀ j, j < Try.prog.cellsOf e → W.cell? ⟨bb, o + i * Try.prog.cellsOf e + j, none⟩ = es[j]?) ∧ DataW.trod enc Try.prog W base (fun _ => true) held m e es = some y ∧ Within e y.1 := by
  have hfu : ∃ m, fuel = m + 1 := by
    cases fuel with
    | zero => simp [DataW.trod] at h
    | succ m => exact ⟨m, rfl⟩
  rcases DataW.trod_slice ht h with ⟨rfl, _⟩ | ⟨a, len, cap, elems, rest, n, rfl, rfl, rfl, hbl, hl, hm, hel, hx, -, -⟩
  · obtain ⟨m, hm⟩ := hfu
    exact ⟨none, 0, 0, m, rfl, by simp, by simp, by simp, hm, fun _ => ⟨rfl, rfl⟩, fun i hi => absurd hi (by simp)⟩
  · obtain ⟨hr, he⟩ := hw.elems ht
    have hlen : len ≤ 140737488355328 := by
      refine Nat.le_trans ?_ hr
      simp only [List.length_map, hel]
      exact Nat.le_trans (by omega) (Nat.le_mul_of_pos_right _ hb)
    refine ⟨some a, len, cap, n, rfl, hl, by unfold maxLen at hm; omega, hlen, rfl, (fun h => by cases h), fun i hi => ?_⟩
    have h1 := hx i hi
    rw [List.getElem?_eq_getElem (show i < elems.length by omega)] at h1
    obtain ⟨es, h2, h3⟩ := Option.bind_eq_some_iff.1 h1
    obtain ⟨-, h4, h5⟩ := World.cells?_some h2
    have hsp : a.spot = none := by
      have g1 := hx 0 (by omega)
      rw [List.getElem?_eq_getElem (show 0 < elems.length by omega)] at g1
      obtain ⟨es0, g2, g3⟩ := Option.bind_eq_some_iff.1 g1
      obtain ⟨-, g4, g5⟩ := World.cells?_some g2
      have h6 := g5 0 (by omega)
      rw [List.getElem?_eq_getElem (show 0 < es0.length by omega), Nat.zero_mul] at h6
      have h7 := World.cell?_spot h6
      simpa [Addr.add] using h7
    obtain ⟨bb, o, sp⟩ := a
    simp only at hsp
    subst hsp
    refine ⟨bb, o, es, elems[i], rfl, h4, fun j hj => ?_, h3, he _ (List.mem_map_of_mem (List.getElem_mem _))⟩
    have := h5 j hj
    rw [Addr.add_lit, Addr.add_lit] at this
    exact this
end Go.Proofs.Ytgkoblgpadpcjaa
