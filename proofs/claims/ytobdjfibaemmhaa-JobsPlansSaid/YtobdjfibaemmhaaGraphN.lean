/- Graphs of units, the plain part: what New answers. -/
import Derived.Test.YtobdjfibaemmhaaGraphP
namespace Go.Proofs.Ytobdjfibaemmhaa

def headS (l : List Str) : Str := match l with | [] => [] | x :: _ => x
def twiceP : List Un → List Un → Option Str
  | _, [] => none
  | seen, u :: r => if there seen u.name then some u.name else twiceP (seen ++ [u]) r
def lacks (us : List Un) (n : Str) : Bool := match findU us n with
  | some u => !((u.requires ++ u.partOf).all (there us))
  | none => false
def needsP (us : List Un) : Option Str := (namesOf us).find? (lacks us)
/-- What is wrong with units: the error's number, and with which one. -/
def newErr (us : List Un) : Option (Int × Str) :=
  if 16 < us.length then some (22, []) else
  match twiceP [] us with
  | some n => some (9, n)
  | none => match needsP us with
    | some n => some (16, n)
    | none => if headS (orderOf us).2 = [] then none else some (19, headS (orderOf us).2)
theorem findU_snoc {l : List Un} {u : Un} {x : Str} : findU (l ++ [u]) x = (findU l x).or (if u.name = x then some u else none) := by
  unfold findU
  rw [List.find?_append]
  congr 1
  by_cases h : u.name = x
  · simp [h]
  · simp [h]
theorem there_false {us : List Un} {x : Str} : there us x = false ↔ x ∉ us.map Un.name := by
  constructor
  · intro h hm
    rw [there_iff.2 hm] at h
    cases h
  · intro h
    cases ht : there us x with
    | false => rfl
    | true => exact absurd (there_iff.1 ht) h
theorem twice_none : ∀ {r seen : List Un}, (seen.map Un.name).Nodup → twiceP seen r = none → ((seen ++ r).map Un.name).Nodup
  | [], seen, h, _ => by simpa using h
  | u :: r, seen, h, ht => by
    rw [twiceP] at ht
    cases hc : there seen u.name with
    | true => rw [hc] at ht; cases ht
    | false =>
      rw [hc] at ht
      have hn : ((seen ++ [u]).map Un.name).Nodup := by
        rw [List.map_append, List.nodup_append]
        refine ⟨h, by simp, fun a ha b hb => ?_⟩
        simp only [List.map_cons, List.map_nil, List.mem_singleton] at hb
        subst hb
        intro e
        subst e
        exact there_false.1 hc ha
      have := twice_none hn ht
      rwa [List.append_assoc] at this
theorem twice_some : ∀ {r seen : List Un} {n : Str}, twiceP seen r = some n → ¬ ((seen ++ r).map Un.name).Nodup
  | [], seen, n, h => by cases h
  | u :: r, seen, n, h => by
    rw [twiceP] at h
    cases hc : there seen u.name with
    | true =>
      intro hd
      rw [List.map_append, List.nodup_append] at hd
      exact hd.2.2 u.name (there_iff.1 hc) u.name (by simp) rfl
    | false =>
      rw [hc] at h
      have := twice_some (by simpa using h)
      rwa [List.append_assoc] at this
theorem twice_iff {us : List Un} : twiceP [] us = none ↔ (us.map Un.name).Nodup := by
  constructor
  · intro h
    have := twice_none (seen := []) (by simp) h
    simpa using this
  · intro h
    cases ht : twiceP [] us with
    | none => rfl
    | some n => exact absurd h (twice_some ht)
theorem newErr_none {us : List Un} (h : newErr us = none) : us.length ≤ 16 ∧ (us.map Un.name).Nodup ∧ needsP us = none ∧ headS (orderOf us).2 = [] := by
  unfold newErr at h
  by_cases h1 : 16 < us.length
  · rw [if_pos h1] at h; cases h
  · rw [if_neg h1] at h
    cases h2 : twiceP [] us with
    | some n => rw [h2] at h; cases h
    | none =>
      rw [h2] at h
      cases h3 : needsP us with
      | some n => rw [h3] at h; cases h
      | none =>
        rw [h3] at h
        dsimp only at h
        by_cases h4 : headS (orderOf us).2 = []
        · exact ⟨by omega, twice_iff.1 h2, rfl, h4⟩
        · rw [if_neg h4] at h; cases h
theorem needs_none {us : List Un} (h : needsP us = none) {u : Un} (hd : (us.map Un.name).Nodup) (hu : u ∈ us) : ∀ x ∈ u.requires ++ u.partOf, there us x = true := by
  unfold needsP at h
  rw [List.find?_eq_none] at h
  have := h u.name (sortS_mem.2 (List.mem_map_of_mem hu))
  unfold lacks at this
  rw [findU_mem hd hu] at this
  simp only [Bool.not_eq_true, Bool.not_eq_false', List.all_eq_true] at this
  exact this
theorem behP_short {us : List Un} {k x : Str} (h : x ∈ behP us k) : x ∈ us.map Un.name := by
  rw [behP_mem] at h
  obtain ⟨u, v, hu, hv, -⟩ := h
  have := findU_name hv
  rw [← this.2]
  exact List.mem_map_of_mem this.1
end Go.Proofs.Ytobdjfibaemmhaa
