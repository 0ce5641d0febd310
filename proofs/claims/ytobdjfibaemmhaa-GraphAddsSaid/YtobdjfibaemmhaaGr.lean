/- GraphAdds, the plain part: a unit more, and units the other way round. -/
import Derived.Test.YtobdjfibaemmhaaGraphN
namespace Go.Proofs.Ytobdjfibaemmhaa

def um : Un := ⟨[109], [], [], [], [], [], [], 0⟩
/-- Does a unit name m, but for what it wants? -/
def namesM (u : Un) : Bool := decide ([109] ∈ u.after) || decide ([109] ∈ u.before) || decide ([109] ∈ u.requires) || decide ([109] ∈ u.partOf) || decide (u.name = [109])
theorem namesM_no {u : Un} (h : namesM u = false) : [109] ∉ u.after ∧ [109] ∉ u.before ∧ [109] ∉ u.requires ∧ [109] ∉ u.partOf ∧ u.name ≠ [109] := by
  unfold namesM at h
  simpa [Bool.or_eq_false_iff, and_assoc] using h
theorem findU_perm {us vs : List Un} (hp : us.Perm vs) (hd : (us.map Un.name).Nodup) (n : Str) : findU us n = findU vs n := by
  have hd2 : (vs.map Un.name).Nodup := (hp.map _).nodup_iff.1 hd
  cases h : findU us n with
  | some u =>
    obtain ⟨h1, h2⟩ := findU_name h
    rw [← h2, findU_mem hd2 (hp.mem_iff.1 h1)]
  | none =>
    cases h2 : findU vs n with
    | none => rfl
    | some v =>
      obtain ⟨h3, h4⟩ := findU_name h2
      rw [← h4, findU_mem hd (hp.mem_iff.2 h3)] at h
      cases h
theorem there_perm {us vs : List Un} (hp : us.Perm vs) (n : Str) : there us n = there vs n := by
  rw [Bool.eq_iff_iff, there_iff, there_iff]
  exact (hp.map _).mem_iff
theorem names_perm {us vs : List Un} (hp : us.Perm vs) : namesOf us = namesOf vs := sortS_eq (hp.map _)
theorem needs_iff {us : List Un} (hd : (us.map Un.name).Nodup) : needsP us = none ↔ ∀ u ∈ us, ∀ x ∈ u.requires ++ u.partOf, there us x = true := by
  constructor
  · intro h u hu
    exact needs_none h hd hu
  · intro h
    unfold needsP
    rw [List.find?_eq_none]
    intro n hn hl
    unfold lacks at hl
    cases hf : findU us n with
    | none => rw [hf] at hl; cases hl
    | some u =>
      rw [hf] at hl
      have := h u (findU_name hf).1
      simp only [Bool.not_eq_true', List.all_eq_false] at hl
      obtain ⟨x, hx, h2⟩ := hl
      exact h2 (this x hx)
theorem stands_perm {us vs : List Un} (hp : us.Perm vs) (hd : (us.map Un.name).Nodup) (n x : Str) : Stands us n x ↔ Stands vs n x := by
  unfold Stands
  rw [findU_perm hp hd n, findU_perm hp hd x]
theorem order_perm {us vs : List Un} (hp : us.Perm vs) (hd : (us.map Un.name).Nodup) : orderOf us = orderOf vs := by
  unfold orderOf
  rw [names_perm hp, hp.length_eq]
  exact sortP_congr (fun n x => by rw [behP_mem, behP_mem]; exact stands_perm hp hd n x) _ _ _
/-- The error's number: 0: none. -/
def codeOf (us : List Un) : Int := match newErr us with | some (c, _) => c | none => 0
theorem code_eq (us : List Un) : codeOf us = if 16 < us.length then 22 else if ¬ (us.map Un.name).Nodup then 9 else if needsP us ≠ none then 16 else if headS (orderOf us).2 ≠ [] then 19 else 0 := by
  unfold codeOf newErr
  by_cases h1 : 16 < us.length
  · simp [h1]
  · rw [if_neg h1, if_neg h1]
    cases h2 : twiceP [] us with
    | some n => rw [if_pos (fun hd => by rw [twice_iff.2 hd] at h2; cases h2)]
    | none =>
      rw [if_neg (show ¬ ¬ (us.map Un.name).Nodup from fun h => h (twice_iff.1 h2))]
      dsimp only
      cases h3 : needsP us with
      | some n => simp
      | none =>
        simp only [ne_eq, not_true_eq_false, if_false]
        by_cases h4 : headS (orderOf us).2 = []
        · simp [h4]
        · simp [h4]
theorem code_perm {us vs : List Un} (hp : us.Perm vs) : codeOf us = codeOf vs := by
  rw [code_eq, code_eq, hp.length_eq]
  by_cases hd : (us.map Un.name).Nodup
  · have hd2 : (vs.map Un.name).Nodup := (hp.map _).nodup_iff.1 hd
    rw [order_perm hp hd]
    have h3 : needsP us = none ↔ needsP vs = none := by
      rw [needs_iff hd, needs_iff hd2]
      constructor
      · intro h u hu x hx
        rw [← there_perm hp]
        exact h u (hp.mem_iff.2 hu) x hx
      · intro h u hu x hx
        rw [there_perm hp]
        exact h u (hp.mem_iff.1 hu) x hx
    simp only [hd, hd2, not_true_eq_false, if_false, ne_eq, h3]
  · have hd2 : ¬ (vs.map Un.name).Nodup := fun h => hd ((hp.map _).nodup_iff.2 h)
    simp only [hd, hd2, not_false_eq_true, if_true]
theorem find_more {us : List Un} {n : Str} (hn : n ≠ [109]) : findU (um :: us) n = findU us n := by
  unfold findU
  rw [List.find?_cons_of_neg (by simpa [um] using fun e => hn e.symm)]
theorem find_um {us : List Un} : findU (um :: us) [109] = some um := by
  unfold findU
  rw [List.find?_cons_of_pos (by simp [um])]
section
variable {us : List Un} (hm : ∀ u ∈ us, namesM u = false)
include hm
theorem m_fresh : [109] ∉ us.map Un.name := by
  intro h
  obtain ⟨u, hu, e⟩ := List.mem_map.1 h
  exact (namesM_no (hm u hu)).2.2.2.2 e
theorem stands_more {n x : Str} : Stands (um :: us) n x ↔ Stands us n x := by
  have hf := m_fresh hm
  have none_m : findU us [109] = none := by
    cases h : findU us [109] with
    | none => rfl
    | some u =>
      obtain ⟨h1, h2⟩ := findU_name h
      exact absurd h2 (namesM_no (hm u h1)).2.2.2.2
  constructor
  · rintro ⟨u, v, hu, hv, h⟩
    by_cases hn : n = [109]
    · subst hn
      rw [find_um] at hu
      cases hu
      by_cases hx : x = [109]
      · subst hx
        rw [find_um] at hv
        cases hv
        simp [um] at h
      · rw [find_more hx] at hv
        rcases h with h | h | h
        · simp [um] at h
        · simp [um] at h
        · exact absurd h (namesM_no (hm v (findU_name hv).1)).2.1
    · rw [find_more hn] at hu
      by_cases hx : x = [109]
      · subst hx
        rw [find_um] at hv
        cases hv
        rcases h with h | h | h
        · exact absurd h (namesM_no (hm u (findU_name hu).1)).1
        · exact absurd h (namesM_no (hm u (findU_name hu).1)).2.2.1
        · simp [um] at h
      · rw [find_more hx] at hv
        exact ⟨u, v, hu, hv, h⟩
  · rintro ⟨u, v, hu, hv, h⟩
    have hn : n ≠ [109] := fun e => by rw [e, none_m] at hu; cases hu
    have hx : x ≠ [109] := fun e => by rw [e, none_m] at hv; cases hv
    exact ⟨u, v, by rw [find_more hn]; exact hu, by rw [find_more hx]; exact hv, h⟩
theorem names_more : (namesOf (um :: us)).filter (· != [109]) = namesOf us := by
  refine sorted_unique ?_ ((sortS_sorted _).filter _) (sortS_sorted _)
  unfold namesOf
  refine ((sortS_perm _).filter _).trans ?_
  rw [List.map_cons, List.filter_cons_of_neg (by simp [um])]
  rw [List.filter_eq_self.2 (fun a ha => by
    rw [bne_iff_ne]
    rintro rfl
    exact m_fresh hm ha)]
  exact (sortS_perm _).symm
theorem order_more (hd : (us.map Un.name).Nodup) : (orderOf (um :: us)).1.filter (· != [109]) = (orderOf us).1 ∧ (orderOf (um :: us)).2 = (orderOf us).2 := by
  have hs := fun n x => (stands_more hm (n := n) (x := x))
  have none_m : findU us [109] = none := by
    cases h : findU us [109] with
    | none => rfl
    | some u =>
      obtain ⟨h1, h2⟩ := findU_name h
      exact absurd h2 (namesM_no (hm u h1)).2.2.2.2
  have hd2 : ((um :: us).map Un.name).Nodup := by
    rw [List.map_cons, List.nodup_cons]
    exact ⟨m_fresh hm, hd⟩
  unfold orderOf
  refine sortP_more (m := [109]) (fun n _ x => by rw [behP_mem, behP_mem]; exact (hs n x).symm) (fun x hx => ?_) (fun n hx => ?_) _ _ _ _ _ _ ?_ ?_ (names_more hm) rfl (sortS_nodup hd2) (fun h => m_fresh hm (sortS_mem.1 h))
  · rw [behP_mem, hs] at hx
    obtain ⟨u, v, hu, -⟩ := hx
    rw [none_m] at hu
    cases hu
  · rw [behP_mem, hs] at hx
    obtain ⟨u, v, -, hv, -⟩ := hx
    rw [none_m] at hv
    cases hv
  · unfold namesOf; rw [(sortS_perm _).length_eq, List.length_map]; exact Nat.le_refl _
  · unfold namesOf; rw [(sortS_perm _).length_eq, List.length_map]; exact Nat.le_refl _
theorem code_more (hl : us.length < 16) : codeOf (um :: us) = codeOf us := by
  have q1 : ¬ 16 < (um :: us).length := by simp; omega
  have q2 : ¬ 16 < us.length := by omega
  rw [code_eq, code_eq, if_neg q1, if_neg q2]
  have hdd : ((um :: us).map Un.name).Nodup ↔ (us.map Un.name).Nodup := by
    rw [List.map_cons, List.nodup_cons]
    exact ⟨fun h => h.2, fun h => ⟨m_fresh hm, h⟩⟩
  by_cases hd : (us.map Un.name).Nodup
  · have hd2 := hdd.2 hd
    have ht : ∀ x, x ≠ [109] → there (um :: us) x = there us x := fun x hx => by unfold there; rw [find_more hx]
    have h3 : needsP (um :: us) = none ↔ needsP us = none := by
      rw [needs_iff hd2, needs_iff hd]
      constructor
      · intro h u hu x hx
        have hxm : x ≠ [109] := by
          rintro rfl
          rcases List.mem_append.1 hx with hx | hx
          · exact (namesM_no (hm u hu)).2.2.1 hx
          · exact (namesM_no (hm u hu)).2.2.2.1 hx
        rw [← ht x hxm]
        exact h u (by simp [hu]) x hx
      · intro h u hu x hx
        rcases List.mem_cons.1 hu with rfl | hu
        · simp [um] at hx
        · have hxm : x ≠ [109] := by
            rintro rfl
            rcases List.mem_append.1 hx with hx | hx
            · exact (namesM_no (hm u hu)).2.2.1 hx
            · exact (namesM_no (hm u hu)).2.2.2.1 hx
          rw [ht x hxm]
          exact h u hu x hx
    rw [(order_more hm hd).2]
    simp only [hd, hd2, not_true_eq_false, if_false, ne_eq, h3]
  · have hd2 : ¬ ((um :: us).map Un.name).Nodup := fun h => hd (hdd.1 h)
    simp only [hd, hd2, not_false_eq_true, if_true]
theorem order_names (hd : (us.map Un.name).Nodup) : (orderOf (um :: us)).1.filter (fun x => decide (x ∈ namesOf us)) = (orderOf us).1 := by
  rw [← (order_more hm hd).1]
  refine List.filter_congr fun x hx => ?_
  have hd2 : ((um :: us).map Un.name).Nodup := by
    rw [List.map_cons, List.nodup_cons]
    exact ⟨m_fresh hm, hd⟩
  have hxn : x ∈ (um :: us).map Un.name := by
    have hn : ([] ++ namesOf (um :: us)).Nodup := by rw [List.nil_append]; exact sortS_nodup hd2
    have hs := (sortP_spec (behP (um :: us)) (um :: us).length (namesOf (um :: us)) [] (by unfold namesOf; rw [(sortS_perm _).length_eq, List.length_map]; exact Nat.le_refl _) ⟨List.nodup_nil, fun s n t e => by simp at e⟩ hn).2.1
    have : x ∈ (orderOf (um :: us)).1 ++ (orderOf (um :: us)).2 := by simp [hx]
    have := hs.mem_iff.1 this
    rw [List.nil_append] at this
    exact sortS_mem.1 this
  rw [Bool.eq_iff_iff, decide_eq_true_iff, bne_iff_ne]
  constructor
  · rintro h rfl
    exact m_fresh hm (sortS_mem.1 h)
  · intro h
    rw [List.map_cons, List.mem_cons] at hxn
    rcases hxn with hxn | hxn
    · exact absurd hxn h
    · exact sortS_mem.2 hxn
end
theorem code_none {us : List Un} (h : newErr us = none) : codeOf us = 0 := by unfold codeOf; rw [h]
theorem code_some {us : List Un} {c : Int} {n : Str} (h : newErr us = some (c, n)) : codeOf us = c := by unfold codeOf; rw [h]
theorem err_range {us : List Un} {c : Int} {n : Str} (h : newErr us = some (c, n)) : c = 22 ∨ c = 9 ∨ c = 16 ∨ c = 19 := by
  unfold newErr at h
  split at h
  · simp at h; omega
  · split at h
    · simp at h; omega
    · split at h
      · simp at h; omega
      · split at h
        · cases h
        · simp at h; omega
theorem none_of_code {us : List Un} (h : codeOf us = 0) : newErr us = none := by
  cases hn : newErr us with
  | none => rfl
  | some cn =>
    obtain ⟨c, n⟩ := cn
    rw [code_some hn] at h
    have := err_range hn
    omega
theorem some_of_code {us : List Un} {c : Int} (h : codeOf us = c) (hc : c ≠ 0) : ∃ n, newErr us = some (c, n) := by
  cases hn : newErr us with
  | none => rw [code_none hn] at h; exact absurd h.symm hc
  | some cn =>
    obtain ⟨c', n⟩ := cn
    rw [code_some hn] at h
    exact ⟨n, by rw [h]⟩
end Go.Proofs.Ytobdjfibaemmhaa
