/- The plain law of JobsPlans. -/
import Derived.Test.YtobdjfibaemmhaaHj
import Derived.Test.YtobdjfibaemmhaaHc
namespace Go.Proofs.Ytobdjfibaemmhaa
open Go.RowKit Go.Maps Go.Lib

/-- What the law takes as the lean ones. -/
def rlean (us : List Un) (hit : List Str) : List Str := (namesOf us).filter fun x => decide (x ∈ lrounds us hit (us.length + 1) [])
theorem rlean_iff {us : List Un} {hit : List Str} {x : Str} : x ∈ rlean us hit ↔ LeanIn us hit x := by
  unfold rlean
  rw [List.mem_filter, decide_eq_true_iff, lrounds_lean (Nat.le_refl _)]
  exact ⟨fun h => h.2, fun h => ⟨sortS_mem.2 (there_iff.1 h.there), h⟩⟩
def lstop (us : List Un) (hit run : List Str) : List Str := ((orderOf us).1.filter fun n => decide (n ∈ rlean us hit) && decide (n ∈ run)).reverse
theorem lstop_eq {us : List Un} {hit run L : List Str} (h : ListOf (LeanIn us hit) L) : stopOf us L run = lstop us hit run := by
  unfold stopOf lstop
  congr 2
  funext n
  rw [Bool.eq_iff_iff, decide_eq_true_iff, List.mem_filter, Bool.and_eq_true, decide_eq_true_iff, decide_eq_true_iff, h.2.2, rlean_iff]
def gstep (vs : List Un) (run o : List Str) (n : Str) : List Str := if (decide (n ∈ run) && !there vs n) && !decide (n ∈ o) then o ++ [n] else o
def lgone (vs : List Un) (run ns : List Str) : List Str := ns.foldl (gstep vs run) []
theorem gstep_spec {vs : List Un} {run : List Str} : ∀ (ns o : List Str), o.Nodup → (ns.foldl (gstep vs run) o).Nodup ∧ (∃ r, ns.foldl (gstep vs run) o = o ++ r ∧ r.Sublist ns) ∧ ∀ x, x ∈ ns.foldl (gstep vs run) o ↔ x ∈ o ∨ (x ∈ ns ∧ x ∈ run ∧ there vs x = false)
  | [], o, h => ⟨h, ⟨[], by simp, List.Sublist.refl _⟩, fun x => by simp⟩
  | n :: ns, o, h => by
    rw [List.foldl_cons]
    by_cases hq : ((decide (n ∈ run) && !there vs n) && !decide (n ∈ o)) = true
    · have h1 : gstep vs run o n = o ++ [n] := by unfold gstep; rw [if_pos hq]
      simp only [Bool.and_eq_true, decide_eq_true_eq, Bool.not_eq_true', decide_eq_false_iff_not] at hq
      obtain ⟨⟨q1, q2⟩, q3⟩ := hq
      rw [h1]
      have hn : (o ++ [n]).Nodup := by
        rw [List.nodup_append]
        refine ⟨h, by simp, fun a ha b hb e => ?_⟩
        rw [List.mem_singleton] at hb
        subst hb; subst e
        exact q3 ha
      obtain ⟨k1, ⟨r, k2, k3⟩, k4⟩ := gstep_spec ns _ hn
      refine ⟨k1, ⟨n :: r, by rw [k2]; simp, k3.cons_cons n⟩, fun x => ?_⟩
      rw [k4]
      simp only [List.mem_append, List.mem_cons, List.not_mem_nil, or_false]
      constructor
      · rintro ((h | h) | ⟨h, h'⟩)
        · exact .inl h
        · subst h; exact .inr ⟨.inl rfl, q1, q2⟩
        · exact .inr ⟨.inr h, h'⟩
      · rintro (h | ⟨h | h, h'⟩)
        · exact .inl (.inl h)
        · exact .inl (.inr h)
        · exact .inr ⟨h, h'⟩
    · have h1 : gstep vs run o n = o := by unfold gstep; rw [if_neg hq]
      rw [h1]
      obtain ⟨k1, ⟨r, k2, k3⟩, k4⟩ := gstep_spec ns o h
      refine ⟨k1, ⟨r, k2, k3.cons n⟩, fun x => ?_⟩
      rw [k4]
      simp only [List.mem_cons]
      constructor
      · rintro (h | ⟨h, h'⟩)
        · exact .inl h
        · exact .inr ⟨.inr h, h'⟩
      · rintro (h | ⟨h | h, h'⟩)
        · exact .inl h
        · subst h
          refine .inl ?_
          simp only [Bool.and_eq_true, decide_eq_true_eq, Bool.not_eq_true', decide_eq_false_iff_not, not_and] at hq
          exact Classical.byContradiction fun hx => hq h' hx
        · exact .inr ⟨h, h'⟩
theorem gone_spec {vs : List Un} : ∀ (run o : List Str), o.Nodup → (run.foldl (goneStep vs) o).Nodup ∧ ∀ x, x ∈ run.foldl (goneStep vs) o ↔ x ∈ o ∨ (x ∈ run ∧ there vs x = false)
  | [], o, h => ⟨h, fun x => by simp⟩
  | n :: run, o, h => by
    rw [List.foldl_cons]
    by_cases hq : (!there vs n && !decide (n ∈ o)) = true
    · have h1 : goneStep vs o n = o ++ [n] := by unfold goneStep; rw [if_pos hq]
      simp only [Bool.and_eq_true, Bool.not_eq_true', decide_eq_false_iff_not] at hq
      obtain ⟨q2, q3⟩ := hq
      rw [h1]
      have hn : (o ++ [n]).Nodup := by
        rw [List.nodup_append]
        refine ⟨h, by simp, fun a ha b hb e => ?_⟩
        rw [List.mem_singleton] at hb
        subst hb; subst e
        exact q3 ha
      obtain ⟨k1, k4⟩ := gone_spec run _ hn
      refine ⟨k1, fun x => ?_⟩
      rw [k4]
      simp only [List.mem_append, List.mem_cons, List.not_mem_nil, or_false]
      constructor
      · rintro ((h | h) | ⟨h, h'⟩)
        · exact .inl h
        · subst h; exact .inr ⟨.inl rfl, q2⟩
        · exact .inr ⟨.inr h, h'⟩
      · rintro (h | ⟨h | h, h'⟩)
        · exact .inl (.inl h)
        · exact .inl (.inr h)
        · exact .inr ⟨h, h'⟩
    · have h1 : goneStep vs o n = o := by unfold goneStep; rw [if_neg hq]
      rw [h1]
      obtain ⟨k1, k4⟩ := gone_spec run o h
      refine ⟨k1, fun x => ?_⟩
      rw [k4]
      simp only [List.mem_cons]
      constructor
      · rintro (h | ⟨h, h'⟩)
        · exact .inl h
        · exact .inr ⟨.inr h, h'⟩
      · rintro (h | ⟨h | h, h'⟩)
        · exact .inl h
        · subst h
          refine .inl ?_
          simp only [Bool.and_eq_true, Bool.not_eq_true', decide_eq_false_iff_not, not_and] at hq
          exact Classical.byContradiction fun hx => hq h' hx
        · exact .inr ⟨h, h'⟩
theorem lgone_eq {vs : List Un} {run : List Str} : lgone vs run (namesOf (run.map nameU ++ vs)) = sortS (goneP vs run) := by
  obtain ⟨k1, ⟨r, k2, k3⟩, k4⟩ := gstep_spec (vs := vs) (run := run) (namesOf (run.map nameU ++ vs)) [] List.nodup_nil
  obtain ⟨m1, m2⟩ := gone_spec (vs := vs) run [] List.nodup_nil
  refine ListOf.unique (p := fun x => x ∈ run ∧ there vs x = false) ⟨k1, ?_, fun x => ?_⟩ (ListOf.sort m1 fun x => ?_)
  · unfold lgone; rw [k2, List.nil_append]
    exact (sortS_sorted _).sublist k3
  · unfold lgone; rw [k4]
    simp only [List.not_mem_nil, false_or]
    refine ⟨fun h => h.2, fun h => ⟨sortS_mem.2 ?_, h⟩⟩
    rw [List.map_append, List.mem_append, List.map_map]
    exact .inl (List.mem_map.2 ⟨x, h.1, rfl⟩)
  · show x ∈ run.foldl (goneStep vs) [] ↔ _
    rw [m2]; simp
end Go.Proofs.Ytobdjfibaemmhaa
