/- The plain law of the document's Lean. -/
import Derived.Test.YtobdjfibaemmhaaHg
namespace Go.Proofs.Ytobdjfibaemmhaa
open Go.RowKit Go.Maps Go.Lib

/-- Does unit n lean on x? -/
def leanOn (us : List Un) (n x : Str) : Bool := match findU us n with
  | some u => decide (x ∈ u.requires) || decide (x ∈ u.partOf)
  | none => false
def leansB (us : List Un) (l S : List Str) (n : Str) : Bool := decide (n ∈ l) || S.any (leanOn us n)
def lstep (us : List Un) (l S : List Str) (n : Str) : List Str := if leansB us l S n && !decide (n ∈ S) then S ++ [n] else S
def lpass (us : List Un) (l S : List Str) : List Str := (namesOf us).foldl (lstep us l) S
def lrounds (us : List Un) (l : List Str) : Nat → List Str → List Str
  | 0, S => S
  | n + 1, S => lrounds us l n (lpass us l S)
structure RL (us : List Un) (l S : List Str) : Prop where
  nodup : S.Nodup
  sound : ∀ x ∈ S, LeanIn us l x
theorem RL.len {us : List Un} {l S : List Str} (h : RL us l S) : S.length ≤ us.length := there_len h.nodup fun x hx => (h.sound x hx).there
theorem RL.step {us : List Un} {l S : List Str} {n : Str} (h : RL us l S) (hn : n ∈ namesOf us) : RL us l (lstep us l S n) := by
  unfold lstep
  split
  · rename_i hq
    rw [Bool.and_eq_true] at hq
    obtain ⟨h1, h2⟩ := hq
    have h2' : n ∉ S := by simpa using h2
    have ht : there us n = true := there_iff.2 (sortS_mem.1 hn)
    have hl : LeanIn us l n := by
      unfold leansB at h1
      rcases (Bool.or_eq_true _ _ ▸ h1) with h1 | h1
      · exact .base (of_decide_eq_true h1) ht
      · obtain ⟨x, hx, h3⟩ := List.any_eq_true.1 h1
        unfold leanOn at h3
        cases hf : findU us n with
        | none => rw [hf] at h3; simp at h3
        | some u =>
          rw [hf] at h3
          refine .step (h.sound x hx) hf ?_
          simpa using h3
    refine ⟨?_, fun y hy => ?_⟩
    · rw [List.nodup_append]
      refine ⟨h.nodup, by simp, fun a ha b hb e => ?_⟩
      rw [List.mem_singleton] at hb
      subst hb; subst e
      exact h2' ha
    · rcases List.mem_append.1 hy with hy | hy
      · exact h.sound y hy
      · rw [List.mem_singleton] at hy; rw [hy]; exact hl
  · exact h
theorem RL.fold {us : List Un} {l : List Str} : ∀ (ns S : List Str), RL us l S → (∀ n ∈ ns, n ∈ namesOf us) → RL us l (ns.foldl (lstep us l) S)
  | [], _, h, _ => h
  | n :: ns, S, h, hn => by
    rw [List.foldl_cons]
    exact RL.fold ns _ (h.step (hn n (by simp))) fun m hm => hn m (by simp [hm])
theorem lstep_len (us : List Un) (l S : List Str) (n : Str) : S.length ≤ (lstep us l S n).length := by
  unfold lstep; split <;> simp
theorem lfold_len (us : List Un) (l : List Str) : ∀ ns S : List Str, S.length ≤ (ns.foldl (lstep us l) S).length
  | [], _ => Nat.le_refl _
  | n :: ns, S => Nat.le_trans (lstep_len us l S n) (lfold_len us l ns _)
theorem lfold_fix {us : List Un} {l : List Str} : ∀ ns S : List Str, (ns.foldl (lstep us l) S).length ≤ S.length → ns.foldl (lstep us l) S = S ∧ ∀ n ∈ ns, leansB us l S n = true → n ∈ S
  | [], _, _ => ⟨rfl, fun n h => (by cases h)⟩
  | n :: ns, S, h => by
    rw [List.foldl_cons] at h ⊢
    have h1 := lfold_len us l ns (lstep us l S n)
    by_cases hq : (leansB us l S n && !decide (n ∈ S)) = true
    · exfalso
      have h2 : (lstep us l S n).length = S.length + 1 := by unfold lstep; rw [if_pos hq]; simp
      omega
    · have h2 : lstep us l S n = S := by unfold lstep; rw [if_neg hq]
      rw [h2] at h ⊢
      obtain ⟨h3, h4⟩ := lfold_fix ns S h
      refine ⟨h3, fun m hm hl => ?_⟩
      rcases List.mem_cons.1 hm with rfl | hm
      · rw [hl] at hq; simpa using hq
      · exact h4 m hm hl
theorem lrounds_stuck {us : List Un} {l S : List Str} (h : lpass us l S = S) : ∀ n, lrounds us l n S = S
  | 0 => rfl
  | n + 1 => by rw [lrounds, h]; exact lrounds_stuck h n
theorem lrounds_spec {us : List Un} {l : List Str} : ∀ (m : Nat) (S : List Str), RL us l S → us.length + 1 ≤ S.length + m → RL us l (lrounds us l m S) ∧ (lpass us l (lrounds us l m S)).length ≤ (lrounds us l m S).length
  | 0, S, h, hm => by have := h.len; omega
  | m + 1, S, h, hm => by
    by_cases hq : (lpass us l S).length ≤ S.length
    · have h1 := (lfold_fix _ _ hq).1
      rw [lrounds_stuck h1]
      exact ⟨h, hq⟩
    · rw [lrounds]
      exact lrounds_spec m _ (RL.fold _ _ h fun n hn => hn) (by omega)
theorem lrounds_lean {us : List Un} {l : List Str} {m : Nat} (hm : us.length + 1 ≤ m) (x : Str) : x ∈ lrounds us l m [] ↔ LeanIn us l x := by
  obtain ⟨h, hc⟩ := lrounds_spec (us := us) (l := l) m [] ⟨List.nodup_nil, fun x h => (by cases h)⟩ (by simpa using hm)
  generalize lrounds us l m [] = S at *
  obtain ⟨-, hf⟩ := lfold_fix _ _ hc
  refine LeanSt.done ⟨h.nodup, h.sound, fun y hy ht => hf y (sortS_mem.2 (there_iff.1 ht)) (by unfold leansB; simp [hy])⟩ (fun n ht => ?_) x
  by_cases hn : n ∈ S
  · exact .inl hn
  · refine .inr fun u hu y hy hS => hn (hf n (sortS_mem.2 (there_iff.1 ht)) ?_)
    unfold leansB
    rw [Bool.or_eq_true]
    refine .inr (List.any_eq_true.2 ⟨y, hS, ?_⟩)
    unfold leanOn
    rw [hu]
    simpa using hy
end Go.Proofs.Ytobdjfibaemmhaa
