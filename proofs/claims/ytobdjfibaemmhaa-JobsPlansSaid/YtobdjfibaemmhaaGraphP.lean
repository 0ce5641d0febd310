/- Graphs of units, the plain part: what is pulled, and what leans. -/
import Derived.Test.YtobdjfibaemmhaaGraphM
namespace Go.Proofs.Ytobdjfibaemmhaa

inductive PullIn (us : List Un) (l : List Str) : Str → Prop
  | base {x : Str} : x ∈ l → there us x = true → PullIn us l x
  | step {n x : Str} {u : Un} : PullIn us l n → findU us n = some u → x ∈ u.requires → there us x = true → PullIn us l x
inductive LeanIn (us : List Un) (l : List Str) : Str → Prop
  | base {x : Str} : x ∈ l → there us x = true → LeanIn us l x
  | step {n x : Str} {u : Un} : LeanIn us l x → findU us n = some u → x ∈ u.requires ++ u.partOf → LeanIn us l n
theorem PullIn.there {us : List Un} {l : List Str} {x : Str} (h : PullIn us l x) : there us x = true := by
  cases h with
  | base _ h => exact h
  | step _ _ _ h => exact h
theorem LeanIn.there {us : List Un} {l : List Str} {x : Str} (h : LeanIn us l x) : there us x = true := by
  cases h with
  | base _ h => exact h
  | step _ h _ => unfold Ytobdjfibaemmhaa.there; rw [h]; rfl
structure PullSt (us : List Un) (l S todo : List Str) : Prop where
  nodup : S.Nodup
  sound : ∀ x ∈ S, PullIn us l x
  pend : ∀ x ∈ todo, there us x = true → PullIn us l x
  base : ∀ x ∈ l, x ∈ S ∨ x ∈ todo ∨ there us x = false
  closed : ∀ n ∈ S, ∀ u, findU us n = some u → ∀ x ∈ u.requires, x ∈ S ∨ x ∈ todo ∨ there us x = false
theorem PullSt.start (us : List Un) (l : List Str) : PullSt us l [] l :=
  ⟨List.nodup_nil, fun x h => (by cases h), fun x h ht => .base h ht, fun x h => .inr (.inl h), fun n h => (by cases h)⟩
theorem PullSt.skip {us : List Un} {l S rest : List Str} {n : Str} (h : PullSt us l S (n :: rest)) (hn : there us n = false ∨ n ∈ S) : PullSt us l S rest := by
  have key : ∀ x, x ∈ S ∨ x ∈ n :: rest ∨ there us x = false → x ∈ S ∨ x ∈ rest ∨ there us x = false := by
    rintro x (h | h | h)
    · exact .inl h
    · rcases List.mem_cons.1 h with rfl | h
      · exact hn.elim (fun h => .inr (.inr h)) .inl
      · exact .inr (.inl h)
    · exact .inr (.inr h)
  exact ⟨h.nodup, h.sound, fun x hx => h.pend x (by simp [hx]), fun x hx => key x (h.base x hx), fun m hm u hu x hx => key x (h.closed m hm u hu x hx)⟩
theorem PullSt.take {us : List Un} {l S rest : List Str} {n : Str} {u : Un} (h : PullSt us l S (n :: rest)) (hu : findU us n = some u) (hn : n ∉ S) : PullSt us l (S ++ [n]) (rest ++ u.requires) := by
  have ht : there us n = true := by unfold Ytobdjfibaemmhaa.there; rw [hu]; rfl
  have hp : PullIn us l n := h.pend n (by simp) ht
  have key : ∀ x, x ∈ S ∨ x ∈ n :: rest ∨ there us x = false → x ∈ S ++ [n] ∨ x ∈ rest ++ u.requires ∨ there us x = false := by
    rintro x (h | h | h)
    · exact .inl (by simp [h])
    · rcases List.mem_cons.1 h with rfl | h
      · exact .inl (by simp)
      · exact .inr (.inl (by simp [h]))
    · exact .inr (.inr h)
  refine ⟨?_, fun x hx => ?_, fun x hx htx => ?_, fun x hx => key x (h.base x hx), fun m hm v hv x hx => ?_⟩
  · rw [List.nodup_append]
    refine ⟨h.nodup, by simp, fun a ha b hb e => ?_⟩
    rw [List.mem_singleton] at hb
    subst hb
    subst e
    exact hn ha
  · rcases List.mem_append.1 hx with hx | hx
    · exact h.sound x hx
    · rw [List.mem_singleton] at hx
      rw [hx]; exact hp
  · rcases List.mem_append.1 hx with hx | hx
    · exact h.pend x (by simp [hx]) htx
    · exact .step hp hu hx htx
  · rcases List.mem_append.1 hm with hm | hm
    · exact key x (h.closed m hm v hv x hx)
    · rw [List.mem_singleton] at hm
      subst hm
      rw [hu] at hv
      cases hv
      exact .inr (.inl (by simp [hx]))
theorem PullSt.done {us : List Un} {l S : List Str} (h : PullSt us l S []) (x : Str) : x ∈ S ↔ PullIn us l x := by
  refine ⟨h.sound x, fun hp => ?_⟩
  induction hp with
  | base hx ht =>
    rcases h.base _ hx with h1 | h1 | h1
    · exact h1
    · cases h1
    · rw [ht] at h1; cases h1
  | step _ hu hx ht ih =>
    rcases h.closed _ ih _ hu _ hx with h1 | h1 | h1
    · exact h1
    · cases h1
    · rw [ht] at h1; cases h1
theorem nodup_len : ∀ {S T : List Str}, S.Nodup → (∀ x ∈ S, x ∈ T) → S.length ≤ T.length
  | [], T, _, _ => Nat.zero_le _
  | a :: r, T, h, hs => by
    rw [List.nodup_cons] at h
    have ha : a ∈ T := hs a (by simp)
    have := nodup_len (S := r) (T := T.erase a) h.2 fun x hx => (List.mem_erase_of_ne (fun e : x = a => h.1 (by rw [← e]; exact hx))).2 (hs x (by simp [hx]))
    rw [List.length_erase_of_mem ha] at this
    have := List.length_pos_of_mem ha
    rw [List.length_cons]
    omega
theorem there_len {us : List Un} {S : List Str} (hn : S.Nodup) (h : ∀ x ∈ S, there us x = true) : S.length ≤ us.length := by
  have : S.length ≤ (us.map Un.name).length := by
    exact nodup_len hn fun x hx => there_iff.1 (h x hx)
  simpa using this
theorem PullSt.len {us : List Un} {l S todo : List Str} (h : PullSt us l S todo) : S.length ≤ us.length := there_len h.nodup fun x hx => (h.sound x hx).there
/-- A list that is sorted, bears each once, and just those of which p holds. -/
def ListOf (p : Str → Prop) (l : List Str) : Prop := l.Nodup ∧ (l.Pairwise fun a b => leS a b = true) ∧ ∀ x, x ∈ l ↔ p x
theorem ListOf.sort {p : Str → Prop} {S : List Str} (hn : S.Nodup) (h : ∀ x, x ∈ S ↔ p x) : ListOf p (sortS S) := ⟨sortS_nodup hn, sortS_sorted S, fun x => sortS_mem.trans (h x)⟩
theorem ListOf.unique {p : Str → Prop} {l m : List Str} (h : ListOf p l) (k : ListOf p m) : l = m :=
  sorted_unique ((List.perm_ext_iff_of_nodup h.1 k.1).2 fun x => (h.2.2 x).trans (k.2.2 x).symm) h.2.1 k.2.1
theorem ListOf.congr {p q : Str → Prop} {l : List Str} (h : ListOf p l) (e : ∀ x, p x ↔ q x) : ListOf q l := ⟨h.1, h.2.1, fun x => (h.2.2 x).trans (e x)⟩
/-- One round through all units: what has come leans just where it did not. -/
structure LeanSt (us : List Un) (l S : List Str) : Prop where
  nodup : S.Nodup
  sound : ∀ x ∈ S, LeanIn us l x
  base : ∀ x ∈ l, there us x = true → x ∈ S
theorem LeanSt.add {us : List Un} {l S : List Str} {n x : Str} {u : Un} (h : LeanSt us l S) (hu : findU us n = some u) (hn : n ∉ S) (hx : x ∈ u.requires ++ u.partOf) (hs : x ∈ S) : LeanSt us l (S ++ [n]) := by
  refine ⟨?_, fun y hy => ?_, fun y hy ht => by simp [h.base y hy ht]⟩
  · rw [List.nodup_append]
    refine ⟨h.nodup, by simp, fun a ha b hb e => ?_⟩
    rw [List.mem_singleton] at hb
    subst hb
    subst e
    exact hn ha
  · rcases List.mem_append.1 hy with hy | hy
    · exact h.sound y hy
    · rw [List.mem_singleton] at hy
      rw [hy]; exact .step (h.sound x hs) hu hx
theorem LeanSt.len {us : List Un} {l S : List Str} (h : LeanSt us l S) : S.length ≤ us.length := there_len h.nodup fun x hx => (h.sound x hx).there
def LeanClosed (us : List Un) (S : List Str) (n : Str) : Prop := n ∈ S ∨ ∀ u, findU us n = some u → ∀ x ∈ u.requires ++ u.partOf, x ∉ S
theorem LeanSt.done {us : List Un} {l S : List Str} (h : LeanSt us l S) (hc : ∀ n, there us n = true → LeanClosed us S n) (x : Str) : x ∈ S ↔ LeanIn us l x := by
  refine ⟨h.sound x, fun hp => ?_⟩
  induction hp with
  | base hx ht => exact h.base _ hx ht
  | @step n y u h1 hu hx ih =>
    have ht : there us n = true := by unfold Ytobdjfibaemmhaa.there; rw [hu]; rfl
    rcases hc n ht with h2 | h2
    · exact h2
    · exact absurd ih (h2 _ hu _ hx)
end Go.Proofs.Ytobdjfibaemmhaa
