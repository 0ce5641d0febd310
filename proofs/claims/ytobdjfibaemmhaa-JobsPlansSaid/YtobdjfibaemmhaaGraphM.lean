/- Graphs of units, the plain part: the order. -/
import Derived.Test.YtobdjfibaemmhaaGraphL
namespace Go.Proofs.Ytobdjfibaemmhaa

theorem free_iff {b : Beh} {o : List Str} {n : Str} : free b o n = true ↔ ∀ x ∈ b n, x ∈ o := by
  unfold free
  rw [List.all_eq_true]
  simp
/-- What stands in an order: each behind all behind which it is to stand, and each once. -/
def Good (b : Beh) (o : List Str) : Prop := o.Nodup ∧ ∀ s n t, o = s ++ n :: t → ∀ x ∈ b n, x ∈ s
theorem Good.snoc {b : Beh} {o : List Str} {n : Str} (h : Good b o) (hn : n ∉ o) (hf : ∀ x ∈ b n, x ∈ o) : Good b (o ++ [n]) := by
  refine ⟨?_, fun s m t e x hx => ?_⟩
  · rw [List.nodup_append]
    refine ⟨h.1, by simp, fun a ha c hc => ?_⟩
    rw [List.mem_singleton] at hc
    subst hc
    intro e
    subst e
    exact hn ha
  · rcases List.eq_nil_or_concat t with rfl | ⟨t', y, rfl⟩
    · have e' : o ++ [n] = s ++ [m] := e
      have h1 := List.append_inj' e' rfl
      obtain ⟨rfl, h2⟩ := h1
      obtain rfl : n = m := by simpa using h2
      exact hf x hx
    · have e' : o ++ [n] = (s ++ m :: t') ++ [y] := by rw [e]; simp
      have h1 := List.append_inj' e' rfl
      exact h.2 s m t' h1.1 x hx
theorem firstFree_some {b : Beh} {o l : List Str} {i : Nat} (h : firstFree b o l = some i) : ∃ hi : i < l.length, (∀ x ∈ b l[i], x ∈ o) ∧ ∀ j (hj : j < i), ¬ ∀ x ∈ b (l[j]'(by omega)), x ∈ o := by
  unfold firstFree at h
  rw [List.findIdx?_eq_some_iff_getElem] at h
  obtain ⟨hi, h1, h2⟩ := h
  refine ⟨hi, free_iff.1 h1, fun j hj hc => ?_⟩
  have := h2 j hj
  rw [free_iff.2 hc] at this
  simp at this
theorem firstFree_none {b : Beh} {o l : List Str} (h : firstFree b o l = none) : ∀ n ∈ l, ¬ ∀ x ∈ b n, x ∈ o := by
  unfold firstFree at h
  rw [List.findIdx?_eq_none_iff] at h
  intro n hn hc
  have := h n hn
  rw [free_iff.2 hc] at this
  cases this
theorem erase_perm : ∀ {l : List Str} {i : Nat} (hi : i < l.length), (l[i] :: l.eraseIdx i).Perm l
  | a :: r, 0, _ => List.Perm.refl _
  | a :: r, i + 1, hi => by
    have hi' : i < r.length := by simpa using hi
    have h := erase_perm hi'
    simp only [List.getElem_cons_succ, List.eraseIdx_cons_succ]
    exact (List.Perm.swap a r[i] _).trans (h.cons a)
theorem getD_eq {l : List Str} {i : Nat} (hi : i < l.length) : l.getD i [] = l[i] := by simp [List.getD, hi]
/-- The order that comes out, and that those that are left can't be placed. -/
theorem sortP_spec (b : Beh) : ∀ (f : Nat) (left order : List Str) (_ : left.length ≤ f) (_ : Good b order) (_ : (order ++ left).Nodup),
    Good b (sortP b f left order).1 ∧ ((sortP b f left order).1 ++ (sortP b f left order).2).Perm (order ++ left) ∧ ∀ n ∈ (sortP b f left order).2, ¬ ∀ x ∈ b n, x ∈ (sortP b f left order).1
  | 0, left, order, hl, hg, _ => by
    obtain rfl : left = [] := List.eq_nil_of_length_eq_zero (by omega)
    exact ⟨hg, List.Perm.refl _, fun n hn => by cases hn⟩
  | f + 1, left, order, hl, hg, hn => by
    rw [sortP]
    cases h : firstFree b order left with
    | none => exact ⟨hg, List.Perm.refl _, firstFree_none h⟩
    | some i =>
      dsimp only
      obtain ⟨hi, h1, -⟩ := firstFree_some h
      rw [getD_eq hi]
      have hp : (order ++ [left[i]] ++ left.eraseIdx i).Perm (order ++ left) := by
        rw [List.append_assoc]
        exact (erase_perm hi).append_left order
      have hnot : left[i] ∉ order := fun hm => by
        rw [List.nodup_append] at hn
        exact hn.2.2 _ hm _ (List.getElem_mem hi) rfl
      obtain ⟨k1, k2, k3⟩ := sortP_spec b f (left.eraseIdx i) (order ++ [left[i]]) (by rw [List.length_eraseIdx_of_lt hi]; omega) (hg.snoc hnot h1) (hp.nodup_iff.2 hn)
      exact ⟨k1, k2.trans hp, k3⟩
/-- The order depends on what stands behind what alone, as a set. -/
theorem free_congr {b c : Beh} (h : ∀ n x, x ∈ b n ↔ x ∈ c n) (o : List Str) : free b o = free c o := by
  funext n
  have : free b o n = true ↔ free c o n = true := by
    rw [free_iff, free_iff]
    exact ⟨fun k x hx => k x ((h n x).2 hx), fun k x hx => k x ((h n x).1 hx)⟩
  cases h1 : free b o n <;> cases h2 : free c o n <;> simp_all
theorem sortP_congr {b c : Beh} (h : ∀ n x, x ∈ b n ↔ x ∈ c n) : ∀ (f : Nat) (left order : List Str), sortP b f left order = sortP c f left order
  | 0, _, _ => rfl
  | f + 1, left, order => by
    rw [sortP, sortP]
    unfold firstFree
    rw [free_congr h]
    split
    · rfl
    · exact sortP_congr h f _ _
/-- A unit that has nothing to do with the others. -/
theorem sortP_more {b c : Beh} {m : Str} (hb : ∀ n, n ≠ m → ∀ x, x ∈ b n ↔ x ∈ c n) (hm : ∀ x, x ∉ c m) (hno : ∀ n, m ∉ c n) :
    ∀ (f g : Nat) (left left2 order order2 : List Str) (_ : left.length ≤ f) (_ : left2.length ≤ g) (_ : left2.filter (· != m) = left) (_ : order2.filter (· != m) = order) (_ : left2.Nodup) (_ : m ∉ left),
      (sortP c g left2 order2).1.filter (· != m) = (sortP b f left order).1 ∧ (sortP c g left2 order2).2 = (sortP b f left order).2
  | f, 0, left, left2, order, order2, _, hg, h1, h2, _, _ => by
    obtain rfl : left2 = [] := List.eq_nil_of_length_eq_zero (by omega)
    obtain rfl : left = [] := by rw [← h1]; rfl
    cases f with
    | zero => exact ⟨h2, rfl⟩
    | succ f =>
      have : firstFree b order [] = none := rfl
      rw [sortP, sortP, this]
      exact ⟨h2, rfl⟩
  | f, g + 1, left, left2, order, order2, hf, hg, h1, h2, hn, hml => by
    have hfr : ∀ n, n ≠ m → free c order2 n = free b order n := by
      intro n hnm
      have : free c order2 n = true ↔ free b order n = true := by
        rw [free_iff, free_iff]
        constructor
        · intro k x hx
          have h3 := k x ((hb n hnm x).1 hx)
          rw [← h2, List.mem_filter]
          refine ⟨h3, ?_⟩
          rw [bne_iff_ne]
          rintro rfl
          exact hno n ((hb n hnm x).1 hx)
        · intro k x hx
          have h3 := k x ((hb n hnm x).2 hx)
          rw [← h2, List.mem_filter] at h3
          exact h3.1
      cases h3 : free c order2 n <;> cases h4 : free b order n <;> simp_all
    have hfm : free c order2 m = true := free_iff.2 fun x hx => absurd hx (hm x)
    rw [sortP]
    cases h : firstFree c order2 left2 with
    | none =>
      have hall := firstFree_none h
      have hm2 : m ∉ left2 := fun hm2 => hall m hm2 fun x hx => absurd hx (hm x)
      have hl2 : left2 = left := by
        rw [← h1, List.filter_eq_self.2]
        intro a ha
        rw [bne_iff_ne]
        rintro rfl
        exact hm2 ha
      subst hl2
      have hno2 : firstFree b order left2 = none := by
        unfold firstFree
        rw [List.findIdx?_eq_none_iff]
        intro n hn'
        rw [← hfr n (fun e => hm2 (e ▸ hn'))]
        unfold firstFree at h
        rw [List.findIdx?_eq_none_iff] at h
        exact h n hn'
      cases f with
      | zero =>
        exact ⟨h2, rfl⟩
      | succ f =>
        rw [sortP, hno2]
        exact ⟨h2, rfl⟩
    | some i =>
      dsimp only
      obtain ⟨hi, k1, k2⟩ := firstFree_some h
      rw [getD_eq hi]
      have hp := erase_perm hi
      have hnd : (left2.eraseIdx i).Nodup := by
        have := hp.nodup_iff.2 hn
        exact (List.nodup_cons.1 this).2
      have hlen : (left2.eraseIdx i).length ≤ g := by rw [List.length_eraseIdx_of_lt hi]; omega
      by_cases hmi : left2[i] = m
      · have e1 : (left2.eraseIdx i).filter (· != m) = left := by
          rw [← h1]
          have e2 : left2 = left2.take i ++ left2[i] :: left2.drop (i + 1) := by rw [List.getElem_cons_drop, List.take_append_drop]
          have e3 : left2.eraseIdx i = left2.take i ++ left2.drop (i + 1) := List.eraseIdx_eq_take_drop_succ ..
          have e4 : left2.filter (· != m) = (left2.take i).filter (· != m) ++ (left2.drop (i + 1)).filter (· != m) := by
            conv => lhs; rw [e2]
            rw [List.filter_append, List.filter_cons_of_neg (by rw [hmi]; simp)]
          rw [e4, e3, List.filter_append]
        have e5 : (order2 ++ [left2[i]]).filter (· != m) = order := by rw [List.filter_append, h2, hmi]; simp
        exact sortP_more hb hm hno f g left (left2.eraseIdx i) order (order2 ++ [left2[i]]) hf hlen e1 e5 hnd hml
      · -- the same one is placed in both
        have e2 : left2 = left2.take i ++ left2[i] :: left2.drop (i + 1) := by rw [List.getElem_cons_drop, List.take_append_drop]
        have hmt : m ∉ left2.take i := fun hmt => by
          obtain ⟨j, hj, e⟩ := List.getElem_of_mem hmt
          rw [List.length_take] at hj
          rw [List.getElem_take] at e
          exact k2 j (by omega) fun x hx => by rw [e] at hx; exact absurd hx (hm x)
        have ht : (left2.take i).filter (· != m) = left2.take i := by
          rw [List.filter_eq_self]
          intro a ha
          rw [bne_iff_ne]
          rintro rfl
          exact hmt ha
        have hsplit : left = left2.take i ++ left2[i] :: (left2.drop (i + 1)).filter (· != m) := by
          rw [← h1]
          conv => lhs; rw [e2]
          rw [List.filter_append, ht, List.filter_cons_of_pos (by rw [bne_iff_ne]; exact hmi)]
        have hti : (left2.take i).length = i := by rw [List.length_take]; omega
        have hil : i < left.length := by rw [hsplit]; simp [hti]
        have hli : left[i] = left2[i] := by
          have : left[i]? = some left2[i] := by
            rw [hsplit, List.getElem?_append_right (by omega)]
            simp [hti]
          exact (List.getElem?_eq_some_iff.1 this).2
        have hfirst : firstFree b order left = some i := by
          unfold firstFree
          rw [List.findIdx?_eq_some_iff_getElem]
          refine ⟨hil, ?_, fun j hj => ?_⟩
          · rw [hli, ← hfr _ hmi]; exact free_iff.2 k1
          · have hj2 : left[j]'(by omega) = left2[j]'(by omega) := by
              have : left[j]? = some (left2[j]'(by omega)) := by
                rw [hsplit, List.getElem?_append_left (by omega), List.getElem?_take_of_lt hj]
                exact List.getElem?_eq_getElem (by omega)
              exact (List.getElem?_eq_some_iff.1 this).2
            rw [hj2]
            have hne : left2[j]'(by omega) ≠ m := fun e => hmt (by
              rw [← e]
              rw [List.mem_take_iff_getElem]
              exact ⟨j, by omega, rfl⟩)
            rw [← hfr _ hne]
            have := k2 j hj
            cases hc : free c order2 (left2[j]'(by omega)) with
            | false => simp
            | true => exact absurd (free_iff.1 hc) this
        cases f with
        | zero => omega
        | succ f =>
          have hers : left.eraseIdx i = left2.take i ++ (left2.drop (i + 1)).filter (· != m) := by
            rw [hsplit, List.eraseIdx_append_of_length_le (by omega), hti]
            simp
          have e1 : (left2.eraseIdx i).filter (· != m) = left.eraseIdx i := by
            rw [List.eraseIdx_eq_take_drop_succ, List.filter_append, ht, hers]
          rw [sortP, hfirst]
          dsimp only
          rw [getD_eq hil, hli]
          exact sortP_more hb hm hno f g (left.eraseIdx i) (left2.eraseIdx i) (order ++ [left2[i]]) (order2 ++ [left2[i]]) (by rw [List.length_eraseIdx_of_lt hil]; omega) hlen e1
            (by rw [List.filter_append, h2, List.filter_cons_of_pos (by rw [bne_iff_ne]; exact hmi)]; rfl) hnd (fun h9 => hml (List.mem_of_mem_eraseIdx h9))
end Go.Proofs.Ytobdjfibaemmhaa
