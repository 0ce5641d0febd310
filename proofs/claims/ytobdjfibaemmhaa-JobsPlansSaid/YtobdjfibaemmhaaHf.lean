/- The plain law of the document's Order. -/
import Derived.Test.YtobdjfibaemmhaaHe
namespace Go.Proofs.Ytobdjfibaemmhaa
open Go.RowKit Go.Maps Go.Lib

/-- Is a unit free, as the document asks it? -/
def rfree (us : List Un) (out : List Str) (n : Str) : Bool := decide (n ∉ out) && (namesOf us).all fun x => !standsB us n x || decide (x ∈ out)
def rnext (us : List Un) (out : List Str) : Option Str := (namesOf us).find? (rfree us out)
def rstep (us : List Un) (out : List Str) : List Str := match rnext us out with
  | none => out
  | some x => out ++ [x]
def rorder (us : List Un) : Nat → List Str → List Str
  | 0, out => out
  | n + 1, out => rorder us n (rstep us out)
def leftOf (us : List Un) (out : List Str) : List Str := (namesOf us).filter fun x => decide (x ∉ out)
theorem free_eq {us : List Un} {out : List Str} {n : Str} : free (behP us) out n = (namesOf us).all fun x => !standsB us n x || decide (x ∈ out) := by
  rw [Bool.eq_iff_iff]
  unfold free
  rw [List.all_eq_true, List.all_eq_true]
  constructor
  · intro h x hx
    by_cases hs : standsB us n x = true
    · have := h x (behP_mem.2 (standsB_iff.1 hs))
      rw [List.contains_iff_mem] at this
      simp [this]
    · simp [hs]
  · intro h x hx
    have h1 := h x (sortS_mem.2 (behP_short hx))
    have h2 : standsB us n x = true := standsB_iff.2 (behP_mem.1 hx)
    rw [h2] at h1
    rw [List.contains_iff_mem]
    simpa using h1
theorem rnext_left {us : List Un} {out : List Str} : rnext us out = (leftOf us out).find? (free (behP us) out) := by
  unfold rnext leftOf
  rw [List.find?_filter]
  congr 1
  funext a
  unfold rfree
  rw [← free_eq]
  by_cases h1 : a ∈ out <;> cases free (behP us) out a <;> simp [h1]
theorem erase_get : ∀ {l : List Str} (_ : l.Nodup) {i : Nat} (hi : i < l.length), l.eraseIdx i = l.filter fun x => decide (x ≠ l[i])
  | [], _, i, hi => absurd hi (Nat.not_lt_zero _)
  | a :: l, hd, 0, _ => by
    rw [List.nodup_cons] at hd
    simp only [List.eraseIdx_cons_zero, List.getElem_cons_zero]
    rw [List.filter_cons_of_neg (by simp)]
    symm
    rw [List.filter_eq_self]
    intro x hx
    have : x ≠ a := fun e => hd.1 (e ▸ hx)
    simp [this]
  | a :: l, hd, i + 1, hi => by
    rw [List.nodup_cons] at hd
    simp only [List.eraseIdx_cons_succ, List.getElem_cons_succ]
    have h1 : i < l.length := by simpa using hi
    have : a ≠ l[i] := fun e => hd.1 (e ▸ List.getElem_mem h1)
    rw [List.filter_cons_of_pos (by simp [this]), erase_get hd.2 h1]
theorem names_nodup {us : List Un} (hd : (us.map Un.name).Nodup) : (namesOf us).Nodup := (sortS_perm _).nodup_iff.2 hd
theorem leftOf_snoc {us : List Un} {out : List Str} {y : Str} : leftOf us (out ++ [y]) = (leftOf us out).filter fun x => decide (x ≠ y) := by
  unfold leftOf
  rw [List.filter_filter]
  congr 1
  funext a
  rw [Bool.eq_iff_iff]; simp; exact And.comm
theorem rorder_stuck {us : List Un} {out : List Str} (h : rstep us out = out) : ∀ n, rorder us n out = out
  | 0 => rfl
  | n + 1 => by rw [rorder, h]; exact rorder_stuck h n
theorem rorder_sortP {us : List Un} (hd : (us.map Un.name).Nodup) : ∀ (f : Nat) (out : List Str), (leftOf us out).length ≤ f → ∀ m, f ≤ m → rorder us m out = (sortP (behP us) f (leftOf us out) out).1
  | 0, out, h, m, _ => by
    have h0 : leftOf us out = [] := List.length_eq_zero_iff.1 (by omega)
    rw [sortP]
    refine rorder_stuck ?_ m
    unfold rstep
    rw [rnext_left, h0]
    rfl
  | f + 1, out, h, m, hm => by
    rw [sortP]
    unfold firstFree
    cases h1 : (leftOf us out).findIdx? (free (behP us) out) with
    | none =>
      refine rorder_stuck ?_ m
      unfold rstep
      rw [List.findIdx?_eq_none_iff] at h1
      have : rnext us out = none := by
        rw [rnext_left, List.find?_eq_none]
        intro x hx; simp [h1 x hx]
      rw [this]
    | some i =>
      obtain ⟨hi, hf, hlt⟩ := List.findIdx?_eq_some_iff_getElem.1 h1
      obtain ⟨m, rfl⟩ : ∃ k, m = k + 1 := ⟨m - 1, by omega⟩
      have hn : rnext us out = some (leftOf us out)[i] := by
        rw [rnext_left, List.find?_eq_some_iff_getElem]
        exact ⟨hf, i, hi, rfl, fun j hj => by simpa using hlt j hj⟩
      have hs : rstep us out = out ++ [(leftOf us out)[i]] := by unfold rstep; rw [hn]
      have hl : leftOf us (out ++ [(leftOf us out)[i]]) = (leftOf us out).eraseIdx i := by
        have hq : (leftOf us out).Nodup := (names_nodup hd).filter _
        rw [leftOf_snoc, erase_get hq hi]
      rw [rorder, hs]
      have hg : (leftOf us out).getD i [] = (leftOf us out)[i] := by simp [hi]
      simp only [hg]
      rw [← hl]
      refine rorder_sortP hd f _ ?_ m (by omega)
      rw [hl, List.length_eraseIdx_of_lt hi]; omega
theorem rorder_order {us : List Un} (hd : (us.map Un.name).Nodup) : rorder us ((namesOf us).length + 1) [] = (orderOf us).1 := by
  have h0 : leftOf us [] = namesOf us := by unfold leftOf; simp
  have hl : (namesOf us).length = us.length := by unfold namesOf; rw [(sortS_perm _).length_eq, List.length_map]
  have := rorder_sortP hd us.length [] (by rw [h0]; omega) ((namesOf us).length + 1) (by omega)
  rw [this, h0]
  rfl
end Go.Proofs.Ytobdjfibaemmhaa
