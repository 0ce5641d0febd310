/- Units in rows; the document's example of graph: plain facts. -/
import Derived.Test.YtobdjfibaemmhaaGm
namespace Go.Proofs.Ytobdjfibaemmhaa
open Go.RowKit Go.Maps Go.Lib

theorem flat8 : ∀ {Rs : List (List Value)}, (∀ R ∈ Rs, R.length = 8) → ∀ i j, (h : i < Rs.length) → j < 8 → Rs.flatten[i * 8 + j]? = (Rs[i])[j]?
  | [], _, i, j, h, _ => absurd h (by simp)
  | R :: r, hR, i, j, h, hj => by
    have h8 : R.length = 8 := hR R (by simp)
    rw [List.flatten_cons]
    match i, h with
    | 0, _ =>
      rw [List.getElem?_append_left (by omega)]
      simp
    | i + 1, h =>
      rw [List.getElem?_append_right (by omega), h8, show (i + 1) * 8 + j - 8 = i * 8 + j by omega]
      rw [flat8 (fun R hR' => hR R (by simp [hR'])) i j (by simpa using h) hj]
      simp
theorem unitsIn_block {w : World} {b n cap : Nat} {cs : Array Value} {t : TypeId} {fz : Nat × Nat} {Rs : List (List Value)} {us : List Un} (hb : w.heap[b]? = some (.cells cs t fz)) (hl : Rs.length = us.length) (h8 : ∀ R ∈ Rs, R.length = 8) (hcs : cs.toList.take (us.length * 8) = Rs.flatten)
    (hn : n = us.length) (hcap : n ≤ cap) (hm : cap ≤ 9223372036854775807) (hu : ∀ i, (h : i < us.length) → UnitIs w (.agg (Rs[i]'(by omega)).toArray) us[i]) : UnitsIn w (.slice (some ⟨b, 0, none⟩) n cap) us := by
  subst hn
  refine ⟨_, _, rfl, hcap, hm, fun i hi => ⟨b, 0, _, rfl, hu i hi, fun j v hj => ?_⟩⟩
  have hi' : i < Rs.length := by omega
  have h1 : (Rs[i]).length = 8 := h8 _ (List.getElem_mem hi')
  have hj8 : j < 8 := by
    have := (List.getElem?_eq_some_iff.1 hj).1
    rw [← h1]
    simpa using this
  have h2 := flat8 h8 i j hi' hj8
  rw [← hcs, List.getElem?_take_of_lt (by omega)] at h2
  rw [Nat.zero_add, cell_blk hb, ← Array.getElem?_toList, h2]
  exact hj
def ua : Un := ⟨[97], [], [], [], [[98]], [], [], 0⟩
def ub : Un := ⟨[98], [], [], [], [], [], [], 0⟩
def uc : Un := ⟨[99], [], [], [[98]], [], [], [[97]], 0⟩
def us3 : List Un := [ua, ub, uc]
theorem sortS_of {l : List Str} (h : l.Pairwise fun a b => leS a b = true) : sortS l = l := sorted_unique (sortS_perm l) (sortS_sorted l) h
theorem names3 : namesOf us3 = [[97], [98], [99]] := by
  unfold namesOf
  exact sortS_of (by decide)
theorem order3 : orderOf us3 = ([[99], [98], [97]], []) := by
  unfold orderOf behP
  rw [names3]
  decide
theorem beh3 : behP us3 [97] = [[98]] := by
  unfold behP
  rw [names3]
  decide
theorem new3 : newErr us3 = none := by
  unfold newErr needsP
  rw [names3, order3]
  decide
theorem small3 : SmallU us3 := smallB_u (by decide)
theorem mem3 {x : Str} (h : there us3 x = true) : x ∈ [[97], [98], [99]] := by
  have := there_iff.1 h
  exact this
theorem lean3 {r : List Str} (h : ListOf (LeanIn us3 [[98]]) r) : r.length = 3 := by
  have hb : LeanIn us3 [[98]] [98] := .base (by simp) (by decide)
  have ha : LeanIn us3 [[98]] [97] := .step hb (u := ua) rfl (by decide)
  have hc : LeanIn us3 [[98]] [99] := .step ha (u := uc) rfl (by decide)
  have : ListOf (LeanIn us3 [[98]]) [[97], [98], [99]] := ⟨by decide, by decide, fun x => ⟨fun hx => by
    simp only [List.mem_cons, List.not_mem_nil, or_false] at hx
    rcases hx with rfl | rfl | rfl
    · exact ha
    · exact hb
    · exact hc, fun hx => mem3 hx.there⟩⟩
  rw [h.unique this]; rfl
theorem pull3 {r : List Str} (h : ListOf (PullIn us3 [[97]]) r) : r.length = 2 := by
  have ha : PullIn us3 [[97]] [97] := .base (by simp) (by decide)
  have hb : PullIn us3 [[97]] [98] := .step ha (u := ua) rfl (by decide) (by decide)
  have : ListOf (PullIn us3 [[97]]) [[97], [98]] := ⟨by decide, by decide, fun x => ⟨fun hx => by
    simp only [List.mem_cons, List.not_mem_nil, or_false] at hx
    rcases hx with rfl | rfl
    · exact ha
    · exact hb, fun hx => by
      induction hx with
      | base hx _ => simp at hx; simp [hx]
      | @step n x u _ hu hx _ ih =>
        simp only [List.mem_cons, List.not_mem_nil, or_false] at ih
        rcases ih with rfl | rfl
        · have : findU us3 [97] = some ua := rfl
          rw [this] at hu
          cases hu
          simp [ua] at hx
          simp [hx]
        · have : findU us3 [98] = some ub := rfl
          rw [this] at hu
          cases hu
          simp [ub] at hx⟩⟩
  rw [h.unique this]; rfl
def va : Un := ⟨[97], [], [[98]], [], [], [], [], 0⟩
def vb : Un := ⟨[98], [], [[97]], [], [], [], [], 0⟩
def us2 : List Un := [va, vb]
theorem names2 : namesOf us2 = [[97], [98]] := by
  unfold namesOf
  exact sortS_of (by decide)
theorem order2 : orderOf us2 = ([], [[97], [98]]) := by
  unfold orderOf behP
  rw [names2]
  decide
theorem new2 : newErr us2 = some (19, [97]) := by
  unfold newErr needsP
  rw [names2, order2]
  decide
theorem small2 : SmallU us2 := smallB_u (by decide)
end Go.Proofs.Ytobdjfibaemmhaa
