/- Graphs of units, the plain part: what New, Order, Lean and Pull compute, and the laws. -/
import Derived.Sort.KeysCollected
namespace Go.Proofs.Ytobdjfibaemmhaa

abbrev Str := List UInt8
structure Un where
  name : Str
  files : List Str
  after : List Str
  before : List Str
  requires : List Str
  wants : List Str
  partOf : List Str
  retry : Int
def leS : Str → Str → Bool := fun x y => decide (x ≤ y)
def sortS (l : List Str) : List Str := l.mergeSort leS
theorem leS_trans (a b c : Str) (h1 : leS a b = true) (h2 : leS b c = true) : leS a c = true := by
  unfold leS at *
  rw [decide_eq_true_iff] at *
  exact List.le_trans h1 h2
theorem leS_total (a b : Str) : (leS a b || leS b a) = true := by
  unfold leS
  rw [Bool.or_eq_true, decide_eq_true_iff, decide_eq_true_iff]
  exact List.le_total a b
theorem leS_antisymm (a b : Str) (h1 : leS a b = true) (h2 : leS b a = true) : a = b := by
  unfold leS at *
  rw [decide_eq_true_iff] at *
  exact List.le_antisymm h1 h2
theorem sortS_perm (l : List Str) : (sortS l).Perm l := List.mergeSort_perm l leS
theorem sortS_mem {l : List Str} {x : Str} : x ∈ sortS l ↔ x ∈ l := (sortS_perm l).mem_iff
theorem sortS_sorted (l : List Str) : (sortS l).Pairwise fun a b => leS a b = true := List.pairwise_mergeSort leS_trans leS_total l
theorem sorted_unique : ∀ {l m : List Str}, l.Perm m → (l.Pairwise fun a b => leS a b = true) → (m.Pairwise fun a b => leS a b = true) → l = m := by
  intro l m hp hl hm
  exact hp.eq_of_pairwise (fun a b _ _ h1 h2 => leS_antisymm a b h1 h2) hl hm
theorem sortS_eq {l m : List Str} (h : l.Perm m) : sortS l = sortS m :=
  sorted_unique ((sortS_perm l).trans (h.trans (sortS_perm m).symm)) (sortS_sorted l) (sortS_sorted m)
theorem sortS_nodup {l : List Str} (h : l.Nodup) : (sortS l).Nodup := (sortS_perm l).nodup_iff.2 h

def namesOf (us : List Un) : List Str := sortS (us.map Un.name)
def findU (us : List Un) (n : Str) : Option Un := us.find? fun u => u.name == n
def there (us : List Un) (n : Str) : Bool := (findU us n).isSome
theorem there_iff {us : List Un} {n : Str} : there us n = true ↔ n ∈ us.map Un.name := by
  unfold there findU
  rw [List.find?_isSome]
  constructor
  · rintro ⟨u, hu, h⟩
    exact List.mem_map.2 ⟨u, hu, by simpa using h⟩
  · intro h
    obtain ⟨u, hu, h⟩ := List.mem_map.1 h
    exact ⟨u, hu, by simpa using h⟩
theorem findU_name {us : List Un} {n : Str} {u : Un} (h : findU us n = some u) : u ∈ us ∧ u.name = n := by
  unfold findU at h
  have := List.find?_some h
  exact ⟨List.mem_of_find?_eq_some h, by simpa using this⟩
theorem findU_mem {us : List Un} (hd : (us.map Un.name).Nodup) {u : Un} (hu : u ∈ us) : findU us u.name = some u := by
  unfold findU
  rw [List.find?_eq_some_iff_append]
  refine ⟨by simp, ?_⟩
  obtain ⟨s, t, rfl⟩ := List.append_of_mem hu
  refine ⟨s, t, rfl, fun a ha => ?_⟩
  simp only [Bool.not_eq_true', beq_eq_false_iff_ne, ne_eq]
  intro e
  rw [List.map_append, List.map_cons, List.nodup_append] at hd
  exact hd.2.2 a.name (List.mem_map_of_mem ha) u.name (by simp) e

/-- What stands behind what. -/
abbrev Beh := Str → List Str
def putP (us : List Un) (b : Beh) (n : Str) (xs : List Str) : Beh := if there us n then fun k => if k = n then b n ++ xs.filter (there us) else b k else b
def behOne (us : List Un) (b : Beh) (n : Str) : Beh := match findU us n with
  | none => b
  | some u => u.before.foldl (fun c x => putP us c x [n]) (putP us b n (u.after ++ u.requires))
def behP (us : List Un) : Beh := (namesOf us).foldl (behOne us) fun _ => []
/-- Does one stand right behind another one? -/
def Stands (us : List Un) (n x : Str) : Prop := ∃ u v, findU us n = some u ∧ findU us x = some v ∧ (x ∈ u.after ∨ x ∈ u.requires ∨ n ∈ v.before)
theorem putP_mem {us : List Un} {b : Beh} {n : Str} {xs : List Str} {k x : Str} : x ∈ putP us b n xs k ↔ x ∈ b k ∨ (k = n ∧ there us n = true ∧ x ∈ xs ∧ there us x = true) := by
  unfold putP
  by_cases h : there us n = true
  · rw [if_pos h]
    show x ∈ (if k = n then b n ++ xs.filter (there us) else b k) ↔ _
    by_cases hk : k = n
    · subst hk
      rw [if_pos rfl, List.mem_append, List.mem_filter]
      simp [h]
    · rw [if_neg hk]; simp [hk]
  · rw [if_neg h]
    simp [h]
theorem putAll_mem {us : List Un} {n : Str} : ∀ {xs : List Str} {b : Beh} {k x : Str}, x ∈ xs.foldl (fun c y => putP us c y [n]) b k ↔ x ∈ b k ∨ (x = n ∧ k ∈ xs ∧ there us k = true ∧ there us n = true)
  | [], b, k, x => by simp
  | y :: r, b, k, x => by
    rw [List.foldl_cons, putAll_mem, putP_mem]
    constructor
    · rintro ((h | ⟨rfl, h1, h2, h3⟩) | ⟨h1, h2, h3, h4⟩)
      · exact .inl h
      · rw [List.mem_singleton] at h2
        subst h2
        exact .inr ⟨rfl, by simp, h1, h3⟩
      · exact .inr ⟨h1, by simp [h2], h3, h4⟩
    · rintro (h | ⟨rfl, h2, h3, h4⟩)
      · exact .inl (.inl h)
      · rcases List.mem_cons.1 h2 with rfl | h2
        · exact .inl (.inr ⟨rfl, h3, by simp, h4⟩)
        · exact .inr ⟨rfl, h2, h3, h4⟩
theorem behOne_mem {us : List Un} {b : Beh} {n k x : Str} : x ∈ behOne us b n k ↔ x ∈ b k ∨ ∃ u, findU us n = some u ∧ ((k = n ∧ there us x = true ∧ (x ∈ u.after ∨ x ∈ u.requires)) ∨ (x = n ∧ k ∈ u.before ∧ there us k = true)) := by
  unfold behOne
  cases hf : findU us n with
  | none => simp
  | some u =>
    have ht : there us n = true := by unfold there; rw [hf]; rfl
    dsimp only
    rw [putAll_mem, putP_mem]
    constructor
    · rintro ((h | ⟨rfl, _, h2, h3⟩) | ⟨rfl, h2, h3, _⟩)
      · exact .inl h
      · exact .inr ⟨u, rfl, .inl ⟨rfl, h3, by simpa using h2⟩⟩
      · exact .inr ⟨u, rfl, .inr ⟨rfl, h2, h3⟩⟩
    · rintro (h | ⟨v, hv, h⟩)
      · exact .inl (.inl h)
      · obtain rfl := Option.some.inj hv
        rcases h with ⟨rfl, h2, h3⟩ | ⟨rfl, h2, h3⟩
        · exact .inl (.inr ⟨rfl, ht, by simpa using h3, h2⟩)
        · exact .inr ⟨rfl, h2, h3, ht⟩
theorem behGo_mem {us : List Un} : ∀ {l : List Str} {b : Beh} {k x : Str}, x ∈ l.foldl (behOne us) b k ↔ x ∈ b k ∨ ∃ n ∈ l, ∃ u, findU us n = some u ∧ ((k = n ∧ there us x = true ∧ (x ∈ u.after ∨ x ∈ u.requires)) ∨ (x = n ∧ k ∈ u.before ∧ there us k = true))
  | [], b, k, x => by simp
  | n :: r, b, k, x => by
    rw [List.foldl_cons, behGo_mem, behOne_mem]
    constructor
    · rintro ((h | h) | ⟨m, hm, h⟩)
      · exact .inl h
      · exact .inr ⟨n, by simp, h⟩
      · exact .inr ⟨m, by simp [hm], h⟩
    · rintro (h | ⟨m, hm, h⟩)
      · exact .inl (.inl h)
      · rcases List.mem_cons.1 hm with rfl | hm
        · exact .inl (.inr h)
        · exact .inr ⟨m, hm, h⟩
theorem behP_mem {us : List Un} {k x : Str} : x ∈ behP us k ↔ Stands us k x := by
  unfold behP
  rw [behGo_mem]
  constructor
  · rintro (h | ⟨n, _, u, hu, ⟨rfl, h2, h3⟩ | ⟨rfl, h2, h3⟩⟩)
    · cases h
    · unfold there at h2
      obtain ⟨v, hv⟩ := Option.isSome_iff_exists.1 h2
      exact ⟨u, v, hu, hv, h3.elim .inl fun h => .inr (.inl h)⟩
    · unfold there at h3
      obtain ⟨v, hv⟩ := Option.isSome_iff_exists.1 h3
      exact ⟨v, u, hv, hu, .inr (.inr h2)⟩
  · rintro ⟨u, v, hu, hv, h⟩
    have tk : there us k = true := by unfold there; rw [hu]; rfl
    have tx : there us x = true := by unfold there; rw [hv]; rfl
    rcases h with h | h | h
    · exact .inr ⟨k, sortS_mem.2 (there_iff.1 tk), u, hu, .inl ⟨rfl, tx, .inl h⟩⟩
    · exact .inr ⟨k, sortS_mem.2 (there_iff.1 tk), u, hu, .inl ⟨rfl, tx, .inr h⟩⟩
    · exact .inr ⟨x, sortS_mem.2 (there_iff.1 tx), v, hv, .inr ⟨rfl, h, tk⟩⟩

/-- Can a unit be placed? -/
def free (b : Beh) (order : List Str) (n : Str) : Bool := (b n).all fun x => order.contains x
def firstFree (b : Beh) (order left : List Str) : Option Nat := left.findIdx? (free b order)
/-- The units are ordered: the order, and those that are left. -/
def sortP (b : Beh) : Nat → List Str → List Str → List Str × List Str
  | 0, left, order => (order, left)
  | f + 1, left, order => match firstFree b order left with
    | none => (order, left)
    | some i => sortP b f (left.eraseIdx i) (order ++ [left.getD i []])
def orderOf (us : List Un) : List Str × List Str := sortP (behP us) us.length (namesOf us) []
end Go.Proofs.Ytobdjfibaemmhaa
