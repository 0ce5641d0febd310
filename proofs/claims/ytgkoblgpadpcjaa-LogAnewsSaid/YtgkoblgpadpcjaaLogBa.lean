/- A log, the plain part: what becomes of a disk under writes, wherever the power goes. -/
import Derived.Test.YtgkoblgpadpcjaaLogX
import Derived.Test.YtgkoblgpadpcjaaRecApartL
namespace Go.Proofs.Ytgkoblgpadpcjaa
open Go.RowKit

/-- These writes are behind those of before. -/
structure UpTo (D D' : Dk) (ws : List (Nat × List UInt8)) : Prop where
  down : D'.down = false
  kept : D'.kept = D.kept
  cache : D'.cache = D.cache ++ ws
  keeps : D'.keeps = D.keeps
  calm : D.fate < 1 → D'.fate < 1
  steps : D'.steps ≤ D.steps + ws.length
/-- The power went, of what was written some is kept. -/
structure Gone (D D' : Dk) (ws : List (Nat × List UInt8)) : Prop where
  down : D'.down = true
  cache : D'.cache = []
  fate : D'.fate < 1
  kept : ∃ q n, D'.kept = lay q ((D.cache ++ ws).take n) 0 D.kept
  was : 1 ≤ D.fate
  steps : D'.steps ≤ D.steps + ws.length + 1
/-- All that was written is kept. -/
structure Done (D D' : Dk) : Prop where
  down : D'.down = false
  kept : D'.kept = lay (fun _ => true) D.cache 0 D.kept
  cache : D'.cache = []
  keeps : D'.keeps = D.keeps
  calm : D.fate < 1 → D'.fate < 1
  steps : D'.steps ≤ D.steps + 1
theorem step_up (D : Dk) (h : D.down = false) : (D.step.2 = true ∧ D.step.1.down = false ∧ D.step.1.kept = D.kept ∧ D.step.1.cache = D.cache ∧ D.step.1.keeps = D.keeps ∧ (D.fate < 1 → D.step.1.fate < 1) ∧ D.step.1.steps = D.steps + 1) ∨
    (D.step.2 = false ∧ D.step.1.down = true ∧ D.step.1.cache = [] ∧ D.step.1.fate < 1 ∧ D.step.1.kept = lay (bitOf D.keeps) D.cache 0 D.kept ∧ 1 ≤ D.fate ∧ D.step.1.steps = D.steps + 1) := by
  unfold Dk.step
  split
  · rename_i h1
    split
    · exact .inr ⟨rfl, rfl, rfl, (by show (-1 : Int) < 1; decide), rfl, by omega, rfl⟩
    · refine .inl ⟨rfl, h, rfl, rfl, rfl, fun h2 => ?_, rfl⟩
      show D.fate - 1 < 1
      omega
  · exact .inl ⟨rfl, h, rfl, rfl, rfl, fun h2 => h2, rfl⟩
theorem write_up (D : Dk) (a : Nat) (s : List UInt8) (h : D.down = false) (ha : a < D.kept.length) :
    ((D.write (a : Int) s).2 = 0 ∧ UpTo D (D.write (a : Int) s).1 [(a, s)]) ∨ ((D.write (a : Int) s).2 = 3 ∧ Gone D (D.write (a : Int) s).1 [(a, s)]) := by
  unfold Dk.write
  rw [if_neg (by rw [h]; decide), if_neg (by omega)]
  have hs := step_up { D with cache := D.cache ++ [((a : Int).toNat, s)] } h
  rw [Int.toNat_natCast] at *
  rcases hs with ⟨h1, h2, h3, h4, h5, h6, h7⟩ | ⟨h1, h2, h3, h4, h5, h6, h7⟩
  · rw [if_pos h1]
    exact .inl ⟨rfl, h2, h3, h4, h5, h6, Nat.le_of_eq h7⟩
  · rw [if_neg (by rw [h1]; decide)]
    exact .inr ⟨rfl, h2, h3, h4, ⟨_, (D.cache ++ [(a, s)]).length, by rw [List.take_length]; exact h5⟩, h6, Nat.le_succ_of_le (Nat.le_of_eq h7)⟩
theorem UpTo.refl {D : Dk} (h : D.down = false) : UpTo D D [] := ⟨h, rfl, by simp, rfl, id, Nat.le_refl _⟩
theorem UpTo.trans {D D1 D2 : Dk} {ws us : List (Nat × List UInt8)} (h : UpTo D D1 ws) (k : UpTo D1 D2 us) : UpTo D D2 (ws ++ us) :=
  ⟨k.down, k.kept.trans h.kept, by rw [k.cache, h.cache, List.append_assoc], k.keeps.trans h.keeps, fun x => k.calm (h.calm x), by have := h.steps; have := k.steps; rw [List.length_append]; omega⟩
theorem UpTo.gone {D D1 D2 : Dk} {ws us : List (Nat × List UInt8)} (h : UpTo D D1 ws) (k : Gone D1 D2 us) : Gone D D2 (ws ++ us) := by
  obtain ⟨q, n, hk⟩ := k.kept
  refine ⟨k.down, k.cache, k.fate, ⟨q, n, by rw [hk, h.cache, h.kept, List.append_assoc]⟩, ?_, by have := h.steps; have := k.steps; rw [List.length_append]; omega⟩
  have h1 := k.was
  rcases Int.lt_or_le D.fate 1 with h2 | h2
  · have := h.calm h2; omega
  · exact h2
theorem Gone.more {D D' : Dk} {ws : List (Nat × List UInt8)} (h : Gone D D' ws) (us : List (Nat × List UInt8)) : Gone D D' (ws ++ us) := by
  obtain ⟨q, n, hk⟩ := h.kept
  refine ⟨h.down, h.cache, h.fate, ⟨q, min n (D.cache ++ ws).length, ?_⟩, h.was, by have := h.steps; rw [List.length_append]; omega⟩
  rw [hk, ← List.append_assoc, List.take_append_of_le_length (Nat.min_le_right _ _)]
  congr 1
  rcases Nat.le_total n (D.cache ++ ws).length with h1 | h1
  · rw [Nat.min_eq_left h1]
  · rw [Nat.min_eq_right h1, List.take_length, List.take_of_length_le h1]
/-- The writes of a record's sectors. -/
def puts (p : Nat) : Nat → Nat → List UInt8 → List (Nat × List UInt8)
  | 0, _, _ => []
  | f + 1, i, all => (p + i, recSec i all) :: puts p f (i + 1) (all.drop 63)
theorem puts_mem {p : Nat} {c : Nat × List UInt8} : ∀ (f i : Nat) (all : List UInt8), c ∈ puts p f i all ↔ ∃ j, j < f ∧ c = (p + (i + j), recSec (i + j) (all.drop (63 * j)))
  | 0, i, all => by simp [puts]
  | f + 1, i, all => by
    rw [puts, List.mem_cons, puts_mem f (i + 1) (all.drop 63)]
    constructor
    · rintro (rfl | ⟨j, hj, rfl⟩)
      · exact ⟨0, by omega, by simp⟩
      · refine ⟨j + 1, by omega, ?_⟩
        rw [List.drop_drop, show i + 1 + j = i + (j + 1) by omega, show 63 + 63 * j = 63 * (j + 1) by omega]
    · rintro ⟨j, hj, rfl⟩
      rcases j with _ | j
      · exact .inl (by simp)
      · refine .inr ⟨j, by omega, ?_⟩
        rw [List.drop_drop, show i + 1 + j = i + (j + 1) by omega, show 63 + 63 * j = 63 * (j + 1) by omega]
theorem puts_length (p : Nat) : ∀ (f i : Nat) (all : List UInt8), (puts p f i all).length = f
  | 0, _, _ => rfl
  | f + 1, i, all => by rw [puts, List.length_cons, puts_length p f]
theorem puts_nodup (p : Nat) : ∀ (f i : Nat) (all : List UInt8), ((puts p f i all).map (·.1)).Nodup
  | 0, _, _ => by simp [puts]
  | f + 1, i, all => by
    rw [puts, List.map_cons, List.nodup_cons]
    refine ⟨fun h => ?_, puts_nodup p f (i + 1) _⟩
    obtain ⟨c, hc, he⟩ := List.mem_map.1 h
    obtain ⟨j, hj, rfl⟩ := (puts_mem f (i + 1) _).1 hc
    simp only at he
    omega
theorem putGo_up (p : Nat) : ∀ (f i : Nat) (all : List UInt8) (D : Dk) (_ : D.down = false) (_ : p + i + f ≤ D.kept.length),
    ((putGo p f i all D).2 = 0 ∧ UpTo D (putGo p f i all D).1 (puts p f i all)) ∨ ((putGo p f i all D).2 = 3 ∧ Gone D (putGo p f i all D).1 (puts p f i all))
  | 0, i, all, D, h, _ => .inl ⟨rfl, UpTo.refl h⟩
  | f + 1, i, all, D, h, hl => by
    rw [putGo, puts]
    rcases write_up D (p + i) (recSec i all) h (by omega) with ⟨h1, h2⟩ | ⟨h1, h2⟩
    · rw [if_pos h1]
      rcases putGo_up p f (i + 1) (all.drop 63) _ h2.down (by rw [h2.kept]; omega) with ⟨h3, h4⟩ | ⟨h3, h4⟩
      · exact .inl ⟨h3, h2.trans h4⟩
      · exact .inr ⟨h3, h2.gone h4⟩
    · rw [if_neg (by rw [h1]; decide)]
      exact .inr ⟨h1, h2.more (puts p f (i + 1) (all.drop 63))⟩
theorem flush_up (D : Dk) (h : D.down = false) : ((D.flush).2 = 0 ∧ Done D (D.flush).1) ∨ ((D.flush).2 = 3 ∧ Gone D (D.flush).1 []) := by
  unfold Dk.flush
  rw [if_neg (by rw [h]; decide)]
  rcases step_up D h with ⟨h1, h2, h3, h4, h5, h6, h7⟩ | ⟨h1, h2, h3, h4, h5, h6, h7⟩
  · rw [if_pos h1]
    exact .inl ⟨rfl, h2, by show lay _ D.step.1.cache 0 D.step.1.kept = _; rw [h3, h4], rfl, h5, h6, Nat.le_of_eq h7⟩
  · rw [if_neg (by rw [h1]; decide)]
    exact .inr ⟨rfl, h2, h3, h4, ⟨_, D.cache.length, by rw [List.append_nil, List.take_length]; exact h5⟩, h6, Nat.le_of_eq h7⟩

/-- Sectors are as they were, or as they were written. -/
def Torn (K K' : List (List UInt8)) (ws : List (Nat × List UInt8)) : Prop := K'.length = K.length ∧ ∀ i s, K'[i]? = some s → K[i]? = some s ∨ (i, s) ∈ ws
theorem Torn.mono {K K' : List (List UInt8)} {ws us : List (Nat × List UInt8)} (h : Torn K K' ws) (hs : ∀ c ∈ ws, c ∈ us) : Torn K K' us := ⟨h.1, fun i s k => (h.2 i s k).imp id (hs _)⟩
theorem Torn.refl (K : List (List UInt8)) (ws : List (Nat × List UInt8)) : Torn K K ws := ⟨rfl, fun _ _ h => .inl h⟩
theorem Torn.trans {K K1 K2 : List (List UInt8)} {ws : List (Nat × List UInt8)} (h : Torn K K1 ws) (k : Torn K1 K2 ws) : Torn K K2 ws :=
  ⟨k.1.trans h.1, fun i s x => (k.2 i s x).elim (h.2 i s) .inr⟩
theorem lay_torn (q : Nat → Bool) : ∀ (ws : List (Nat × List UInt8)) (i : Nat) (K : List (List UInt8)), Torn K (lay q ws i K) ws
  | [], _, K => Torn.refl K _
  | c :: r, i, K => by
    rw [lay]
    have h1 : Torn K (if q i then K.set c.1 c.2 else K) (c :: r) := by
      split
      · refine ⟨List.length_set, fun j s h => ?_⟩
        by_cases hj : c.1 = j
        · subst hj
          have hl := (List.getElem?_eq_some_iff.1 h).1
          rw [List.getElem?_set_self (by simpa using hl)] at h
          obtain rfl := Option.some.inj h
          exact .inr (by simp)
        · rw [List.getElem?_set_ne hj] at h
          exact .inl h
      · exact Torn.refl _ _
    exact h1.trans ((lay_torn q r (i + 1) _).mono fun x hx => List.mem_cons_of_mem _ hx)
theorem Gone.torn {D D' : Dk} {ws : List (Nat × List UInt8)} (h : Gone D D' ws) (hc : D.cache = []) : Torn D.kept D'.kept ws := by
  obtain ⟨q, n, hk⟩ := h.kept
  rw [hk, hc, List.nil_append]
  exact (lay_torn q _ 0 _).mono fun c hc => List.mem_of_mem_take hc
theorem lay_off (q : Nat → Bool) (a : Nat) : ∀ (ws : List (Nat × List UInt8)) (i : Nat) (K : List (List UInt8)), (∀ c ∈ ws, c.1 ≠ a) → (lay q ws i K)[a]? = K[a]?
  | [], _, _, _ => rfl
  | c :: r, i, K, h => by
    rw [lay, lay_off q a r (i + 1) _ fun x hx => h x (by simp [hx])]
    split
    · exact List.getElem?_set_ne (h c (by simp))
    · rfl
theorem lay_on : ∀ (ws : List (Nat × List UInt8)) (i : Nat) (K : List (List UInt8)), (ws.map (·.1)).Nodup → ∀ c ∈ ws, c.1 < K.length → (lay (fun _ => true) ws i K)[c.1]? = some c.2
  | [], _, _, _, c, hc, _ => by cases hc
  | x :: r, i, K, hn, c, hc, hl => by
    rw [List.map_cons, List.nodup_cons] at hn
    rw [lay, if_pos rfl]
    rcases List.mem_cons.1 hc with rfl | hc
    · rw [lay_off _ _ _ _ _ fun y hy e => hn.1 (List.mem_map.2 ⟨y, hy, e⟩), List.getElem?_set_self hl]
    · exact lay_on r (i + 1) _ hn.2 c hc (by simpa using hl)
end Go.Proofs.Ytgkoblgpadpcjaa
