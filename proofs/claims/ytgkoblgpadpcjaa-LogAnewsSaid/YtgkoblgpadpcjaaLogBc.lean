/- A log, the plain part: a disk that holds a log; opened, it is that log. -/
import Derived.Test.YtgkoblgpadpcjaaLogBb
namespace Go.Proofs.Ytgkoblgpadpcjaa
open Go.RowKit

theorem goodP_head (E : Nat) (h2 : E ≤ 2147483648) : goodP (headSec E) = (E, true) := by
  have hc := crc_lt (1 :: le4 E)
  have h1 : ((headSec E).drop 1).take 8 = le4 E ++ (le4 (crcOf (1 :: le4 E)) ++ []) := by
    unfold headSec
    generalize crcOf (1 :: le4 E) = c
    rfl
  have h3 : (headSec E).take 5 = 1 :: le4 E := by
    unfold headSec
    generalize crcOf (1 :: le4 E) = c
    rfl
  have h4 : headSec E ≠ zero64 := by
    intro e
    have h5 : (headSec E).headD 0 = zero64.headD 0 := by rw [e]
    have h6 : (headSec E).headD 0 = 1 := rfl
    rw [h6] at h5
    exact absurd h5 (by decide)
  unfold goodP
  rw [if_neg h4, h1, h3, num_le4 _ _ _ _ (by omega) (by omega)]
  dsimp only
  rw [num_le4 _ _ _ _ (by omega) (by omega)]
  have h6 : (headSec E).headD 0 = 1 := rfl
  rw [h6]
  simp
theorem goodP_zero : goodP zero64 = (0, false) := by unfold goodP; rw [if_pos rfl]
theorem lookGo_spec {D : Dk} (h : Calm0 D) : ∀ (f a top : Nat) (_ : a + f ≤ D.kept.length), ∃ t, lookGo D f a top = (t, 0) ∧ top ≤ t ∧ (∀ i s, a ≤ i → i < a + f → D.kept[i]? = some s → s.headD 0 = 2 → lookNum s ≤ t) ∧
    ∀ c, top ≤ c → (∀ i s, a ≤ i → D.kept[i]? = some s → s.headD 0 = 2 → lookNum s ≤ c) → t ≤ c
  | 0, a, top, _ => ⟨top, rfl, Nat.le_refl _, fun i s h1 h2 => by omega, fun c hc _ => hc⟩
  | f + 1, a, top, hl => by
    obtain ⟨s0, hs0⟩ : ∃ s, D.kept[a]? = some s := ⟨_, List.getElem?_eq_getElem (by omega)⟩
    rw [lookGo, h.read hs0, if_pos rfl]
    dsimp only
    obtain ⟨t, h1, h2, h3, h4⟩ := lookGo_spec h f (a + 1) (if s0.headD 0 = 2 then max top (numRes ((s0.drop 9).take 4) false 2147483648).1 else top) (by omega)
    refine ⟨t, h1, ?_, fun i s hi1 hi2 hs h2' => ?_, fun c hc hk => h4 c ?_ fun i s hi => hk i s (by omega)⟩
    · split at h2 <;> omega
    · rcases Nat.eq_or_lt_of_le hi1 with rfl | hlt
      · rw [hs0] at hs
        obtain rfl := Option.some.inj hs
        rw [if_pos h2'] at h2
        have : (numRes ((s0.drop 9).take 4) false 2147483648).1 = lookNum s0 := rfl
        omega
      · exact h3 i s (by omega) (by omega) hs h2'
    · split
      · rename_i hh
        have := hk a s0 (Nat.le_refl _) hs0 hh
        have h5 : (numRes ((s0.drop 9).take 4) false 2147483648).1 = lookNum s0 := rfl
        omega
      · exact hc
/-- A disk holds a log: which half is good, of which epoch, and its records. -/
structure St (D : Dk) (h E : Nat) (rs : List (List UInt8)) : Prop where
  calm : Calm0 D
  six : 6 ≤ D.kept.length
  hh : h ≤ 1
  e1 : 1 ≤ E
  e2 : E ≤ 2147483648
  head : D.kept[h]? = some (headSec E)
  other : ∃ s, D.kept[1 - h]? = some s ∧ ((goodP s).2 = false ∨ (goodP s).1 < E)
  recs : Recs D.kept (2 + h * halfOf D) E 0 0 rs
  fit : roomL rs ≤ halfOf D
  stop : Stop D.kept (2 + h * halfOf D) (halfOf D) (roomL rs) rs.length E
  few : D.kept.length ≤ 4096
/-- All epochs that were begun are at most so great. -/
def Most (K : List (List UInt8)) (c : Nat) : Prop := ∀ i s, 2 ≤ i → K[i]? = some s → s.headD 0 = 2 → lookNum s ≤ c
theorem heads_st {D : Dk} {h E : Nat} {rs : List (List UInt8)} (s : St D h E rs) : headGo D 1 (headGo D 0 Lg.zero) = { Lg.zero with epoch := E, half := h } := by
  obtain ⟨o, ho, hq⟩ := s.other
  have hE := s.e1
  have hr := s.calm.read s.head
  have hg := goodP_head E s.e2
  have hro := s.calm.read ho
  have key : ∀ (L : Lg), (headGo D (1 - h) L) = if (goodP o).2 && L.epoch < (goodP o).1 then { L with epoch := (goodP o).1, half := 1 - h } else L := fun L => by unfold headGo; rw [hro]
  have key2 : ∀ (L : Lg), (headGo D h L) = if L.epoch < E then { L with epoch := E, half := h } else L := fun L => by unfold headGo; rw [hr, hg]; simp
  have hh := s.hh
  rcases Nat.eq_zero_or_pos h with h0 | h0
  · subst h0
    rw [key2, if_pos (by show 0 < E; omega)]
    have := key { Lg.zero with epoch := E, half := 0 }
    rw [this, if_neg]
    rcases hq with hq | hq
    · rw [hq]; simp
    · simp only [Bool.and_eq_true, decide_eq_true_eq, not_and]
      intro _
      omega
  · obtain rfl : h = 1 := by omega
    have e0 := key Lg.zero
    rw [show 1 - 1 = 0 from rfl] at e0
    rw [e0, key2]
    by_cases hc : ((goodP o).2 && decide (Lg.zero.epoch < (goodP o).1)) = true
    · rw [if_pos hc]
      have hlt : (goodP o).1 < E := by
        rcases hq with hq | hq
        · rw [hq] at hc; simp at hc
        · exact hq
      rw [if_pos (by show (goodP o).1 < E; exact hlt)]
    · rw [if_neg hc, if_pos (by show 0 < E; omega)]
theorem open_st {D : Dk} {h E : Nat} {rs : List (List UInt8)} (s : St D h E rs) : ∃ t, openP D = (D, some ⟨E, t, h, roomL rs, rs, false⟩, 0) ∧ E ≤ t ∧ Most D.kept t ∧ ∀ c, E ≤ c → Most D.kept c → t ≤ c := by
  have h6 := s.six
  have hE := s.e1
  have hrl := room_len rs
  have hfit := s.fit
  have hf4 := s.few
  have hh4 : halfOf D ≤ 4096 := by unfold halfOf; omega
  obtain ⟨s0, hs0⟩ : ∃ s, D.kept[0]? = some s := ⟨_, List.getElem?_eq_getElem (by omega)⟩
  obtain ⟨s1, hs1⟩ : ∃ s, D.kept[1]? = some s := ⟨_, List.getElem?_eq_getElem (by omega)⟩
  have hr0 : D.read 0 = (s0, 0) := s.calm.read hs0
  have hr1 : D.read 1 = (s1, 0) := s.calm.read hs1
  obtain ⟨t, h1, h2, h3, h4⟩ := lookGo_spec s.calm (D.kept.length - 2) 2 E (by omega)
  refine ⟨t, ?_, h2, fun i s hi hs hd => h3 i s hi (by have := (List.getElem?_eq_some_iff.1 hs).1; omega) hs hd, fun c hc hm => h4 c hc hm⟩
  unfold openP
  rw [if_neg (by omega), hr0, if_neg (by simp), hr1, if_neg (by simp), heads_st s]
  have hl : lookP D E = (t, 0) := h1
  dsimp only
  rw [hl, if_neg (by simp), if_neg (by omega)]
  have := readAll_recs s.calm rs (halfOf D + 1) ⟨E, t, h, 0, [], false⟩ s.recs (by show 0 + roomL rs ≤ _; omega) (by show Stop _ _ _ (0 + roomL rs) (0 + rs.length) E; rw [Nat.zero_add, Nat.zero_add]; exact s.stop) s.e2 (by show 0 + rs.length ≤ _; omega) (by omega)
  have e : ({ Lg.zero with epoch := E, half := h, top := t } : Lg) = ⟨E, t, h, 0, [], false⟩ := rfl
  show (D, (readAll D (halfOf D + 1) ⟨E, t, h, 0, [], false⟩).1, (readAll D (halfOf D + 1) ⟨E, t, h, 0, [], false⟩).2) = _
  rw [this]
  simp
/-- Behind the records there are sectors of noughts alone. -/
def Tail (D : Dk) (h at_ : Nat) : Prop := ∀ i, at_ ≤ i → i < halfOf D → ∃ s, D.kept[2 + h * halfOf D + i]? = some s ∧ s.length = 64 ∧ s.headD 0 = 0
theorem Tail.stop {D : Dk} {h at_ seq E : Nat} (t : Tail D h at_) : Stop D.kept (2 + h * halfOf D) (halfOf D) at_ seq E := by
  rcases Nat.lt_or_ge at_ (halfOf D) with h1 | h1
  · obtain ⟨s, hs, hl, h0⟩ := t at_ (Nat.le_refl _) h1
    exact .inr (.inl ⟨s, hs, hl, fun e => by rw [h0] at e; exact absurd e (by decide)⟩)
  · exact .inl h1
/-- How a rewriting ends. -/
theorem finish_up (D : Dk) (L : Lg) (hd : D.down = false) (hl : L.half < D.kept.length) :
    ((finishP D L).2.2 = 0 ∧ (finishP D L).2.1 = L.die 0 ∧ (finishP D L).1.down = false ∧ (finishP D L).1.cache = [] ∧ (finishP D L).1.kept = (lay (fun _ => true) D.cache 0 D.kept).set L.half (headSec L.epoch) ∧ (D.fate < 1 → (finishP D L).1.fate < 1) ∧ (finishP D L).1.steps ≤ D.steps + 3) ∨
    ((finishP D L).2.2 = 3 ∧ (finishP D L).2.1 = L.die 3 ∧ (finishP D L).1.down = true ∧ (finishP D L).1.cache = [] ∧ (finishP D L).1.fate < 1 ∧ 1 ≤ D.fate ∧ (finishP D L).1.steps ≤ D.steps + 5 ∧
      ((∃ q n, (finishP D L).1.kept = lay q (D.cache.take n) 0 D.kept) ∨ Torn (lay (fun _ => true) D.cache 0 D.kept) (finishP D L).1.kept [(L.half, headSec L.epoch)])) := by
  unfold finishP
  rcases flush_up D hd with ⟨h1, h2⟩ | ⟨h1, h2⟩
  · rw [if_pos h1]
    dsimp only
    have hlen : (D.flush).1.kept.length = D.kept.length := by rw [h2.kept, lay_length]
    have hs2 := h2.steps
    unfold headP
    rcases write_up (D.flush).1 L.half (headSec L.epoch) h2.down (by omega) with ⟨h3, h4⟩ | ⟨h3, h4⟩
    · rw [if_pos h3]
      have hs4 := h4.steps
      simp only [List.length_singleton] at hs4
      rcases flush_up _ h4.down with ⟨h5, h6⟩ | ⟨h5, h6⟩
      · have hs6 := h6.steps
        refine .inl ⟨h5, by rw [h5], h6.down, h6.cache, ?_, fun hf => h6.calm (h4.calm (h2.calm hf)), by omega⟩
        rw [h6.kept, h4.cache, h4.kept, h2.cache, h2.kept]
        rfl
      · have hs6 := h6.steps
        have hw : 1 ≤ D.fate := by
          have hw6 := h6.was
          rcases Int.lt_or_le D.fate 1 with h9 | h9
          · have := h4.calm (h2.calm h9); omega
          · exact h9
        refine .inr ⟨h5, by rw [h5], h6.down, h6.cache, h6.fate, hw, by simp only [List.length_nil] at hs6; omega, .inr ?_⟩
        have h7 := (h4.gone h6).torn h2.cache
        rw [← h2.kept]
        simpa using h7
    · rw [if_neg (by rw [h3]; decide)]
      have hs4 := h4.steps
      have hw : 1 ≤ D.fate := by
        have hw6 := h4.was
        rcases Int.lt_or_le D.fate 1 with h9 | h9
        · have := h2.calm h9; omega
        · exact h9
      refine .inr ⟨h3, by rw [h3], h4.down, h4.cache, h4.fate, hw, by simp only [List.length_singleton] at hs4; omega, .inr ?_⟩
      have h7 := h4.torn h2.cache
      rw [h2.kept] at h7
      exact h7
  · rw [if_neg (by rw [h1]; decide)]
    dsimp only
    obtain ⟨q, n, hk⟩ := h2.kept
    have hs := h2.steps
    refine .inr ⟨h1, by rw [h1], h2.down, h2.cache, h2.fate, h2.was, by simp only [List.length_nil] at hs; omega, .inl ⟨q, n, by rw [hk, List.append_nil]⟩⟩
theorem Lg.die0 (L : Lg) : L.die 0 = L := by unfold Lg.die; simp
/-- A new disk, opened. -/
theorem open_new (n : Nat) (h6 : 6 ≤ n) (h4 : n ≤ 4096) : ∃ D, openP (Dk.new (n : Int)) = (D, some ⟨1, 1, 1, 0, [], false⟩, 0) ∧ St D 1 1 [] ∧ Tail D 1 0 ∧ D.fate < 1 ∧ D.kept.length = n ∧ D.steps ≤ 10 ∧ D.kept = (List.replicate n zero64).set 1 (headSec 1) := by
  obtain ⟨N, hN⟩ : ∃ N, N = Dk.new (n : Int) := ⟨_, rfl⟩
  have hk : N.kept = List.replicate n zero64 := by rw [hN]; unfold Dk.new; dsimp only; congr 1; omega
  have hd : N.down = false := by rw [hN]; rfl
  have hc : N.cache = [] := by rw [hN]; rfl
  have hf : N.fate = -1 := by rw [hN]; rfl
  have hst : N.steps = 0 := by rw [hN]; rfl
  have hl : N.kept.length = n := by rw [hk, List.length_replicate]
  have hz : ∀ (i : Nat) (s : List UInt8), N.kept[i]? = some s → s = zero64 := by
    intro i s hs
    rw [hk, List.getElem?_replicate] at hs
    split at hs
    · exact (Option.some.inj hs).symm
    · cases hs
  have calm : Calm0 N := ⟨hd, hc⟩
  obtain ⟨s0, hs0⟩ : ∃ s, N.kept[0]? = some s := ⟨_, List.getElem?_eq_getElem (by omega)⟩
  obtain ⟨s1, hs1⟩ : ∃ s, N.kept[1]? = some s := ⟨_, List.getElem?_eq_getElem (by omega)⟩
  have hr0 : N.read 0 = (s0, 0) := calm.read hs0
  have hr1 : N.read 1 = (s1, 0) := calm.read hs1
  obtain rfl := hz 0 _ hs0
  obtain rfl := hz 1 _ hs1
  have hg : headGo N 1 (headGo N 0 Lg.zero) = Lg.zero := by
    have e0 : headGo N 0 Lg.zero = Lg.zero := by
      unfold headGo
      rw [show ((0 : Nat) : Int) = 0 from rfl, hr0, goodP_zero]; rfl
    rw [e0]
    unfold headGo
    rw [show ((1 : Nat) : Int) = 1 from rfl, hr1, goodP_zero]; rfl
  obtain ⟨t, h1, h2, h3, h5⟩ := lookGo_spec calm (N.kept.length - 2) 2 0 (by omega)
  have ht : t = 0 := Nat.le_zero.1 (h5 0 (Nat.le_refl _) fun i s _ hs h2' => by
    rw [hz i s hs] at h2'
    exact absurd h2' (by decide))
  subst ht
  have hlk : lookP N 0 = (0, 0) := h1
  have hfin := finish_up N (Lg.anew Lg.zero) hd (by show 1 < _; omega)
  rw [hc, hk] at hfin
  rcases hfin with ⟨g1, g2, g3, g4, g5, g6, g7⟩ | ⟨_, _, _, _, _, hw, _⟩
  · have hrw : rewriteP N Lg.zero [] = ((finishP N (Lg.anew Lg.zero)).1, Lg.anew Lg.zero, 0) := by
      have e : finishP N (Lg.anew Lg.zero) = ((finishP N (Lg.anew Lg.zero)).1, Lg.anew Lg.zero, 0) := by
        rw [Lg.die0] at g2
        calc finishP N (Lg.anew Lg.zero) = ((finishP N (Lg.anew Lg.zero)).1, (finishP N (Lg.anew Lg.zero)).2.1, (finishP N (Lg.anew Lg.zero)).2.2) := rfl
          _ = _ := by rw [g2, g1]
      rw [← e]
      rfl
    have hop : openP N = ((finishP N (Lg.anew Lg.zero)).1, some ⟨1, 1, 1, 0, [], false⟩, 0) := by
      unfold openP
      rw [if_neg (by omega), hr0, if_neg (by simp), hr1, if_neg (by simp), hg]
      dsimp only
      rw [show Lg.zero.epoch = 0 from rfl, hlk, if_neg (by simp), if_pos rfl]
      show (if (rewriteP N Lg.zero []).2.2 ≠ 0 then ((rewriteP N Lg.zero []).1, none, (rewriteP N Lg.zero []).2.2) else ((rewriteP N Lg.zero []).1, some (rewriteP N Lg.zero []).2.1, 0)) = _
      rw [hrw, if_neg (by simp)]
      rfl
    generalize (finishP N (Lg.anew Lg.zero)).1 = D at *
    have hkD : D.kept = (List.replicate n zero64).set 1 (headSec 1) := g5
    have hlD : D.kept.length = n := by rw [hkD, List.length_set, List.length_replicate]
    have hzD : ∀ i, i ≠ 1 → i < n → D.kept[i]? = some zero64 := fun i hi hin => by
      rw [hkD, List.getElem?_set_ne (by omega), List.getElem?_replicate, if_pos hin]
    have tl : Tail D 1 0 := fun i _ hi => ⟨zero64, hzD _ (by omega) (by unfold halfOf at *; omega), rfl, rfl⟩
    rw [← hN]
    refine ⟨D, hop, ⟨⟨g3, g4⟩, by omega, Nat.le_refl _, Nat.le_refl _, by decide, ?_, ⟨zero64, hzD 0 (by decide) (by omega), .inl (by rw [goodP_zero])⟩, trivial, Nat.zero_le _, tl.stop, by omega⟩, tl, g6 (by rw [hf]; decide), hlD, by omega, hkD⟩
    rw [hkD, List.getElem?_set_self (by simp; omega)]
  · rw [hf] at hw; exact absurd hw (by decide)
end Go.Proofs.Ytgkoblgpadpcjaa
