/- A log, the plain part: a record is kept, or the power goes meanwhile. -/
import Derived.Test.YtgkoblgpadpcjaaLogBc
namespace Go.Proofs.Ytgkoblgpadpcjaa
open Go.RowKit

theorem pair_eq {α : Type} {x : α × Nat} {n : Nat} (h : x.2 = n) : x = (x.1, n) := by subst h; rfl
theorem Torn.off {K K' : List (List UInt8)} {ws : List (Nat × List UInt8)} (h : Torn K K' ws) {a : Nat} (ha : ∀ c ∈ ws, c.1 ≠ a) : K'[a]? = K[a]? := by
  rcases Nat.lt_or_ge a K'.length with hl | hl
  · have h1 := List.getElem?_eq_getElem hl
    rcases h.2 a _ h1 with h2 | h2
    · rw [h1, h2]
    · exact absurd rfl (ha _ h2)
  · rw [List.getElem?_eq_none hl, List.getElem?_eq_none (by rw [← h.1]; exact hl)]
theorem St.turn {D D' : Dk} {h E : Nat} {rs : List (List UInt8)} (s : St D h E rs) (hc : Calm0 D') (hl : D'.kept.length = D.kept.length)
    (hk : ∀ a, a < 2 ∨ (2 + h * halfOf D ≤ a ∧ a < 2 + h * halfOf D + roomL rs) → D'.kept[a]? = D.kept[a]?) (hs : Stop D'.kept (2 + h * halfOf D) (halfOf D) (roomL rs) rs.length E) : St D' h E rs := by
  have hh : halfOf D' = halfOf D := by unfold halfOf; rw [hl]
  have h1 := s.hh
  obtain ⟨o, ho, hq⟩ := s.other
  refine ⟨hc, by rw [hl]; exact s.six, h1, s.e1, s.e2, by rw [hk h (.inl (by omega))]; exact s.head, ⟨o, by rw [hk (1 - h) (.inl (by omega))]; exact ho, hq⟩, ?_, by rw [hh]; exact s.fit, by rw [hh]; exact hs, by rw [hl]; exact s.few⟩
  rw [hh]
  exact s.recs.keep fun i h1 h2 => hk _ (.inr ⟨by omega, by omega⟩)
theorem St.grow {D D' : Dk} {h E : Nat} {rs : List (List UInt8)} {b : List UInt8} (s : St D h E rs) (hb : b.length ≤ 4096) (hf : roomL rs + sectorsOf b.length ≤ halfOf D) (hc : Calm0 D') (hl : D'.kept.length = D.kept.length)
    (hk : ∀ a, a < 2 ∨ (2 + h * halfOf D ≤ a ∧ a < 2 + h * halfOf D + roomL rs) → D'.kept[a]? = D.kept[a]?) (hr : RecAt D'.kept (2 + h * halfOf D + roomL rs) rs.length E b)
    (hs : Stop D'.kept (2 + h * halfOf D) (halfOf D) (roomL rs + sectorsOf b.length) (rs.length + 1) E) : St D' h E (rs ++ [b]) := by
  have hh : halfOf D' = halfOf D := by unfold halfOf; rw [hl]
  have h1 := s.hh
  have hrm : roomL (rs ++ [b]) = roomL rs + sectorsOf b.length := by rw [roomL_append]; simp [roomL]
  obtain ⟨o, ho, hq⟩ := s.other
  refine ⟨hc, by rw [hl]; exact s.six, h1, s.e1, s.e2, by rw [hk h (.inl (by omega))]; exact s.head, ⟨o, by rw [hk (1 - h) (.inl (by omega))]; exact ho, hq⟩, ?_, by rw [hh, hrm]; exact hf, by rw [hh, hrm, List.length_append]; exact hs, by rw [hl]; exact s.few⟩
  rw [hh]
  exact (s.recs.keep fun i h1 h2 => hk _ (.inr ⟨by omega, by omega⟩)).snoc hb (by rw [Nat.zero_add, Nat.zero_add]; exact hr)
/-- A log that runs on a disk. -/
structure Lv (D : Dk) (L : Lg) (rs : List (List UInt8)) : Prop where
  st : St D L.half L.epoch rs
  list : L.list = rs
  at_ : L.at_ = roomL rs
  dead : L.dead = false
  tail : Tail D L.half (roomL rs)
/-- There is no power. -/
structure Off (D : Dk) : Prop where
  down : D.down = true
  cache : D.cache = []
  fate : D.fate < 1
def Dk.lit (D : Dk) : Dk := { D with down := false }
theorem Off.calm {D : Dk} (h : Off D) : Calm0 D.lit := ⟨rfl, h.cache⟩
theorem append_dead {D : Dk} {L : Lg} (b : List UInt8) (h : L.dead = true) : appendP D L b = (D, L, 3) := by unfold appendP; rw [if_pos h]
theorem append_long {D : Dk} {L : Lg} {b : List UInt8} (h : L.dead = false) (hb : 4096 < b.length) : appendP D L b = (D, L, 6) := by unfold appendP; rw [if_neg (by rw [h]; decide), if_pos hb]
theorem append_full {D : Dk} {L : Lg} {b : List UInt8} (h : L.dead = false) (hb : ¬ 4096 < b.length) (hf : halfOf D < L.at_ + sectorsOf b.length) : appendP D L b = (D, L, 7) := by
  unfold appendP; rw [if_neg (by rw [h]; decide), if_neg hb, if_pos hf]
theorem append_lv {D : Dk} {L : Lg} {rs : List (List UInt8)} {b : List UInt8} (h : Lv D L rs) (hb : b.length ≤ 4096) (hf : roomL rs + sectorsOf b.length ≤ halfOf D) :
    ((appendP D L b).2.2 = 0 ∧ Lv (appendP D L b).1 (appendP D L b).2.1 (rs ++ [b]) ∧ (D.fate < 1 → (appendP D L b).1.fate < 1) ∧ (appendP D L b).1.steps ≤ D.steps + 70 ∧ (appendP D L b).1.kept.length = D.kept.length ∧ (appendP D L b).2.1.epoch = L.epoch ∧ (appendP D L b).2.1.top = L.top ∧ (appendP D L b).2.1.half = L.half) ∨
    ((appendP D L b).2.2 = 3 ∧ (appendP D L b).2.1 = L.die 3 ∧ Off (appendP D L b).1 ∧ 1 ≤ D.fate ∧ (appendP D L b).1.steps ≤ D.steps + 70 ∧ (appendP D L b).1.kept.length = D.kept.length ∧ (St (appendP D L b).1.lit L.half L.epoch rs ∨ St (appendP D L b).1.lit L.half L.epoch (rs ++ [b]))) := by
  have hh := h.st.hh
  have h6 := h.st.six
  have hsec := sectors_pos b.length
  have hs66 : sectorsOf b.length ≤ 66 := by unfold sectorsOf; omega
  have hrl := room_len rs
  have hfew := h.st.few
  have hhf : 2 + L.half * halfOf D + halfOf D ≤ D.kept.length := by
    unfold halfOf
    have : L.half = 0 ∨ L.half = 1 := by omega
    rcases this with e | e <;> rw [e] <;> omega
  obtain ⟨p, hp⟩ : ∃ p, p = 2 + L.half * halfOf D + roomL rs := ⟨_, rfl⟩
  obtain ⟨all, hall⟩ : ∃ all, all = recBytes rs.length L.epoch b := ⟨_, rfl⟩
  obtain ⟨ws, hws⟩ : ∃ ws, ws = puts p (sectorsOf b.length) 0 all := ⟨_, rfl⟩
  have hmem : ∀ c, c ∈ ws ↔ ∃ j, j < sectorsOf b.length ∧ c = (p + j, recSec j (all.drop (63 * j))) := fun c => by rw [hws, puts_mem]; simp only [Nat.zero_add]
  have hoff : ∀ a, a < p ∨ p + sectorsOf b.length ≤ a → ∀ c ∈ ws, c.1 ≠ a := by
    intro a ha c hc
    obtain ⟨j, hj, rfl⟩ := (hmem c).1 hc
    simp only
    omega
  have hput : putP D L L.at_ L.list.length b = putGo p (sectorsOf b.length) 0 all D := by
    unfold putP
    rw [h.at_, h.list, hall, hp]
    rfl
  have hlen : ws.length = sectorsOf b.length := by rw [hws, puts_length]
  have hap : appendP D L b = if (putFlush D L L.at_ L.list.length b).2 = 0 then ((putFlush D L L.at_ L.list.length b).1, { L with at_ := L.at_ + sectorsOf b.length, list := L.list ++ [b] }, 0)
      else ((putFlush D L L.at_ L.list.length b).1, L.die (putFlush D L L.at_ L.list.length b).2, (putFlush D L L.at_ L.list.length b).2) := by
    unfold appendP
    rw [if_neg (by rw [h.dead]; decide), if_neg (by omega), if_neg (by rw [h.at_]; omega)]
  have gone : ∀ D', Gone D D' ws → Off D' ∧ 1 ≤ D.fate ∧ D'.steps ≤ D.steps + 70 ∧ D'.kept.length = D.kept.length ∧ (St D'.lit L.half L.epoch rs ∨ St D'.lit L.half L.epoch (rs ++ [b])) := by
    intro D' hg
    have ht := hg.torn h.st.calm.cache
    have ho : Off D' := ⟨hg.down, hg.cache, hg.fate⟩
    have hs := hg.steps
    have hsame : ∀ a, a < 2 ∨ (2 + L.half * halfOf D ≤ a ∧ a < 2 + L.half * halfOf D + roomL rs) → D'.lit.kept[a]? = D.kept[a]? := fun a ha => ht.off (hoff a (by omega))
    refine ⟨ho, hg.was, by omega, ht.1, ?_⟩
    by_cases hw : ∀ i, i < sectorsOf b.length → D'.kept[p + i]? = some (recSec i (all.drop (63 * i)))
    · refine .inr (h.st.grow hb hf ho.calm ht.1 hsame (by rw [← hp]; unfold RecAt; rw [← hall]; exact hw) ?_)
      have tl : ∀ i, roomL rs + sectorsOf b.length ≤ i → i < halfOf D → ∃ s, D'.kept[2 + L.half * halfOf D + i]? = some s ∧ s.length = 64 ∧ s.headD 0 = 0 := fun i h1 h2 => by
        rw [ht.off (hoff _ (.inr (by omega)))]
        exact h.tail i (by omega) h2
      rcases Nat.lt_or_ge (roomL rs + sectorsOf b.length) (halfOf D) with h1 | h1
      · obtain ⟨s, hs, hl, h0⟩ := tl _ (Nat.le_refl _) h1
        exact .inr (.inl ⟨s, hs, hl, fun e => by rw [h0] at e; exact absurd e (by decide)⟩)
      · exact .inl h1
    · refine .inl (h.st.turn ho.calm ht.1 hsame ?_)
      have hold : ∀ i, i < sectorsOf b.length → (∃ s, D'.kept[p + i]? = some s ∧ s.length = 64 ∧ s.headD 0 = 0) ∨ D'.kept[p + i]? = some (recSec i (all.drop (63 * i))) := by
        intro i hi
        have hl : p + i < D'.kept.length := by rw [ht.1]; omega
        have h1 := List.getElem?_eq_getElem hl
        rcases ht.2 _ _ h1 with h2 | h2
        · obtain ⟨s, hs, hl, h0⟩ := h.tail (roomL rs + i) (by omega) (by omega)
          rw [← Nat.add_assoc, ← hp, h2] at hs
          obtain rfl := Option.some.inj hs
          exact .inl ⟨_, h1, hl, h0⟩
        · obtain ⟨j, hj, e⟩ := (hmem _).1 h2
          simp only [Prod.mk.injEq] at e
          obtain rfl : i = j := by omega
          exact .inr (by rw [h1, e.2])
      have hn : ∃ i, i < sectorsOf b.length ∧ ¬ D'.kept[p + i]? = some (recSec i (all.drop (63 * i))) := by
        rcases Classical.em (∃ i, i < sectorsOf b.length ∧ ¬ D'.kept[p + i]? = some (recSec i (all.drop (63 * i)))) with h9 | h9
        · exact h9
        · exact absurd (fun i hi => Classical.byContradiction fun hx => h9 ⟨i, hi, hx⟩) hw
      obtain ⟨i, hi, hx⟩ := hn
      rcases hold 0 hsec with ⟨s, hs, hl, h0⟩ | h0
      · exact .inr (.inl ⟨s, by rw [← hp]; exact hs, hl, fun e => by rw [h0] at e; exact absurd e (by decide)⟩)
      · rcases hold i hi with ⟨s, hs, hl, h1⟩ | h1
        · have hi0 : 1 ≤ i := by
            rcases Nat.eq_zero_or_pos i with rfl | h9
            · exact absurd h0 hx
            · exact h9
          have h0' : D'.kept[p]? = some (recSec 0 all) := by simpa using h0
          refine .inr (.inr ⟨b, hb, by omega, h.st.e2, by show 2 + L.half * halfOf D + roomL rs + _ ≤ D'.kept.length; rw [ht.1]; omega, by rw [← hp, ← hall]; exact h0', i, s, hi0, hi, by rw [← hp]; exact hs, by rw [h1]; decide⟩)
        · exact absurd h1 hx
  have hlo : p + 0 + sectorsOf b.length ≤ D.kept.length := by omega
  rcases putGo_up p (sectorsOf b.length) 0 all D h.st.calm.down hlo with ⟨g1, g2⟩ | ⟨g1, g2⟩
  · rw [← hws] at g2
    have hs2 := g2.steps
    rcases flush_up _ g2.down with ⟨g3, g4⟩ | ⟨g3, g4⟩
    · have hpf : putFlush D L L.at_ L.list.length b = ((putGo p (sectorsOf b.length) 0 all D).1.flush.1, 0) := by
        unfold putFlush
        rw [hput, if_pos g1]
        exact pair_eq g3
      rw [hpf, if_pos rfl] at hap
      rw [hap]
      dsimp only
      have hs4 := g4.steps
      generalize (putGo p (sectorsOf b.length) 0 all D).1.flush.1 = D2 at *
      have hk : D2.kept = lay (fun _ => true) ws 0 D.kept := by rw [g4.kept, g2.cache, g2.kept, h.st.calm.cache, List.nil_append]
      have hl2 : D2.kept.length = D.kept.length := by rw [hk, lay_length]
      have hh2 : halfOf D2 = halfOf D := by unfold halfOf; rw [hl2]
      have hsame : ∀ a, a < 2 ∨ (2 + L.half * halfOf D ≤ a ∧ a < 2 + L.half * halfOf D + roomL rs) → D2.kept[a]? = D.kept[a]? := fun a ha => by rw [hk]; exact lay_off _ _ _ _ _ (hoff a (by omega))
      have hrec : RecAt D2.kept (2 + L.half * halfOf D + roomL rs) rs.length L.epoch b := fun i hi => by
        rw [hk, ← hp, ← hall]
        have := lay_on ws 0 D.kept (by rw [hws]; exact puts_nodup _ _ _ _) (p + i, recSec i (all.drop (63 * i))) ((hmem _).2 ⟨i, hi, rfl⟩) (by simp only; omega)
        exact this
      have hrm : roomL (rs ++ [b]) = roomL rs + sectorsOf b.length := by rw [roomL_append]; simp [roomL]
      have tl : Tail D2 L.half (roomL rs + sectorsOf b.length) := fun i h1 h2 => by
        rw [hh2] at h2 ⊢
        rw [hk, lay_off _ _ _ _ _ (hoff _ (.inr (by omega)))]
        exact h.tail i (by omega) h2
      have hst := tl.stop (seq := rs.length + 1) (E := L.epoch)
      rw [hh2] at hst
      refine .inl ⟨rfl, ⟨h.st.grow hb hf ⟨g4.down, g4.cache⟩ hl2 hsame hrec hst, by rw [← h.list], by rw [hrm, ← h.at_], h.dead, by rw [hrm]; exact tl⟩, fun hx => g4.calm (g2.calm hx), by omega, hl2, rfl, rfl, rfl⟩
    · have hpf : putFlush D L L.at_ L.list.length b = ((putGo p (sectorsOf b.length) 0 all D).1.flush.1, 3) := by
        unfold putFlush
        rw [hput, if_pos g1]
        exact pair_eq g3
      rw [hpf, if_neg (show ¬ (3 : Nat) = 0 by decide)] at hap
      rw [hap]
      have := gone _ (by have := g2.gone g4; rwa [List.append_nil] at this)
      exact .inr ⟨rfl, rfl, this.1, this.2.1, this.2.2.1, this.2.2.2.1, this.2.2.2.2⟩
  · rw [← hws] at g2
    have hpf : putFlush D L L.at_ L.list.length b = ((putGo p (sectorsOf b.length) 0 all D).1, 3) := by
      unfold putFlush
      rw [hput, if_neg (by rw [g1]; decide)]
      exact pair_eq g1
    rw [hpf, if_neg (show ¬ (3 : Nat) = 0 by decide)] at hap
    rw [hap]
    have := gone _ g2
    exact .inr ⟨rfl, rfl, this.1, this.2.1, this.2.2.1, this.2.2.2.1, this.2.2.2.2⟩
end Go.Proofs.Ytgkoblgpadpcjaa
