/- A log, the plain part: it is written anew, or the power goes meanwhile. -/
import Derived.Test.YtgkoblgpadpcjaaLogTornL
namespace Go.Proofs.Ytgkoblgpadpcjaa
open Go.RowKit

/-- The writes of records, one behind the other. -/
def rputs (p E : Nat) : Nat → Nat → List (List UInt8) → List (Nat × List UInt8)
  | _, _, [] => []
  | at_, seq, b :: r => puts (p + at_) (sectorsOf b.length) 0 (recBytes seq E b) ++ rputs p E (at_ + sectorsOf b.length) (seq + 1) r
theorem rputs_mem (p E : Nat) (hE : E ≤ 2147483648) : ∀ (rs : List (List UInt8)) (at_ seq : Nat) (c : Nat × List UInt8), c ∈ rputs p E at_ seq rs → p + at_ ≤ c.1 ∧ c.1 < p + at_ + roomL rs ∧ (c.2.headD 0 = 2 → lookNum c.2 = E)
  | [], _, _, c, h => by cases h
  | b :: r, at_, seq, c, h => by
    rw [rputs, List.mem_append] at h
    simp only [roomL]
    rcases h with h | h
    · obtain ⟨j, hj, rfl⟩ := (puts_mem _ _ _).1 h
      simp only [Nat.zero_add]
      refine ⟨by omega, by omega, fun h2 => ?_⟩
      rcases Nat.eq_zero_or_pos j with rfl | hj0
      · simp only [Nat.mul_zero, List.drop_zero]
        exact lookNum_rec seq E b hE
      · rw [recSec_head j _ hj0] at h2
        exact absurd h2 (by decide)
    · obtain ⟨h1, h2, h3⟩ := rputs_mem p E hE r _ _ c h
      exact ⟨by omega, by omega, h3⟩
theorem rputs_nodup (p E : Nat) (hE : E ≤ 2147483648) : ∀ (rs : List (List UInt8)) (at_ seq : Nat), ((rputs p E at_ seq rs).map (·.1)).Nodup
  | [], _, _ => by simp [rputs]
  | b :: r, at_, seq => by
    rw [rputs, List.map_append, List.nodup_append]
    refine ⟨puts_nodup _ _ _ _, rputs_nodup p E hE r _ _, fun x hx y hy e => ?_⟩
    subst e
    obtain ⟨c, hc, rfl⟩ := List.mem_map.1 hx
    obtain ⟨d, hd, he⟩ := List.mem_map.1 hy
    obtain ⟨j, hj, rfl⟩ := (puts_mem _ _ _).1 hc
    obtain ⟨h1, -, -⟩ := rputs_mem p E hE r _ _ d hd
    simp only at he
    omega
theorem recs_of {K : List (List UInt8)} (p E : Nat) : ∀ (rs : List (List UInt8)) (at_ seq : Nat) (_ : ∀ c ∈ rputs p E at_ seq rs, K[c.1]? = some c.2) (_ : ∀ b ∈ rs, b.length ≤ 4096), Recs K p E at_ seq rs
  | [], _, _, _, _ => trivial
  | b :: r, at_, seq, h, hb => by
    refine ⟨hb b (by simp), fun i hi => ?_, recs_of p E r _ _ (fun c hc => h c (by rw [rputs, List.mem_append]; exact .inr hc)) fun c hc => hb c (by simp [hc])⟩
    have := h (p + at_ + i, recSec i ((recBytes seq E b).drop (63 * i))) (by rw [rputs, List.mem_append]; exact .inl ((puts_mem _ _ _).2 ⟨i, hi, by simp⟩))
    exact this
theorem half_same {D D' : Dk} (h : D'.kept = D.kept) : halfOf D' = halfOf D := by unfold halfOf; rw [h]
theorem putAll_up : ∀ (rs : List (List UInt8)) (D : Dk) (L : Lg) (_ : D.down = false) (_ : 2 + L.half * halfOf D + L.at_ + roomL rs ≤ D.kept.length),
    ((putAll rs D L).2.2 = 0 ∧ UpTo D (putAll rs D L).1 (rputs (2 + L.half * halfOf D) L.epoch L.at_ L.list.length rs) ∧ (putAll rs D L).2.1 = { L with at_ := L.at_ + roomL rs, list := L.list ++ rs }) ∨
    ((putAll rs D L).2.2 = 3 ∧ Gone D (putAll rs D L).1 (rputs (2 + L.half * halfOf D) L.epoch L.at_ L.list.length rs))
  | [], D, L, hd, _ => .inl ⟨rfl, UpTo.refl hd, by simp [putAll, roomL]⟩
  | b :: r, D, L, hd, hl => by
    simp only [roomL] at hl
    rw [putAll, rputs]
    have hp : putP D L L.at_ L.list.length b = putGo (2 + L.half * halfOf D + L.at_) (sectorsOf b.length) 0 (recBytes L.list.length L.epoch b) D := rfl
    rcases putGo_up (2 + L.half * halfOf D + L.at_) (sectorsOf b.length) 0 (recBytes L.list.length L.epoch b) D hd (by omega) with ⟨g1, g2⟩ | ⟨g1, g2⟩
    · rw [hp, if_pos g1]
      have hh : halfOf (putGo (2 + L.half * halfOf D + L.at_) (sectorsOf b.length) 0 (recBytes L.list.length L.epoch b) D).1 = halfOf D := half_same g2.kept
      have ih := putAll_up r _ { L with at_ := L.at_ + sectorsOf b.length, list := L.list ++ [b] } g2.down (by show 2 + L.half * halfOf _ + (L.at_ + sectorsOf b.length) + roomL r ≤ _; rw [hh, g2.kept]; omega)
      rw [hh] at ih
      have hl1 : (L.list ++ [b]).length = L.list.length + 1 := by simp
      dsimp only at ih
      rw [hl1] at ih
      rcases ih with ⟨i1, i2, i3⟩ | ⟨i1, i2⟩
      · refine .inl ⟨i1, g2.trans i2, ?_⟩
        rw [i3]
        simp [roomL, Nat.add_assoc]
      · exact .inr ⟨i1, g2.gone i2⟩
    · rw [hp, if_neg (by rw [g1]; decide)]
      exact .inr ⟨g1, g2.more _⟩
theorem roomOf_eq : ∀ (l : List (List UInt8)) (m : Nat) (_ : ∀ b ∈ l, b.length ≤ 4096), roomOf l m = some (m + roomL l)
  | [], m, _ => by simp [roomOf, roomL]
  | b :: r, m, h => by
    rw [roomOf, if_neg (by have := h b (by simp); omega), roomOf_eq r _ fun c hc => h c (by simp [hc])]
    simp only [roomL, Nat.add_assoc]
/-- Behind the records no sector begins one of this epoch. -/
def StopC (D : Dk) (h E at_ : Nat) : Prop := halfOf D ≤ at_ ∨ Clean D.kept (2 + h * halfOf D + at_) E
theorem StopC.stop {D : Dk} {h E at_ seq : Nat} (s : StopC D h E at_) : Stop D.kept (2 + h * halfOf D) (halfOf D) at_ seq E := s.imp id .inl
/-- An open log that can be written anew. -/
structure Nw (D : Dk) (L : Lg) (rs : List (List UInt8)) (c : Nat) : Prop where
  st : St D L.half L.epoch rs
  stop : StopC D L.half L.epoch (roomL rs)
  list : L.list = rs
  dead : L.dead = false
  le : L.epoch ≤ L.top
  most : Most D.kept L.top
  top : L.top ≤ c
/-- What a disk holds that was closed. -/
structure Hs (D : Dk) (rs : List (List UInt8)) (c : Nat) : Prop where
  ex : ∃ h E, St D h E rs ∧ StopC D h E (roomL rs) ∧ E ≤ c
  most : Most D.kept c
theorem Hs.same {D D' : Dk} {rs : List (List UInt8)} {c : Nat} (s : Hs D rs c) (hc : Calm0 D') (hk : D'.kept = D.kept) : Hs D' rs c := by
  obtain ⟨⟨h, E, h1, h2, h3⟩, h4⟩ := s
  refine ⟨⟨h, E, h1.same hc hk, ?_, h3⟩, by rw [hk]; exact h4⟩
  have hh : halfOf D' = halfOf D := by unfold halfOf; rw [hk]
  unfold StopC at *
  rw [hh, hk]
  exact h2
theorem Hs.open {D : Dk} {rs : List (List UInt8)} {c : Nat} (s : Hs D rs c) : ∃ L, openP D = (D, some L, 0) ∧ Nw D L rs c := by
  obtain ⟨⟨h, E, h1, h2, h3⟩, h4⟩ := s
  obtain ⟨t, k1, k2, k3, k4⟩ := open_st h1
  exact ⟨_, k1, ⟨h1, h2, rfl, rfl, k2, k3, k4 c h3 h4⟩⟩
theorem Nw.planned {D : Dk} {L : Lg} {rs : List (List UInt8)} {c : Nat} (h : Nw D L rs c) (f : Int) (k : Nat) : Nw { D with fate := f, keeps := k } L rs c :=
  ⟨h.st.same ⟨h.st.calm.down, h.st.calm.cache⟩ rfl, h.stop, h.list, h.dead, h.le, h.most, h.top⟩
theorem rewrite_nw {D : Dk} {L : Lg} {held rows : List (List UInt8)} {c : Nat} (h : Nw D L held c) (hw : ∀ s ∈ D.kept, s.length = 64) (hb : ∀ b ∈ rows, b.length ≤ 4096) (hf : roomL rows ≤ halfOf D) (hc : c < 2147483648) :
    (rewriteP D L rows).1.steps ≤ D.steps + (rputs (2 + (1 - L.half) * halfOf D) (L.top + 1) 0 0 rows).length + 10 ∧ (rewriteP D L rows).1.kept.length = D.kept.length ∧
    (((rewriteP D L rows).2.2 = 0 ∧ Hs (rewriteP D L rows).1.lit rows (c + 1) ∧ (rewriteP D L rows).1.cache = []) ∨
     ((rewriteP D L rows).2.2 = 3 ∧ Off (rewriteP D L rows).1 ∧ (Hs (rewriteP D L rows).1.lit held (c + 1) ∨ Hs (rewriteP D L rows).1.lit rows (c + 1)))) := by
  have hh := h.st.hh
  have h6 := h.st.six
  have htop := h.top
  have hle := h.le
  have hE' : L.top + 1 ≤ 2147483648 := by omega
  have hcase : L.half = 0 ∨ L.half = 1 := by omega
  obtain ⟨hf9, hhf⟩ : ∃ hf9, hf9 = halfOf D := ⟨_, rfl⟩
  have hlen : 2 + 2 * hf9 ≤ D.kept.length ∧ D.kept.length ≤ 2 + 2 * hf9 + 1 := by rw [hhf]; unfold halfOf; omega
  obtain ⟨p, hp⟩ : ∃ p, p = 2 + (1 - L.half) * hf9 := ⟨_, rfl⟩
  obtain ⟨po, hpo⟩ : ∃ po, po = 2 + L.half * hf9 := ⟨_, rfl⟩
  have hpp : (p = 2 ∧ po = 2 + hf9) ∨ (p = 2 + hf9 ∧ po = 2) := by
    rcases hcase with e | e
    · right; rw [hp, hpo, e]; omega
    · left; rw [hp, hpo, e]; omega
  obtain ⟨ws, hws⟩ : ∃ ws, ws = rputs p (L.top + 1) 0 0 rows := ⟨_, rfl⟩
  have hwm : ∀ x ∈ ws, p ≤ x.1 ∧ x.1 < p + roomL rows ∧ (x.2.headD 0 = 2 → lookNum x.2 = L.top + 1) := fun x hx => by
    rw [hws] at hx
    have := rputs_mem p (L.top + 1) hE' rows 0 0 x hx
    exact ⟨by omega, by omega, this.2.2⟩
  have hnd : (ws.map (·.1)).Nodup := by rw [hws]; exact rputs_nodup p _ hE' rows 0 0
  have hoff : ∀ a, a < p ∨ p + roomL rows ≤ a → ∀ x ∈ ws, x.1 ≠ a := fun a ha x hx => by have := hwm x hx; omega
  have hL1 : L.anew = { L with top := L.top + 1, epoch := L.top + 1, half := 1 - L.half, at_ := 0, list := [] } := rfl
  have hrw : rewriteP D L rows = if (putAll rows D L.anew).2.2 = 0 then finishP (putAll rows D L.anew).1 (putAll rows D L.anew).2.1 else putAll rows D L.anew := by
    unfold rewriteP
    rw [if_neg (by rw [h.dead]; decide), roomOf_eq rows 0 hb]
    dsimp only
    rw [if_neg (by omega)]
  obtain ⟨o, hso, hgo⟩ := h.st.other
  -- the state of before
  have old : ∀ D' : Dk, Calm0 D' → D'.kept.length = D.kept.length → (∀ a, (∀ x ∈ ws, x.1 ≠ a) → D'.kept[a]? = D.kept[a]?) → (∀ i s, D'.kept[i]? = some s → D.kept[i]? = some s ∨ (i, s) ∈ ws) → Hs D' held (c + 1) := by
    intro D' hc' hl' hk' hm'
    have hh' : halfOf D' = halfOf D := by unfold halfOf; rw [hl']
    have hag : ∀ a, a < 2 ∨ (po ≤ a ∧ a < po + hf9) → D'.kept[a]? = D.kept[a]? := fun a ha => hk' a (hoff a (by omega))
    have hfit := h.st.fit
    have hst : StopC D' L.half L.epoch (roomL held) := by
      unfold StopC
      rw [hh']
      rcases h.stop with h1 | ⟨s, hs, hsl, hs2⟩
      · exact .inl h1
      · rcases Nat.lt_or_ge (roomL held) (halfOf D) with h1 | h1
        · refine .inr ⟨s, ?_, hsl, hs2⟩
          rw [hag _ (.inr (by rw [hpo, hhf]; omega))]
          exact hs
        · exact .inl h1
    refine ⟨⟨L.half, L.epoch, h.st.turn hc' hl' (fun a ha => hag a (by rw [hpo, hhf]; omega)) ?_, hst, by omega⟩, ?_⟩
    · have := hst.stop (seq := held.length)
      rw [hh'] at this
      exact this
    · intro i s hi hs h2
      rcases hm' i s hs with h1 | h1
      · have := h.most i s hi h1 h2; omega
      · have := (hwm _ h1).2.2 h2
        simp only at this
        omega
  -- the new one
  have new : ∀ D' : Dk, Calm0 D' → D'.kept.length = D.kept.length → D'.kept[1 - L.half]? = some (headSec (L.top + 1)) → (∀ x ∈ ws, D'.kept[x.1]? = some x.2) → (∀ a, a ≠ 1 - L.half → (∀ x ∈ ws, x.1 ≠ a) → D'.kept[a]? = D.kept[a]?) → Hs D' rows (c + 1) := by
    intro D' hc' hl' hhd hon hk'
    have hh' : halfOf D' = halfOf D := by unfold halfOf; rw [hl']
    have hst : StopC D' (1 - L.half) (L.top + 1) (roomL rows) := by
      unfold StopC
      rw [hh', ← hhf, ← hp]
      rcases Nat.lt_or_ge (roomL rows) hf9 with h1 | h1
      · have hl : p + roomL rows < D.kept.length := by omega
        refine .inr ⟨D.kept[p + roomL rows], ?_, hw _ (List.getElem_mem hl), fun h2 => ?_⟩
        · rw [hk' _ (by omega) (hoff _ (.inr (Nat.le_refl _))), List.getElem?_eq_getElem hl]
        · have := h.most (p + roomL rows) _ (by omega) (List.getElem?_eq_getElem hl) h2
          omega
      · exact .inl h1
    have hoth : D'.kept[L.half]? = some (headSec L.epoch) := by rw [hk' L.half (by omega) (hoff _ (.inl (by omega)))]; exact h.st.head
    refine ⟨⟨1 - L.half, L.top + 1, ⟨hc', by rw [hl']; exact h6, by omega, by omega, hE', hhd, ⟨headSec L.epoch, by rw [show 1 - (1 - L.half) = L.half by omega]; exact hoth, .inr (by rw [goodP_head _ h.st.e2]; show L.epoch < L.top + 1; omega)⟩, ?_, by rw [hh']; exact hf, hst.stop, by rw [hl']; exact h.st.few⟩, hst, by omega⟩, ?_⟩
    · rw [hh', ← hhf, ← hp]
      exact recs_of p (L.top + 1) rows 0 0 (by rw [← hws]; exact hon) hb
    · intro i s hi hs h2
      by_cases hx : ∃ x ∈ ws, x.1 = i
      · obtain ⟨x, hx1, rfl⟩ := hx
        rw [hon x hx1] at hs
        obtain rfl := Option.some.inj hs
        have := (hwm x hx1).2.2 h2
        omega
      · rw [hk' i (by omega) (fun x hx1 e => hx ⟨x, hx1, e⟩)] at hs
        have := h.most i s hi hs h2
        omega
  have tornOld : ∀ D' : Dk, Off D' → Torn D.kept D'.kept ws → Hs D'.lit held (c + 1) := fun D' ho ht => old D'.lit ho.calm ht.1 (fun a ha => ht.off ha) ht.2
  have hwl : ∀ x ∈ ws, x.1 < D.kept.length := fun x hx => by have := hwm x hx; omega
  rcases putAll_up rows D L.anew h.st.calm.down (by show 2 + (1 - L.half) * halfOf D + 0 + roomL rows ≤ _; rw [← hhf, ← hp]; omega) with ⟨g1, g2, g3⟩ | ⟨g1, g2⟩
  · have g2 : UpTo D (putAll rows D L.anew).1 (rputs (2 + (1 - L.half) * halfOf D) (L.top + 1) 0 0 rows) := g2
    have hs2 := g2.steps
    rw [← hhf, ← hp, ← hws] at g2 hs2 ⊢
    rw [hrw, if_pos g1, g3]
    have hcp : (putAll rows D L.anew).1.cache = ws := by rw [g2.cache, h.st.calm.cache, List.nil_append]
    have hkp := g2.kept
    have hfin := finish_up (putAll rows D L.anew).1 { L.anew with at_ := L.anew.at_ + roomL rows, list := L.anew.list ++ rows } g2.down (by rw [hkp]; show 1 - L.half < _; omega)
    rw [hcp, hkp] at hfin
    generalize finishP (putAll rows D L.anew).1 { L.anew with at_ := L.anew.at_ + roomL rows, list := L.anew.list ++ rows } = r at *
    generalize (putAll rows D L.anew).1 = Dp at *
    have h7 : ∀ x ∈ ws, (lay (fun _ => true) ws 0 D.kept)[x.1]? = some x.2 := fun x hx => lay_on ws 0 D.kept hnd x hx (hwl x hx)
    have h8 : ∀ a, (∀ x ∈ ws, x.1 ≠ a) → (lay (fun _ => true) ws 0 D.kept)[a]? = D.kept[a]? := fun a ha => lay_off _ a ws 0 D.kept ha
    have h9 : (lay (fun _ => true) ws 0 D.kept).length = D.kept.length := lay_length _ _ _ _
    rcases hfin with ⟨f1, f2, f3, f4, f5, f6, f7⟩ | ⟨f1, f2, f3, f4, f5, f6, f7, f8⟩
    · have f5 : r.1.kept = (lay (fun _ => true) ws 0 D.kept).set (1 - L.half) (headSec (L.top + 1)) := f5
      have hl5 : r.1.kept.length = D.kept.length := by rw [f5, List.length_set, h9]
      refine ⟨by omega, hl5, .inl ⟨f1, new r.1.lit ⟨rfl, f4⟩ hl5 ?_ ?_ ?_, f4⟩⟩
      · show r.1.kept[1 - L.half]? = _
        rw [f5, List.getElem?_set_self (by rw [h9]; omega)]
      · intro x hx
        show r.1.kept[x.1]? = _
        rw [f5, List.getElem?_set_ne (by have := hwm x hx; omega), h7 x hx]
      · intro a ha hx
        show r.1.kept[a]? = _
        rw [f5, List.getElem?_set_ne (by omega), h8 a hx]
    · have ho : Off r.1 := ⟨f3, f4, f5⟩
      rcases f8 with ⟨q, n, f8⟩ | f8
      · have ht : Torn D.kept r.1.kept ws := by rw [f8]; exact (lay_torn q _ 0 _).mono fun x hx => List.mem_of_mem_take hx
        exact ⟨by omega, ht.1, .inr ⟨f1, ho, .inl (tornOld r.1 ho ht)⟩⟩
      · have f8 : Torn (lay (fun _ => true) ws 0 D.kept) r.1.kept [(1 - L.half, headSec (L.top + 1))] := f8
        have hl5 : r.1.kept.length = D.kept.length := by rw [f8.1, h9]
        refine ⟨by omega, hl5, .inr ⟨f1, ho, ?_⟩⟩
        have hoffh : ∀ a, a ≠ 1 - L.half → r.1.kept[a]? = (lay (fun _ => true) ws 0 D.kept)[a]? := fun a ha => f8.off (by intro x hx; rw [List.mem_singleton.1 hx]; simp only; omega)
        have hlh : 1 - L.half < r.1.kept.length := by omega
        have hg := List.getElem?_eq_getElem hlh
        rcases f8.2 _ _ hg with e | e
        · refine .inl (old r.1.lit ho.calm hl5 (fun a ha => ?_) (fun i s hs => ?_))
          · show r.1.kept[a]? = _
            by_cases hah : a = 1 - L.half
            · rw [hah, hg, ← e, h8 _ (by rw [← hah]; exact ha)]
            · rw [hoffh a hah, h8 a ha]
          · have hs : r.1.kept[i]? = some s := hs
            by_cases hx : ∃ x ∈ ws, x.1 = i
            · obtain ⟨x, hx1, rfl⟩ := hx
              rw [hoffh x.1 (by have := hwm x hx1; omega), h7 x hx1] at hs
              obtain rfl := Option.some.inj hs
              exact .inr hx1
            · refine .inl ?_
              have hx' : ∀ x ∈ ws, x.1 ≠ i := fun x hx1 e => hx ⟨x, hx1, e⟩
              by_cases hah : i = 1 - L.half
              · subst hah
                rw [hg] at hs
                rw [hs] at e
                rw [← e, h8 _ hx']
              · rw [← hs, hoffh i hah, h8 i hx']
        · have he : r.1.kept[1 - L.half] = headSec (L.top + 1) := by simpa using e
          rw [he] at hg
          refine .inr (new r.1.lit ho.calm hl5 hg (fun x hx => ?_) (fun a ha hx => ?_))
          · show r.1.kept[x.1]? = _
            rw [hoffh x.1 (by have := hwm x hx; omega), h7 x hx]
          · show r.1.kept[a]? = _
            rw [hoffh a ha, h8 a hx]
  · have g2 : Gone D (putAll rows D L.anew).1 (rputs (2 + (1 - L.half) * halfOf D) (L.top + 1) 0 0 rows) := g2
    have hs2 := g2.steps
    rw [← hhf, ← hp, ← hws] at g2 hs2 ⊢
    rw [hrw, if_neg (by rw [g1]; decide)]
    have ht := g2.torn h.st.calm.cache
    have ho : Off (putAll rows D L.anew).1 := ⟨g2.down, g2.cache, g2.fate⟩
    exact ⟨by omega, ht.1, .inr ⟨g1, ho, .inl (tornOld _ ho ht)⟩⟩
theorem rputs_length (p E : Nat) : ∀ (rs : List (List UInt8)) (at_ seq : Nat), (rputs p E at_ seq rs).length = roomL rs
  | [], _, _ => rfl
  | b :: r, at_, seq => by rw [rputs, List.length_append, puts_length, rputs_length p E r, roomL]
/-- A new disk, opened: it can be written anew. -/
theorem open_new_nw (n : Nat) (h6 : 6 ≤ n) (h4 : n ≤ 4096) : ∃ D L, openP (Dk.new (n : Int)) = (D, some L, 0) ∧ Nw D L [] 1 ∧ D.kept.length = n ∧ D.steps ≤ 10 := by
  obtain ⟨D, h1, h2, h3, -, h5, h6', h7⟩ := open_new n h6 h4
  refine ⟨D, _, h1, ⟨h2, ?_, rfl, rfl, Nat.le_refl _, ?_, Nat.le_refl _⟩, h5, h6'⟩
  · rcases Nat.lt_or_ge 0 (halfOf D) with h9 | h9
    · obtain ⟨s, hs, hl, h0⟩ := h3 0 (Nat.le_refl _) h9
      exact .inr ⟨s, hs, hl, fun e => by rw [h0] at e; exact absurd e (by decide)⟩
    · exact .inl h9
  · intro i s hi hs hd
    rw [h7, List.getElem?_set_ne (by omega), List.getElem?_replicate] at hs
    split at hs
    · obtain rfl := Option.some.inj hs
      exact absurd hd (by decide)
    · cases hs
end Go.Proofs.Ytgkoblgpadpcjaa
