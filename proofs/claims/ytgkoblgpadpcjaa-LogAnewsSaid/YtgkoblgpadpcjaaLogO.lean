/- A log: read. -/
import Derived.Test.YtgkoblgpadpcjaaLogN
namespace Go.Proofs.Ytgkoblgpadpcjaa
open Go.RowKit

theorem Try.results75 : Try.f75.results = #[.cell 4 63, .tmp 5] := by kernel_rfl
theorem res75 (tmps : Array Value) (w : World) (B : Nat) (cs : Array Value) (e : Value) (hp : tmps.getD 4 undef = .pointer (some ⟨B, 0, none⟩)) (h5 : tmps.getD 5 undef = e) (hg : w.heap[B]? = some (.cells cs 63 (0, 0))) (hcs : cs.size = 64) :
    (results Try.f75 tmps).run Try.prog w = .ok (.tuple #[.agg cs, e]) w := by
  have hp' : tmps[4]?.getD undef = .pointer (some ⟨B, 0, none⟩) := by simpa using hp
  have h5' : tmps[5]?.getD undef = e := by simpa using h5
  simp [results, Try.results75, hp', h5', asAddr, run_loadVar_row w B 63 63 cs (0, 0) _ hg Try.underlying63 rfl (by rw [hcs]; exact Try.info63)]
theorem lastAt_len (a : Nat) : ∀ (c : List (Nat × List UInt8)) (s : List UInt8), (∀ x ∈ c, x.2.length = 64) → lastAt a c = some s → s.length = 64
  | [], s, _, h => by cases h
  | x :: r, s, hc, h => by
    unfold lastAt at h
    cases hr : lastAt a r with
    | some t =>
      rw [hr] at h
      obtain rfl := Option.some.inj h
      exact lastAt_len a r t (fun y hy => hc y (List.mem_cons_of_mem _ hy)) hr
    | none =>
      rw [hr] at h
      dsimp only at h
      by_cases e : x.1 = a
      · rw [if_pos e] at h
        obtain rfl := Option.some.inj h
        exact hc x List.mem_cons_self
      · rw [if_neg e] at h; cases h
theorem read_len {D : Dk} (h : Wf D) (a : Int) : (D.read a).1.length = 64 := by
  unfold Dk.read
  split
  · rfl
  · split
    · rfl
    · rename_i h2
      split
      · rename_i s hs
        exact lastAt_len _ _ _ (fun x hx => (h.cache x hx).2) hs
      · have hlt : a.toNat < D.kept.length := by omega
        simp only [List.getD, List.getElem?_eq_getElem hlt, Option.getD_some]
        exact h.kept _ (List.getElem_mem hlt)
set_option maxRecDepth 100000 in
set_option maxHeartbeats 2000000 in
theorem read_any (base g kb l : Nat) (lv : Value) (D : Dk) (L : Lg) (i : Nat) (w : World) (h : LogAt base w g kb l lv D L) (hi : i ≤ 100000) :
    Calls Try.prog 75 #[.pointer (some ⟨l, 0, none⟩), .int .i64 (i : Int)] w (readPost w D ((placeOf D L.half i : Nat) : Int)) := by
  obtain ⟨c0, c1, c2, c3, c4, c5, c6, hf⟩ := h.cells
  have HL := Lib.hid h
  have hm := h.disk.wf.most
  have h6 := h.six
  have hh1 := h.half
  have hh : halfOf D ≤ 4096 := by unfold halfOf; omega
  have hmul : L.half * halfOf D ≤ 4096 := by
    rcases Nat.lt_or_ge L.half 1 with h0 | h0
    · rw [show L.half = 0 by omega, Nat.zero_mul]; omega
    · rw [show L.half = 1 by omega, Nat.one_mul]; exact hh
  obtain ⟨p0, hp0⟩ : ∃ p0 : Nat, p0 = L.half * halfOf D := ⟨_, rfl⟩
  obtain ⟨p1, hp1⟩ : ∃ p1 : Nat, p1 = 2 + p0 := ⟨_, rfl⟩
  obtain ⟨p2, hp2⟩ : ∃ p2 : Nat, p2 = placeOf D L.half i := ⟨_, rfl⟩
  have s1 : IntKind.i64.wrap ((L.half : Int) * ((halfOf D : Nat) : Int)) = (p0 : Int) := by
    rw [show ((L.half : Int) * ((halfOf D : Nat) : Int)) = ((L.half * halfOf D : Nat) : Int) by push_cast; rfl, ← hp0]
    exact IntWalk.i64_in _ (by omega)
  have s2 : IntKind.i64.wrap (2 + (p0 : Int)) = (p1 : Int) := by
    rw [IntWalk.i64_in _ (by omega)]; omega
  have s3 : IntKind.i64.wrap ((p1 : Int) + (i : Int)) = (p2 : Int) := by
    rw [IntWalk.i64_in _ (by omega)]; unfold placeOf at hp2; omega
  rw [← hp2]
  clear hp0 hp1 hp2 hmul hh hm
  obtain ⟨Z, hZ⟩ : ∃ Z, Z = (byteVals zero64).toArray := ⟨_, rfl⟩
  have HI : Hid (ZFacts Z) := by rw [hZ]; exact zfacts
  clear hZ h hf c1 c2 c4 c5 c6
  go_enter Try.func75, Try.ntmps75
  go_upto_region 1 with (refine wpList_alloc_z rfl 63 rfl Z HI.out.1 ?_)
  have x1 := Lib.hid ((Ext.refl w).alloc (.cells Z 63))
  have d0 := x1.out.cell c0
  have d3 := x1.out.cell c3
  have hb := heap_alloc_new w (.cells Z 63)
  have HL1 := Lib.hid (HL.out.ext x1.out)
  generalize hW1 : w.alloc (.cells Z 63) = W1 at *
  have hth : W1.there w.heap.size 0 64 := fun j hj => by
    rw [cell_of_row _ _ _ _ _ _ hb]
    have hsz := HI.out.2.2.2.2
    exact ⟨by simp [hsz, hj], by simp [World.frozen?, hb]⟩
  have HW := Lib.hid hW1
  have HB := Lib.hid hb
  clear c0 c3 hb hW1
  refine wp_region_noPanic ?_
  refine wp_region_held_drew (S := fun W => W.cell? ⟨l, 0, none⟩ = some (.pointer (some ⟨g, 0, none⟩)) ∧ W.cell? ⟨l, 3, none⟩ = some (.int .i64 L.half) ∧ W.there w.heap.size 0 64) (by kernel_rfl) ⟨d0, d3, hth⟩ (fun hHeld => ?_)
  refine wpAnyH_take (i := 0) (v := .pointer (some ⟨l, 0, none⟩)) rfl (by kernel_rfl) (by kernel_rfl) (by kernel_rfl) (fun _ _ _ h => h) (Or.inl ⟨by rfl, (by intro w hSw; first | (go_simp; done) | (obtain ⟨hq1, hq2⟩ := hSw; go_simp; done) | (obtain ⟨hq1, hq2, hq3⟩ := hSw; go_simp; done) | (obtain ⟨hq1, hq2, hq3, hq4⟩ := hSw; go_simp; done) | (obtain ⟨hq1, hq2, hq3, hq4, hq5⟩ := hSw; go_simp; done))⟩) (by assumption) ?_
  try simp only [List.getElem_toArray, List.getElem_cons_zero, List.getElem_cons_succ, Act.put, List.setIfInBounds_toArray, List.set_cons_zero, List.set_cons_succ]
  refine wpAnyH_take (i := 1) (v := .pointer (some ⟨l, 0, none⟩)) rfl (by kernel_rfl) (by kernel_rfl) (by kernel_rfl) (fun _ _ _ h => h) (Or.inl ⟨by rfl, (by intro w hSw; first | (go_simp; done) | (obtain ⟨hq1, hq2⟩ := hSw; go_simp; done) | (obtain ⟨hq1, hq2, hq3⟩ := hSw; go_simp; done) | (obtain ⟨hq1, hq2, hq3, hq4⟩ := hSw; go_simp; done) | (obtain ⟨hq1, hq2, hq3, hq4, hq5⟩ := hSw; go_simp; done))⟩) (by assumption) ?_
  try simp only [List.getElem_toArray, List.getElem_cons_zero, List.getElem_cons_succ, Act.put, List.setIfInBounds_toArray, List.set_cons_zero, List.set_cons_succ]
  refine wpAnyH_take (i := 2) (v := .pointer (some ⟨l, 0, none⟩)) rfl (by kernel_rfl) (by kernel_rfl) (by kernel_rfl) (fun _ _ _ h => h) (Or.inl ⟨by rfl, (by intro w hSw; first | (go_simp; done) | (obtain ⟨hq1, hq2⟩ := hSw; go_simp; done) | (obtain ⟨hq1, hq2, hq3⟩ := hSw; go_simp; done) | (obtain ⟨hq1, hq2, hq3, hq4⟩ := hSw; go_simp; done) | (obtain ⟨hq1, hq2, hq3, hq4, hq5⟩ := hSw; go_simp; done))⟩) (by assumption) ?_
  try simp only [List.getElem_toArray, List.getElem_cons_zero, List.getElem_cons_succ, Act.put, List.setIfInBounds_toArray, List.set_cons_zero, List.set_cons_succ]
  refine wpAnyH_take (i := 3) (v := .pointer (some ⟨g, 0, none⟩)) rfl (by kernel_rfl) (by kernel_rfl) (by kernel_rfl) (fun _ _ _ h => h) (Or.inl ⟨by rfl, (by intro w hSw; first | (go_simp; done) | (obtain ⟨hq1, hq2⟩ := hSw; go_simp; done) | (obtain ⟨hq1, hq2, hq3⟩ := hSw; go_simp; done) | (obtain ⟨hq1, hq2, hq3, hq4⟩ := hSw; go_simp; done) | (obtain ⟨hq1, hq2, hq3, hq4, hq5⟩ := hSw; go_simp; done))⟩) (by assumption) ?_
  try simp only [List.getElem_toArray, List.getElem_cons_zero, List.getElem_cons_succ, Act.put, List.setIfInBounds_toArray, List.set_cons_zero, List.set_cons_succ]
  refine wpAnyH_take (i := 4) (v := .pointer (some ⟨l, 0, none⟩)) rfl (by kernel_rfl) (by kernel_rfl) (by kernel_rfl) (fun _ _ _ h => h) (Or.inl ⟨by rfl, (by intro w hSw; first | (go_simp; done) | (obtain ⟨hq1, hq2⟩ := hSw; go_simp; done) | (obtain ⟨hq1, hq2, hq3⟩ := hSw; go_simp; done) | (obtain ⟨hq1, hq2, hq3, hq4⟩ := hSw; go_simp; done) | (obtain ⟨hq1, hq2, hq3, hq4, hq5⟩ := hSw; go_simp; done))⟩) (by assumption) ?_
  try simp only [List.getElem_toArray, List.getElem_cons_zero, List.getElem_cons_succ, Act.put, List.setIfInBounds_toArray, List.set_cons_zero, List.set_cons_succ]
  refine wpAnyH_take (i := 5) (v := .pointer (some ⟨l, 0, none⟩)) rfl (by kernel_rfl) (by kernel_rfl) (by kernel_rfl) (fun _ _ _ h => h) (Or.inl ⟨by rfl, (by intro w hSw; first | (go_simp; done) | (obtain ⟨hq1, hq2⟩ := hSw; go_simp; done) | (obtain ⟨hq1, hq2, hq3⟩ := hSw; go_simp; done) | (obtain ⟨hq1, hq2, hq3, hq4⟩ := hSw; go_simp; done) | (obtain ⟨hq1, hq2, hq3, hq4, hq5⟩ := hSw; go_simp; done))⟩) (by assumption) ?_
  try simp only [List.getElem_toArray, List.getElem_cons_zero, List.getElem_cons_succ, Act.put, List.setIfInBounds_toArray, List.set_cons_zero, List.set_cons_succ]
  refine wpAnyH_take (i := 6) (v := .pointer (some ⟨l, 3, none⟩)) rfl (by kernel_rfl) (by kernel_rfl) (by kernel_rfl) (fun _ _ _ h => h) (Or.inl ⟨by rfl, (by intro w hSw; first | (go_simp; done) | (obtain ⟨hq1, hq2⟩ := hSw; go_simp; done) | (obtain ⟨hq1, hq2, hq3⟩ := hSw; go_simp; done) | (obtain ⟨hq1, hq2, hq3, hq4⟩ := hSw; go_simp; done) | (obtain ⟨hq1, hq2, hq3, hq4, hq5⟩ := hSw; go_simp; done))⟩) (by assumption) ?_
  try simp only [List.getElem_toArray, List.getElem_cons_zero, List.getElem_cons_succ, Act.put, List.setIfInBounds_toArray, List.set_cons_zero, List.set_cons_succ]
  refine wpAnyH_take (i := 7) (v := .int .i64 L.half) rfl (by kernel_rfl) (by kernel_rfl) (by kernel_rfl) (fun _ _ _ h => h) (Or.inl ⟨by rfl, (by intro w hSw; first | (go_simp; done) | (obtain ⟨hq1, hq2⟩ := hSw; go_simp; done) | (obtain ⟨hq1, hq2, hq3⟩ := hSw; go_simp; done) | (obtain ⟨hq1, hq2, hq3, hq4⟩ := hSw; go_simp; done) | (obtain ⟨hq1, hq2, hq3, hq4, hq5⟩ := hSw; go_simp; done))⟩) (by assumption) ?_
  try simp only [List.getElem_toArray, List.getElem_cons_zero, List.getElem_cons_succ, Act.put, List.setIfInBounds_toArray, List.set_cons_zero, List.set_cons_succ]
  refine wpAnyH_take (i := 8) (v := .pointer (some ⟨l, 0, none⟩)) rfl (by kernel_rfl) (by kernel_rfl) (by kernel_rfl) (fun _ _ _ h => h) (Or.inl ⟨by rfl, (by intro w hSw; first | (go_simp; done) | (obtain ⟨hq1, hq2⟩ := hSw; go_simp; done) | (obtain ⟨hq1, hq2, hq3⟩ := hSw; go_simp; done) | (obtain ⟨hq1, hq2, hq3, hq4⟩ := hSw; go_simp; done) | (obtain ⟨hq1, hq2, hq3, hq4, hq5⟩ := hSw; go_simp; done))⟩) (by assumption) ?_
  try simp only [List.getElem_toArray, List.getElem_cons_zero, List.getElem_cons_succ, Act.put, List.setIfInBounds_toArray, List.set_cons_zero, List.set_cons_succ]
  refine wpAnyH_take (i := 9) (v := .pointer (some ⟨l, 0, none⟩)) rfl (by kernel_rfl) (by kernel_rfl) (by kernel_rfl) (fun _ _ _ h => h) (Or.inl ⟨by rfl, (by intro w hSw; first | (go_simp; done) | (obtain ⟨hq1, hq2⟩ := hSw; go_simp; done) | (obtain ⟨hq1, hq2, hq3⟩ := hSw; go_simp; done) | (obtain ⟨hq1, hq2, hq3, hq4⟩ := hSw; go_simp; done) | (obtain ⟨hq1, hq2, hq3, hq4, hq5⟩ := hSw; go_simp; done))⟩) (by assumption) ?_
  try simp only [List.getElem_toArray, List.getElem_cons_zero, List.getElem_cons_succ, Act.put, List.setIfInBounds_toArray, List.set_cons_zero, List.set_cons_succ]
  refine wpAnyH_take (i := 10) (v := .pointer (some ⟨l, 0, none⟩)) rfl (by kernel_rfl) (by kernel_rfl) (by kernel_rfl) (fun _ _ _ h => h) (Or.inl ⟨by rfl, (by intro w hSw; first | (go_simp; done) | (obtain ⟨hq1, hq2⟩ := hSw; go_simp; done) | (obtain ⟨hq1, hq2, hq3⟩ := hSw; go_simp; done) | (obtain ⟨hq1, hq2, hq3, hq4⟩ := hSw; go_simp; done) | (obtain ⟨hq1, hq2, hq3, hq4, hq5⟩ := hSw; go_simp; done))⟩) (by assumption) ?_
  try simp only [List.getElem_toArray, List.getElem_cons_zero, List.getElem_cons_succ, Act.put, List.setIfInBounds_toArray, List.set_cons_zero, List.set_cons_succ]
  refine wpAnyH_take (i := 11) (v := .pointer (some ⟨g, 0, none⟩)) rfl (by kernel_rfl) (by kernel_rfl) (by kernel_rfl) (fun _ _ _ h => h) (Or.inl ⟨by rfl, (by intro w hSw; first | (go_simp; done) | (obtain ⟨hq1, hq2⟩ := hSw; go_simp; done) | (obtain ⟨hq1, hq2, hq3⟩ := hSw; go_simp; done) | (obtain ⟨hq1, hq2, hq3, hq4⟩ := hSw; go_simp; done) | (obtain ⟨hq1, hq2, hq3, hq4, hq5⟩ := hSw; go_simp; done))⟩) (by assumption) ?_
  try simp only [List.getElem_toArray, List.getElem_cons_zero, List.getElem_cons_succ, Act.put, List.setIfInBounds_toArray, List.set_cons_zero, List.set_cons_succ]
  refine wpAnyH_take (i := 15) (v := .int .i64 i) rfl (by kernel_rfl) (by kernel_rfl) (by kernel_rfl) (fun _ _ _ h => h) (Or.inl ⟨by rfl, (by intro w hSw; first | (go_simp; done) | (obtain ⟨hq1, hq2⟩ := hSw; go_simp; done) | (obtain ⟨hq1, hq2, hq3⟩ := hSw; go_simp; done) | (obtain ⟨hq1, hq2, hq3, hq4⟩ := hSw; go_simp; done) | (obtain ⟨hq1, hq2, hq3, hq4, hq5⟩ := hSw; go_simp; done))⟩) (by assumption) ?_
  try simp only [List.getElem_toArray, List.getElem_cons_zero, List.getElem_cons_succ, Act.put, List.setIfInBounds_toArray, List.set_cons_zero, List.set_cons_succ]
  refine wpAnyH_ready (rs := [12]) (by kernel_rfl) (by simp) (AllReadyH.cons rfl (fun K hK => ?_) AllReadyH.nil)
  go_simp
  refine (half_any base g kb D _ (HL1.out.ext ((Ext.refl W1).drew)).disk (by omega)).mono ?_
  rintro e w2 ⟨rfl, rfl⟩
  refine hK.out _ _ hHeld (fun hHeld2 => ?_)
  clear hK K
  try simp only [List.getElem_toArray, List.getElem_cons_zero, List.getElem_cons_succ, Act.put, List.setIfInBounds_toArray, List.set_cons_zero, List.set_cons_succ]
  refine wpAnyH_take (i := 13) (v := .int .i64 (p0 : Int)) rfl (by kernel_rfl) (by kernel_rfl) (by kernel_rfl) (fun _ _ _ h => h) (Or.inl ⟨by rfl, (by intro w hSw; first | (go_simp; done) | (obtain ⟨hq1, hq2⟩ := hSw; go_simp; done) | (obtain ⟨hq1, hq2, hq3⟩ := hSw; go_simp; done) | (obtain ⟨hq1, hq2, hq3, hq4⟩ := hSw; go_simp; done) | (obtain ⟨hq1, hq2, hq3, hq4, hq5⟩ := hSw; go_simp; done))⟩) (by assumption) ?_
  try simp only [List.getElem_toArray, List.getElem_cons_zero, List.getElem_cons_succ, Act.put, List.setIfInBounds_toArray, List.set_cons_zero, List.set_cons_succ]
  refine wpAnyH_take (i := 14) (v := .int .i64 (p1 : Int)) rfl (by kernel_rfl) (by kernel_rfl) (by kernel_rfl) (fun _ _ _ h => h) (Or.inl ⟨by rfl, (by intro w hSw; first | (go_simp; done) | (obtain ⟨hq1, hq2⟩ := hSw; go_simp; done) | (obtain ⟨hq1, hq2, hq3⟩ := hSw; go_simp; done) | (obtain ⟨hq1, hq2, hq3, hq4⟩ := hSw; go_simp; done) | (obtain ⟨hq1, hq2, hq3, hq4, hq5⟩ := hSw; go_simp; done))⟩) (by assumption) ?_
  try simp only [List.getElem_toArray, List.getElem_cons_zero, List.getElem_cons_succ, Act.put, List.setIfInBounds_toArray, List.set_cons_zero, List.set_cons_succ]
  refine wpAnyH_take (i := 16) (v := .int .i64 (p2 : Int)) rfl (by kernel_rfl) (by kernel_rfl) (by kernel_rfl) (fun _ _ _ h => h) (Or.inl ⟨by rfl, (by intro w hSw; first | (go_simp; done) | (obtain ⟨hq1, hq2⟩ := hSw; go_simp; done) | (obtain ⟨hq1, hq2, hq3⟩ := hSw; go_simp; done) | (obtain ⟨hq1, hq2, hq3, hq4⟩ := hSw; go_simp; done) | (obtain ⟨hq1, hq2, hq3, hq4, hq5⟩ := hSw; go_simp; done))⟩) (by assumption) ?_
  try simp only [List.getElem_toArray, List.getElem_cons_zero, List.getElem_cons_succ, Act.put, List.setIfInBounds_toArray, List.set_cons_zero, List.set_cons_succ]
  refine wpAnyH_ready (rs := [17]) (by kernel_rfl) (by simp) (AllReadyH.cons rfl (fun K hK => ?_) AllReadyH.nil)
  go_simp
  refine (DRead_any base g kb D (p2 : Int) _ (HL1.out.ext ((Ext.refl W1).drew)).disk).mono ?_
  unfold readPost
  rintro e w6 ⟨rfl, x6⟩
  dsimp only
  have x6' : Ext W1 w6 := (Ext.refl W1).drew.trans x6
  have hS6 : w6.cell? ⟨l, 0, none⟩ = some (.pointer (some ⟨g, 0, none⟩)) ∧ w6.cell? ⟨l, 3, none⟩ = some (.int .i64 L.half) ∧ w6.there w.heap.size 0 64 := ⟨x6'.cell d0, x6'.cell d3, fun j hj => by
    have hk := x6'.block w.heap.size (Array.getElem?_eq_some_iff.1 HB.out).1
    rw [World.cell?_of_block (a := ⟨w.heap.size, 0 + j, none⟩) hk, World.frozen?_of_block (a := ⟨w.heap.size, 0 + j, none⟩) hk]
    exact hth j hj⟩
  refine hK.out _ _ hS6 (fun hHeld6 => ?_)
  clear hK K
  try simp only [List.getElem_toArray, List.getElem_cons_zero, List.getElem_cons_succ, Act.put, List.setIfInBounds_toArray, List.set_cons_zero, List.set_cons_succ]
  generalize hr : D.read (p2 : Int) = r at *
  obtain ⟨sv, en⟩ := r
  refine wpAnyH_take (i := 18) (v := .agg (byteVals sv).toArray) rfl (by kernel_rfl) (by kernel_rfl) (by kernel_rfl) (fun _ _ _ h => h) (Or.inl ⟨by rfl, (by intro w hSw; first | (go_simp; done) | (obtain ⟨hq1, hq2⟩ := hSw; go_simp; done) | (obtain ⟨hq1, hq2, hq3⟩ := hSw; go_simp; done) | (obtain ⟨hq1, hq2, hq3, hq4⟩ := hSw; go_simp; done) | (obtain ⟨hq1, hq2, hq3, hq4, hq5⟩ := hSw; go_simp; done))⟩) (by assumption) ?_
  try simp only [List.getElem_toArray, List.getElem_cons_zero, List.getElem_cons_succ, Act.put, List.setIfInBounds_toArray, List.set_cons_zero, List.set_cons_succ]
  refine wpAnyH_take (i := 19) (v := .int .i64 (en : Int)) rfl (by kernel_rfl) (by kernel_rfl) (by kernel_rfl) (fun _ _ _ h => h) (Or.inl ⟨by rfl, (by intro w hSw; first | (go_simp; done) | (obtain ⟨hq1, hq2⟩ := hSw; go_simp; done) | (obtain ⟨hq1, hq2, hq3⟩ := hSw; go_simp; done) | (obtain ⟨hq1, hq2, hq3, hq4⟩ := hSw; go_simp; done) | (obtain ⟨hq1, hq2, hq3, hq4, hq5⟩ := hSw; go_simp; done))⟩) (by assumption) ?_
  try simp only [List.getElem_toArray, List.getElem_cons_zero, List.getElem_cons_succ, Act.put, List.setIfInBounds_toArray, List.set_cons_zero, List.set_cons_succ]
  refine wpAnyH_ready (rs := [20]) (by kernel_rfl) (by simp) (AllReadyH.cons rfl (fun K hK => ?_) AllReadyH.nil)
  have hsl : sv.length = 64 := by
    have := read_len (HL.out.disk.wf) (p2 : Int); rw [hr] at this; exact this
  refine wp_store_mid 63 _ _ rfl _ _ (byteVals sv).toArray rfl rfl (by simpa [byteVals_length, hsl] using hS6.2.2) (by simpa [byteVals_length, hsl] using Try.info63) (all_oneCell_toArray (byteVals_oneCell sv)) ?_
  simp only [List.toList_toArray] at *
  have hE : Ext W1 w6 := x6'
  have hh6 : w6.heap[w.heap.size]? = some (.cells Z 63 (0, 0)) := (x6'.block w.heap.size (Array.getElem?_eq_some_iff.1 HB.out).1).trans HB.out
  obtain ⟨k1, k2, k3, k4, k5⟩ := setCells_keep w.heap.size (byteVals sv) 0 w6
  have hh7 := setCells_heap w.heap.size (byteVals sv) 0 w6 _ _ _ hh6
  have hput : putAt Z 0 (byteVals sv) = (byteVals sv).toArray := by
    have := putAt_mid (byteVals sv) Z.toList [] [] (by simp [byteVals_length, hsl, HI.out.2.2.2.2])
    simpa using this
  rw [hput] at hh7
  have hlw : l < w.heap.size := (Array.getElem?_eq_some_iff.1 HL.out.blk).1
  have hS7 : (w6.setCells w.heap.size 0 (byteVals sv)).cell? ⟨l, 0, none⟩ = some (.pointer (some ⟨g, 0, none⟩)) ∧ (w6.setCells w.heap.size 0 (byteVals sv)).cell? ⟨l, 3, none⟩ = some (.int .i64 L.half) ∧ (w6.setCells w.heap.size 0 (byteVals sv)).there w.heap.size 0 64 := by
    refine ⟨?_, ?_, World.there_setCells hS6.2.2 _ _ _⟩
    · exact (World.cell?_of_block (a := ⟨l, 0, none⟩) (k5 l (by omega))).trans hS6.1
    · exact (World.cell?_of_block (a := ⟨l, 3, none⟩) (k5 l (by omega))).trans hS6.2.1
  have hX7 : Ext w (w6.setCells w.heap.size 0 (byteVals sv)) := by
    have hx := x1.out.trans x6'
    exact Below.trans hx ⟨k1, k2, k3, by rw [k4]; exact Nat.le_refl _, fun k hk => k5 k (by omega)⟩
  generalize w6.setCells w.heap.size 0 (byteVals sv) = w7 at *
  refine hK.out _ _ hS7 (fun hHeld7 => ?_)
  clear hK K
  try simp only [List.getElem_toArray, List.getElem_cons_zero, List.getElem_cons_succ, Act.put, List.setIfInBounds_toArray, List.set_cons_zero, List.set_cons_succ]
  refine wpAnyH_ready (rs := [21]) (by kernel_rfl) (by simp) (AllReadyH.cons rfl (fun K hK => ?_) AllReadyH.nil)
  go_simp
  refine hK.out _ _ hS7 (fun hHeld8 => ?_)
  clear hK K
  try simp only [List.getElem_toArray, List.getElem_cons_zero, List.getElem_cons_succ, Act.put, List.setIfInBounds_toArray, List.set_cons_zero, List.set_cons_succ]
  refine wpAnyH_done (by kernel_rfl) ?_ _
  refine NoPanic.normal ?_
  go_wp2_with fail
  have hs64 : (byteVals sv).toArray.size = 64 := by simp [byteVals_length, hsl]
  refine bodyPost_ret (res75 _ _ w.heap.size _ _ rfl rfl hh7 hs64) rfl ?_
  unfold readPost
  rw [hr]
  exact ⟨rfl, hX7⟩
end Go.Proofs.Ytgkoblgpadpcjaa
