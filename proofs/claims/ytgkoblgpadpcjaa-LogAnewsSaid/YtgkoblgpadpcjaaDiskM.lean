/- A disk in memory. -/
import Derived.Test.YtgkoblgpadpcjaaDiskL
namespace Go.Proofs.Ytgkoblgpadpcjaa
open Go.RowKit

theorem setCells_keep (b : Nat) : ∀ (vs : List Value) (o : Nat) (w : World), (w.setCells b o vs).os = w.os ∧ (w.setCells b o vs).tape = w.tape ∧ (w.setCells b o vs).output = w.output ∧ (w.setCells b o vs).heap.size = w.heap.size ∧ ∀ k, k ≠ b → (w.setCells b o vs).heap[k]? = w.heap[k]?
  | [], _, _ => ⟨rfl, rfl, rfl, rfl, fun _ _ => rfl⟩
  | v :: r, o, w => by
    obtain ⟨h1, h2, h3, h4, h5⟩ := setCells_keep b r (o + 1) (w.setCell ⟨b, o, none⟩ v)
    refine ⟨h1, h2, h3, by rw [World.setCells, h4]; simp [World.setCell], fun k hk => ?_⟩
    rw [World.setCells, h5 k hk]
    exact Below.heap_setCell w _ v k hk
theorem setCells_heap (b : Nat) : ∀ (vs : List Value) (o : Nat) (w : World) (cs : Array Value) (t : TypeId) (fz : Nat × Nat), w.heap[b]? = some (.cells cs t fz) → (w.setCells b o vs).heap[b]? = some (.cells (putAt cs o vs) t fz)
  | [], _, _, _, _, _, h => h
  | v :: r, o, w, cs, t, fz, h => setCells_heap b r (o + 1) _ _ t fz (setCell_get w b o v cs t fz h)
theorem flatMap_idx {α β : Type} (f : α → List β) (n : Nat) : ∀ (l : List α) (_ : ∀ x ∈ l, (f x).length = n) (j r : Nat) (hj : j < l.length) (_ : r < n), (l.flatMap f)[j * n + r]? = (f l[j])[r]?
  | x :: l, h, 0, r, _, hr => by
    have hx := h x (by simp)
    rw [List.flatMap_cons, Nat.zero_mul, Nat.zero_add, List.getElem?_append_left (by omega)]
    rfl
  | x :: l, h, j + 1, r, hj, hr => by
    have hx := h x (by simp)
    have ih := flatMap_idx f n l (fun y hy => h y (by simp [hy])) j r (by simpa using hj) hr
    rw [List.flatMap_cons, List.getElem?_append_right (by rw [hx, Nat.succ_mul]; omega), hx]
    rw [show (j + 1) * n + r - n = j * n + r by rw [Nat.succ_mul]; omega, ih]
    rfl
theorem flatMap_len {α β : Type} (f : α → List β) (n : Nat) : ∀ (l : List α) (_ : ∀ x ∈ l, (f x).length = n), (l.flatMap f).length = l.length * n
  | [], _ => by simp
  | x :: l, h => by
    rw [List.flatMap_cons, List.length_append, h x (by simp), flatMap_len f n l (fun y hy => h y (by simp [hy])), List.length_cons, Nat.succ_mul]
    omega
theorem wvals_len {c : Nat × List UInt8} (h : c.2.length = 64) : (wvals c).length = 65 := by simp [wvals, byteVals_length, h]
theorem wvals_one (c : Nat × List UInt8) : ∀ v ∈ wvals c, v.oneCell' = true := by
  intro v hv
  rcases List.mem_cons.1 hv with rfl | h
  · rfl
  · exact byteVals_oneCell _ v h

/-- A disk lies at block g, its sectors at block kb, its writes in a row of the call's own. -/
structure DiskAt (base : Nat) (w : World) (g kb : Nat) (cv : Value) (D : Dk) : Prop where
  hg : base ≤ g
  hk : base ≤ kb
  blk : w.heap[g]? = some (.cells #[.slice (some ⟨kb, 0, none⟩) D.kept.length D.kept.length, cv, .bool D.down, .int .i64 D.fate, .int .u64 D.keeps, .int .i64 D.steps] 111 (0, 0))
  row : w.heap[kb]? = some (.cells (flatK D.kept).toArray 63 (0, 0))
  cache : w.ownsRow base 113 65 cv D.cache.length (flatC D.cache)
  wf : Wf D
/-- No row of writes. -/
def NotW (w : World) (k : Nat) : Prop := ∀ cs fz, w.heap[k]? ≠ some (.cells cs 113 fz)
/-- Only a disk's own blocks have turned, and there are more blocks. -/
structure DOnly (base g kb : Nat) (w w' : World) : Prop where
  os : w'.os = w.os
  tape : w'.tape = w.tape
  output : w'.output = w.output
  size : w.heap.size ≤ w'.heap.size
  block : ∀ k, k < w.heap.size → k ≠ g → k ≠ kb → (k < base ∨ NotW w k) → w'.heap[k]? = w.heap[k]?
theorem DOnly.refl (base g kb : Nat) (w : World) : DOnly base g kb w w := ⟨rfl, rfl, rfl, Nat.le_refl _, fun _ _ _ _ _ => rfl⟩
theorem DOnly.trans {base g kb : Nat} {a b c : World} (h : DOnly base g kb a b) (k : DOnly base g kb b c) : DOnly base g kb a c :=
  ⟨k.os.trans h.os, k.tape.trans h.tape, k.output.trans h.output, Nat.le_trans h.size k.size, fun i hi h1 h2 h3 => by
    have e := h.block i hi h1 h2 h3
    refine (k.block i (Nat.lt_of_lt_of_le hi h.size) h1 h2 (h3.imp id fun hn cs fz => ?_)).trans e
    rw [e]; exact hn cs fz⟩
theorem DOnly.ext {base g kb : Nat} {a b c : World} (h : DOnly base g kb a b) (k : Ext b c) : DOnly base g kb a c :=
  h.trans ⟨k.os, k.tape, k.output, k.size, fun i hi _ _ _ => k.block i hi⟩
theorem DOnly.drew {base g kb : Nat} {a b : World} (h : DOnly base g kb a b) : DOnly base g kb a b.drew := ⟨h.os, h.tape, h.output, h.size, h.block⟩
theorem DOnly.setG {base g kb : Nat} {a b : World} (h : DOnly base g kb a b) (i : Nat) (u : Value) : DOnly base g kb a (b.setCell ⟨g, i, none⟩ u) :=
  h.trans ⟨rfl, rfl, rfl, by simp [World.setCell], fun k _ hk _ _ => Below.heap_setCell b _ u k hk⟩
theorem DOnly.setK {base g kb : Nat} {a b : World} (h : DOnly base g kb a b) (o : Nat) (vs : List Value) : DOnly base g kb a (b.setCells kb o vs) := by
  obtain ⟨h1, h2, h3, h4, h5⟩ := setCells_keep kb vs o b
  exact h.trans ⟨h1, h2, h3, by rw [h4]; exact Nat.le_refl _, fun k _ _ hk _ => h5 k hk⟩
theorem DOnly.row {base g kb s n : Nat} {a b c : World} {cv : Value} {xs : List Value} (h : DOnly base g kb a b) (o : b.ownsRow base 113 s cv n xs) (gr : b.grownBy c cv.ownBlock) : DOnly base g kb a c := by
  refine h.trans ⟨gr.os, gr.tape, gr.output, gr.size, fun k hk _ _ hn => gr.block k hk fun e => ?_⟩
  rcases o.2 with ⟨rfl, _⟩ | ⟨q, cap, cur, rfl, hb, hh, -⟩
  · simp [Value.ownBlock] at e
  · simp only [Value.ownBlock, Option.some.injEq] at e
    subst e
    rcases hn with hn | hn
    · omega
    · exact hn cur (0, 0) hh
theorem DOnly.below {base g kb : Nat} {a b : World} (h : DOnly base g kb a b) (hg : base ≤ g) (hk : base ≤ kb) (hs : base ≤ a.heap.size) : Below base a b :=
  ⟨h.os, h.tape, h.output, h.size, fun k hk' => h.block k (by omega) (by omega) (by omega) (.inl hk')⟩
theorem DiskAt.ne {base g kb : Nat} {w : World} {cv : Value} {D : Dk} (h : DiskAt base w g kb cv D) : g ≠ kb := by
  rintro rfl
  have := h.blk.symm.trans h.row
  simp at this
theorem DiskAt.gne {base g kb : Nat} {w : World} {cv : Value} {D : Dk} (h : DiskAt base w g kb cv D) : some g ≠ cv.ownBlock := by
  intro e
  rcases h.cache.2 with ⟨rfl, _⟩ | ⟨q, cap, cur, rfl, hb, hh, -⟩
  · simp [Value.ownBlock] at e
  · simp only [Value.ownBlock, Option.some.injEq] at e
    subst e
    have := h.blk.symm.trans hh
    simp at this
theorem DiskAt.kne {base g kb : Nat} {w : World} {cv : Value} {D : Dk} (h : DiskAt base w g kb cv D) : some kb ≠ cv.ownBlock := by
  intro e
  rcases h.cache.2 with ⟨rfl, _⟩ | ⟨q, cap, cur, rfl, hb, hh, -⟩
  · simp [Value.ownBlock] at e
  · simp only [Value.ownBlock, Option.some.injEq] at e
    subst e
    have := h.row.symm.trans hh
    simp at this
theorem row_same {w w' : World} {base e s n : Nat} {v : Value} {xs : List Value} (h : w.ownsRow base e s v n xs) (hs : ∀ k, some k = v.ownBlock → w'.heap[k]? = w.heap[k]?) : w'.ownsRow base e s v n xs := by
  refine ⟨h.1, ?_⟩
  rcases h.2 with h2 | ⟨q, cap, cur, rfl, hb, hh, r⟩
  · exact .inl h2
  · exact .inr ⟨q, cap, cur, rfl, hb, (hs q rfl).trans hh, r⟩
theorem DiskAt.same {base g kb : Nat} {w w' : World} {cv : Value} {D : Dk} (h : DiskAt base w g kb cv D) (hs : ∀ k, k = g ∨ k = kb ∨ some k = cv.ownBlock → w'.heap[k]? = w.heap[k]?) : DiskAt base w' g kb cv D :=
  ⟨h.hg, h.hk, (hs g (.inl rfl)).trans h.blk, (hs kb (.inr (.inl rfl))).trans h.row, row_same h.cache (fun k hk => hs k (.inr (.inr hk))), h.wf⟩
theorem DiskAt.lt {base g kb : Nat} {w : World} {cv : Value} {D : Dk} (h : DiskAt base w g kb cv D) : ∀ k, k = g ∨ k = kb ∨ some k = cv.ownBlock → k < w.heap.size := by
  rintro k (rfl | rfl | hk)
  · exact (Array.getElem?_eq_some_iff.1 h.blk).1
  · exact (Array.getElem?_eq_some_iff.1 h.row).1
  · exact (h.cache.lt k hk.symm).2
theorem DiskAt.ext {base g kb : Nat} {w w' : World} {cv : Value} {D : Dk} (h : DiskAt base w g kb cv D) (x : Ext w w') : DiskAt base w' g kb cv D :=
  h.same fun k hk => x.block k (h.lt k hk)
theorem DiskAt.drew {base g kb : Nat} {w : World} {cv : Value} {D : Dk} (h : DiskAt base w g kb cv D) : DiskAt base w.drew g kb cv D := h.same fun _ _ => rfl
/-- A scalar of the disk is set. -/
theorem DiskAt.put {base g kb : Nat} {w : World} {cv : Value} {D : Dk} (h : DiskAt base w g kb cv D) (i : Nat) (u : Value) (D' : Dk)
    (hc : (#[.slice (some ⟨kb, 0, none⟩) D.kept.length D.kept.length, cv, .bool D.down, .int .i64 D.fate, .int .u64 D.keeps, .int .i64 D.steps] : Array Value).setIfInBounds i u = #[.slice (some ⟨kb, 0, none⟩) D'.kept.length D'.kept.length, cv, .bool D'.down, .int .i64 D'.fate, .int .u64 D'.keeps, .int .i64 D'.steps])
    (hk : D'.kept = D.kept) (hcc : D'.cache = D.cache) (hw : Wf D') : DiskAt base (w.setCell ⟨g, i, none⟩ u) g kb cv D' := by
  refine ⟨h.hg, h.hk, ?_, ?_, ?_, hw⟩
  · rw [setCell_get w g i u _ _ _ h.blk, hc]
  · rw [Below.heap_setCell w _ u kb (Ne.symm h.ne), hk]; exact h.row
  · rw [hcc]
    exact row_same h.cache fun k hk => Below.heap_setCell w _ u k (fun e => h.gne (by subst e; exact hk))
theorem DiskAt.wipe {base g kb : Nat} {w : World} {cv : Value} {D : Dk} (h : DiskAt base w g kb cv D) : DiskAt base (w.setCell ⟨g, 1, none⟩ (.slice none 0 0)) g kb (.slice none 0 0) { D with cache := [] } := by
  refine ⟨h.hg, h.hk, ?_, ?_, World.ownsRow_nil _ _ _ _, ⟨h.wf.pos, h.wf.most, h.wf.kept, (fun c hc => by cases hc), h.wf.keeps, h.wf.fate⟩⟩
  · rw [setCell_get w g 1 _ _ _ _ h.blk]; rfl
  · rw [Below.heap_setCell w _ _ kb (Ne.symm h.ne)]; exact h.row
/-- A sector is set. -/
theorem DiskAt.store {base g kb : Nat} {w : World} {cv : Value} {D : Dk} (h : DiskAt base w g kb cv D) (i : Nat) (s : List UInt8) (hi : i < D.kept.length) (hs : s.length = 64) : DiskAt base (w.setCells kb (i * 64) (byteVals s)) g kb cv { D with kept := D.kept.set i s } := by
  obtain ⟨-, -, -, -, h5⟩ := setCells_keep kb (byteVals s) (i * 64) w
  refine ⟨h.hg, h.hk, ?_, ?_, row_same h.cache fun k hk => h5 k (fun e => h.kne (by subst e; exact hk)), ⟨by simp [h.wf.pos], by simp [h.wf.most], ?_, by simpa using h.wf.cache, h.wf.keeps, h.wf.fate⟩⟩
  · rw [h5 g h.ne, h.blk]; simp
  · rw [setCells_heap kb _ _ w _ _ _ h.row]
    have e1 : D.kept = D.kept.take i ++ D.kept[i] :: D.kept.drop (i + 1) := by rw [List.getElem_cons_drop, List.take_append_drop]
    have e2 : D.kept.set i s = D.kept.take i ++ s :: D.kept.drop (i + 1) := by rw [List.set_eq_take_append_cons_drop, if_pos hi]
    have hl : (flatK (D.kept.take i)).length = i * 64 := by
      unfold flatK
      rw [flatMap_len byteVals 64 _ (fun x hx => by rw [byteVals_length]; exact h.wf.kept x (List.mem_of_mem_take hx)), List.length_take]
      rw [Nat.min_eq_left (by omega)]
    have f1 : flatK D.kept = flatK (D.kept.take i) ++ byteVals D.kept[i] ++ flatK (D.kept.drop (i + 1)) := by
      have e3 : flatK (D.kept.take i ++ D.kept[i] :: D.kept.drop (i + 1)) = flatK (D.kept.take i) ++ byteVals D.kept[i] ++ flatK (D.kept.drop (i + 1)) := by
        unfold flatK
        rw [List.flatMap_append, List.flatMap_cons, List.append_assoc]
      rw [← e3, ← e1]
    have f2 : flatK (D.kept.set i s) = flatK (D.kept.take i) ++ byteVals s ++ flatK (D.kept.drop (i + 1)) := by
      rw [e2]; simp [flatK]
    have := putAt_mid (byteVals s) (byteVals D.kept[i]) (flatK (D.kept.take i)) (flatK (D.kept.drop (i + 1))) (by rw [byteVals_length, byteVals_length, hs, h.wf.kept _ (List.getElem_mem hi)])
    rw [hl, ← f1, ← f2] at this
    rw [this]
  · intro x hx
    rcases List.mem_or_eq_of_mem_set hx with h1 | h1
    · exact h.wf.kept x h1
    · rw [h1]; exact hs
/-- What a walk reads of a disk. -/
theorem DiskAt.open {base g kb : Nat} {w : World} {cv : Value} {D : Dk} (h : DiskAt base w g kb cv D) :
    w.cell? ⟨g, 0, none⟩ = some (.slice (some ⟨kb, 0, none⟩) D.kept.length D.kept.length) ∧ w.cell? ⟨g, 1, none⟩ = some cv ∧ w.cell? ⟨g, 2, none⟩ = some (.bool D.down) ∧ w.cell? ⟨g, 3, none⟩ = some (.int .i64 D.fate) ∧ w.cell? ⟨g, 4, none⟩ = some (.int .u64 D.keeps) ∧ w.cell? ⟨g, 5, none⟩ = some (.int .i64 D.steps) ∧ ∀ i, w.frozen? ⟨g, i, none⟩ = false := by
  have hh := h.blk
  refine ⟨?_, ?_, ?_, ?_, ?_, ?_, fun i => by simp [World.frozen?, hh]⟩ <;> (simp only [World.cell?, hh]; rfl)
theorem DiskAt.range {base g kb : Nat} {w : World} {cv : Value} {D : Dk} (h : DiskAt base w g kb cv D) (i : Nat) (hi : i < D.kept.length) : w.rangeAt kb (i * 64) (byteVals D.kept[i]) := by
  intro j v hj
  have hj64 : j < 64 := by
    have := (List.getElem?_eq_some_iff.1 hj).1
    rw [byteVals_length, h.wf.kept _ (List.getElem_mem hi)] at this
    exact this
  rw [cell_of_row w kb (i * 64 + j) _ 63 (0, 0) h.row]
  have := flatMap_idx byteVals 64 D.kept (fun x hx => by rw [byteVals_length]; exact h.wf.kept x hx) i j hi hj64
  rw [List.getElem?_toArray]
  unfold flatK
  rw [this]
  exact hj
theorem DiskAt.there {base g kb : Nat} {w : World} {cv : Value} {D : Dk} (h : DiskAt base w g kb cv D) (i : Nat) (hi : i < D.kept.length) : w.there kb (i * 64) 64 := by
  intro j hj
  refine ⟨?_, by simp [World.frozen?, h.row]⟩
  have hl : (byteVals D.kept[i]).length = 64 := by rw [byteVals_length, h.wf.kept _ (List.getElem_mem hi)]
  rw [h.range i hi j _ (List.getElem?_eq_getElem (by omega))]
  rfl
/-- What a walk reads of a disk's writes. -/
theorem DiskAt.writes {base g kb : Nat} {w : World} {cv : Value} {D : Dk} (h : DiskAt base w g kb cv D) :
    ∃ a cap, cv = .slice a D.cache.length cap ∧ D.cache.length ≤ cap ∧ cap ≤ 9223372036854775807 ∧ ∀ j, (hj : j < D.cache.length) → ∃ cb, a = some ⟨cb, 0, none⟩ ∧ w.rangeAt cb (j * 65) (wvals D.cache[j]) ∧ w.cell? ⟨cb, j * 65, none⟩ = some (.int .i64 D.cache[j].1) ∧ w.rangeAt cb (j * 65 + 1) (byteVals D.cache[j].2) := by
  rcases h.cache.2 with ⟨rfl, h0⟩ | ⟨q, cap, cur, rfl, hb, hh, hc, hm, hs, ht⟩
  · exact ⟨none, 0, by rw [h0], by omega, by omega, fun j hj => by omega⟩
  · refine ⟨_, cap, rfl, hc, by unfold maxLen at hm; omega, fun j hj => ⟨q, rfl, ?_⟩⟩
    have hr : w.rangeAt q (j * 65) (wvals D.cache[j]) := by
      intro r v hr
      have hr65 : r < 65 := by
        have := (List.getElem?_eq_some_iff.1 hr).1
        rw [wvals_len (h.wf.cache _ (List.getElem_mem hj)).2] at this
        exact this
      have := h.cache.cells (g := q) rfl (j * 65 + r) v (by
        unfold flatC
        rw [flatMap_idx wvals 65 D.cache (fun x hx => wvals_len (h.wf.cache x hx).2) j r hj hr65]
        exact hr)
      rw [Addr.add_lit, Nat.zero_add] at this
      exact this
    refine ⟨hr, by simpa using hr 0 _ rfl, fun r v hrr => ?_⟩
    have := hr (r + 1) v (by simpa [wvals] using hrr)
    rwa [show j * 65 + 1 + r = j * 65 + (r + 1) by omega]
/-- A disk somewhere. -/
def Disk (base : Nat) (w : World) (g kb : Nat) (D : Dk) : Prop := ∃ cv, DiskAt base w g kb cv D
theorem Disk.ext {base g kb : Nat} {w w' : World} {D : Dk} (h : Disk base w g kb D) (x : Ext w w') : Disk base w' g kb D := by
  obtain ⟨cv, h⟩ := h; exact ⟨cv, h.ext x⟩
theorem Disk.wf {base g kb : Nat} {w : World} {D : Dk} (h : Disk base w g kb D) : Wf D := by
  obtain ⟨cv, h⟩ := h; exact h.wf
end Go.Proofs.Ytgkoblgpadpcjaa
