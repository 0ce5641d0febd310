/- A part of the proof of WholeUsers. -/
import Derived.Deep.MidRow
import Derived.Deep.RegionHeld3
import Derived.Test.YtgnjjfdfoibdiaaGreatDoorUac
set_option linter.all false
namespace Go.Proofs.YtgnjjfdfoibdiaaGreatDoor
section
open Go.RowKit
set_option maxRecDepth 100000
structure Dk where
 kept : List (List UInt8)
 cache : List (Nat × List UInt8)
 down : Bool
 fate : Int
 keeps : Nat
 steps : Nat
def zDr (c : Nat × List UInt8) : List Value := .int .i64 c.1 :: zAa c.2
def zE7 (l : List (List UInt8)) : List Value := l.flatMap zAa
def zPx (l : List (Nat × List UInt8)) : List Value := l.flatMap zDr
structure Wf (D : Dk) : Prop where
 pos : 1 ≤ D.kept.length
 most : D.kept.length ≤ 4096
 kept : ∀ s ∈ D.kept, s.length = 64
 cache : ∀ c ∈ D.cache, c.1 < D.kept.length ∧ c.2.length = 64
 keeps : D.keeps < 18446744073709551616
 fate : D.fate ≤ 9223372036854775807
def lay (p : Nat → Bool) : List (Nat × List UInt8) → Nat → List (List UInt8) → List (List UInt8)
 | [], _, k => k
 | c :: r, i, k => lay p r (i + 1) (if p i then k.set c.1 c.2 else k)
def zP1 (keeps : Nat) (i : Nat) : Bool := keeps.testBit (i % 64)
def Dk.crash (D : Dk) (keeps : Nat) : Dk := { D with kept := lay (zP1 keeps) D.cache 0 D.kept, cache := [], down := true, fate := -1 }
def Dk.flushed (D : Dk) : Dk := { D with kept := lay (fun _ => true) D.cache 0 D.kept, cache := [] }
def Dk.step (D : Dk) : Dk × Bool :=
 if 0 < D.fate then
  if D.fate = 1 then (Dk.crash { D with steps := D.steps + 1, fate := 0 } D.keeps, false) else ({ D with steps := D.steps + 1, fate := D.fate - 1 }, true)
 else ({ D with steps := D.steps + 1 }, true)
def Dk.write (D : Dk) (at_ : Int) (s : List UInt8) : Dk × Nat :=
 if D.down then (D, 3) else if at_ < 0 ∨ (D.kept.length : Int) ≤ at_ then (D, 2) else
  if (Dk.step { D with cache := D.cache ++ [(at_.toNat, s)] }).2 then ((Dk.step { D with cache := D.cache ++ [(at_.toNat, s)] }).1, 0) else ((Dk.step { D with cache := D.cache ++ [(at_.toNat, s)] }).1, 3)
def Dk.flush (D : Dk) : Dk × Nat :=
 if D.down then (D, 3) else if (Dk.step D).2 then ((Dk.step D).1.flushed, 0) else ((Dk.step D).1, 3)
def zero64 : List UInt8 := List.replicate 64 0
def zC0 (a : Nat) : List (Nat × List UInt8) → Option (List UInt8)
 | [] => none
 | c :: r => match zC0 a r with
   | some s => some s
   | none => if c.1 = a then some c.2 else none
def Dk.read (D : Dk) (at_ : Int) : List UInt8 × Nat :=
 if D.down then (zero64, 3) else if at_ < 0 ∨ (D.kept.length : Int) ≤ at_ then (zero64, 2) else
  match zC0 at_.toNat D.cache with
  | some s => (s, 0)
  | none => (D.kept.getD at_.toNat [], 0)
def Dk.new (n : Int) : Dk := { kept := List.replicate (max 1 (min n 4096)).toNat zero64, cache := [], down := false, fate := -1, keeps := 0, steps := 0 }
theorem zDb (p : Nat → Bool) : ∀ (c : List (Nat × List UInt8)) (i : Nat) (k : List (List UInt8)), (lay p c i k).length = k.length
 | [], _, _ => rfl
 | c :: r, i, k => by rw [lay, zDb p r]; split <;> simp
theorem lay_all (p : Nat → Bool) : ∀ (c : List (Nat × List UInt8)) (i : Nat) (k : List (List UInt8)), (∀ x ∈ c, x.2.length = 64) → (∀ s ∈ k, s.length = 64) → ∀ s ∈ lay p c i k, s.length = 64
 | [], _, _, _, hk => hk
 | c :: r, i, k, hc, hk => by
   rw [lay];refine lay_all p r _ _ (fun x hx => hc x (by simp [hx])) ?_
   split
   ·intro s hs
    rcases List.mem_or_eq_of_mem_set hs with h | h
    ·exact hk s h
    ·rw [h]; exact hc c (by simp)
   ·exact hk
theorem zGh (p : Nat → Bool) : ∀ (c : List (Nat × List UInt8)) (i j : Nat) (k : List (List UInt8)) (h : j < c.length), lay p (c.take (j + 1)) i k = if p (i + j) then (lay p (c.take j) i k).set c[j].1 c[j].2 else lay p (c.take j) i k
 | x :: r, i, 0, k, _ => by simp [lay]
 | x :: r, i, j + 1, k, h => by
   have := zGh p r (i + 1) j (if p i then k.set x.1 x.2 else k) (by simpa using h);simp only [List.take_succ_cons, lay, List.getElem_cons_succ] at this ⊢;rw [this, show i + 1 + j = i + (j + 1) by omega]
theorem Wf.crash {D : Dk} (h : Wf D) (keeps : Nat) : Wf (D.crash keeps) where
 pos := by simp only [Dk.crash, zDb]; exact h.pos
 most := by simp only [Dk.crash, zDb]; exact h.most
 kept := lay_all _ _ _ _ (fun x hx => (h.cache x hx).2) h.kept
 cache := fun c hc => by cases hc
 keeps := h.keeps
 fate := by show (-1 : Int) ≤ _; omega
theorem Wf.setFate {D : Dk} (h : Wf D) (f : Int) (hf : f ≤ 9223372036854775807) : Wf { D with fate := f } := ⟨h.pos, h.most, h.kept, h.cache, h.keeps, hf⟩
theorem Wf.on {D : Dk} (h : Wf D) (b : Bool) : Wf { D with down := b } := ⟨h.pos, h.most, h.kept, h.cache, h.keeps, h.fate⟩
theorem Wf.more {D : Dk} (h : Wf D) : Wf { D with steps := D.steps + 1 } := ⟨h.pos, h.most, h.kept, h.cache, h.keeps, h.fate⟩
def putAt (cs : Array Value) : Nat → List Value → Array Value
 | _, [] => cs
 | o, v :: r => putAt (cs.setIfInBounds o v) (o + 1) r
theorem zHf : ∀ (vs X A B : List Value), vs.length = X.length → putAt (A ++ X ++ B).toArray A.length vs = (A ++ vs ++ B).toArray
 | [], X, A, B, h => by
   obtain rfl : X = [] := List.eq_nil_of_length_eq_zero (by simpa using h.symm);rfl
 | v :: vs, [], A, B, h => by simp at h
 | v :: vs, x :: X, A, B, h => by
   have := zHf vs X (A ++ [v]) B (by simpa using h);rw [putAt]
   have e : (A ++ x :: X ++ B).toArray.setIfInBounds A.length v = (A ++ [v] ++ X ++ B).toArray := by
    rw [List.setIfInBounds_toArray];simp
   rw [e];simpa using this
theorem zDf (b : Nat) : ∀ (vs : List Value) (o : Nat) (w : World), (w.setCells b o vs).os = w.os ∧ (w.setCells b o vs).tape = w.tape ∧ (w.setCells b o vs).output = w.output ∧ (w.setCells b o vs).heap.size = w.heap.size ∧ ∀ k, k ≠ b → (w.setCells b o vs).heap[k]? = w.heap[k]?
 | [], _, _ => ⟨rfl, rfl, rfl, rfl, fun _ _ => rfl⟩
 | v :: r, o, w => by
   obtain ⟨h1, h2, h3, h4, h5⟩ := zDf b r (o + 1) (w.setCell ⟨b, o, none⟩ v);refine ⟨h1, h2, h3, by rw [World.setCells, h4]; simp [World.setCell], fun k hk => ?_⟩;rw [World.setCells, h5 k hk];exact Below.heap_setCell w _ v k hk
theorem zF8 (b : Nat) : ∀ (vs : List Value) (o : Nat) (w : World) (cs : Array Value) (t : TypeId) (fz : Nat × Nat), w.heap[b]? = some (.cells cs t fz) → (w.setCells b o vs).heap[b]? = some (.cells (putAt cs o vs) t fz)
 | [], _, _, _, _, _, h => h
 | v :: r, o, w, cs, t, fz, h => zF8 b r (o + 1) _ _ t fz (zAd w b o v cs t fz h)
theorem zGj {α β : Type} (f : α → List β) (n : Nat) : ∀ (l : List α) (_ : ∀ x ∈ l, (f x).length = n) (j r : Nat) (hj : j < l.length) (_ : r < n), (l.flatMap f)[j * n + r]? = (f l[j])[r]?
 | x :: l, h, 0, r, _, hr => by
   have hx := h x (by simp);rw [List.flatMap_cons, Nat.zero_mul, Nat.zero_add, List.getElem?_append_left (by omega)];rfl
 | x :: l, h, j + 1, r, hj, hr => by
   have hx := h x (by simp);have ih := zGj f n l (fun y hy => h y (by simp [hy])) j r (by simpa using hj) hr;rw [List.flatMap_cons, List.getElem?_append_right (by rw [hx, Nat.succ_mul]; omega), hx];rw [show (j + 1) * n + r - n = j * n + r by rw [Nat.succ_mul]; omega, ih];rfl
theorem zM3 {α β : Type} (f : α → List β) (n : Nat) : ∀ (l : List α) (_ : ∀ x ∈ l, (f x).length = n), (l.flatMap f).length = l.length * n
 | [], _ => by simp
 | x :: l, h => by
   rw [List.flatMap_cons, List.length_append, h x (by simp), zM3 f n l (fun y hy => h y (by simp [hy])), List.length_cons, Nat.succ_mul];omega
theorem zFk {c : Nat × List UInt8} (h : c.2.length = 64) : (zDr c).length = 65 := by simp [zDr, zAc, h]
theorem zIv (c : Nat × List UInt8) : ∀ v ∈ zDr c, v.oneCell' = true := by
 intro v hv
 rcases List.mem_cons.1 hv with rfl | h
 ·rfl
 ·exact zAm _ v h
structure DiskAt (base : Nat) (w : World) (g kb : Nat) (cv : Value) (D : Dk) : Prop where
 hg : base ≤ g
 hk : base ≤ kb
 blk : w.heap[g]? = some (.cells #[.slice (some ⟨kb, 0, none⟩) D.kept.length D.kept.length, cv, .bool D.down, .int .i64 D.fate, .int .u64 D.keeps, .int .i64 D.steps] 149 (0, 0))
 row : w.heap[kb]? = some (.cells (zE7 D.kept).toArray 288 (0, 0))
 cache : w.ownsRow base 291 65 cv D.cache.length (zPx D.cache)
 wf : Wf D
def NotW (w : World) (k : Nat) : Prop := ∀ cs fz, w.heap[k]? ≠ some (.cells cs 291 fz)
structure DOnly (base g kb : Nat) (w w' : World) : Prop where
 os : w'.os = w.os
 tape : w'.tape = w.tape
 output : w'.output = w.output
 size : w.heap.size ≤ w'.heap.size
 block : ∀ k, k < w.heap.size → k ≠ g → k ≠ kb → (k < base ∨ NotW w k) → w'.heap[k]? = w.heap[k]?
theorem DOnly.refl (base g kb : Nat) (w : World) : DOnly base g kb w w := ⟨rfl, rfl, rfl, Nat.le_refl _, fun _ _ _ _ _ => rfl⟩
theorem DOnly.trans {base g kb : Nat} {a b c : World} (h : DOnly base g kb a b) (k : DOnly base g kb b c) : DOnly base g kb a c :=
 ⟨k.os.trans h.os, k.tape.trans h.tape, k.output.trans h.output, Nat.le_trans h.size k.size, fun i hi h1 h2 h3 => by
  have e := h.block i hi h1 h2 h3;refine (k.block i (Nat.lt_of_lt_of_le hi h.size) h1 h2 (h3.imp id fun hn cs fz => ?_)).trans e
  rw [e]; exact hn cs fz⟩
theorem DOnly.ext {base g kb : Nat} {a b c : World} (h : DOnly base g kb a b) (k : Ext b c) : DOnly base g kb a c :=
 h.trans ⟨k.os, k.tape, k.output, k.size, fun i hi _ _ _ => k.block i hi⟩
theorem DOnly.drew {base g kb : Nat} {a b : World} (h : DOnly base g kb a b) : DOnly base g kb a b.drew := ⟨h.os, h.tape, h.output, h.size, h.block⟩
theorem DOnly.setG {base g kb : Nat} {a b : World} (h : DOnly base g kb a b) (i : Nat) (u : Value) : DOnly base g kb a (b.setCell ⟨g, i, none⟩ u) :=
 h.trans ⟨rfl, rfl, rfl, by simp [World.setCell], fun k _ hk _ _ => Below.heap_setCell b _ u k hk⟩
theorem DOnly.setK {base g kb : Nat} {a b : World} (h : DOnly base g kb a b) (o : Nat) (vs : List Value) : DOnly base g kb a (b.setCells kb o vs) := by
 obtain ⟨h1, h2, h3, h4, h5⟩ := zDf kb vs o b;exact h.trans ⟨h1, h2, h3, by rw [h4]; exact Nat.le_refl _, fun k _ _ hk _ => h5 k hk⟩
theorem DOnly.row {base g kb s n : Nat} {a b c : World} {cv : Value} {xs : List Value} (h : DOnly base g kb a b) (o : b.ownsRow base 291 s cv n xs) (gr : b.grownBy c cv.ownBlock) : DOnly base g kb a c := by
 refine h.trans ⟨gr.os, gr.tape, gr.output, gr.size, fun k hk _ _ hn => gr.block k hk fun e => ?_⟩
 rcases o.2 with ⟨rfl, _⟩ | ⟨q, cap, cur, rfl, hb, hh, -⟩
 ·simp [Value.ownBlock] at e
 ·simp only [Value.ownBlock, Option.some.injEq] at e;subst e
  rcases hn with hn | hn
  ·omega
  ·exact hn cur (0, 0) hh
theorem DiskAt.ne {base g kb : Nat} {w : World} {cv : Value} {D : Dk} (h : DiskAt base w g kb cv D) : g ≠ kb := by
 rintro rfl;have := h.blk.symm.trans h.row;simp at this
theorem DiskAt.gne {base g kb : Nat} {w : World} {cv : Value} {D : Dk} (h : DiskAt base w g kb cv D) : some g ≠ cv.ownBlock := by
 intro e
 rcases h.cache.2 with ⟨rfl, _⟩ | ⟨q, cap, cur, rfl, hb, hh, -⟩
 ·simp [Value.ownBlock] at e
 ·simp only [Value.ownBlock, Option.some.injEq] at e;subst e;have := h.blk.symm.trans hh;simp at this
theorem DiskAt.kne {base g kb : Nat} {w : World} {cv : Value} {D : Dk} (h : DiskAt base w g kb cv D) : some kb ≠ cv.ownBlock := by
 intro e
 rcases h.cache.2 with ⟨rfl, _⟩ | ⟨q, cap, cur, rfl, hb, hh, -⟩
 ·simp [Value.ownBlock] at e
 ·simp only [Value.ownBlock, Option.some.injEq] at e;subst e;have := h.row.symm.trans hh;simp at this
theorem zEg {w w' : World} {base e s n : Nat} {v : Value} {xs : List Value} (h : w.ownsRow base e s v n xs) (hs : ∀ k, some k = v.ownBlock → w'.heap[k]? = w.heap[k]?) : w'.ownsRow base e s v n xs := by
 refine ⟨h.1, ?_⟩
 rcases h.2 with h2 | ⟨q, cap, cur, rfl, hb, hh, r⟩
 ·exact .inl h2
 ·exact .inr ⟨q, cap, cur, rfl, hb, (hs q rfl).trans hh, r⟩
theorem DiskAt.same {base g kb : Nat} {w w' : World} {cv : Value} {D : Dk} (h : DiskAt base w g kb cv D) (hs : ∀ k, k = g ∨ k = kb ∨ some k = cv.ownBlock → w'.heap[k]? = w.heap[k]?) : DiskAt base w' g kb cv D :=
 ⟨h.hg, h.hk, (hs g (.inl rfl)).trans h.blk, (hs kb (.inr (.inl rfl))).trans h.row, zEg h.cache (fun k hk => hs k (.inr (.inr hk))), h.wf⟩
theorem DiskAt.lt {base g kb : Nat} {w : World} {cv : Value} {D : Dk} (h : DiskAt base w g kb cv D) : ∀ k, k = g ∨ k = kb ∨ some k = cv.ownBlock → k < w.heap.size := by
 rintro k (rfl | rfl | hk)
 ·exact (Array.getElem?_eq_some_iff.1 h.blk).1
 ·exact (Array.getElem?_eq_some_iff.1 h.row).1
 ·exact (h.cache.lt k hk.symm).2
theorem DiskAt.ext {base g kb : Nat} {w w' : World} {cv : Value} {D : Dk} (h : DiskAt base w g kb cv D) (x : Ext w w') : DiskAt base w' g kb cv D :=
 h.same fun k hk => x.block k (h.lt k hk)
theorem DiskAt.drew {base g kb : Nat} {w : World} {cv : Value} {D : Dk} (h : DiskAt base w g kb cv D) : DiskAt base w.drew g kb cv D := h.same fun _ _ => rfl
theorem DiskAt.put {base g kb : Nat} {w : World} {cv : Value} {D : Dk} (h : DiskAt base w g kb cv D) (i : Nat) (u : Value) (D' : Dk)
  (hc : (#[.slice (some ⟨kb, 0, none⟩) D.kept.length D.kept.length, cv, .bool D.down, .int .i64 D.fate, .int .u64 D.keeps, .int .i64 D.steps] : Array Value).setIfInBounds i u = #[.slice (some ⟨kb, 0, none⟩) D'.kept.length D'.kept.length, cv, .bool D'.down, .int .i64 D'.fate, .int .u64 D'.keeps, .int .i64 D'.steps])
  (hk : D'.kept = D.kept) (hcc : D'.cache = D.cache) (hw : Wf D') : DiskAt base (w.setCell ⟨g, i, none⟩ u) g kb cv D' := by
 refine ⟨h.hg, h.hk, ?_, ?_, ?_, hw⟩
 ·rw [zAd w g i u _ _ _ h.blk, hc]
 ·rw [Below.heap_setCell w _ u kb (Ne.symm h.ne), hk]; exact h.row
 ·rw [hcc];exact zEg h.cache fun k hk => Below.heap_setCell w _ u k (fun e => h.gne (by subst e; exact hk))
theorem DiskAt.wipe {base g kb : Nat} {w : World} {cv : Value} {D : Dk} (h : DiskAt base w g kb cv D) : DiskAt base (w.setCell ⟨g, 1, none⟩ (.slice none 0 0)) g kb (.slice none 0 0) { D with cache := [] } := by
 refine ⟨h.hg, h.hk, ?_, ?_, World.ownsRow_nil _ _ _ _, ⟨h.wf.pos, h.wf.most, h.wf.kept, (fun c hc => by cases hc), h.wf.keeps, h.wf.fate⟩⟩
 ·rw [zAd w g 1 _ _ _ _ h.blk]; rfl
 ·rw [Below.heap_setCell w _ _ kb (Ne.symm h.ne)]; exact h.row
theorem DiskAt.store {base g kb : Nat} {w : World} {cv : Value} {D : Dk} (h : DiskAt base w g kb cv D) (i : Nat) (s : List UInt8) (hi : i < D.kept.length) (hs : s.length = 64) : DiskAt base (w.setCells kb (i * 64) (zAa s)) g kb cv { D with kept := D.kept.set i s } := by
 obtain ⟨-, -, -, -, h5⟩ := zDf kb (zAa s) (i * 64) w;refine ⟨h.hg, h.hk, ?_, ?_, zEg h.cache fun k hk => h5 k (fun e => h.kne (by subst e; exact hk)), ⟨by simp [h.wf.pos], by simp [h.wf.most], ?_, by simpa using h.wf.cache, h.wf.keeps, h.wf.fate⟩⟩
 ·rw [h5 g h.ne, h.blk]; simp
 ·rw [zF8 kb _ _ w _ _ _ h.row];have e1 : D.kept = D.kept.take i ++ D.kept[i] :: D.kept.drop (i + 1) := by rw [List.getElem_cons_drop, List.take_append_drop]
  have e2 : D.kept.set i s = D.kept.take i ++ s :: D.kept.drop (i + 1) := by rw [List.set_eq_take_append_cons_drop, if_pos hi]
  have hl : (zE7 (D.kept.take i)).length = i * 64 := by
   unfold zE7;rw [zM3 zAa 64 _ (fun x hx => by rw [zAc]; exact h.wf.kept x (List.mem_of_mem_take hx)), List.length_take];rw [Nat.min_eq_left (by omega)]
  have f1 : zE7 D.kept = zE7 (D.kept.take i) ++ zAa D.kept[i] ++ zE7 (D.kept.drop (i + 1)) := by
   have e3 : zE7 (D.kept.take i ++ D.kept[i] :: D.kept.drop (i + 1)) = zE7 (D.kept.take i) ++ zAa D.kept[i] ++ zE7 (D.kept.drop (i + 1)) := by
    unfold zE7;rw [List.flatMap_append, List.flatMap_cons, List.append_assoc]
   rw [← e3, ← e1]
  have f2 : zE7 (D.kept.set i s) = zE7 (D.kept.take i) ++ zAa s ++ zE7 (D.kept.drop (i + 1)) := by
   rw [e2]; simp [zE7]
  have := zHf (zAa s) (zAa D.kept[i]) (zE7 (D.kept.take i)) (zE7 (D.kept.drop (i + 1))) (by rw [zAc, zAc, hs, h.wf.kept _ (List.getElem_mem hi)]);rw [hl, ← f1, ← f2] at this;rw [this]
 ·intro x hx
  rcases List.mem_or_eq_of_mem_set hx with h1 | h1
  ·exact h.wf.kept x h1
  ·rw [h1]; exact hs
theorem DiskAt.open {base g kb : Nat} {w : World} {cv : Value} {D : Dk} (h : DiskAt base w g kb cv D) :
  w.cell? ⟨g, 0, none⟩ = some (.slice (some ⟨kb, 0, none⟩) D.kept.length D.kept.length) ∧ w.cell? ⟨g, 1, none⟩ = some cv ∧ w.cell? ⟨g, 2, none⟩ = some (.bool D.down) ∧ w.cell? ⟨g, 3, none⟩ = some (.int .i64 D.fate) ∧ w.cell? ⟨g, 4, none⟩ = some (.int .u64 D.keeps) ∧ w.cell? ⟨g, 5, none⟩ = some (.int .i64 D.steps) ∧ ∀ i, w.frozen? ⟨g, i, none⟩ = false := by
 have hh := h.blk
 refine ⟨?_, ?_, ?_, ?_, ?_, ?_, fun i => by simp [World.frozen?, hh]⟩ <;> (simp only [World.cell?, hh]; rfl)
theorem DiskAt.range {base g kb : Nat} {w : World} {cv : Value} {D : Dk} (h : DiskAt base w g kb cv D) (i : Nat) (hi : i < D.kept.length) : w.rangeAt kb (i * 64) (zAa D.kept[i]) := by
 intro j v hj
 have hj64 : j < 64 := by
  have := (List.getElem?_eq_some_iff.1 hj).1;rw [zAc, h.wf.kept _ (List.getElem_mem hi)] at this;exact this
 rw [cell_of_row w kb (i * 64 + j) _ 288 (0, 0) h.row];have := zGj zAa 64 D.kept (fun x hx => by rw [zAc]; exact h.wf.kept x hx) i j hi hj64;rw [List.getElem?_toArray];unfold zE7;rw [this];exact hj
theorem DiskAt.there {base g kb : Nat} {w : World} {cv : Value} {D : Dk} (h : DiskAt base w g kb cv D) (i : Nat) (hi : i < D.kept.length) : w.there kb (i * 64) 64 := by
 intro j hj;refine ⟨?_, by simp [World.frozen?, h.row]⟩;have hl : (zAa D.kept[i]).length = 64 := by rw [zAc, h.wf.kept _ (List.getElem_mem hi)]
 rw [h.range i hi j _ (List.getElem?_eq_getElem (by omega))];rfl
theorem DiskAt.writes {base g kb : Nat} {w : World} {cv : Value} {D : Dk} (h : DiskAt base w g kb cv D) :
  ∃ a cap, cv = .slice a D.cache.length cap ∧ D.cache.length ≤ cap ∧ cap ≤ 9223372036854775807 ∧ ∀ j, (hj : j < D.cache.length) → ∃ cb, a = some ⟨cb, 0, none⟩ ∧ w.rangeAt cb (j * 65) (zDr D.cache[j]) ∧ w.cell? ⟨cb, j * 65, none⟩ = some (.int .i64 D.cache[j].1) ∧ w.rangeAt cb (j * 65 + 1) (zAa D.cache[j].2) := by
 rcases h.cache.2 with ⟨rfl, h0⟩ | ⟨q, cap, cur, rfl, hb, hh, hc, hm, hs, ht⟩
 ·exact ⟨none, 0, by rw [h0], by omega, by omega, fun j hj => by omega⟩
 ·refine ⟨_, cap, rfl, hc, by unfold maxLen at hm; omega, fun j hj => ⟨q, rfl, ?_⟩⟩
  have hr : w.rangeAt q (j * 65) (zDr D.cache[j]) := by
   intro r v hr
   have hr65 : r < 65 := by
    have := (List.getElem?_eq_some_iff.1 hr).1;rw [zFk (h.wf.cache _ (List.getElem_mem hj)).2] at this;exact this
   have := h.cache.cells (g := q) rfl (j * 65 + r) v (by
    unfold zPx;rw [zGj zDr 65 D.cache (fun x hx => zFk (h.wf.cache x hx).2) j r hj hr65]
    exact hr)
   rw [Addr.add_lit, Nat.zero_add] at this;exact this
  refine ⟨hr, by simpa using hr 0 _ rfl, fun r v hrr => ?_⟩;have := hr (r + 1) v (by simpa [zDr] using hrr)
  rwa [show j * 65 + 1 + r = j * 65 + (r + 1) by omega]
def Disk (base : Nat) (w : World) (g kb : Nat) (D : Dk) : Prop := ∃ cv, DiskAt base w g kb cv D
theorem Disk.ext {base g kb : Nat} {w w' : World} {D : Dk} (h : Disk base w g kb D) (x : Ext w w') : Disk base w' g kb D := by
 obtain ⟨cv, h⟩ := h; exact ⟨cv, h.ext x⟩
theorem Disk.wf {base g kb : Nat} {w : World} {D : Dk} (h : Disk base w g kb D) : Wf D := by
 obtain ⟨cv, h⟩ := h; exact h.wf
theorem Len_any (base g kb : Nat) (D : Dk) (w : World) (h : Disk base w g kb D) :
  Calls Tryz.prog 191 #[.pointer (some ⟨g, 0, none⟩)] w fun e w' => e = .returned (.int .i64 D.kept.length) ∧ w = w' := by
 obtain ⟨cv, h⟩ := h;obtain ⟨c0, c1, c2, c3, c4, c5, hf⟩ := h.open;have hm := h.wf.most;clear h hf;go_enter Tryz.func191, Tryz.ntmps191
 go_wp2_with fail
 go_ret
 exact ⟨rfl, rfl⟩
theorem zAx : (Tryz.prog.info? 288).map (·.size) = some 64 := by kernel_rfl
theorem zLl : (Tryz.prog.info? 291).map (·.size) = some 65 := by kernel_rfl
theorem zc113 : Tryz.zeroCells291.size = 65 := by kernel_rfl
theorem setRow_new (w : World) (old cs : Array Value) (t : TypeId) : (w.alloc (.cells old t)).setRow w.heap.size cs = w.alloc (.cells cs t) := by
 unfold World.setRow World.alloc;congr 1;apply Array.ext_getElem?;intro i;rw [Array.getElem?_modify, Array.getElem?_push, Array.getElem?_push]
 by_cases h : i = w.heap.size
 ·subst h; simp
 ·rw [if_neg (Ne.symm h), if_neg h];simp [h]
theorem zAo {P : Program} {ops : Array Oper} {rest : List Oper} {o : Oper} {a : Act} {Q : Exit → Act → World → Prop} (hgd : o.guard = none) (ty : TypeId) (x y : Operand) (ho : o.op = .store ty x y)
  (W : World) (t : TypeId) (old cells : Array Value) (hx : a.eval x = .pointer (some ⟨W.heap.size, 0, none⟩)) (hy : a.eval y = .agg cells)
  (hi : (P.info? ty).map (·.size) = some cells.size) (hold : old.size = cells.size) (h1 : cells.all (·.oneCell') = true)
  (h : wpList P ops Q rest (a.put o.dst undef) (W.alloc (.cells cells t))) : wpList P ops Q (o :: rest) a (W.alloc (.cells old t)) := by
 refine wpList_store_row hgd ty x y ho W.heap.size cells hx hy t old (heap_alloc_new W _) hi hold h1 ?_;rw [setRow_new];exact h
theorem bit_walk (keeps k : Nat) (h : keeps < 18446744073709551616) : (bits BinOp.and IntKind.u64 ((keeps : Int) / 2 ^ (k % 64)) 1 == 1) = zP1 keeps k := by
 have e : ((keeps : Int) / 2 ^ (k % 64)) = ((keeps / 2 ^ (k % 64) : Nat) : Int) := by simp
 rw [e];have hlt : keeps / 2 ^ (k % 64) < 18446744073709551616 := Nat.lt_of_le_of_lt (Nat.div_le_self _ _) h;show (IntKind.u64.wrap (((BitVec.ofInt 64 ((keeps / 2 ^ (k % 64) : Nat) : Int)) &&& BitVec.ofInt 64 1).toNat : Int) == 1) = _;rw [BitVec.toNat_and, ofInt_u64 _ hlt, show (BitVec.ofInt 64 1).toNat = 1 from rfl, Nat.and_one_is_mod, IntWalk.u64_in _ (by omega)];unfold zP1;rw [Nat.testBit_eq_decide_div_mod_eq]
 by_cases h1 : keeps / 2 ^ (k % 64) % 2 = 1
 ·rw [h1]; rfl
 ·rw [show keeps / 2 ^ (k % 64) % 2 = 0 by omega]; rfl
theorem zEa (w : World) (b o : Nat) (vs : List Value) (a : Addr) (h : a.block ≠ b) : (w.setCells b o vs).cell? a = w.cell? a :=
 World.cell?_of_block ((zDf b vs o w).2.2.2.2 a.block h)
def Sk (g kb B n ca : Nat) (sv : List UInt8) (W : World) : Prop :=
 W.cell? ⟨g, 0, none⟩ = some (.slice (some ⟨kb, 0, none⟩) n n) ∧ W.cell? ⟨B, 0, none⟩ = some (.int .i64 ca) ∧ W.rangeAt B 1 (zAa sv) ∧ W.there kb (ca * 64) 64
theorem Sk.store {g kb B n ca : Nat} {sv : List UInt8} {W : World} (h : Sk g kb B n ca sv W) (hg : g ≠ kb) (hB : B ≠ kb) : Sk g kb B n ca sv (W.drew.setCells kb (ca * 64) (zAa sv)) := by
 obtain ⟨h0, h1, h2, h3⟩ := h;refine ⟨?_, ?_, fun j v hj => ?_, ?_⟩
 ·rw [zEa _ _ _ _ _ hg]; exact h0
 ·rw [zEa _ _ _ _ _ hB]; exact h1
 ·rw [zEa _ _ _ _ _ hB]; exact h2 j v hj
 ·exact World.there_setCells (w := W.drew) h3 _ _ _
theorem zMb (w : World) (ca : Nat) (sv : List UInt8) : (w.alloc (.cells (zDr (ca, sv)).toArray 291)).rangeAt w.heap.size 1 (zAa sv) := by
 intro j v hj;rw [zHh, List.getElem?_toArray, Nat.add_comm];simpa [zDr] using hj
theorem zMc (w : World) (ca : Nat) (sv : List UInt8) : (w.alloc (.cells (zDr (ca, sv)).toArray 291)).cell? ⟨w.heap.size, 0, none⟩ = some (.int .i64 ca) := by
 rw [zHh]; rfl
set_option maxRecDepth 100000 in
set_option maxHeartbeats 2000000 in
theorem Crash_any (base g kb : Nat) (D : Dk) (keeps : Nat) (w : World) (h : Disk base w g kb D) (hk : keeps < 18446744073709551616) (hb : base ≤ w.heap.size) :
  Calls Tryz.prog 260 #[.pointer (some ⟨g, 0, none⟩), .int .u64 keeps] w fun e w' => (∃ v, e = .returned v) ∧ DOnly base g kb w w' ∧ Disk base w' g kb (D.crash keeps) := by
 obtain ⟨cv, h⟩ := h;obtain ⟨c0, c1, c2, c3, c4, c5, hf⟩ := h.open;obtain ⟨a, cap, rfl, hc1, hc2, hw⟩ := h.writes;have H := zh h;have hk0 := zh hk;have hsm : D.cache.length ≤ 9223372036854775807 := by omega
 clear h hf hw hk;go_enter Tryz.func260, Tryz.ntmps260
 go_wp2_with fail
 go_loopw [11] (fun i wr => ∃ k : Nat, k ≤ D.cache.length ∧ i = .int .i64 k ∧ Hid (DOnly base g kb w wr) ∧ Hid (DiskAt base wr g kb (.slice a D.cache.length cap) { D with kept := lay (zP1 keeps) (D.cache.take k) 0 D.kept })) (fun i _ => D.cache.length - (intOf i).toNat)
 case atStart => exact ⟨0, Nat.zero_le _, rfl, DOnly.refl _ _ _ _, H.out⟩
 case round =>
  obtain ⟨k, hk, rfl, ho, hd⟩ := hrel;obtain ⟨d0, d1, d2, d3, d4, d5, df⟩ := hd.out.open
  by_cases hlt : k < D.cache.length
  ·obtain ⟨a', cap', e1, -, -, hw⟩ := hd.out.writes;obtain ⟨cb, ha, hr, hr1, hr2⟩ := hw k hlt;simp only [Value.slice.injEq] at e1;obtain ⟨rfl, -, rfl⟩ := e1;subst ha;have hwf := hd.out.wf;have hcl := hwf.cache _ (List.getElem_mem hlt);have HLS := zh (zGh (zP1 keeps) D.cache 0 k D.kept hlt);have HD := zh (hd.out.ext ((xr _).alloc (.cells (zDr D.cache[k]).toArray 291)));have HO := zh (ho.out.ext ((xr _).alloc (.cells (zDr D.cache[k]).toArray 291)));generalize D.cache[k] = c at *;obtain ⟨ca, sv⟩ := c;obtain ⟨hca, hsv⟩ := hcl;have HR := zh hr;have hlw : (zDr (ca, sv)).length = 65 := zFk hsv;have hl65 := zh (show (Tryz.prog.info? 291).map (·.size) = some (zDr (ca, sv)).length by rw [hlw]; exact zLl);have h1w := zh (zIv (ca, sv));have HLW := zh hlw;have hbw := bit_walk keeps k hk0.out;clear df hw hr hr2 hlw hwf
   by_cases hbit : zP1 keeps k = true
   ·rw [hbit] at hbw;rw [Nat.zero_add, if_pos hbit] at HLS
    go_upto_region 4 with (first
     | (refine wpList_load_mid rfl 291 (.tmp 14) rfl cb (k * 65) rfl (zDr (ca, sv)) _ HR.out Tryz.underlying291 rfl hl65.out ?_)
     | (refine zAo rfl 291 (.tmp 5) (.tmp 15) rfl wr 291 _ _ rfl rfl hl65.out (by rw [zc113]; simp [HLW.out]) (all_oneCell_toArray h1w.out) ?_))
    generalize lay (zP1 keeps) (List.take k D.cache) 0 D.kept = kl at *;have e0 := HD.out.open.1;have e1 := zMc wr ca sv;have e2 := zMb wr ca sv;have e3 := HD.out.there ca hca;have hbl : (zAa sv).length = 64 := by rw [zAc]; exact hsv
    have hu := Tryz.underlying288;have hi : (Tryz.prog.info? 288).map (·.size) = some (zAa sv).length := by rw [hbl]; exact zAx
    have h1b := zAm sv;have hb0 : (0 : Int) ≤ (ca : Int) := by omega
    have hb1 : (ca : Int) < (kl.length : Int) := by simp at hca; omega
    have hkl4 : kl.length ≤ 4096 := HD.out.wf.most;simp only at e0;generalize hWE : wr.alloc (.cells (zDr (ca, sv)).toArray 291) = W5 at *;have HWE := zh hWE;have hca0 : ca < kl.length := hca;clear hWE d0 d1 d2 d3 d4 d5 c0 c1 c2 c3 c4 c5 hr1 hbw hca;have KS := zh (Sk.store (g := g) (kb := kb) (B := wr.heap.size) (n := kl.length) ⟨e0, e1, e2, e3⟩ HD.out.ne (by have := hd.out.lt kb (.inr (.inl rfl)); omega));have HK := zh (HD.out.drew.store ca sv hca0 hsv);have HOK := zh (HO.out.drew.setK (ca * 64) (zAa sv))
    go_region_held3 (fun W => W.cell? ⟨g, 0, none⟩ = some (.slice (some ⟨kb, 0, none⟩) kl.length kl.length) ∧ W.cell? ⟨wr.heap.size, 0, none⟩ = some (.int .i64 ca) ∧ W.rangeAt wr.heap.size 1 (zAa sv) ∧ W.there kb (ca * 64) 64)
     (first | exact KS.out | go_keep_ranges) (fail)
    all_goals go_wp2_with fail
    all_goals go_roundw
    case rel => exact ⟨k + 1, by omega, by go_num, HOK, by rw [HLS.out]; exact HK⟩
    case measure => simp [intOf]; omega
   ·have hbit' : zP1 keeps k = false := by simpa using hbit
    rw [hbit'] at hbw;rw [Nat.zero_add, if_neg hbit] at HLS
    go_wp2_with (first
     | (refine wpList_load_mid rfl 291 (.tmp 14) rfl cb (k * 65) rfl (zDr (ca, sv)) _ HR.out Tryz.underlying291 rfl hl65.out ?_)
     | (refine zAo rfl 291 (.tmp 5) (.tmp 15) rfl wr 291 _ _ rfl rfl hl65.out (by rw [zc113]; simp [HLW.out]) (all_oneCell_toArray h1w.out) ?_))
    go_roundw
    case rel => exact ⟨k + 1, by omega, by go_num, HO, by rw [HLS.out]; exact HD⟩
    case measure => simp [intOf]; omega
  ·have df1 := df 1;have df2 := df 2;have df3 := df 3;have hkl : k = D.cache.length := by omega
   subst hkl;rw [List.take_length] at hd;have R := zh (((hd.out.wipe).put 2 (.bool true) { D with kept := lay (zP1 keeps) D.cache 0 D.kept, cache := [], down := true } rfl rfl rfl ((hd.out.wipe).wf.on true)).put 3 (.int .i64 (-1)) (D.crash keeps) rfl rfl rfl (H.out.wf.crash keeps));have O := zh (((ho.out.setG 1 (.slice none 0 0)).setG 2 (.bool true)).setG 3 (.int .i64 (-1)));clear df hd
   go_wp2_with fail
   go_end0
   exact ⟨⟨_, rfl⟩, O.out, _, R.out⟩
def zIy (base g kb : Nat) (D : Dk) (w : World) (e : Ending) (w' : World) : Prop :=
 e = .returned (.bool (Dk.step D).2) ∧ DOnly base g kb w w' ∧ Disk base w' g kb (Dk.step D).1
set_option maxRecDepth 100000 in
set_option maxHeartbeats 2000000 in
theorem zPj (base g kb : Nat) (D : Dk) (w : World) (h : Disk base w g kb D) (hs : D.steps ≤ 1000000000) (hb : base ≤ w.heap.size) :
  Calls Tryz.prog 193 #[.pointer (some ⟨g, 0, none⟩)] w (zIy base g kb D w) := by
 obtain ⟨cv, h⟩ := h;obtain ⟨c0, c1, c2, c3, c4, c5, hf⟩ := h.open;have hf5 := hf 5;have hf3 := hf 3;have hfate := h.wf.fate;have H5 := h.put 5 (.int .i64 ((D.steps : Int) + 1)) { D with steps := D.steps + 1 } rfl rfl rfl h.wf.more;have O5 := zh ((DOnly.refl base g kb w).setG 5 (.int .i64 ((D.steps : Int) + 1)));have R5 := zh H5
 by_cases h1 : 0 < D.fate
 ·obtain ⟨d0, d1, d2, d3, d4, d5, df⟩ := H5.open;have df3 := df 3;have H3 := H5.put 3 (.int .i64 (D.fate - 1)) { D with steps := D.steps + 1, fate := D.fate - 1 } rfl rfl rfl (h.wf.more.setFate _ (by omega));obtain ⟨e0, e1, e2, e3, e4, e5, ef⟩ := H3.open;have O3 := zh (O5.out.setG 3 (.int .i64 (D.fate - 1)));have R3 := zh H3
  by_cases h2 : D.fate = 1
  ·have hz : D.fate - 1 = 0 := by omega
   have HS := zh (show (Dk.step D) = (Dk.crash { D with steps := D.steps + 1, fate := 0 } D.keeps, false) by unfold Dk.step; rw [if_pos h1, if_pos h2]);rw [hz] at R3 O3;have hkp := zh h.wf.keeps;simp only at d0 d1 d2 d3 d4 d5 e0 e1 e2 e3 e4 e5;clear h hf H5 H3 df ef;go_enter Tryz.func193, Tryz.ntmps193
   go_wp2_with fail
   refine (Crash_any base g kb { D with steps := D.steps + 1, fate := 0 } D.keeps _ ⟨_, R3.out⟩ hkp.out (by simp [World.setCell]; omega)).mono ?_;rintro e w3 ⟨⟨v, rfl⟩, o3, r3⟩;have OO := zh (O3.out.trans o3);have RR := zh r3;clear o3 r3
   go_wp2_with fail
   go_ret
   unfold zIy;rw [HS.out];exact ⟨rfl, OO.out, RR.out⟩
  ·have HS := zh (show (Dk.step D) = ({ D with steps := D.steps + 1, fate := D.fate - 1 }, true) by unfold Dk.step; rw [if_pos h1, if_neg h2]);have hne : (D.fate - 1 == 0) = false := by simp; omega
   simp only at d0 d1 d2 d3 d4 d5 e0 e1 e2 e3 e4 e5;clear h hf H5 H3 df ef;go_enter Tryz.func193, Tryz.ntmps193
   go_wp2_with fail
   go_ret
   unfold zIy;rw [HS.out];exact ⟨rfl, O3.out, _, R3.out⟩
 ·have HS := zh (show (Dk.step D) = ({ D with steps := D.steps + 1 }, true) by unfold Dk.step; rw [if_neg h1]);obtain ⟨d0, d1, d2, d3, d4, d5, df⟩ := H5.open;simp only at d0 d1 d2 d3 d4 d5;clear h hf H5 df;go_enter Tryz.func193, Tryz.ntmps193
  go_wp2_with fail
  go_ret
  unfold zIy;rw [HS.out];exact ⟨rfl, O5.out, _, R5.out⟩
theorem zKf (off : Nat) : ∀ (l : List Value) (k : Nat) (cells : Array Value), (l.zipIdx k).foldl (fun cs (x : Value × Nat) => cs.setIfInBounds (off + x.2) x.1) cells = putAt cells (off + k) l
 | [], _, _ => rfl
 | v :: r, k, cells => by
   rw [List.zipIdx_cons, List.foldl_cons, zKf off r (k + 1)];rfl
theorem fold_putAt' (off : Nat) (v : Array Value) (cells : Array Value) : v.zipIdx.foldl (fun cs (x : Value × Nat) => cs.setIfInBounds (off + x.2) x.1) cells = putAt cells off v.toList := by
 rw [← Array.foldl_toList, Array.toList_zipIdx, zKf];rfl
theorem Tryz.zero291 : (Tryz.prog.info? 291).map (fun i => (i.zero, i.size, i.bytes)) = some (some (.agg Tryz.zeroCells291), 65, 72) := by kernel_rfl
theorem Tryz.zero288 : (Tryz.prog.info? 288).map (fun i => (i.zero, i.size, i.bytes)) = some (some (.agg (zAa zero64).toArray), 64, 64) := by kernel_rfl
theorem src_lits (w : World) (cs : List Value) (t : TypeId) (c : Nat) (hc : 1 ≤ c) : Src (w.alloc (.cells cs.toArray t)) (.slice (some ⟨w.heap.size, 0, none⟩) 1 c) 1 cs := by
 refine ⟨_, _, rfl, (fun h => by cases h), fun ad had j y hy => ?_⟩;cases had;rw [Addr.add_lit, zHh, List.getElem?_toArray, Nat.zero_add];exact hy
theorem DiskAt.pushed {base g kb : Nat} {w w' : World} {cv cv' : Value} {D : Dk} (h : DiskAt base w g kb cv D) (a : Nat) (s : List UInt8) (ha : a < D.kept.length) (hs : s.length = 64)
  (o : w'.ownsRow base 291 65 cv' (D.cache.length + 1) (zPx D.cache ++ zDr (a, s))) (gr : w.grownBy w' cv.ownBlock) :
  DiskAt base (w'.setCell ⟨g, 1, none⟩ cv') g kb cv' { D with cache := D.cache ++ [(a, s)] } ∧ w'.cell? ⟨g, 1, none⟩ = some cv ∧ w'.frozen? ⟨g, 1, none⟩ = false := by
 have hg := gr.block g (h.lt g (.inl rfl)) h.gne;have hk := gr.block kb (h.lt kb (.inr (.inl rfl))) h.kne;have hb := hg.trans h.blk;have hr := hk.trans h.row
 have hog : ∀ k, some k = cv'.ownBlock → k ≠ g := by
  rintro k e rfl
  rcases o.2 with ⟨rfl, _⟩ | ⟨q, cap, cur, rfl, _, hh, -⟩
  ·simp [Value.ownBlock] at e
  ·simp only [Value.ownBlock, Option.some.injEq] at e;subst e;have := hb.symm.trans hh;simp at this
 refine ⟨⟨h.hg, h.hk, ?_, ?_, ?_, ⟨h.wf.pos, h.wf.most, h.wf.kept, ?_, h.wf.keeps, h.wf.fate⟩⟩, ?_, ?_⟩
 ·rw [zAd w' g 1 cv' _ _ _ hb]; rfl
 ·rw [Below.heap_setCell w' _ cv' kb (Ne.symm h.ne)]; exact hr
 ·have e1 : zPx (D.cache ++ [(a, s)]) = zPx D.cache ++ zDr (a, s) := by unfold zPx; rw [List.flatMap_append]; simp
  have e2 : (D.cache ++ [(a, s)]).length = D.cache.length + 1 := by simp
  show World.ownsRow _ _ _ _ _ (D.cache ++ [(a, s)]).length (zPx (D.cache ++ [(a, s)]));rw [e1, e2];exact zEg o fun k hk => Below.heap_setCell w' _ cv' k (hog k hk)
 ·intro c hc
  rcases List.mem_append.1 hc with hc | hc
  ·exact h.wf.cache c hc
  ·simp at hc; subst hc; exact ⟨ha, hs⟩
 ·simp only [World.cell?, hb]; rfl
 ·simp [World.frozen?, hb]
theorem zFq {w : World} {base e s n : Nat} {v : Value} {xs : List Value} (h : w.ownsRow base e s v n xs) : ∃ a m c, v = .slice a m c := by
 rcases h.2 with ⟨rfl, _⟩ | ⟨g, cap, cur, rfl, _⟩
 ·exact ⟨_, _, _, rfl⟩
 ·exact ⟨_, _, _, rfl⟩
theorem zDv {W W' : World} {B o : Nat} {cs : List Value} (h : W.rangeAt B o cs) (hb : W'.heap[B]? = W.heap[B]?) : W'.rangeAt B o cs :=
 fun j v hj => (World.cell?_of_block (a := ⟨B, o + j, none⟩) hb).trans (h j v hj)
theorem fold_write (a : Int) (s : List UInt8) (h : s.length = 64) : List.foldl (fun cs (x : Value × Nat) => cs.setIfInBounds (1 + x.2) x.1) (Tryz.zeroCells291.setIfInBounds 0 (.int .i64 a)) (zAa s).zipIdx = (.int .i64 a :: zAa s).toArray := by
 rw [zKf]
 obtain ⟨z, R, hR⟩ : ∃ z R, Tryz.zeroCells291 = (z :: R).toArray := by
  have hz := zc113
  cases h : Tryz.zeroCells291.toList with
  | nil => have : Tryz.zeroCells291.toList.length = 0 := by rw [h]; rfl
           rw [Array.length_toList] at this; omega
  | cons z R => exact ⟨z, R, by rw [← h]⟩
 have hRl : R.length = 64 := by have hz := zc113; rw [hR] at hz; simpa using hz
 have e2 := zHf (zAa s) R [.int .i64 a] [] (by rw [zAc]; omega);rw [hR];simpa using e2
theorem fold_one (X : List Value) (h : X.length = 65) (Z : Array Value) (hZ : Z.size = 65) : Array.foldl (fun cs (x : Value × Nat) => cs.setIfInBounds x.2 x.1) Z X.toArray.zipIdx 0 65 = X.toArray := by
 have hs : X.toArray.zipIdx.size = 65 := by simp [h]
 conv => lhs; rw [← hs]
 have e := fold_putAt' 0 X.toArray Z;simp only [Nat.zero_add] at e;rw [e];have e2 := zHf X Z.toList [] [] (by simp [h, hZ]);simpa using e2
set_option maxRecDepth 100000 in
set_option maxHeartbeats 2000000 in
theorem zNg (base g kb : Nat) (D : Dk) (at_ : Int) (s : List UInt8) (w : World) (h : Disk base w g kb D) (hs : D.steps ≤ 1000000000) (hcl : D.cache.length ≤ 1000000000) (hl : s.length = 64) (hb : base ≤ w.heap.size) :
  Calls Tryz.prog 192 #[.pointer (some ⟨g, 0, none⟩), .int .i64 at_, .agg (zAa s).toArray] w fun e w' => e = .returned (.int .i64 (D.write at_ s).2) ∧ DOnly base g kb w w' ∧ Disk base w' g kb (D.write at_ s).1 := by
 obtain ⟨cv, h⟩ := h;have hm := h.wf.most;have hx := h.ext ((xr w).alloc (.cells (zAa s).toArray 288));have O1 := zh ((DOnly.refl base g kb w).ext ((xr w).alloc (.cells (zAa s).toArray 288)));obtain ⟨c0, c1, c2, c3, c4, c5, hf⟩ := hx.open;have HX := zh hx
 by_cases hd : D.down = true
 ·have HS := zh (show D.write at_ s = (D, 3) by unfold Dk.write; rw [if_pos hd]);clear h hf hx;go_enter Tryz.func192, Tryz.ntmps192
  go_wp2_with fail
  go_ret
  rw [HS.out];exact ⟨rfl, O1.out, _, HX.out⟩
 ·have hdf : D.down = false := by simpa using hd
  by_cases h1 : at_ < 0
  ·have HS := zh (show D.write at_ s = (D, 2) by unfold Dk.write; rw [if_neg hd, if_pos (.inl h1)]);clear h hf hx hd;go_enter Tryz.func192, Tryz.ntmps192
   go_wp2_with fail
   go_ret
   rw [HS.out];exact ⟨rfl, O1.out, _, HX.out⟩
  ·by_cases h2 : (D.kept.length : Int) ≤ at_
   ·have HS := zh (show D.write at_ s = (D, 2) by unfold Dk.write; rw [if_neg hd, if_pos (.inr h2)]);clear h hf hx hd;go_enter Tryz.func192, Tryz.ntmps192
    go_wp2_with fail
    go_ret
    rw [HS.out];exact ⟨rfl, O1.out, _, HX.out⟩
   ·obtain ⟨a, rfl⟩ : ∃ a : Nat, at_ = (a : Int) := ⟨at_.toNat, by omega⟩
    have ha : a < D.kept.length := by omega
    have HS := zh (show D.write (a : Int) s = if (Dk.step { D with cache := D.cache ++ [(a, s)] }).2 then ((Dk.step { D with cache := D.cache ++ [(a, s)] }).1, 0) else ((Dk.step { D with cache := D.cache ++ [(a, s)] }).1, 3) by
     unfold Dk.write; rw [if_neg hd, if_neg (by omega)]; rfl)
    have HA := zh ha;have HBW := zh hb;have h0 := zh h;clear h hf hx hd h1;go_enter Tryz.func192, Tryz.ntmps192
    go_upto_region 5 with (fail)
    have e2 : (w.alloc (.cells (zAa s).toArray 288)).rangeAt w.heap.size 0 (zAa s) := by
     intro j v hj;rw [zHh, List.getElem?_toArray, Nat.zero_add];exact hj
    have hB : w.heap.size < (w.alloc (.cells (zAa s).toArray 288)).heap.size := by simp
    have hBg : w.heap.size ≠ g := by have := h0.out.lt g (.inl rfl); omega
    have hgs := HX.out.lt g (.inl rfl);have hbs : base ≤ (w.alloc (.cells (zAa s).toArray 288)).heap.size := by simp; omega
    obtain ⟨i0, hi0, hz0, hz1, hz2⟩ := info_parts Tryz.zero291;have HI := zh (And.intro hi0 (And.intro hz0 (And.intro hz1 hz2)));have hu := Tryz.underlying288;have hi : (Tryz.prog.info? 288).map (·.size) = some (zAa s).length := by rw [zAc, hl]; exact zAx
    have hbl : (zAa s).length = 64 := by rw [zAc]; exact hl
    have h1b := zAm s
    obtain ⟨WV, hWV⟩ : ∃ WV : Array Value, WV = (.int .i64 (a : Int) :: zAa s).toArray := ⟨_, rfl⟩
    have hF := fold_write (a : Int) s hl;have hF2 := fold_one (.int .i64 (a : Int) :: zAa s) (by rw [List.length_cons, zAc, hl]);rw [← hWV] at hF hF2;have hWs : WV.size = 65 := by rw [hWV]; simp [zAc, hl]
    have HWV := zh hWV;have HCB : Hid (some w.heap.size ≠ cv.ownBlock) := fun e => by have := h0.out.lt _ (.inr (.inr e)); omega
    clear hWV;clear hi0 hz0 hz1 hz2;generalize hB0 : w.heap.size = B at *;generalize hWE : w.alloc (.cells (zAa s).toArray 288) = W1 at *;have hne := World.new_ne W1 ⟨g, 1, none⟩ c1;have HWE := zh (And.intro hB0 hWE);clear hB0 hWE c0 c2 c3 c4 c5;refine wp_region_noPanic ?_;refine wp_region_held_drew (S := fun W => W.rangeAt B 0 (zAa s)) (by kernel_rfl) e2 (fun hHeld => ?_);refine wpAnyH_take (i := 0) (v := .pointer (some ⟨g, 0, none⟩)) rfl (by kernel_rfl) (by kernel_rfl) (by kernel_rfl) (fun _ _ _ h => h) (Or.inl ⟨by rfl, ?_⟩) (by assumption) ?_
    ·intro w hSw; go_simp
    simp only [List.getElem_toArray, List.getElem_cons_zero, List.getElem_cons_succ, Act.put, List.setIfInBounds_toArray, List.set_cons_zero, List.set_cons_succ];refine wpAnyH_take (i := 1) (v := .pointer (some ⟨g, 0, none⟩)) rfl (by kernel_rfl) (by kernel_rfl) (by kernel_rfl) (fun _ _ _ h => h) (Or.inl ⟨by rfl, ?_⟩) (by assumption) ?_
    ·intro w hSw; go_simp
    simp only [List.getElem_toArray, List.getElem_cons_zero, List.getElem_cons_succ, Act.put, List.setIfInBounds_toArray, List.set_cons_zero, List.set_cons_succ];refine wpAnyH_take (i := 2) (v := .pointer (some ⟨g, 0, none⟩)) rfl (by kernel_rfl) (by kernel_rfl) (by kernel_rfl) (fun _ _ _ h => h) (Or.inl ⟨by rfl, ?_⟩) (by assumption) ?_
    ·intro w hSw; go_simp
    simp only [List.getElem_toArray, List.getElem_cons_zero, List.getElem_cons_succ, Act.put, List.setIfInBounds_toArray, List.set_cons_zero, List.set_cons_succ];refine wpAnyH_take (i := 3) (v := .pointer (some ⟨g, 1, none⟩)) rfl (by kernel_rfl) (by kernel_rfl) (by kernel_rfl) (fun _ _ _ h => h) (Or.inl ⟨by rfl, ?_⟩) (by assumption) ?_
    ·intro w hSw; go_simp
    simp only [List.getElem_toArray, List.getElem_cons_zero, List.getElem_cons_succ, Act.put, List.setIfInBounds_toArray, List.set_cons_zero, List.set_cons_succ];refine wpAnyH_take (i := 5) (v := .int .i64 (a : Int)) rfl (by kernel_rfl) (by kernel_rfl) (by kernel_rfl) (fun _ _ _ h => h) (Or.inl ⟨by rfl, ?_⟩) (by assumption) ?_
    ·intro w hSw; go_simp
    simp only [List.getElem_toArray, List.getElem_cons_zero, List.getElem_cons_succ, Act.put, List.setIfInBounds_toArray, List.set_cons_zero, List.set_cons_succ];refine wpAnyH_take (i := 6) (v := .agg (zAa s).toArray) rfl (by kernel_rfl) (by kernel_rfl) (by kernel_rfl) (fun _ _ _ h => h) (yieldsIf_load_mid (by rfl) 288 (.tmp 5) rfl B 0 rfl (zAa s) _ (fun _ h => h) hu rfl hi) (by assumption) ?_;simp only [List.getElem_toArray, List.getElem_cons_zero, List.getElem_cons_succ, Act.put, List.setIfInBounds_toArray, List.set_cons_zero, List.set_cons_succ];refine wpAnyH_take (i := 7) (v := .agg WV) rfl (by kernel_rfl) (by kernel_rfl) (by kernel_rfl) (fun _ _ _ h => h) (Or.inl ⟨by rfl, ?_⟩) (by assumption) ?_
    ·intro w hSw; go_simp
    simp only [List.getElem_toArray, List.getElem_cons_zero, List.getElem_cons_succ, Act.put, List.setIfInBounds_toArray, List.set_cons_zero, List.set_cons_succ];refine wpAnyH_ready (rs := [4, 8]) (by kernel_rfl) (by simp) (AllReadyH.cons rfl (fun K hK => ?_) (AllReadyH.cons rfl (fun K hK => ?_) AllReadyH.nil))
    ·go_simp;refine hK.out _ _ hHeld (fun hHeld2 => ?_);clear hK K
     try simp only [nf]
     refine wpAnyH_ready (rs := [8]) (by kernel_rfl) (by simp) (AllReadyH.cons rfl (fun K hK => ?_) AllReadyH.nil);go_simp;refine hK.out _ _ (World.rangeAt_alloc e2 _) (fun hHeld3 => ?_);clear hK K
     try simp only [nf]
     refine wpAnyH_ready (rs := [9]) (by kernel_rfl) (by simp) (AllReadyH.cons rfl (fun K hK => ?_) AllReadyH.nil);refine zA8 rfl (.tmp 28) (.tmp 32) 146 rfl base 291 i0 _ 65 72 Tryz.underlying146 HI.out.1 HI.out.2.1 HI.out.2.2.1 HI.out.2.2.2 zc113 (by decide) cv _ rfl rfl D.cache.length (zPx D.cache) (World.ownsRow.drew (World.ownsRow.alloc HX.out.cache _)) 1 (zDr (a, s)) (zFk hl) (by rw [HWV.out]; exact src_lits W1 _ _ _ (Nat.le_refl _)) (zIv _) (by unfold maxLen; omega) (by omega) (by simp; omega) ?_;intro cv' w5 o5 g5 n5;obtain ⟨av, nv, kv, rfl⟩ := zFq o5;have P5 := DiskAt.pushed ((HX.out.ext ((xr _).alloc _)).drew) a s HA.out hl o5 g5;have q1 := P5.2.1;have q2 := P5.2.2;have HP5 := zh P5.1;have HO5 := zh (((O1.out.ext ((xr _).alloc _)).drew.row (World.ownsRow.drew (World.ownsRow.alloc HX.out.cache _)) g5).setG 1 (.slice av nv kv));have KS5 := zh (zDv (World.rangeAt_alloc e2 _) (g5.block B (by simp; omega) HCB.out));have KS6 := zh (zDv (W' := w5.setCell ⟨g, 1, none⟩ (.slice av nv kv)) KS5.out (Below.heap_setCell w5 _ (.slice av nv kv) B hBg));clear P5 o5 g5 n5;refine hK.out _ _ KS5.out (fun hHeld5 => ?_);clear hK K
     try simp only [nf]
     refine wpAnyH_take (i := 10) (v := .pointer (some ⟨g, 0, none⟩)) rfl (by kernel_rfl) (by kernel_rfl) (by kernel_rfl) (fun _ _ _ h => h) (Or.inl ⟨by rfl, ?_⟩) (by assumption) ?_
     ·intro w hSw; go_simp
     try simp only [nf]
     refine wpAnyH_take (i := 11) (v := .pointer (some ⟨g, 1, none⟩)) rfl (by kernel_rfl) (by kernel_rfl) (by kernel_rfl) (fun _ _ _ h => h) (Or.inl ⟨by rfl, ?_⟩) (by assumption) ?_
     ·intro w hSw; go_simp
     try simp only [nf]
     refine wpAnyH_ready (rs := [12]) (by kernel_rfl) (by simp) (AllReadyH.cons rfl (fun K hK => ?_) AllReadyH.nil);go_simp;refine hK.out _ _ KS6.out (fun hHeld6 => ?_);clear hK K
     try simp only [nf]
     refine wpAnyH_done (by kernel_rfl) ?_ _;refine NoPanic.normal ?_
     go_wp2_with fail
     refine (zPj base g kb { D with cache := D.cache ++ [(a, s)] } _ ⟨_, HP5.out⟩ hs (by have h1 := HBW.out; have h2 := HO5.out.size; rw [HWE.out.1] at h2; omega)).mono ?_;rintro e w6 ⟨rfl, o6, r6⟩;have O6 := zh (HO5.out.trans o6);have R6 := zh r6;clear o6 r6;generalize Dk.step { D with cache := D.cache ++ [(a, s)] } = st at *;obtain ⟨D2, b⟩ := st;cases b
     ·go_wp2_with fail
      go_ret
      rw [HS.out];exact ⟨rfl, O6.out, R6.out⟩
     ·go_wp2_with fail
      go_ret
      rw [HS.out];exact ⟨rfl, O6.out, R6.out⟩
    ·go_simp;refine hK.out _ _ (World.rangeAt_alloc e2 _) (fun hHeld3 => ?_);clear hK K
     try simp only [nf]
     refine wpAnyH_ready (rs := [4]) (by kernel_rfl) (by simp) (AllReadyH.cons rfl (fun K hK => ?_) AllReadyH.nil);go_simp;refine hK.out _ _ (World.rangeAt_alloc e2 _) (fun hHeld4 => ?_);clear hK K
     try simp only [nf]
     refine wpAnyH_ready (rs := [9]) (by kernel_rfl) (by simp) (AllReadyH.cons rfl (fun K hK => ?_) AllReadyH.nil);refine zA8 rfl (.tmp 28) (.tmp 32) 146 rfl base 291 i0 _ 65 72 Tryz.underlying146 HI.out.1 HI.out.2.1 HI.out.2.2.1 HI.out.2.2.2 zc113 (by decide) cv _ rfl rfl D.cache.length (zPx D.cache) (World.ownsRow.drew (World.ownsRow.alloc HX.out.cache _)) 1 (zDr (a, s)) (zFk hl) (by rw [HWV.out]; exact src_lits W1 _ _ _ (Nat.le_refl _)) (zIv _) (by unfold maxLen; omega) (by omega) (by simp; omega) ?_;intro cv' w5 o5 g5 n5;obtain ⟨av, nv, kv, rfl⟩ := zFq o5;have P5 := DiskAt.pushed ((HX.out.ext ((xr _).alloc _)).drew) a s HA.out hl o5 g5;have q1 := P5.2.1;have q2 := P5.2.2;have HP5 := zh P5.1;have HO5 := zh (((O1.out.ext ((xr _).alloc _)).drew.row (World.ownsRow.drew (World.ownsRow.alloc HX.out.cache _)) g5).setG 1 (.slice av nv kv));have KS5 := zh (zDv (World.rangeAt_alloc e2 _) (g5.block B (by simp; omega) HCB.out));have KS6 := zh (zDv (W' := w5.setCell ⟨g, 1, none⟩ (.slice av nv kv)) KS5.out (Below.heap_setCell w5 _ (.slice av nv kv) B hBg));clear P5 o5 g5 n5;refine hK.out _ _ KS5.out (fun hHeld5 => ?_);clear hK K
     try simp only [nf]
     refine wpAnyH_take (i := 10) (v := .pointer (some ⟨g, 0, none⟩)) rfl (by kernel_rfl) (by kernel_rfl) (by kernel_rfl) (fun _ _ _ h => h) (Or.inl ⟨by rfl, ?_⟩) (by assumption) ?_
     ·intro w hSw; go_simp
     try simp only [nf]
     refine wpAnyH_take (i := 11) (v := .pointer (some ⟨g, 1, none⟩)) rfl (by kernel_rfl) (by kernel_rfl) (by kernel_rfl) (fun _ _ _ h => h) (Or.inl ⟨by rfl, ?_⟩) (by assumption) ?_
     ·intro w hSw; go_simp
     try simp only [nf]
     refine wpAnyH_ready (rs := [12]) (by kernel_rfl) (by simp) (AllReadyH.cons rfl (fun K hK => ?_) AllReadyH.nil);go_simp;refine hK.out _ _ KS6.out (fun hHeld6 => ?_);clear hK K
     try simp only [nf]
     refine wpAnyH_done (by kernel_rfl) ?_ _;refine NoPanic.normal ?_
     go_wp2_with fail
     refine (zPj base g kb { D with cache := D.cache ++ [(a, s)] } _ ⟨_, HP5.out⟩ hs (by have h1 := HBW.out; have h2 := HO5.out.size; rw [HWE.out.1] at h2; omega)).mono ?_;rintro e w6 ⟨rfl, o6, r6⟩;have O6 := zh (HO5.out.trans o6);have R6 := zh r6;clear o6 r6;generalize Dk.step { D with cache := D.cache ++ [(a, s)] } = st at *;obtain ⟨D2, b⟩ := st;cases b
     ·go_wp2_with fail
      go_ret
      rw [HS.out];exact ⟨rfl, O6.out, R6.out⟩
     ·go_wp2_with fail
      go_ret
      rw [HS.out];exact ⟨rfl, O6.out, R6.out⟩
set_option maxRecDepth 100000 in
set_option maxHeartbeats 2000000 in
theorem zN0 (base g kb : Nat) (D : Dk) (w : World) (h : Disk base w g kb D) (hs : D.steps ≤ 1000000000) (hb : base ≤ w.heap.size) :
  Calls Tryz.prog 121 #[.pointer (some ⟨g, 0, none⟩)] w fun e w' => e = .returned (.int .i64 (D.flush).2) ∧ DOnly base g kb w w' ∧ Disk base w' g kb (D.flush).1 := by
 have h1 := h;obtain ⟨cv, h1⟩ := h1;obtain ⟨c0, c1, c2, c3, c4, c5, hf⟩ := h1.open
 by_cases hd : D.down = true
 ·have HS := zh (show D.flush = (D, 3) by unfold Dk.flush; rw [if_pos hd]);have HX := zh h;clear h h1 hf;go_enter Tryz.func121, Tryz.ntmps121
  go_wp2_with fail
  go_ret
  rw [HS.out];exact ⟨rfl, DOnly.refl _ _ _ _, HX.out⟩
 ·have hdf : D.down = false := by simpa using hd
  have HS := zh (show D.flush = if (Dk.step D).2 then ((Dk.step D).1.flushed, 0) else ((Dk.step D).1, 3) by unfold Dk.flush; rw [if_neg hd]);have HST := zh (zPj base g kb D w h hs hb);unfold zIy at HST;generalize Dk.step D = st at *;obtain ⟨E, b⟩ := st;clear h h1 hf hd;go_enter Tryz.func121, Tryz.ntmps121
  go_wp2_with fail
  refine HST.out.mono ?_;rintro e w1 ⟨rfl, o1, r1⟩;have O1 := zh o1;have R1 := zh r1;clear HST o1 r1 c0 c1 c2 c3 c4 c5;cases b
  ·go_wp2_with fail
   go_ret
   rw [HS.out];exact ⟨rfl, O1.out, R1.out⟩
  ·obtain ⟨cv1, h⟩ := R1.out;obtain ⟨c0, c1, c2, c3, c4, c5, hf⟩ := h.open;obtain ⟨a, cap, rfl, hc1, hc2, hw⟩ := h.writes;have H := zh h;have hsm : E.cache.length ≤ 9223372036854775807 := by omega
   clear h hf hw
   go_wp2_with fail
   go_loopw [17] (fun i wr => ∃ k : Nat, k ≤ E.cache.length ∧ i = .int .i64 k ∧ Hid (DOnly base g kb w wr) ∧ Hid (DiskAt base wr g kb (.slice a E.cache.length cap) { E with kept := lay (fun _ => true) (E.cache.take k) 0 E.kept })) (fun i _ => E.cache.length - (intOf i).toNat)
   case atStart => exact ⟨0, Nat.zero_le _, rfl, O1, H.out⟩
   case round =>
    obtain ⟨k, hk, rfl, ho, hd⟩ := hrel;obtain ⟨d0, d1, d2, d3, d4, d5, df⟩ := hd.out.open
    by_cases hlt : k < E.cache.length
    ·obtain ⟨a', cap', e1, -, -, hw⟩ := hd.out.writes;obtain ⟨cb, ha, hr, hr1, hr2⟩ := hw k hlt;simp only [Value.slice.injEq] at e1;obtain ⟨rfl, -, rfl⟩ := e1;subst ha;have hwf := hd.out.wf;have hcl := hwf.cache _ (List.getElem_mem hlt);have HLS := zh (zGh (fun _ => true) E.cache 0 k E.kept hlt);have HD := zh (hd.out.ext ((xr _).alloc (.cells (zDr E.cache[k]).toArray 291)));have HO := zh (ho.out.ext ((xr _).alloc (.cells (zDr E.cache[k]).toArray 291)));generalize E.cache[k] = c at *;obtain ⟨ca, sv⟩ := c;obtain ⟨hca, hsv⟩ := hcl;have HR := zh hr;have hlw : (zDr (ca, sv)).length = 65 := zFk hsv;have hl65 := zh (show (Tryz.prog.info? 291).map (·.size) = some (zDr (ca, sv)).length by rw [hlw]; exact zLl);have h1w := zh (zIv (ca, sv));have HLW := zh hlw;clear df hw hr hr2 hlw hwf;rw [if_pos rfl] at HLS
     go_upto_region 8 with (first
      | (refine wpList_load_mid rfl 291 (.tmp 19) rfl cb (k * 65) rfl (zDr (ca, sv)) _ HR.out Tryz.underlying291 rfl hl65.out ?_)
      | (refine zAo rfl 291 (.tmp 4) (.tmp 20) rfl wr 291 _ _ rfl rfl hl65.out (by rw [zc113]; simp [HLW.out]) (all_oneCell_toArray h1w.out) ?_))
     generalize lay (fun _ => true) (List.take k E.cache) 0 E.kept = kl at *;have e0 := HD.out.open.1;have e1 := zMc wr ca sv;have e2 := zMb wr ca sv;have e3 := HD.out.there ca hca;have hbl : (zAa sv).length = 64 := by rw [zAc]; exact hsv
     have hu := Tryz.underlying288;have hi : (Tryz.prog.info? 288).map (·.size) = some (zAa sv).length := by rw [hbl]; exact zAx
     have h1b := zAm sv;have hb0 : (0 : Int) ≤ (ca : Int) := by omega
     have hb1 : (ca : Int) < (kl.length : Int) := by simp at hca; omega
     have hkl4 : kl.length ≤ 4096 := HD.out.wf.most;simp only at e0;generalize hWE : wr.alloc (.cells (zDr (ca, sv)).toArray 291) = W5 at *;have HWE := zh hWE;have hca0 : ca < kl.length := hca;clear hWE d0 d1 d2 d3 d4 d5 c0 c1 c2 c3 c4 c5 hr1 hca;have KS := zh (Sk.store (g := g) (kb := kb) (B := wr.heap.size) (n := kl.length) ⟨e0, e1, e2, e3⟩ HD.out.ne (by have := hd.out.lt kb (.inr (.inl rfl)); omega));have HK := zh (HD.out.drew.store ca sv hca0 hsv);have HOK := zh (HO.out.drew.setK (ca * 64) (zAa sv))
     go_region_held3 (fun W => W.cell? ⟨g, 0, none⟩ = some (.slice (some ⟨kb, 0, none⟩) kl.length kl.length) ∧ W.cell? ⟨wr.heap.size, 0, none⟩ = some (.int .i64 ca) ∧ W.rangeAt wr.heap.size 1 (zAa sv) ∧ W.there kb (ca * 64) 64)
      (first | exact KS.out | go_keep_ranges) (fail)
     all_goals go_wp2_with fail
     all_goals go_roundw
     case rel => exact ⟨k + 1, by omega, by go_num, HOK, by rw [HLS.out]; exact HK⟩
     case measure => simp [intOf]; omega
    ·have df1 := df 1;have hkl : k = E.cache.length := by omega
     subst hkl;rw [List.take_length] at hd;have R := zh hd.out.wipe;have O := zh (ho.out.setG 1 (.slice none 0 0));clear df hd
     go_wp2_with fail
     go_ret
     rw [HS.out];exact ⟨rfl, O.out, _, R.out⟩
end
end Go.Proofs.YtgnjjfdfoibdiaaGreatDoor
