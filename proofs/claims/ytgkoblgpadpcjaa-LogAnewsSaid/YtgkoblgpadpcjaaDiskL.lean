/- A disk: what it is, how it lies in memory, and what its functions make of it (the plain part). -/
import Derived.Test.YtgkoblgpadpcjaaKit2
import Derived.Test.YtgkoblgpadpcjaaNums
import Derived.Test.YtgkoblgpadpcjaaReader
import Derived.Deep.MidRow
namespace Go.Proofs.Ytgkoblgpadpcjaa
open Go.RowKit

/-- A disk: sectors that are kept, writes that perhaps are. -/
structure Dk where
  kept : List (List UInt8)
  cache : List (Nat × List UInt8)
  down : Bool
  fate : Int
  keeps : Nat
  steps : Nat
def wvals (c : Nat × List UInt8) : List Value := .int .i64 c.1 :: byteVals c.2
def flatK (l : List (List UInt8)) : List Value := l.flatMap byteVals
def flatC (l : List (Nat × List UInt8)) : List Value := l.flatMap wvals
structure Wf (D : Dk) : Prop where
  pos : 1 ≤ D.kept.length
  most : D.kept.length ≤ 4096
  kept : ∀ s ∈ D.kept, s.length = 64
  cache : ∀ c ∈ D.cache, c.1 < D.kept.length ∧ c.2.length = 64
  keeps : D.keeps < 18446744073709551616
  fate : D.fate ≤ 9223372036854775807
/-- The first writes of a cache, of those that a test lets through, laid over the sectors. -/
def lay (p : Nat → Bool) : List (Nat × List UInt8) → Nat → List (List UInt8) → List (List UInt8)
  | [], _, k => k
  | c :: r, i, k => lay p r (i + 1) (if p i then k.set c.1 c.2 else k)
def bitOf (keeps : Nat) (i : Nat) : Bool := keeps.testBit (i % 64)
def Dk.crash (D : Dk) (keeps : Nat) : Dk := { D with kept := lay (bitOf keeps) D.cache 0 D.kept, cache := [], down := true, fate := -1 }
def Dk.flushed (D : Dk) : Dk := { D with kept := lay (fun _ => true) D.cache 0 D.kept, cache := [] }
def Dk.step (D : Dk) : Dk × Bool :=
  if 0 < D.fate then
    if D.fate = 1 then (Dk.crash { D with steps := D.steps + 1, fate := 0 } D.keeps, false) else ({ D with steps := D.steps + 1, fate := D.fate - 1 }, true)
  else ({ D with steps := D.steps + 1 }, true)
def Dk.write (D : Dk) (at_ : Int) (s : List UInt8) : Dk × Nat :=
  if D.down then (D, 3) else if at_ < 0 ∨ (D.kept.length : Int) ≤ at_ then (D, 2) else
    if (Dk.step { D with cache := D.cache ++ [(at_.toNat, s)] }).2 then ((Dk.step { D with cache := D.cache ++ [(at_.toNat, s)] }).1, 0) else ((Dk.step { D with cache := D.cache ++ [(at_.toNat, s)] }).1, 3)
def Dk.flush (D : Dk) : Dk × Nat :=
  if D.down then (D, 3) else if (Dk.step D).2 then ((Dk.step D).1.flushed, 0) else ((Dk.step D).1, 3)
def zero64 : List UInt8 := List.replicate 64 0
def lastAt (a : Nat) : List (Nat × List UInt8) → Option (List UInt8)
  | [] => none
  | c :: r => match lastAt a r with
    | some s => some s
    | none => if c.1 = a then some c.2 else none
def Dk.read (D : Dk) (at_ : Int) : List UInt8 × Nat :=
  if D.down then (zero64, 3) else if at_ < 0 ∨ (D.kept.length : Int) ≤ at_ then (zero64, 2) else
    match lastAt at_.toNat D.cache with
    | some s => (s, 0)
    | none => (D.kept.getD at_.toNat [], 0)
def Dk.new (n : Int) : Dk := { kept := List.replicate (max 1 (min n 4096)).toNat zero64, cache := [], down := false, fate := -1, keeps := 0, steps := 0 }

theorem lay_length (p : Nat → Bool) : ∀ (c : List (Nat × List UInt8)) (i : Nat) (k : List (List UInt8)), (lay p c i k).length = k.length
  | [], _, _ => rfl
  | c :: r, i, k => by rw [lay, lay_length p r]; split <;> simp
theorem lay_all (p : Nat → Bool) : ∀ (c : List (Nat × List UInt8)) (i : Nat) (k : List (List UInt8)), (∀ x ∈ c, x.2.length = 64) → (∀ s ∈ k, s.length = 64) → ∀ s ∈ lay p c i k, s.length = 64
  | [], _, _, _, hk => hk
  | c :: r, i, k, hc, hk => by
    rw [lay]
    refine lay_all p r _ _ (fun x hx => hc x (by simp [hx])) ?_
    split
    · intro s hs
      rcases List.mem_or_eq_of_mem_set hs with h | h
      · exact hk s h
      · rw [h]; exact hc c (by simp)
    · exact hk
theorem lay_take_succ (p : Nat → Bool) : ∀ (c : List (Nat × List UInt8)) (i j : Nat) (k : List (List UInt8)) (h : j < c.length), lay p (c.take (j + 1)) i k = if p (i + j) then (lay p (c.take j) i k).set c[j].1 c[j].2 else lay p (c.take j) i k
  | x :: r, i, 0, k, _ => by simp [lay]
  | x :: r, i, j + 1, k, h => by
    have := lay_take_succ p r (i + 1) j (if p i then k.set x.1 x.2 else k) (by simpa using h)
    simp only [List.take_succ_cons, lay, List.getElem_cons_succ] at this ⊢
    rw [this, show i + 1 + j = i + (j + 1) by omega]
/-- No more writes than steps. -/
def Few (D : Dk) : Prop := D.cache.length ≤ D.steps
theorem Wf.crash {D : Dk} (h : Wf D) (keeps : Nat) : Wf (D.crash keeps) where
  pos := by simp only [Dk.crash, lay_length]; exact h.pos
  most := by simp only [Dk.crash, lay_length]; exact h.most
  kept := lay_all _ _ _ _ (fun x hx => (h.cache x hx).2) h.kept
  cache := fun c hc => by cases hc
  keeps := h.keeps
  fate := by show (-1 : Int) ≤ _; omega
theorem Wf.flushed {D : Dk} (h : Wf D) : Wf D.flushed where
  pos := by simp only [Dk.flushed, lay_length]; exact h.pos
  most := by simp only [Dk.flushed, lay_length]; exact h.most
  kept := lay_all _ _ _ _ (fun x hx => (h.cache x hx).2) h.kept
  cache := fun c hc => by cases hc
  keeps := h.keeps
  fate := h.fate
theorem Wf.plan {D : Dk} (h : Wf D) (f : Int) (k : Nat) (hk : k < 18446744073709551616) (hf : f ≤ 9223372036854775807) : Wf { D with fate := f, keeps := k } := ⟨h.pos, h.most, h.kept, h.cache, hk, hf⟩
theorem Wf.setFate {D : Dk} (h : Wf D) (f : Int) (hf : f ≤ 9223372036854775807) : Wf { D with fate := f } := ⟨h.pos, h.most, h.kept, h.cache, h.keeps, hf⟩
theorem Wf.on {D : Dk} (h : Wf D) (b : Bool) : Wf { D with down := b } := ⟨h.pos, h.most, h.kept, h.cache, h.keeps, h.fate⟩
theorem Wf.more {D : Dk} (h : Wf D) : Wf { D with steps := D.steps + 1 } := ⟨h.pos, h.most, h.kept, h.cache, h.keeps, h.fate⟩

/-- Cells put from a place on. -/
def putAt (cs : Array Value) : Nat → List Value → Array Value
  | _, [] => cs
  | o, v :: r => putAt (cs.setIfInBounds o v) (o + 1) r
theorem putAt_mid : ∀ (vs X A B : List Value), vs.length = X.length → putAt (A ++ X ++ B).toArray A.length vs = (A ++ vs ++ B).toArray
  | [], X, A, B, h => by
    obtain rfl : X = [] := List.eq_nil_of_length_eq_zero (by simpa using h.symm)
    rfl
  | v :: vs, [], A, B, h => by simp at h
  | v :: vs, x :: X, A, B, h => by
    have := putAt_mid vs X (A ++ [v]) B (by simpa using h)
    rw [putAt]
    have e : (A ++ x :: X ++ B).toArray.setIfInBounds A.length v = (A ++ [v] ++ X ++ B).toArray := by
      rw [List.setIfInBounds_toArray]
      simp
    rw [e]
    simpa using this
end Go.Proofs.Ytgkoblgpadpcjaa
