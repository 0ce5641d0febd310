/- A part of the proof of WholeUsers. -/
import Derived.Deep.RegionHeld3
import Derived.Lib.Hide
import Derived.Sort.KeysCollected
import Derived.WalkKit
set_option linter.all false
namespace Go.Proofs.YtgnjjfdfoibdiaaGreatDoor
open Go.RowKit
theorem zh {p : Prop} (h : p) : Hid p := Lib.hid h
section
variable {P : Program} {md : Region.Mode} {ops : Array Oper} {Q : Exit → Act → World → Prop} {S : World → Prop}
theorem nf : (∀ (α : Type) (l : List α) (i : Nat) (h : i < l.toArray.size), l.toArray[i] = l[i]'(by simpa using h)) ∧ (∀ (α : Type) (a : α) (l : List α) (h : 0 < (a :: l).length), (a :: l)[0] = a) ∧ (∀ (α : Type) (a : α) (l : List α) (i : Nat) (h : i + 1 < (a :: l).length), (a :: l)[i + 1] = l[i]'(by simpa using h)) ∧
  (∀ (α : Type) (l : List α) (i : Nat) (a : α), l.toArray.setIfInBounds i a = (l.set i a).toArray) ∧ (∀ (α : Type) (a b : α) (l : List α), (a :: l).set 0 b = b :: l) ∧ (∀ (α : Type) (a b : α) (l : List α) (i : Nat), (a :: l).set (i + 1) b = a :: l.set i b) ∧ ∀ (a : Act) (d : Tmp) (v : Value), a.put (some d) v = { a with tmps := a.tmps.setIfInBounds d v } :=
 ⟨fun _ _ _ _ => rfl, fun _ _ _ _ => rfl, fun _ _ _ _ _ => rfl, fun _ l i a => List.setIfInBounds_toArray l i a, fun _ _ _ _ => rfl, fun _ _ _ _ _ => rfl, fun _ _ _ => rfl⟩
theorem tk (i : Nat) {oi : Oper} {v : Value} {fuel : Nat} {l l' : Array Bool} {a a' : Act} {w : World} (h : wpAnyH P md ops Q S fuel l' a' w) (hi : ops[i]? = some oi := by rfl) (hs : Region.noSelect ops = true := by kernel_rfl) (hf : Region.free md ops l i = true := by kernel_rfl)
  (hr : (Region.ready md ops l).contains i = true := by kernel_rfl) (hQ : ∀ c a w, Q (.panic c) (a.put oi.dst v) w → Q (.panic c) a w := by exact fun _ _ _ h => h) (hw : Region.wanted oi (yielded ops a.tmps) = true := by rfl)
  (hy : ∀ w, S w → (execOp a.eval oi).run P w = .ok (.value v) w := by (intro w hSw; (try dsimp only at hSw); go_simp); (try with_reducible rfl)) (hS : S w := by assumption)
  (hl : l.setIfInBounds i true = l' := by (try simp only [nf]); (try rfl))
  (ha : a.put oi.dst v = a' := by (try simp only [nf]); (try rfl)) : wpAnyH P md ops Q S (fuel + 1) l a w := by
 subst hl ha
 exact wpAnyH_take hi hs hf hr hQ (Or.inl ⟨hw, hy⟩) hS h
def Seq (P : Program) (md : Region.Mode) (ops : Array Oper) (Q : Exit → Act → World → Prop) (S : World → Prop) (_ : List Nat) (fuel : Nat) (l : Array Bool) (a : Act) (w : World) (g : Nat) (m : Array Bool) (b : Act) : Prop := wpAnyH P md ops Q S g m b w → wpAnyH P md ops Q S fuel l a w
theorem Seq.nil {fuel : Nat} {l : Array Bool} {a : Act} {w : World} : Seq P md ops Q S [] fuel l a w fuel l a := id
theorem Seq.cons {i : Nat} {is : List Nat} {g : Nat} {m : Array Bool} {b : Act} {oi : Oper} {v : Value} {fuel : Nat} {l l' : Array Bool} {a a' : Act} {w : World} (h : Seq P md ops Q S is fuel l' a' w g m b) (hi : ops[i]? = some oi := by rfl) (hs : Region.noSelect ops = true := by kernel_rfl) (hf : Region.free md ops l i = true := by kernel_rfl)
  (hr : (Region.ready md ops l).contains i = true := by kernel_rfl) (hQ : ∀ c a w, Q (.panic c) (a.put oi.dst v) w → Q (.panic c) a w := by exact fun _ _ _ h => h) (hw : Region.wanted oi (yielded ops a.tmps) = true := by rfl)
  (hy : ∀ w, S w → (execOp a.eval oi).run P w = .ok (.value v) w := by (intro w hSw; (try dsimp only at hSw); go_simp); (try with_reducible rfl)) (hS : S w := by assumption)
  (hl : l.setIfInBounds i true = l' := by (try simp only [nf]); (try rfl))
  (ha : a.put oi.dst v = a' := by (try simp only [nf]); (try rfl)) : Seq P md ops Q S (i :: is) (fuel + 1) l a w g m b := by
 subst hl ha
 exact fun k => wpAnyH_take hi hs hf hr hQ (Or.inl ⟨hw, hy⟩) hS (h k)
theorem ts (is : List Nat) {fuel g : Nat} {l m : Array Bool} {a b : Act} {w : World} (h : wpAnyH P md ops Q S g m b w) (s : Seq P md ops Q S is fuel l a w g m b := by (repeat refine Seq.cons ?_); exact Seq.nil) : wpAnyH P md ops Q S fuel l a w := s h
theorem tq (i : Nat) (v : Value) {oi : Oper} {fuel : Nat} {l l' : Array Bool} {a a' : Act} {w : World} (h : wpAnyH P md ops Q S fuel l' a' w) (hi : ops[i]? = some oi := by rfl) (hs : Region.noSelect ops = true := by kernel_rfl) (hf : Region.free md ops l i = true := by kernel_rfl)
  (hr : (Region.ready md ops l).contains i = true := by kernel_rfl) (hQ : ∀ c a w, Q (.panic c) (a.put oi.dst v) w → Q (.panic c) a w := by exact fun _ _ _ h => h) (hw : Region.wanted oi (yielded ops a.tmps) = true := by rfl)
  (hy : ∀ w, S w → (execOp a.eval oi).run P w = .ok (.value v) w := by intro w hSw; first | (go_simp; done) | (obtain ⟨hq1, hq2⟩ := hSw; go_simp; done) | (obtain ⟨hq1, hq2, hq3⟩ := hSw; go_simp; done) | (obtain ⟨hq1, hq2, hq3, hq4⟩ := hSw; go_simp; done) | (obtain ⟨hq1, hq2, hq3, hq4, hq5⟩ := hSw; go_simp; done)) (hS : S w := by assumption)
  (hl : l.setIfInBounds i true = l' := by (try simp only [nf]); (try rfl))
  (ha : a.put oi.dst v = a' := by (try simp only [nf]); (try rfl)) : wpAnyH P md ops Q S (fuel + 1) l a w := by
 subst hl ha
 exact wpAnyH_take hi hs hf hr hQ (Or.inl ⟨hw, hy⟩) hS h
theorem tn (i : Nat) {oi : Oper} {fuel : Nat} {l l' : Array Bool} {a a' : Act} {w : World} (h : wpAnyH P md ops Q S fuel l' a' w) (hi : ops[i]? = some oi := by rfl) (hs : Region.noSelect ops = true := by kernel_rfl) (hf : Region.free md ops l i = true := by kernel_rfl)
  (hr : (Region.ready md ops l).contains i = true := by kernel_rfl) (hQ : ∀ c a w, Q (.panic c) (a.put oi.dst undef) w → Q (.panic c) a w := by exact fun _ _ _ h => h) (hw : Region.wanted oi (yielded ops a.tmps) = false := by simp [Region.wanted, yielded]) (hS : S w := by assumption)
  (hl : l.setIfInBounds i true = l' := by (try simp only [nf]); (try rfl))
  (ha : a.put oi.dst undef = a' := by (try simp only [nf]); (try rfl)) : wpAnyH P md ops Q S (fuel + 1) l a w := by
 subst hl ha
 exact wpAnyH_take hi hs hf hr hQ (Or.inr ⟨hw, rfl⟩) hS h
theorem rd (i : Nat) {o : Oper} {fuel : Nat} {l l' : Array Bool} {a : Act} {w : World} (h : ∀ K : Act → World → Prop, Shut (∀ a w, S w → (S w → wpAnyH P md ops Q S fuel l' a w) → K a w) → if Region.wanted o (yielded ops a.tmps) = true then Oper.wp P o a w K Q else K (a.put o.dst undef) w)
  (hr : Region.ready md ops l = [i] := by kernel_rfl) (ho : ops[i]? = some o := by rfl)
  (hl : l.setIfInBounds i true = l' := by (try simp only [nf]); (try rfl)) : wpAnyH P md ops Q S (fuel + 1) l a w := by
 subst hl
 exact wpAnyH_ready hr (by simp) (AllReadyH.cons ho h AllReadyH.nil)
end
end Go.Proofs.YtgnjjfdfoibdiaaGreatDoor
namespace Go.Proofs.YtgnjjfdfoibdiaaGreatDoor
section
abbrev Str := List UInt8
structure Un where
 name : Str
 files : List Str
 after : List Str
 before : List Str
 requires : List Str
 wants : List Str
 partOf : List Str
 retry : Int
def leS : Str → Str → Bool := fun x y => decide (x ≤ y)
def zCx (l : List Str) : List Str := l.mergeSort leS
theorem leS_trans (a b c : Str) (h1 : leS a b = true) (h2 : leS b c = true) : leS a c = true := by
 unfold leS at *;rw [decide_eq_true_iff] at *;exact List.le_trans h1 h2
theorem leS_total (a b : Str) : (leS a b || leS b a) = true := by
 unfold leS;rw [Bool.or_eq_true, decide_eq_true_iff, decide_eq_true_iff];exact List.le_total a b
theorem leS_antisymm (a b : Str) (h1 : leS a b = true) (h2 : leS b a = true) : a = b := by
 unfold leS at *;rw [decide_eq_true_iff] at *;exact List.le_antisymm h1 h2
theorem zJ6 (l : List Str) : (zCx l).Perm l := List.mergeSort_perm l leS
theorem zHe (l : List Str) : (zCx l).Pairwise fun a b => leS a b = true := List.pairwise_mergeSort leS_trans leS_total l
theorem zIz : ∀ {l m : List Str}, l.Perm m → (l.Pairwise fun a b => leS a b = true) → (m.Pairwise fun a b => leS a b = true) → l = m := by
 intro l m hp hl hm;exact hp.eq_of_pairwise (fun a b _ _ h1 h2 => leS_antisymm a b h1 h2) hl hm
theorem zI0 {l m : List Str} (h : l.Perm m) : zCx l = zCx m :=
 zIz ((zJ6 l).trans (h.trans (zJ6 m).symm)) (zHe l) (zHe m)
def findU (us : List Un) (n : Str) : Option Un := us.find? fun u => u.name == n
def there (us : List Un) (n : Str) : Bool := (findU us n).isSome
section
variable {α β : Type} [DecidableEq α]
def look : List (α × β) → α → Option β
 | [], _ => none
 | e :: r, x => if e.1 = x then some e.2 else look r x
def ins : List (α × β) → α → β → List (α × β)
 | [], x, b => [(x, b)]
 | e :: r, x, b => if e.1 = x then (x, b) :: r else e :: ins r x b
def del : List (α × β) → α → List (α × β)
 | [], _ => []
 | e :: r, x => if e.1 = x then del r x else e :: del r x
theorem zAq (l : List (α × β)) (x y : α) (b : β) : look (ins l x b) y = if y = x then some b else look l y := by
 induction l with
 | nil =>
   by_cases h : y = x
   ·simp [ins, look, h]
   ·simp [ins, look, h, Ne.symm h]
 | cons e r ih =>
   by_cases he : e.1 = x
   ·subst he
    by_cases h : y = e.1
    ·subst h; simp [ins, look]
    ·simp [ins, look, h, Ne.symm h]
   ·by_cases h : e.1 = y
    ·subst h; simp [ins, look, he]
    ·simp [ins, look, he, h, ih]
theorem zB2 (l : List (α × β)) (x y : α) : look (del l x) y = if y = x then none else look l y := by
 induction l with
 | nil => simp [del, look]
 | cons e r ih =>
   by_cases he : e.1 = x
   ·subst he
    by_cases h : y = e.1
    ·subst h; simp [del, ih]
    ·simp [del, look, ih, h, Ne.symm h]
   ·by_cases h : e.1 = y
    ·subst h; simp [del, look, he]
    ·simp [del, look, he, h, ih]
theorem mem_keys {l : List (α × β)} {x : α} : x ∈ l.map Prod.fst ↔ (look l x).isSome = true := by
 induction l with
 | nil => simp [look]
 | cons e r ih =>
   by_cases h : e.1 = x
   ·simp [look, h]
   ·simp [look, h, ← ih];exact fun e' => absurd e'.symm h
theorem zEk {l : List (α × β)} (h : (l.map Prod.fst).Nodup) (x : α) (b : β) : ((ins l x b).map Prod.fst).Nodup := by
 induction l with
 | nil => simp [ins]
 | cons e r ih =>
   simp only [List.map_cons, List.nodup_cons] at h;unfold ins
   by_cases he : e.1 = x
   ·simp only [he, if_true, List.map_cons, List.nodup_cons];exact ⟨by rw [← he]; exact h.1, h.2⟩
   ·simp only [he, if_false, List.map_cons, List.nodup_cons];refine ⟨fun hm => ?_, ih h.2⟩;rw [mem_keys, zAq, if_neg he, ← mem_keys] at hm;exact h.1 hm
theorem zL5 {l : List (α × β)} (h : (l.map Prod.fst).Nodup) (x : α) : ((del l x).map Prod.fst).Nodup := by
 induction l with
 | nil => simp [del]
 | cons e r ih =>
   simp only [List.map_cons, List.nodup_cons] at h;unfold del
   by_cases he : e.1 = x
   ·simp only [he, if_true]; exact ih h.2
   ·simp only [he, if_false, List.map_cons, List.nodup_cons];refine ⟨fun hm => ?_, ih h.2⟩;rw [mem_keys, zB2, if_neg he, ← mem_keys] at hm;exact h.1 hm
theorem zKc (l : List (α × β)) (x : α) (b : β) : (ins l x b).length = if (look l x).isSome then l.length else l.length + 1 := by
 induction l with
 | nil => simp [ins, look]
 | cons e r ih =>
   by_cases he : e.1 = x
   ·simp [ins, look, he]
   ·simp only [ins, look, he, if_false, List.length_cons, ih]; split <;> rfl
theorem zPz (l : List (α × β)) (x : α) : (del l x).length ≤ l.length := by
 induction l with
 | nil => simp [del]
 | cons e r ih =>
   unfold del
   split
   ·simp; omega
   ·simp; omega
theorem look_mem {l : List (α × β)} {x : α} {b : β} (h : look l x = some b) : (x, b) ∈ l := by
 induction l with
 | nil => cases h
 | cons e r ih =>
   unfold look at h
   by_cases he : e.1 = x
   ·rw [if_pos he] at h; cases h; subst he; simp
   ·rw [if_neg he] at h; exact List.mem_cons_of_mem _ (ih h)
theorem zMw {l : List (α × β)} (hn : (l.map Prod.fst).Nodup) {x : α} {b : β} (h : (x, b) ∈ l) : look l x = some b := by
 induction l with
 | nil => cases h
 | cons e r ih =>
   simp only [List.map_cons, List.nodup_cons] at hn
   rcases List.mem_cons.1 h with rfl | h
   ·simp [look]
   ·have : e.1 ≠ x := fun e' => hn.1 (by rw [e']; exact List.mem_map.2 ⟨_, h, rfl⟩)
    simp [look, this, ih hn.2 h]
end
abbrev Pth := List Str
structure Nd where
 dir : Bool
 data : List UInt8
structure Tr where
 R : List (Pth × Int)
 N : List (Int × Nd)
 next : Int
 quota : Int
def cnt (R : List (Pth × Int)) (i : Int) : Nat := R.countP fun e => decide (e.2 = i)
theorem cnt_ins (R : List (Pth × Int)) (p : Pth) (j i : Int) : cnt (ins R p j) i + (if look R p = some i then 1 else 0) = cnt R i + if j = i then 1 else 0 := by
 induction R with
 | nil => simp [ins, cnt, look]
 | cons e r ih =>
   by_cases he : e.1 = p
   ·unfold cnt;simp only [ins, look, he, if_true, List.countP_cons, Option.some.injEq, decide_eq_true_eq];omega
   ·unfold cnt at ih ⊢;simp only [ins, look, he, if_false, List.countP_cons, decide_eq_true_eq];omega
theorem cnt_del (R : List (Pth × Int)) (hn : (R.map Prod.fst).Nodup) (p : Pth) (i : Int) : cnt R i = cnt (del R p) i + if look R p = some i then 1 else 0 := by
 induction R with
 | nil => simp [del, cnt, look]
 | cons e r ih =>
   simp only [List.map_cons, List.nodup_cons] at hn;have := ih hn.2
   by_cases he : e.1 = p
   ·have h0 : look r p = none := by
     cases hl : look r p with
     | none => rfl
     | some v => exact absurd (mem_keys.2 (by rw [hl]; rfl)) (by rw [← he]; exact hn.1)
    rw [h0] at this;unfold cnt at this ⊢;simp only [del, look, he, if_true, List.countP_cons, Option.some.injEq, decide_eq_true_eq];simp at this;omega
   ·unfold cnt at this ⊢;simp only [del, look, he, if_false, List.countP_cons, decide_eq_true_eq, this];omega
theorem cnt_pos {R : List (Pth × Int)} {p : Pth} {i : Int} (h : look R p = some i) : 0 < cnt R i := by
 unfold cnt;rw [List.countP_pos_iff];exact ⟨(p, i), look_mem h, by simp⟩
theorem cnt_zero {R : List (Pth × Int)} (hn : (R.map Prod.fst).Nodup) {i : Int} (h : 0 < cnt R i) : ∃ p, look R p = some i := by
 unfold cnt at h;rw [List.countP_pos_iff] at h;obtain ⟨⟨p, j⟩, hm, hj⟩ := h;simp at hj;subst hj;exact ⟨p, zMw hn hm⟩
structure Tr.Wf (T : Tr) : Prop where
 rnd : (T.R.map Prod.fst).Nodup
 nnd : (T.N.map Prod.fst).Nodup
 root : look T.R [] = some 1
 rdir : ∃ d, look T.N 1 = some ⟨true, d⟩
 node : ∀ p i, look T.R p = some i → ∃ nd, look T.N i = some nd
 parent : ∀ p n j, look T.R (p ++ [n]) = some j → ∃ i nd, look T.R p = some i ∧ look T.N i = some nd ∧ nd.dir = true
 one : ∀ p q i nd, look T.R p = some i → look T.R q = some i → look T.N i = some nd → nd.dir = true → p = q
 less : ∀ i nd, look T.N i = some nd → 1 ≤ i ∧ i < T.next
 has : ∀ i nd, look T.N i = some nd → nd.dir = true → ∃ p, look T.R p = some i
def Tr.made (T : Tr) (p : Pth) (nd : Nd) : Tr := { T with R := ins T.R p T.next, N := ins T.N T.next nd, next := T.next + 1 }
def Tr.wrote (T : Tr) (i : Int) (d : List UInt8) : Tr := { T with N := ins T.N i ⟨false, d⟩ }
def Tr.unlinked (T : Tr) (p : Pth) : Tr := { T with R := del T.R p }
def Tr.linked (T : Tr) (q : Pth) (i : Int) : Tr := { T with R := ins T.R q i }
def Tr.moved (T : Tr) (p q : Pth) (i : Int) : Tr := { T with R := ins (del T.R p) q i }
def Tr.swept (T : Tr) : Tr := { T with N := T.N.filter fun e => decide (cnt T.R e.1 ≠ 0) }
theorem look_filter {α β : Type} [DecidableEq α] (f : α → Bool) (l : List (α × β)) (x : α) : look (l.filter fun e => f e.1) x = if f x then look l x else none := by
 induction l with
 | nil => simp [look]
 | cons e r ih =>
   by_cases hf : f e.1 = true
   ·rw [List.filter_cons_of_pos (by simpa using hf)]
    by_cases he : e.1 = x
    ·subst he; simp [look, hf]
    ·simp [look, he, ih]
   ·rw [List.filter_cons_of_neg (by simpa using hf)]
    by_cases he : e.1 = x
    ·subst he; simp [ih, hf]
    ·simp [look, he, ih]
theorem zDp (T : Tr) (i : Int) : look T.swept.N i = if cnt T.R i = 0 then none else look T.N i := by
 unfold Tr.swept;rw [look_filter (fun i => decide (cnt T.R i ≠ 0))]
 by_cases h : cnt T.R i = 0 <;> simp [h]
section
variable {T : Tr}
theorem Tr.Wf.notNext (h : T.Wf) {p : Pth} {i : Int} (hp : look T.R p = some i) : i ≠ T.next := by
 obtain ⟨nd, hnd⟩ := h.node p i hp;have := (h.less _ _ hnd).2;omega
theorem Tr.Wf.nextPos (h : T.Wf) : 1 < T.next := by
 obtain ⟨nd, hnd⟩ := h.node _ _ h.root;exact (h.less _ _ hnd).2
theorem app_inj {p q : Pth} {m n : Str} : p ++ [m] = q ++ [n] ↔ p = q ∧ m = n := by
 constructor
 ·intro h;have := List.append_inj' h rfl;exact ⟨this.1, by simpa using this.2⟩
 ·rintro ⟨rfl, rfl⟩; rfl
theorem Tr.Wf.noKids (h : T.Wf) {p : Pth} {i : Int} {nd : Nd} (hp : look T.R p = some i) (hi : look T.N i = some nd) (hd : nd.dir = false) (n : Str) : look T.R (p ++ [n]) = none := by
 cases hl : look T.R (p ++ [n]) with
 | none => rfl
 | some j =>
   obtain ⟨i', nd', h1, h2, h3⟩ := h.parent _ _ _ hl;rw [hp] at h1; cases h1;rw [hi] at h2; cases h2;rw [hd] at h3; cases h3
theorem Tr.Wf.noKids0 (h : T.Wf) {p : Pth} (hp : look T.R p = none) (n : Str) : look T.R (p ++ [n]) = none := by
 cases hl : look T.R (p ++ [n]) with
 | none => rfl
 | some j =>
   obtain ⟨i', nd', h1, -⟩ := h.parent _ _ _ hl;rw [hp] at h1; cases h1
theorem Tr.Wf.made (h : T.Wf) {d : Pth} {n : Str} {i : Int} {x : Nd} (hd : look T.R d = some i) (hi : look T.N i = some x) (hx : x.dir = true) (hp : look T.R (d ++ [n]) = none) (nd : Nd) : (T.made (d ++ [n]) nd).Wf where
 rnd := zEk h.rnd _ _
 nnd := zEk h.nnd _ _
 root := by
  show look (ins T.R _ _) _ = _;rw [zAq, if_neg (by simp)]; exact h.root
 rdir := by
  obtain ⟨y, hy⟩ := h.rdir;refine ⟨y, ?_⟩;show look (ins T.N _ _) _ = _;rw [zAq, if_neg (by have := h.nextPos; omega)]; exact hy
 node := fun p j hj => by
  show ∃ nd', look (ins T.N _ _) _ = _
  change look (ins T.R _ _) _ = _ at hj
  rw [zAq] at hj;rw [zAq]
  by_cases hpp : p = d ++ [n]
  ·rw [if_pos hpp] at hj; cases hj;exact ⟨nd, if_pos rfl⟩
  ·rw [if_neg hpp] at hj;rw [if_neg (h.notNext hj)];exact h.node _ _ hj
 parent := fun p m j hj => by
  show ∃ i' nd', look (ins T.R _ _) _ = _ ∧ look (ins T.N _ _) _ = _ ∧ _
  change look (ins T.R _ _) _ = _ at hj
  rw [zAq] at hj;simp only [zAq]
  by_cases hpp : p ++ [m] = d ++ [n]
  ·obtain ⟨rfl, rfl⟩ := app_inj.1 hpp;refine ⟨i, x, ?_, ?_, hx⟩
   ·rw [if_neg (by intro e; have := congrArg List.length e; simp at this)]; exact hd
   ·rw [if_neg (h.notNext hd)]; exact hi
  ·rw [if_neg hpp] at hj;obtain ⟨i', nd', h1, h2, h3⟩ := h.parent _ _ _ hj;refine ⟨i', nd', ?_, ?_, h3⟩
   ·rw [if_neg]; · exact h1
    rintro rfl;rw [hp] at h1; cases h1
   ·rw [if_neg (h.notNext h1)]; exact h2
 one := fun p q j y hp' hq' hj hy => by
  change look (ins T.R _ _) _ = _ at hp'
  change look (ins T.R _ _) _ = _ at hq'
  change look (ins T.N _ _) _ = _ at hj
  rw [zAq] at hp' hq' hj
  by_cases e1 : p = d ++ [n] <;> by_cases e2 : q = d ++ [n]
  ·rw [e1, e2]
  ·rw [if_pos e1] at hp'; rw [if_neg e2] at hq'; cases hp';exact absurd rfl (h.notNext hq')
  ·rw [if_pos e2] at hq'; rw [if_neg e1] at hp'; cases hq';exact absurd rfl (h.notNext hp')
  ·rw [if_neg e1] at hp'; rw [if_neg e2] at hq';rw [if_neg (h.notNext hp')] at hj;exact h.one _ _ _ _ hp' hq' hj hy
 less := fun j y hj => by
  change look (ins T.N _ _) _ = _ at hj
  show 1 ≤ j ∧ j < T.next + 1;rw [zAq] at hj
  by_cases e : j = T.next
  ·have := h.nextPos; omega
  ·rw [if_neg e] at hj; have := h.less _ _ hj; omega
 has := fun j y hj hy => by
  change look (ins T.N _ _) _ = _ at hj
  show ∃ p, look (ins T.R _ _) _ = _;rw [zAq] at hj
  by_cases e : j = T.next
  ·exact ⟨d ++ [n], by rw [zAq, if_pos rfl, e]⟩
  ·rw [if_neg e] at hj;obtain ⟨p, hp'⟩ := h.has _ _ hj hy;refine ⟨p, ?_⟩
   rw [zAq, if_neg]; · exact hp'
   rintro rfl;rw [hp] at hp'; cases hp'
theorem Tr.Wf.wrote (h : T.Wf) {i : Int} {x : Nd} (hi : look T.N i = some x) (hx : x.dir = false) (d : List UInt8) : (T.wrote i d).Wf where
 rnd := h.rnd
 nnd := zEk h.nnd _ _
 root := h.root
 rdir := by
  obtain ⟨y, hy⟩ := h.rdir;refine ⟨y, ?_⟩;show look (ins T.N _ _) _ = _
  rw [zAq, if_neg]; · exact hy
  rintro rfl;rw [hy] at hi; cases hi; cases hx
 node := fun p j hj => by
  show ∃ nd', look (ins T.N _ _) _ = _;rw [zAq]
  by_cases e : j = i
  ·exact ⟨_, if_pos e⟩
  ·rw [if_neg e]; exact h.node p j hj
 parent := fun p m j hj => by
  obtain ⟨i', nd', h1, h2, h3⟩ := h.parent p m j hj;refine ⟨i', nd', h1, ?_, h3⟩;show look (ins T.N _ _) _ = _
  rw [zAq, if_neg]; · exact h2
  rintro rfl;rw [hi] at h2; cases h2; rw [hx] at h3; cases h3
 one := fun p q j y hp hq hj hy => by
  change look (ins T.N _ _) _ = _ at hj
  rw [zAq] at hj
  by_cases e : j = i
  ·rw [if_pos e] at hj; cases hj; cases hy
  ·rw [if_neg e] at hj; exact h.one _ _ _ _ hp hq hj hy
 less := fun j y hj => by
  change look (ins T.N _ _) _ = _ at hj
  rw [zAq] at hj
  by_cases e : j = i
  ·subst e; exact h.less _ _ hi
  ·rw [if_neg e] at hj; exact h.less _ _ hj
 has := fun j y hj hy => by
  change look (ins T.N _ _) _ = _ at hj
  rw [zAq] at hj
  by_cases e : j = i
  ·rw [if_pos e] at hj; cases hj; cases hy
  ·rw [if_neg e] at hj; exact h.has _ _ hj hy
theorem Tr.Wf.unlinked (h : T.Wf) {p : Pth} {i : Int} {x : Nd} (hp : look T.R p = some i) (hi : look T.N i = some x) (hx : x.dir = false) : (T.unlinked p).Wf where
 rnd := zL5 h.rnd _
 nnd := h.nnd
 root := by
  show look (del T.R _) _ = _
  rw [zB2, if_neg]; · exact h.root
  rintro rfl;obtain rfl : i = 1 := by have := h.root; rw [hp] at this; exact Option.some.inj this
  obtain ⟨y, hy⟩ := h.rdir;rw [hy] at hi; cases hi; cases hx
 rdir := h.rdir
 node := fun q j hj => by
  change look (del T.R _) _ = _ at hj
  rw [zB2] at hj
  by_cases e : q = p
  ·rw [if_pos e] at hj; cases hj
  ·rw [if_neg e] at hj; exact h.node _ _ hj
 parent := fun q m j hj => by
  change look (del T.R _) _ = _ at hj
  show ∃ i' nd', look (del T.R _) _ = _ ∧ _;rw [zB2] at hj
  by_cases e : q ++ [m] = p
  ·rw [if_pos e] at hj; cases hj
  ·rw [if_neg e] at hj;obtain ⟨i', nd', h1, h2, h3⟩ := h.parent q m j hj;refine ⟨i', nd', ?_, h2, h3⟩
   rw [zB2, if_neg]; · exact h1
   rintro rfl;rw [hp] at h1; cases h1; rw [hi] at h2; cases h2; rw [hx] at h3; cases h3
 one := fun q r j y hq hr hj hy => by
  change look (del T.R _) _ = _ at hq
  change look (del T.R _) _ = _ at hr
  rw [zB2] at hq hr
  by_cases e1 : q = p
  ·rw [if_pos e1] at hq; cases hq
  ·by_cases e2 : r = p
   ·rw [if_pos e2] at hr; cases hr
   ·rw [if_neg e1] at hq; rw [if_neg e2] at hr; exact h.one _ _ _ _ hq hr hj hy
 less := h.less
 has := fun j y hj hy => by
  change look T.N _ = _ at hj
  obtain ⟨q, hq⟩ := h.has j y hj hy;refine ⟨q, ?_⟩;show look (del T.R _) _ = _
  rw [zB2, if_neg]; · exact hq
  rintro rfl;rw [hp] at hq; cases hq; rw [hi] at hj; cases hj; rw [hx] at hy; cases hy
theorem Tr.Wf.linked (h : T.Wf) {d : Pth} {n : Str} {di i : Int} {x y : Nd} {p : Pth} (hd : look T.R d = some di) (hdi : look T.N di = some x) (hx : x.dir = true) (hq : look T.R (d ++ [n]) = none) (_ : look T.R p = some i) (hi : look T.N i = some y) (hy : y.dir = false) : (T.linked (d ++ [n]) i).Wf where
 rnd := zEk h.rnd _ _
 nnd := h.nnd
 root := by
  show look (ins T.R _ _) _ = _;rw [zAq, if_neg (by simp)]; exact h.root
 rdir := h.rdir
 node := fun r j hj => by
  change look (ins T.R _ _) _ = _ at hj
  rw [zAq] at hj
  by_cases e : r = d ++ [n]
  ·rw [if_pos e] at hj; cases hj; exact ⟨y, hi⟩
  ·rw [if_neg e] at hj; exact h.node _ _ hj
 parent := fun r m j hj => by
  change look (ins T.R _ _) _ = _ at hj
  show ∃ i' nd', look (ins T.R _ _) _ = _ ∧ look T.N _ = _ ∧ _;rw [zAq] at hj;simp only [zAq]
  by_cases e : r ++ [m] = d ++ [n]
  ·obtain ⟨rfl, rfl⟩ := app_inj.1 e;refine ⟨di, x, ?_, hdi, hx⟩;rw [if_neg (by intro e; have := congrArg List.length e; simp at this)]; exact hd
  ·rw [if_neg e] at hj;obtain ⟨i', nd', h1, h2, h3⟩ := h.parent _ _ _ hj;refine ⟨i', nd', ?_, h2, h3⟩
   rw [if_neg]; · exact h1
   rintro rfl;rw [hq] at h1; cases h1
 one := fun r s j z hr hs hj hz => by
  change look (ins T.R _ _) _ = _ at hr
  change look (ins T.R _ _) _ = _ at hs
  change look T.N _ = _ at hj
  rw [zAq] at hr hs
  by_cases e1 : r = d ++ [n]
  ·rw [if_pos e1] at hr; cases hr; rw [hi] at hj; cases hj; rw [hy] at hz; cases hz
  ·by_cases e2 : s = d ++ [n]
   ·rw [if_pos e2] at hs; cases hs; rw [hi] at hj; cases hj; rw [hy] at hz; cases hz
   ·rw [if_neg e1] at hr; rw [if_neg e2] at hs; exact h.one _ _ _ _ hr hs hj hz
 less := h.less
 has := fun j z hj hz => by
  change look T.N _ = _ at hj
  obtain ⟨r, hr⟩ := h.has j z hj hz;refine ⟨r, ?_⟩;show look (ins T.R _ _) _ = _
  rw [zAq, if_neg]; · exact hr
  rintro rfl;rw [hq] at hr; cases hr
theorem zBq (T : Tr) (p q r : Pth) (i : Int) : look (T.moved p q i).R r = if r = q then some i else if r = p then none else look T.R r := by
 show look (ins (del T.R p) q i) r = _;rw [zAq, zB2]
theorem Tr.Wf.moved (h : T.Wf) {d : Pth} {n : Str} {di i : Int} {x y : Nd} {p : Pth} (hd : look T.R d = some di) (hdi : look T.N di = some x) (hx : x.dir = true) (hq : ∀ j z, look T.R (d ++ [n]) = some j → look T.N j = some z → z.dir = false) (hp : look T.R p = some i) (hi : look T.N i = some y) (hy : y.dir = false) : (T.moved p (d ++ [n]) i).Wf := by
 have hpd : d ≠ p := by rintro rfl; rw [hd] at hp; cases hp; rw [hdi] at hi; cases hi; rw [hx] at hy; cases hy
 have key : ∀ r j z, look T.R r = some j → look T.N j = some z → z.dir = true → look (T.moved p (d ++ [n]) i).R r = some j := by
  intro r j z hr hj hz;rw [zBq, if_neg, if_neg]
  ·exact hr
  ·rintro rfl; rw [hp] at hr; cases hr; rw [hi] at hj; cases hj; rw [hy] at hz; cases hz
  ·rintro rfl; have := hq j z hr hj; rw [hz] at this; cases this
 refine ⟨zEk (zL5 h.rnd _) _ _, h.nnd, ?_, h.rdir, ?_, ?_, ?_, h.less, ?_⟩
 ·obtain ⟨z, hz⟩ := h.rdir;exact key _ _ _ h.root hz rfl
 ·intro r j hj;rw [zBq] at hj
  by_cases e1 : r = d ++ [n]
  ·rw [if_pos e1] at hj; cases hj; exact ⟨y, hi⟩
  ·rw [if_neg e1] at hj
   by_cases e2 : r = p
   ·rw [if_pos e2] at hj; cases hj
   ·rw [if_neg e2] at hj; exact h.node _ _ hj
 ·intro r m j hj;rw [zBq] at hj
  by_cases e1 : r ++ [m] = d ++ [n]
  ·obtain ⟨rfl, rfl⟩ := app_inj.1 e1;exact ⟨di, x, key _ _ _ hd hdi hx, hdi, hx⟩
  ·rw [if_neg e1] at hj
   by_cases e2 : r ++ [m] = p
   ·rw [if_pos e2] at hj; cases hj
   ·rw [if_neg e2] at hj;obtain ⟨i', nd', h1, h2, h3⟩ := h.parent _ _ _ hj;exact ⟨i', nd', key _ _ _ h1 h2 h3, h2, h3⟩
 ·intro r s j z hr hs hj hz
  change look T.N _ = _ at hj
  have back : ∀ r, look (T.moved p (d ++ [n]) i).R r = some j → look T.R r = some j := by
   intro r hr;rw [zBq] at hr
   by_cases e1 : r = d ++ [n]
   ·rw [if_pos e1] at hr; cases hr; rw [hi] at hj; cases hj; rw [hy] at hz; cases hz
   ·rw [if_neg e1] at hr
    by_cases e2 : r = p
    ·rw [if_pos e2] at hr; cases hr
    ·rw [if_neg e2] at hr; exact hr
  exact h.one _ _ _ _ (back r hr) (back s hs) hj hz
 ·intro j z hj hz
  change look T.N _ = _ at hj
  obtain ⟨r, hr⟩ := h.has j z hj hz;exact ⟨r, key _ _ _ hr hj hz⟩
theorem zFf {p : Pth} {i : Int} (hp : look T.R p = some i) : look T.swept.N i = look T.N i := by
 have := cnt_pos hp;rw [zDp, if_neg (by omega)]
theorem zEn {i : Int} {x : Nd} (h : look T.swept.N i = some x) : look T.N i = some x := by
 rw [zDp] at h
 split at h
 ·cases h
 ·exact h
theorem keys_filter {α β : Type} (f : α × β → Bool) {l : List (α × β)} (h : (l.map Prod.fst).Nodup) : ((l.filter f).map Prod.fst).Nodup :=
 h.sublist (List.filter_sublist.map Prod.fst)
theorem Tr.Wf.swept (h : T.Wf) : T.swept.Wf where
 rnd := h.rnd
 nnd := keys_filter _ h.nnd
 root := h.root
 rdir := by
  obtain ⟨y, hy⟩ := h.rdir;exact ⟨y, (zFf (T := T) h.root).trans hy⟩
 node := fun p i hp => by
  obtain ⟨x, hx⟩ := h.node p i hp;exact ⟨x, (zFf (T := T) hp).trans hx⟩
 parent := fun p n j hj => by
  obtain ⟨i, x, h1, h2, h3⟩ := h.parent p n j hj;exact ⟨i, x, h1, (zFf (T := T) h1).trans h2, h3⟩
 one := fun p q i x hp hq hi hx => h.one _ _ _ _ hp hq (zEn hi) hx
 less := fun i x hi => h.less _ _ (zEn hi)
 has := fun i x hi hx => h.has _ _ (zEn hi) hx
end
structure OpP where
 kind : Nat
 path : Str
 to : Str
 data : List UInt8
def namesGo : Str → Str → Pth
 | [], acc => [acc]
 | c :: r, acc => if c = 47 then acc :: namesGo r [] else namesGo r (acc ++ [c])
def names (s : Str) : Pth := if s = [47] then [] else namesGo (s.drop 1) []
structure Tr.In (T : Tr) (p : Pth) (d : Pth) (n : Str) (di : Int) : Prop where
 path : p = d ++ [n]
 at_ : look T.R d = some di
 dir : ∃ x, look T.N di = some x ∧ x.dir = true
inductive StepT (T : Tr) (o : OpP) : Tr → Prop
 | mkdir {d n di} : o.kind = 0 → T.In (names o.path) d n di → look T.R (d ++ [n]) = none → StepT T o (T.made (d ++ [n]) ⟨true, []⟩)
 | create {d n di} : o.kind = 2 → T.In (names o.path) d n di → look T.R (d ++ [n]) = none → StepT T o (T.made (d ++ [n]) ⟨false, o.data⟩)
 | write {d n di i x} : o.kind = 3 → T.In (names o.path) d n di → look T.R (d ++ [n]) = some i → look T.N i = some ⟨false, x⟩ → StepT T o (T.wrote i o.data)
 | unlink {d n di i x} : o.kind = 6 → T.In (names o.path) d n di → look T.R (d ++ [n]) = some i → look T.N i = some ⟨false, x⟩ → StepT T o (T.unlinked (d ++ [n]))
 | link {d n di i x d' n' di'} : o.kind = 4 → T.In (names o.path) d n di → look T.R (d ++ [n]) = some i → look T.N i = some ⟨false, x⟩ → T.In (names o.to) d' n' di' → look T.R (d' ++ [n']) = none → StepT T o (T.linked (d' ++ [n']) i)
 | move0 {d n di i x d' n' di'} : o.kind = 5 → T.In (names o.path) d n di → look T.R (d ++ [n]) = some i → look T.N i = some ⟨false, x⟩ → T.In (names o.to) d' n' di' → look T.R (d' ++ [n']) = none → StepT T o (T.moved (d ++ [n]) (d' ++ [n']) i)
 | move1 {d n di i x d' n' di' j y} : o.kind = 5 → T.In (names o.path) d n di → look T.R (d ++ [n]) = some i → look T.N i = some ⟨false, x⟩ → T.In (names o.to) d' n' di' → look T.R (d' ++ [n']) = some j → look T.N j = some ⟨false, y⟩ → j ≠ i → StepT T o (T.moved (d ++ [n]) (d' ++ [n']) i)
theorem StepT.wf {T T' : Tr} {o : OpP} (h : T.Wf) (s : StepT T o T') : T'.Wf := by
 cases s with
 | mkdir _ h2 h3 => obtain ⟨x, hx, hd⟩ := h2.dir; exact h.made h2.at_ hx hd h3 _
 | create _ h2 h3 => obtain ⟨x, hx, hd⟩ := h2.dir; exact h.made h2.at_ hx hd h3 _
 | write _ _ _ h4 => exact h.wrote h4 rfl _
 | unlink _ _ h3 h4 => exact h.unlinked h3 h4 rfl
 | link _ _ h3 h4 h5 h6 => obtain ⟨x, hx, hd⟩ := h5.dir; exact h.linked h5.at_ hx hd h6 h3 h4 rfl
 | move0 _ _ h3 h4 h5 h6 => obtain ⟨x, hx, hd⟩ := h5.dir; exact h.moved h5.at_ hx hd (fun j z hj _ => by rw [h6] at hj; cases hj) h3 h4 rfl
 | move1 _ _ h3 h4 h5 h6 h7 _ => obtain ⟨x, hx, hd⟩ := h5.dir; exact h.moved h5.at_ hx hd (fun j z hj hz => by rw [h6] at hj; cases hj; rw [h7] at hz; cases hz; rfl) h3 h4 rfl
theorem StepT.facts {T T' : Tr} {o : OpP} (s : StepT T o T') : T'.N.length ≤ T.N.length + 1 ∧ T.next ≤ T'.next ∧ T'.next ≤ T.next + 1 ∧ T'.quota = T.quota ∧ ∀ i x, look T'.N i = some x → look T.N i = some x ∨ x.data = [] ∨ x.data = o.data := by
 have hm : ∀ p nd, (T.made p nd).N.length ≤ T.N.length + 1 := fun p nd => by
  show (ins T.N _ _).length ≤ _
  rw [zKc]; split <;> omega
 have hw : ∀ i d, (T.wrote i d).N.length ≤ T.N.length + 1 := fun p nd => by
  show (ins T.N _ _).length ≤ _
  rw [zKc]; split <;> omega
 have hmi : ∀ (p : Pth) (nd : Nd) i x, look (T.made p nd).N i = some x → look T.N i = some x ∨ x.data = nd.data := fun p nd i x h => by
  change look (ins T.N _ _) _ = _ at h
  rw [zAq] at h
  by_cases e : i = T.next
  ·rw [if_pos e] at h; cases h; exact .inr rfl
  ·rw [if_neg e] at h; exact .inl h
 cases s with
 | mkdir => exact ⟨hm _ _, by show T.next ≤ T.next + 1; omega, by show T.next + 1 ≤ T.next + 1; omega, rfl, fun i x h => (hmi _ _ i x h).imp id .inl⟩
 | create => exact ⟨hm _ _, by show T.next ≤ T.next + 1; omega, by show T.next + 1 ≤ T.next + 1; omega, rfl, fun i x h => (hmi _ _ i x h).imp id .inr⟩
 | write => exact ⟨hw _ _, by show T.next ≤ T.next; omega, by show T.next ≤ T.next + 1; omega, rfl, fun i x h => by
   change look (ins T.N _ _) _ = _ at h
   rw [zAq] at h
   split at h
   ·cases h; exact .inr (.inr rfl)
   ·exact .inl h⟩
 | unlink => exact ⟨by show T.N.length ≤ _; omega, by show T.next ≤ T.next; omega, by show T.next ≤ T.next + 1; omega, rfl, fun i x h => .inl h⟩
 | link => exact ⟨by show T.N.length ≤ _; omega, by show T.next ≤ T.next; omega, by show T.next ≤ T.next + 1; omega, rfl, fun i x h => .inl h⟩
 | move0 => exact ⟨by show T.N.length ≤ _; omega, by show T.next ≤ T.next; omega, by show T.next ≤ T.next + 1; omega, rfl, fun i x h => .inl h⟩
 | move1 => exact ⟨by show T.N.length ≤ _; omega, by show T.next ≤ T.next; omega, by show T.next ≤ T.next + 1; omega, rfl, fun i x h => .inl h⟩
structure VIs (T : Tr) (V : List (Pth × Nd)) (sh : List Pth) : Prop where
 wf : T.Wf
 val : ∀ p, (look T.R p).bind (look T.N) = look V p
 vnd : (V.map Prod.fst).Nodup
 uniq : ∀ p q i, p ∉ sh → look T.R p = some i → look T.R q = some i → p = q
def zGl (V : List (Pth × Nd)) (p : Pth) : Bool := match look V p with
 | some x => x.dir
 | none => false
def opV (V : List (Pth × Nd)) (sh : List Pth) (o : OpP) : Option (List (Pth × Nd) × List Pth) :=
 if names o.path = [] then none else if zGl V (names o.path).dropLast = false then none else
 match o.kind, look V (names o.path) with
 | 0, none => some (ins V (names o.path) ⟨true, []⟩, sh)
 | 2, none => some (ins V (names o.path) ⟨false, o.data⟩, sh)
 | 3, some ⟨false, _⟩ => if names o.path ∈ sh then none else some (ins V (names o.path) ⟨false, o.data⟩, sh)
 | 6, some ⟨false, _⟩ => some (del V (names o.path), sh)
 | 4, some ⟨false, x⟩ => if names o.to = [] then none else if zGl V (names o.to).dropLast = false then none else
   match look V (names o.to) with
   | none => some (ins V (names o.to) ⟨false, x⟩, names o.path :: names o.to :: sh)
   | _ => none
 | 5, some ⟨false, x⟩ => if names o.to = [] then none else if zGl V (names o.to).dropLast = false then none else if names o.path ∈ sh then none else if names o.path = names o.to then none else if zGl V (names o.to) = true then none else
   some (ins (del V (names o.path)) (names o.to) ⟨false, x⟩, sh.filter fun q => decide (q ≠ names o.to))
 | _, _ => none
section
variable {T : Tr} {V : List (Pth × Nd)} {sh : List Pth}
theorem VIs.get (h : VIs T V sh) {p : Pth} {x : Nd} (hx : look V p = some x) : ∃ i, look T.R p = some i ∧ look T.N i = some x := by
 rw [← h.val] at hx
 cases hr : look T.R p with
 | none => rw [hr] at hx; cases hx
 | some i => rw [hr] at hx; exact ⟨i, rfl, hx⟩
theorem VIs.absent (h : VIs T V sh) {p : Pth} (hx : look V p = none) : look T.R p = none := by
 rw [← h.val] at hx
 cases hr : look T.R p with
 | none => rfl
 | some i =>
   obtain ⟨x, hi⟩ := h.wf.node _ _ hr;rw [hr] at hx; change look T.N i = _ at hx; rw [hi] at hx; cases hx
theorem VIs.in_ (h : VIs T V sh) {p : Pth} (hp : p ≠ []) (hd : zGl V p.dropLast = true) : ∃ d n di, T.In p d n di ∧ p = d ++ [n] ∧ p.dropLast = d := by
 obtain ⟨d, n, rfl⟩ : ∃ d n, p = d ++ [n] := ⟨p.dropLast, p.getLast hp, (List.dropLast_concat_getLast hp).symm⟩
 rw [List.dropLast_concat] at hd ⊢;unfold zGl at hd
 cases hl : look V d with
 | none => rw [hl] at hd; cases hd
 | some x =>
   rw [hl] at hd;obtain ⟨i, h1, h2⟩ := h.get hl;exact ⟨d, n, i, ⟨rfl, h1, x, h2, hd⟩, rfl, rfl⟩
theorem VIs.made (h : VIs T V sh) {p d : Pth} {n : Str} {di : Int} (hin : T.In p d n di) (hp : p = d ++ [n]) (hn : look V p = none) (nd : Nd) : VIs (T.made (d ++ [n]) nd) (ins V p nd) sh := by
 subst hp;have hr := h.absent hn;obtain ⟨x, hx, hxd⟩ := hin.dir;refine ⟨h.wf.made hin.at_ hx hxd hr nd, fun q => ?_, zEk h.vnd _ _, fun q r i hq h1 h2 => ?_⟩
 ·show (look (ins T.R _ _) q).bind (look (ins T.N _ _)) = _;rw [zAq, zAq]
  by_cases e : q = d ++ [n]
  ·rw [if_pos e, if_pos e]; show look (ins T.N _ _) _ = _; rw [zAq, if_pos rfl]
  ·rw [if_neg e, if_neg e, ← h.val q]
   cases hq : look T.R q with
   | none => rfl
   | some i =>
     show look (ins T.N _ _) i = look T.N i;rw [zAq, if_neg (h.wf.notNext hq)]
 ·change look (ins T.R _ _) q = _ at h1
  change look (ins T.R _ _) r = _ at h2
  rw [zAq] at h1 h2
  by_cases e1 : q = d ++ [n] <;> by_cases e2 : r = d ++ [n]
  ·rw [e1, e2]
  ·rw [if_pos e1] at h1; rw [if_neg e2] at h2; cases h1; exact absurd rfl (h.wf.notNext h2)
  ·rw [if_pos e2] at h2; rw [if_neg e1] at h1; cases h2; exact absurd rfl (h.wf.notNext h1)
  ·rw [if_neg e1] at h1; rw [if_neg e2] at h2; exact h.uniq _ _ _ hq h1 h2
theorem opV_sound (h : VIs T V sh) {o : OpP} {V' : List (Pth × Nd)} {sh' : List Pth} (ho : opV V sh o = some (V', sh')) : ∃ T', StepT T o T' ∧ VIs T' V' sh' := by
 unfold opV at ho
 split at ho
 ·cases ho
 rename_i hp0
 split at ho
 ·cases ho
 rename_i hd0;obtain ⟨d, n, di, hin, hpe, hdl⟩ := h.in_ hp0 (by simpa using hd0)
 split at ho
 ·rename_i hk hl;cases ho;exact ⟨_, .mkdir hk hin (by rw [← hpe]; exact h.absent hl), h.made hin hpe hl _⟩
 ·rename_i hk hl;cases ho;exact ⟨_, .create hk hin (by rw [← hpe]; exact h.absent hl), h.made hin hpe hl _⟩
 ·rename_i x hk hl
  split at ho
  ·cases ho
  rename_i hns;cases ho;obtain ⟨i, h1, h2⟩ := h.get hl;refine ⟨_, .write hk hin (by rw [← hpe]; exact h1) h2, h.wf.wrote h2 rfl _, fun q => ?_, zEk h.vnd _ _, h.uniq⟩;show (look T.R q).bind (look (ins T.N _ _)) = _;rw [zAq]
  by_cases e : q = names o.path
  ·rw [if_pos e, e, h1]; show look (ins T.N _ _) _ = _; rw [zAq, if_pos rfl]
  ·rw [if_neg e, ← h.val q]
   cases hq : look T.R q with
   | none => rfl
   | some j =>
     show look (ins T.N _ _) j = look T.N j;rw [zAq, if_neg];rintro rfl;exact e (h.uniq _ _ _ hns h1 hq).symm
 ·rename_i x hk hl;cases ho;obtain ⟨i, h1, h2⟩ := h.get hl;refine ⟨_, .unlink hk hin (by rw [← hpe]; exact h1) h2, h.wf.unlinked (by rw [← hpe]; exact h1) h2 rfl, fun q => ?_, zL5 h.vnd _, fun q r j hq h3 h4 => ?_⟩
  ·show (look (del T.R _) q).bind (look T.N) = _;rw [zB2, zB2, ← hpe]
   by_cases e : q = names o.path
   ·rw [if_pos e, if_pos e]; rfl
   ·rw [if_neg e, if_neg e, ← h.val q]
  ·change look (del T.R _) q = _ at h3
   change look (del T.R _) r = _ at h4
   rw [zB2] at h3 h4
   split at h3
   ·cases h3
   ·split at h4
    ·cases h4
    ·exact h.uniq _ _ _ hq h3 h4
 ·rename_i x hk hl
  split at ho
  ·cases ho
  rename_i hq0
  split at ho
  ·cases ho
  rename_i hqd;obtain ⟨d', n', di', hin', hqe, hql⟩ := h.in_ hq0 (by simpa using hqd)
  split at ho
  ·rename_i hq;cases ho;obtain ⟨i, h1, h2⟩ := h.get hl;have hr := h.absent hq;obtain ⟨y, hy, hyd⟩ := hin'.dir;refine ⟨_, .link hk hin (by rw [← hpe]; exact h1) h2 hin' (by rw [← hqe]; exact hr), h.wf.linked hin'.at_ hy hyd (by rw [← hqe]; exact hr) h1 h2 rfl, fun q => ?_, zEk h.vnd _ _, fun q r j hq3 h3 h4 => ?_⟩
   ·show (look (ins T.R _ _) q).bind (look T.N) = _;rw [zAq, zAq, ← hqe]
    by_cases e : q = names o.to
    ·rw [if_pos e, if_pos e]; exact h2
    ·rw [if_neg e, if_neg e, ← h.val q]
   ·simp only [List.mem_cons, not_or] at hq3;obtain ⟨g1, g2, g3⟩ := hq3
    change look (ins T.R _ _) q = _ at h3
    change look (ins T.R _ _) r = _ at h4
    rw [zAq, ← hqe] at h3 h4;rw [if_neg g2] at h3
    by_cases e : r = names o.to
    ·rw [if_pos e] at h4; cases h4;exact absurd (h.uniq _ _ _ g3 h3 h1) g1
    ·rw [if_neg e] at h4; exact h.uniq _ _ _ g3 h3 h4
  ·cases ho
 ·rename_i x hk hl
  split at ho
  ·cases ho
  rename_i hq0
  split at ho
  ·cases ho
  rename_i hqd
  split at ho
  ·cases ho
  rename_i hns
  split at ho
  ·cases ho
  rename_i hne
  split at ho
  ·cases ho
  rename_i hqf;cases ho;obtain ⟨d', n', di', hin', hqe, hql⟩ := h.in_ hq0 (by simpa using hqd);obtain ⟨i, h1, h2⟩ := h.get hl;obtain ⟨y, hy, hyd⟩ := hin'.dir
  have hfile : ∀ j z, look T.R (d' ++ [n']) = some j → look T.N j = some z → z.dir = false := by
   intro j z hj hz;have := h.val (names o.to);rw [hqe, hj] at this
   change look T.N j = _ at this
   rw [hz] at this;unfold zGl at hqf;rw [hqe, ← this] at hqf;simpa using hqf
  have hst : StepT T o (T.moved (d ++ [n]) (d' ++ [n']) i) := by
   cases hj : look T.R (d' ++ [n']) with
   | none => exact .move0 hk hin (by rw [← hpe]; exact h1) h2 hin' hj
   | some j =>
     obtain ⟨z, hz⟩ := h.wf.node _ _ hj;have hzf := hfile j z hj hz;obtain ⟨zd, zx⟩ := z;cases hzf;refine .move1 hk hin (by rw [← hpe]; exact h1) h2 hin' hj hz ?_;rintro rfl;exact hne (h.uniq _ _ _ hns h1 (by rw [hqe]; exact hj))
  refine ⟨_, hst, hst.wf h.wf, fun q => ?_, zEk (zL5 h.vnd _) _ _, fun q r j hq3 h3 h4 => ?_⟩
  ·rw [zBq, zAq, zB2, ← hpe, ← hqe];show Option.bind _ (look T.N) = _
   by_cases e1 : q = names o.to
   ·rw [if_pos e1, if_pos e1]; exact h2
   ·by_cases e2 : q = names o.path
    ·rw [if_neg e1, if_neg e1, if_pos e2, if_pos e2]; rfl
    ·rw [if_neg e1, if_neg e1, if_neg e2, if_neg e2, ← h.val q]
  ·rw [zBq, ← hpe, ← hqe] at h3 h4
   have hq4 : q = names o.to ∨ q ∉ sh := by
    by_cases e : q = names o.to
    ·exact .inl e
    ·refine .inr fun hm => hq3 (List.mem_filter.2 ⟨hm, by simpa using e⟩)
   by_cases e1 : q = names o.to
   ·rw [if_pos e1] at h3; cases h3
    by_cases e2 : r = names o.to
    ·rw [e1, e2]
    ·rw [if_neg e2] at h4
     split at h4
     ·cases h4
     ·rename_i e3;exact absurd (h.uniq _ _ _ hns h1 h4).symm e3
   ·rw [if_neg e1] at h3
    split at h3
    ·cases h3
    ·rename_i e3
     by_cases e2 : r = names o.to
     ·rw [if_pos e2] at h4; cases h4;exact absurd (h.uniq _ _ _ hns h1 h3).symm e3
     ·rw [if_neg e2] at h4
      split at h4
      ·cases h4
      ·exact h.uniq _ _ _ (hq4.resolve_left e1) h3 h4
 ·cases ho
theorem VIs.swept (h : VIs T V sh) : VIs T.swept V sh := by
 refine ⟨h.wf.swept, fun q => ?_, h.vnd, h.uniq⟩;rw [← h.val q];show (look T.R q).bind _ = _
 cases hq : look T.R q with
 | none => rfl
 | some i => exact zFf hq
theorem VIs.few (h : VIs T V sh) : T.swept.N.length ≤ V.length := by
 have h1 : ∀ i ∈ T.swept.N.map Prod.fst, ∃ p ∈ V.map Prod.fst, look T.R p = some i := by
  intro i hi;rw [mem_keys, zDp] at hi
  by_cases hc : cnt T.R i = 0
  ·rw [if_pos hc] at hi; cases hi
  ·obtain ⟨p, hp⟩ := cnt_zero h.wf.rnd (i := i) (by omega);refine ⟨p, ?_, hp⟩;obtain ⟨x, hx⟩ := h.wf.node _ _ hp;rw [mem_keys, ← h.val, hp];show (look T.N i).isSome = true;rw [hx]; rfl
 have h2 : T.swept.N.map Prod.fst ⊆ (V.map Prod.fst).map fun p => (look T.R p).getD 0 := by
  intro i hi;obtain ⟨p, hp, hr⟩ := h1 i hi;exact List.mem_map.2 ⟨p, hp, by rw [hr]; rfl⟩
 have := List.Nodup.length_le_of_subset h.wf.swept.nnd h2;simpa using this
end
end
end Go.Proofs.YtgnjjfdfoibdiaaGreatDoor
