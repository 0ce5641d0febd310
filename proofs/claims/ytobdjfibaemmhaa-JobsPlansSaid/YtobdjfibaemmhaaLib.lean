/- The library's functions on slices of texts, in this proof's words. -/
import Derived.Test.YtobdjfibaemmhaaStr
import Derived.Test.YtobdjfibaemmhaaIter
import Derived.Lib.OwnBridge
import Derived.Sort.OwnSorted
namespace Go.Proofs.Ytobdjfibaemmhaa
open Go.RowKit Go.Maps Go.Sort Go.Lib

def ba (s : Str) : ByteArray := ⟨s.toArray⟩
theorem encStr_ba (s : Str) : encStr s = .string (ba s) := rfl
theorem ba_inj {s t : Str} (h : ba s = ba t) : s = t := by
  have := congrArg (fun b : ByteArray => b.data.toList) h
  simpa [ba] using this
/-- A slice of texts as the kit's contracts ask for it. -/
theorem SRow.parts {w : World} {v : Value} {l : List Str} (h : SRow w v l) : (l = [] ∧ ∃ a c, v = .slice a 0 c) ∨ ∃ b o c, v = .slice (some ⟨b, o, none⟩) l.length c ∧ l.length ≤ 9223372036854775807 ∧ ∀ i, (hi : i < l.length) → w.cell? ⟨b, o + i, none⟩ = some (encStr l[i]) := by
  obtain ⟨a, cap, rfl, hl, hm, hn, hc⟩ := h
  cases l with
  | nil => exact .inl ⟨rfl, _, _, rfl⟩
  | cons x r =>
    obtain ⟨b, o, rfl, _⟩ := hc 0 (by simp)
    refine .inr ⟨b, o, cap, rfl, by omega, fun i hi => ?_⟩
    obtain ⟨b', o', e, h⟩ := hc i hi
    cases e
    exact h
theorem contains_any {w : World} {v : Value} {l : List Str} (h : SRow w v l) (s : Str) : Calls Try.prog 36 #[v, encStr s] w fun e w' => e = .returned (.bool (decide (s ∈ l))) ∧ w = w' := by
  rcases h.parts with ⟨rfl, a, c, rfl⟩ | ⟨b, o, c, rfl, hl, hc⟩
  · exact (Try.slices_Contains_string_empty a c (ba s) w).mono fun e w' ⟨h1, h2⟩ => ⟨by rw [h1]; simp, h2.symm⟩
  · refine (Try.slices_Contains_string b o l.length c (l.map ba) (ba s) w (by simp) hl fun j hj => ?_).mono fun e w' ⟨h1, h2⟩ => ⟨?_, h2.symm⟩
    · have hj' : j < l.length := by simpa using hj
      rw [hc j hj']
      simp [List.getD, hj', encStr_ba]
    · rw [h1]
      congr 2
      rw [List.take_of_length_le (by simp), Bool.eq_iff_iff, Lib.containsS_iff, List.mem_map, decide_eq_true_iff]
      exact ⟨fun ⟨x, hx, e⟩ => ba_inj e ▸ hx, fun h => ⟨s, h, rfl⟩⟩
/-- A text that is not too long for a key. -/
abbrev NStr := {s : List UInt8 // s.length ≤ maxLen}
instance : Inhabited NStr := ⟨⟨[], by decide⟩⟩
def encN (s : NStr) : Value := encStr s.1
theorem encN_one : OneCell encN := fun _ => rfl
def ShortAll (l : List Str) : Prop := ∀ x ∈ l, x.length ≤ maxLen
def lN : (l : List Str) → ShortAll l → List NStr
  | [], _ => []
  | a :: r, h => ⟨a, h a (by simp)⟩ :: lN r fun x hx => h x (by simp [hx])
theorem lN_map : ∀ {l : List Str} (h : ShortAll l), (lN l h).map (fun x => x.1) = l
  | [], _ => rfl
  | a :: r, h => congrArg (a :: ·) (lN_map (l := r) fun x hx => h x (by simp [hx]))
theorem lN_len {l : List Str} (h : ShortAll l) : (lN l h).length = l.length := by
  have := congrArg List.length (lN_map h)
  simpa using this
theorem lN_get {l : List Str} (h : ShortAll l) (i : Nat) (hi : i < (lN l h).length) : ((lN l h)[i]).1 = l[i]'(by rw [← lN_len h]; exact hi) := by
  have h1 : ((lN l h).map (fun x => x.1))[i]? = l[i]? := by rw [lN_map]
  rw [List.getElem?_map, List.getElem?_eq_getElem hi, List.getElem?_eq_getElem (by rw [← lN_len h]; exact hi)] at h1
  simpa using h1
theorem lN_vals {l : List Str} (h : ShortAll l) : (lN l h).map encN = l.map encStr := by
  conv => rhs; rw [← lN_map h]
  rw [List.map_map]; rfl
theorem lN_any {l : List Str} (h : ShortAll l) (p : Str → Bool) : ((lN l h).any fun x => p x.1) = l.any p := by
  conv => rhs; rw [← lN_map h]
  rw [List.any_map]; rfl
theorem lN_cells {w : World} {b o : Nat} {l : List Str} (h : ShortAll l) (hc : ∀ i, (hi : i < l.length) → w.cell? ⟨b, o + i, none⟩ = some (encStr l[i])) : ∀ j, j < (lN l h).length → w.cell? ⟨b, o + j, none⟩ = some (encN (lN l h)[j]!) := fun j hj => by
  have hj' : j < l.length := by rw [← lN_len h]; exact hj
  rw [hc j hj', getElem!_pos _ j hj]
  unfold encN
  rw [lN_get h j hj]
/-- What is asked of a predicate's function value: what it hands back, wherever nothing that lay has turned. -/
def PredN (g : Nat) (lb : Array Value) (p : Str → Bool) (w : World) : Prop := PredAt Try.prog g lb encN (fun x => p x.1) w
theorem cfunc_any {w : World} {v : Value} {l : List Str} (h : SRow w v l) (hs : ShortAll l) (p : Str → Bool) (g : Nat) (lb : Array Value) (eg : ∀ args w, (callFunc g args).run Try.prog w = .ok (.enter g args) w) (hp : PredN g lb p w) :
    Calls Try.prog 43 #[v, .func (.func g) #[] lb] w fun e w' => e = .returned (.bool (l.any p)) ∧ ∃ q, w' = w.drewN q := by
  rcases h.parts with ⟨rfl, a, c, rfl⟩ | ⟨b, o, c, rfl, hl, hc⟩
  · exact (Try.slices_ContainsFunc_empty (α := NStr) a c _ w).mono fun e w' ⟨h1, h2⟩ => ⟨by rw [h1]; simp, 0, h2⟩
  · refine (Try.slices_ContainsFunc encN (fun x => p x.1) g lb eg b o l.length c (lN l hs) w hp (by rw [lN_len]; exact Nat.le_refl _) hl (lN_cells hs hc)).mono fun e w' ⟨h1, h2⟩ => ⟨?_, h2⟩
    rw [h1, List.take_of_length_le (by rw [lN_len]; exact Nat.le_refl _), lN_any]
theorem idxByFrom_find {α : Type} (p : α → Bool) (x : α) : ∀ (l : List α) (i : Nat), idxByFrom (fun _ y => p y) x l i = match l.findIdx? p with | some k => ((i + k : Nat) : Int) | none => -1
  | [], i => rfl
  | y :: r, i => by
    rw [idxByFrom, List.findIdx?_cons]
    cases hy : p y with
    | true => simp
    | false =>
      rw [if_neg (by simp), idxByFrom_find p x r (i + 1)]
      cases hr : r.findIdx? p with
      | none => simp
      | some k =>
        rw [if_neg (by simp)]
        show ((i + 1 + k : Nat) : Int) = ((i + (k + 1) : Nat) : Int)
        congr 1
        omega
theorem lN_find {l : List Str} (h : ShortAll l) (p : Str → Bool) : (lN l h).findIdx? (fun x => p x.1) = l.findIdx? p := by
  conv => rhs; rw [← lN_map h]
  rw [List.findIdx?_map]; rfl
def idxOf (o : Option Nat) : Int := match o with | some k => (k : Int) | none => -1
theorem ifunc_any {w : World} {v : Value} {l : List Str} (h : SRow w v l) (hs : ShortAll l) (p : Str → Bool) (g : Nat) (lb : Array Value) (eg : ∀ args w, (callFunc g args).run Try.prog w = .ok (.enter g args) w) (hp : PredN g lb p w) :
    Calls Try.prog 51 #[v, .func (.func g) #[] lb] w fun e w' => e = .returned (.int .i64 (idxOf (l.findIdx? p))) ∧ ∃ q, w' = w.drewN q := by
  rcases h.parts with ⟨rfl, a, c, rfl⟩ | ⟨b, o, c, rfl, hl, hc⟩
  · exact (Try.slices_IndexFunc_empty (α := NStr) a c _ w).mono fun e w' ⟨h1, h2⟩ => ⟨by rw [h1]; rfl, 0, h2⟩
  · refine (Try.slices_IndexFunc encN (fun x => p x.1) g lb eg b o l.length c (lN l hs) w hp (by rw [lN_len]; exact Nat.le_refl _) hl (lN_cells hs hc)).mono fun e w' ⟨h1, h2⟩ => ⟨?_, h2⟩
    rw [h1, List.take_of_length_le (by rw [lN_len]; exact Nat.le_refl _)]
    congr 2
    unfold idxBy
    rw [idxByFrom_find, lN_find]
    cases l.findIdx? p <;> simp [idxOf]
theorem clone_any {w : World} {v : Value} {l : List Str} (h : SRow w v l) (hl16 : l.length * 16 ≤ 140737488355328) : Calls Try.prog 46 #[v] w fun e w' => ∃ v', e = .returned v' ∧ OwnS w' w.heap.size v' l ∧ Ext w w' := by
  obtain ⟨a, cap, rfl, hl, hm, hn, hc⟩ := h
  cases a with
  | none =>
    obtain rfl := hn rfl
    obtain rfl : l = [] := List.eq_nil_of_length_eq_zero (by omega)
    exact (Try.slices_Clone_string_nil _ _ w).mono fun e w' ⟨h1, h2⟩ => ⟨_, h1, by rw [h2]; exact OwnS.nil _ _, by rw [h2]; exact Ext.refl _⟩
  | some a =>
    cases l with
    | nil => exact (Try.slices_Clone_string_zero a _ w).mono fun e w' ⟨v', h1, h2, _, h3⟩ => ⟨v', h1, h2, h3⟩
    | cons x r =>
      obtain ⟨b, o, e, _⟩ := hc 0 (by simp)
      cases e
      refine (Try.slices_Clone_string b o _ cap ((x :: r).map ba) w (by simp) hl16 fun j hj => ?_).mono fun e w' ⟨v', h1, h2, _, h3⟩ => ⟨v', h1, ?_, h3⟩
      · have hj' : j < (x :: r).length := by simpa using hj
        obtain ⟨b', o', e, h⟩ := hc j hj'
        cases e
        rw [h]
        simp only [List.getD, List.getElem?_map, List.getElem?_eq_getElem hj', Option.map_some, Option.getD_some]
        rfl
      · rw [List.take_of_length_le (by simp)] at h2
        unfold OwnS
        have : List.map Value.string (List.map ba (x :: r)) = strVals (x :: r) := by rw [List.map_map]; rfl
        rw [this] at h2
        exact h2
theorem grownBy_putRow {α : Type} [Inhabited α] (enc : α → Value) {w : World} {g n : Nat} (d : Array α) : w.grownBy (putRow enc (Sort.ahead w n) g 0 d) (some g) := by
  refine ⟨rfl, rfl, rfl, by simp [putRow, mapBlock, Sort.ahead], fun k hk hne => ?_⟩
  have : g ≠ k := fun e => hne (by rw [e])
  simp [putRow, mapBlock, Sort.ahead, Array.getElem?_modify, this]
theorem delete_any {w : World} {base : Nat} {v : Value} {l : List Str} (h : OwnS w base v l) (i : Nat) (hi : i < l.length) :
    Calls Try.prog 54 #[v, .int .i64 i, .int .i64 (i + 1 : Nat)] w fun e w' => ∃ v', e = .returned v' ∧ OwnS w' base v' (l.eraseIdx i) ∧ w.grownBy w' v.ownBlock ∧ v'.ownBlock = v.ownBlock := by
  have hv : v ≠ .slice none 0 0 := by
    rintro rfl
    rcases h.2 with ⟨_, h0⟩ | ⟨g, cap, cur, e, _⟩
    · omega
    · cases e
  obtain ⟨g, cap, rfl, hb, hlt, hn, hm, hl, hH⟩ := holds_of_ownsRow (enc := encStr) (zs := l) h hv
  refine (Try.slices_Delete_string g 0 cap i (i + 1) l w hH hn (by unfold maxLen at hm; omega) (by omega) (by omega)).mono ?_
  rintro e w' ⟨rfl, q, rfl⟩
  have hlen : (l.take i ++ l.drop (i + 1) ++ List.replicate (i + 1 - i) []).length = l.length := by simp; omega
  have e1 : l.eraseIdx i = l.take i ++ l.drop (i + 1) := List.eraseIdx_eq_take_drop_succ ..
  have e2 : (l.eraseIdx i).length = l.length - 1 := List.length_eraseIdx_of_lt hi
  refine ⟨_, rfl, ?_, grownBy_putRow encStr _, rfl⟩
  have := ownsRow_putRow (enc := encStr) (zs := l) (q := q) (k := l.length - (i + 1 - i)) h hlen (by omega)
  rw [← e1, List.take_append_of_le_length (by omega), List.take_of_length_le (by omega)] at this
  unfold OwnS
  rw [e2, show l.length - 1 = l.length - (i + 1 - i) by omega, e1] at *
  exact this
/-- What is asked of a predicate's function value where a row is written meanwhile. -/
def PredOff (g : Nat) (lb : Array Value) (p : Str → Bool) (blk : Option Nat) (w : World) : Prop :=
  ∀ (W : World) (x : NStr), w.grownBy W blk → FnGives Try.prog g lb #[encN x] (.bool (p x.1)) W
theorem sort_world_grown {α : Type} [Inhabited α] (enc : α → Value) {w : World} {g n : Nat} (d : Array α) (os : Array Obj) : w.grownBy (sortWorld enc w g 0 n d os) (some g) := by
  unfold sortWorld
  refine ⟨rfl, rfl, rfl, by simp [putRow, mapBlock, Sort.ahead], fun k hk hne => ?_⟩
  rw [heap_grow_old _ _ (by simpa using hk)]
  have : g ≠ k := fun e => hne (by rw [e])
  simp [putRow, mapBlock, Sort.ahead, Array.getElem?_modify, this]
theorem below_grown {w W : World} (b : Below w.heap.size w W) (row : Option Nat) : w.grownBy W row := ⟨b.os, b.tape, b.output, b.size, fun k hk _ => b.block k hk⟩
theorem zero9 (w : World) : (zeroValue 9).run Try.prog w = .ok (encN default) w := Try.zeroValue9 w
theorem dfunc_any {w : World} {base : Nat} {v : Value} {l : List Str} (h : OwnS w base v l) (hs : ShortAll l) (hl16 : l.length ≤ 9223372036854775807) (p : Str → Bool) (g : Nat) (lb : Array Value) (eg : ∀ args w, (callFunc g args).run Try.prog w = .ok (.enter g args) w) (hp : PredOff g lb p v.ownBlock w)
    (hnil : v = .slice none 0 0 → Calls Try.prog 34 #[v, .func (.func g) #[] lb] w fun e w' => e = .returned v ∧ w = w') :
    Calls Try.prog 34 #[v, .func (.func g) #[] lb] w fun e w' => ∃ v', e = .returned v' ∧ OwnS w' base v' (l.filter fun x => !p x) ∧ w.grownBy w' v.ownBlock := by
  by_cases hv : v = .slice none 0 0
  · refine (hnil hv).mono ?_
    rintro e w' ⟨rfl, rfl⟩
    subst hv
    obtain rfl : l = [] := by
      rcases h.2 with ⟨_, h0⟩ | ⟨g, cap, cur, e, _⟩
      · exact List.eq_nil_of_length_eq_zero h0
      · cases e
    exact ⟨_, rfl, OwnS.nil _ _, World.grownBy.refl _ _⟩
  · have h' : w.ownsRow base 9 1 v l.length ((lN l hs).map encN) := by rw [lN_vals]; exact h
    obtain ⟨gb, cap, rfl, hb, hlt, hn, hm, hl, hH⟩ := holds_of_ownsRow (enc := encN) h' hv
    have hsz : (lN l hs).toArray.size = l.length := by simp [lN_len]
    have hc := Try.slices_DeleteFunc encN encN_one (fun x => p x.1) g lb eg default zero9 gb 0 cap (lN l hs).toArray w (fun W x hb => hp W x (below_grown hb _)) (fun n os dk x _ => hp _ x (sort_world_grown encN dk os)) hH (by rw [hsz]; exact hl16) (by rw [hsz]; exact hn)
    rw [hsz] at hc
    refine hc.mono ?_
    rintro e w' ⟨rfl, q, rfl⟩
    have e1 : (lN l hs).toArray.toList = lN l hs := rfl
    rw [e1]
    have hf : ((lN l hs).filter fun x => !p x.1).map encN = (l.filter fun x => !p x).map encStr := by
      have : ((lN l hs).filter fun x => !p x.1).map encN = (((lN l hs).map (·.1)).filter fun x => !p x).map encStr := by
        rw [List.filter_map, List.map_map]; rfl
      rw [this, lN_map]
    have hlf : ((lN l hs).filter fun x => !p x.1).length = (l.filter fun x => !p x).length := by
      have := congrArg List.length hf
      simpa using this
    have hle : (l.filter fun x => !p x).length ≤ l.length := List.length_filter_le ..
    have := ownsRow_putRow (enc := encN) (q := q) (ys := ((lN l hs).filter fun x => !p x.1) ++ List.replicate (l.length - ((lN l hs).filter fun x => !p x.1).length) default) (k := (l.filter fun x => !p x).length) h' (by simp [hlf]; omega) hle
    rw [List.take_append_of_le_length (by rw [hlf]; exact Nat.le_refl _), List.take_of_length_le (by rw [hlf]; exact Nat.le_refl _), hf] at this
    refine ⟨_, rfl, ?_, grownBy_putRow encN _⟩
    rw [hlf] at this ⊢
    exact this
theorem reverse_any {w : World} {base : Nat} {v : Value} {l : List Str} (h : OwnS w base v l) : Calls Try.prog 37 #[v] w fun e w' => e = .returned (.tuple #[]) ∧ OwnS w' base v l.reverse ∧ w.grownBy w' v.ownBlock := by
  by_cases hv : v = .slice none 0 0
  · subst hv
    obtain rfl : l = [] := by
      rcases h.2 with ⟨_, h0⟩ | ⟨g, cap, cur, e, _⟩
      · exact List.eq_nil_of_length_eq_zero h0
      · cases e
    exact (Try.slices_Reverse_string_empty none 0 w).mono fun e w' ⟨h1, h2⟩ => ⟨h1, by rw [h2]; exact OwnS.nil _ _, by rw [h2]; exact World.grownBy.refl _ _⟩
  · obtain ⟨gb, cap, rfl, hb, hlt, hn, hm, hl, hH⟩ := holds_of_ownsRow (enc := encStr) (zs := l) h hv
    refine (Try.slices_Reverse_string gb 0 cap l w hH (by unfold maxLen at hm; omega)).mono ?_
    rintro e w' ⟨rfl, q, rfl⟩
    have := ownsRow_putRow (enc := encStr) (zs := l) (q := q) (ys := l.reverse) (k := l.length) h (by simp) (Nat.le_refl _)
    rw [List.take_of_length_le (by simp)] at this
    exact ⟨rfl, by unfold OwnS; rw [List.length_reverse]; exact this, grownBy_putRow encStr _⟩
theorem sort_any {w : World} {base : Nat} {v : Value} {l : List Str} (h : OwnS w base v l) (hl16 : l.length < 4611686018427387904) : Calls Try.prog 40 #[v] w fun e w' => e = .returned (.tuple #[]) ∧ OwnS w' base v (sortS l) ∧ w.grownBy w' v.ownBlock := by
  rcases h.2 with ⟨rfl, h0⟩ | ⟨gb, cap, cur, rfl, hb, hg, hn, hm, hs, ht⟩
  · obtain rfl : l = [] := List.eq_nil_of_length_eq_zero h0
    exact (Try.slices_Sort_string_none none 0 w).mono fun e w' ⟨h1, h2⟩ => ⟨h1, by rw [h2]; simp only [sortS, List.mergeSort_nil]; exact OwnS.nil _ _, by rw [h2]; exact World.grownBy.refl _ _⟩
  · obtain ⟨_, _, e, _, hlt, _, _, _, hH⟩ := holds_of_ownsRow (enc := encStr) (zs := l) h (by simp)
    cases e
    refine (Try.slices_Sort_string gb 0 cap l w hH hlt hl16).mono ?_
    rintro e w' ⟨rfl, n, os, rfl⟩
    refine ⟨rfl, ?_, grownBy_sorted _⟩
    have := ownsRow_sorted (n := n) (os := os) (ss := l) (ts := sortS l) (by simp [sortS, List.length_mergeSort]) hb hg hn hm hs
    unfold OwnS
    rw [show (sortS l).length = l.length by simp [sortS, List.length_mergeSort]]
    exact this
theorem compact_any {w : World} {base : Nat} {v : Value} {l : List Str} (h : OwnS w base v l) : Calls Try.prog 48 #[v] w fun e w' => ∃ v', e = .returned v' ∧ OwnS w' base v' (Lib.compact l) ∧ w.grownBy w' v.ownBlock := by
  by_cases hv : v = .slice none 0 0
  · subst hv
    obtain rfl : l = [] := by
      rcases h.2 with ⟨_, h0⟩ | ⟨g, cap, cur, e, _⟩
      · exact List.eq_nil_of_length_eq_zero h0
      · cases e
    exact (Try.slices_Compact_string_empty none 0 w).mono fun e w' ⟨h1, h2⟩ => ⟨_, h1, by rw [h2]; exact OwnS.nil _ _, by rw [h2]; exact World.grownBy.refl _ _⟩
  · obtain ⟨gb, cap, rfl, hb, hlt, hn, hm, hl, hH⟩ := holds_of_ownsRow (enc := encStr) (zs := l) h hv
    refine (Try.slices_Compact_string gb 0 cap l w hH (by unfold maxLen at hm; omega) hn).mono ?_
    rintro e w' ⟨rfl, q, rfl⟩
    have hle : (Lib.compact l).length ≤ l.length := by
      have h1 : (Lib.compact l).length = ((List.range l.length).filter (Lib.keeps l.toArray)).length := List.length_map ..
      have h2 := List.length_filter_le (Lib.keeps l.toArray) (List.range l.length)
      rw [List.length_range] at h2
      omega
    have := ownsRow_putRow (enc := encStr) (zs := l) (q := q) (ys := Lib.compact l ++ List.replicate (l.length - (Lib.compact l).length) []) (k := (Lib.compact l).length) h (by simp; omega) hle
    rw [List.take_append_of_le_length (Nat.le_refl _), List.take_of_length_le (Nat.le_refl _)] at this
    exact ⟨_, rfl, this, grownBy_putRow encStr _⟩
end Go.Proofs.Ytobdjfibaemmhaa
