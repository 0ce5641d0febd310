/- The reader of package rec. -/
import Derived.Test.YtgkoblgpadpcjaaRec
import Derived.Deep.QuietTactic
import Derived.BigQuiet
namespace Go.Proofs.Ytgkoblgpadpcjaa
open Go.RowKit

/-- A reader at block g: what is left, and whether something was not as it should be. -/
def ReaderAt (w : World) (g : Nat) (l : List UInt8) (bad : Bool) : Prop := ∃ v t, w.heap[g]? = some (.cells #[v, .bool bad] t (0, 0)) ∧ Bytes w v l
/-- Only block g has turned, and there are more blocks. -/
abbrev OnlyAt (g : Nat) (w w' : World) : Prop := w.grownBy w' (some g)
theorem OnlyAt.refl (g : Nat) (w : World) : OnlyAt g w w := World.grownBy.refl _ _
theorem OnlyAt.trans {g : Nat} {a b c : World} (h : OnlyAt g a b) (k : OnlyAt g b c) : OnlyAt g a c :=
  ⟨k.os.trans h.os, k.tape.trans h.tape, k.output.trans h.output, Nat.le_trans h.size k.size, fun i hi hne => (k.block i (Nat.lt_of_lt_of_le hi h.size) hne).trans (h.block i hi hne)⟩
theorem OnlyAt.drew {g : Nat} {a b : World} (h : OnlyAt g a b) : OnlyAt g a b.drew := ⟨h.os, h.tape, h.output, h.size, h.block⟩
theorem OnlyAt.drewN {g : Nat} {a b : World} (h : OnlyAt g a b) (n : Nat) : OnlyAt g a (b.drewN n) := ⟨h.os, h.tape, h.output, h.size, h.block⟩
theorem OnlyAt.set {g : Nat} {a b : World} (h : OnlyAt g a b) (i : Nat) (u : Value) : OnlyAt g a (b.setCell ⟨g, i, none⟩ u) :=
  h.trans ⟨rfl, rfl, rfl, by simp [World.setCell], fun k _ hk => Below.heap_setCell b _ u k (fun e => hk (by rw [e]))⟩
theorem OnlyAt.ext {g : Nat} {a b c : World} (h : OnlyAt g a b) (k : Ext b c) : OnlyAt g a c :=
  h.trans ⟨k.os, k.tape, k.output, k.size, fun i hi _ => k.block i hi⟩
theorem Ext.only {w w' : World} (g : Nat) (h : Ext w w') : OnlyAt g w w' := (OnlyAt.refl g w).ext h
/-- Below a number under which the block does not lie. -/
theorem OnlyAt.below {g B : Nat} {w w' : World} (h : OnlyAt g w w') (hB : B ≤ g) (hB2 : B ≤ w.heap.size) : Below B w w' :=
  ⟨h.os, h.tape, h.output, h.size, fun k hk => h.block k (by omega) (by simp; omega)⟩
theorem ReaderAt.bytes_ne {w : World} {g : Nat} {l m : List UInt8} {bad : Bool} {a : Option Addr} {n cap : Nat} (h : ReaderAt w g l bad) (hb : Bytes w (.slice a n cap) m) (i : Nat) (hi : i < m.length) : ∃ b o, a = some ⟨b, o, none⟩ ∧ b ≠ g ∧ w.cell? ⟨b, o + i, none⟩ = some (.int .u8 m[i].toNat) := by
  obtain ⟨b, o, rfl, hc⟩ := hb.at i hi
  refine ⟨b, o, rfl, ?_, hc⟩
  rintro rfl
  obtain ⟨v, t, hh, ⟨a', cap', rfl, -⟩⟩ := h
  simp only [World.cell?, hh] at hc
  match hq : o + i with
  | 0 => simp [hq] at hc
  | 1 => simp [hq] at hc
  | k + 2 => simp [hq] at hc
theorem Bytes.only {w w' : World} {g : Nat} {l m : List UInt8} {bad : Bool} {u : Value} (hr : ReaderAt w g l bad) (hb : Bytes w u m) (h : OnlyAt g w w') : Bytes w' u m := by
  have hb' := hb
  obtain ⟨a, cap, rfl, h1, h2, h3, -⟩ := hb
  refine ⟨a, cap, rfl, h1, h2, h3, fun i hi => ?_⟩
  obtain ⟨b, o, rfl, hne, hc⟩ := hr.bytes_ne hb' i hi
  exact ⟨b, o, rfl, h.cell hc (by simpa using hne)⟩
theorem ReaderAt.other {w w' : World} {g g' : Nat} {l m : List UInt8} {bad bad' : Bool} (hr : ReaderAt w g l bad) (hr' : ReaderAt w g' m bad') (hne : g' ≠ g) (h : OnlyAt g w w') : ReaderAt w' g' m bad' := by
  obtain ⟨v, t, hh, hb⟩ := hr'
  have hlt := (Array.getElem?_eq_some_iff.1 hh).1
  exact ⟨v, t, (h.block g' hlt (by simpa using hne)).trans hh, hb.only hr h⟩
theorem ReaderAt.ext {w w' : World} {g : Nat} {l : List UInt8} {bad : Bool} (h : ReaderAt w g l bad) (k : Ext w w') : ReaderAt w' g l bad := by
  obtain ⟨v, t, hh, hb⟩ := h
  exact ⟨v, t, (k.block g (Array.getElem?_eq_some_iff.1 hh).1).trans hh, hb.ext k⟩
theorem ReaderAt.lt {w : World} {g : Nat} {l : List UInt8} {bad : Bool} (h : ReaderAt w g l bad) : g < w.heap.size := by
  obtain ⟨v, t, hh, hb⟩ := h; exact (Array.getElem?_eq_some_iff.1 hh).1
/-- What the walk reads of a reader. -/
theorem ReaderAt.open {w : World} {g : Nat} {l : List UInt8} {bad : Bool} (h : ReaderAt w g l bad) :
    ∃ a cap, w.cell? ⟨g, 0, none⟩ = some (.slice a l.length cap) ∧ w.cell? ⟨g, 1, none⟩ = some (.bool bad) ∧ w.frozen? ⟨g, 0, none⟩ = false ∧ w.frozen? ⟨g, 1, none⟩ = false ∧ Bytes w (.slice a l.length cap) l ∧ l.length ≤ 9223372036854775807 ∧ l.length ≤ cap := by
  obtain ⟨v, t, hh, hb⟩ := h
  have hb' := hb
  obtain ⟨a, cap, rfl, h1, h2, h3, -⟩ := hb
  exact ⟨a, cap, by simp only [World.cell?, hh]; rfl, by simp only [World.cell?, hh]; rfl, by simp [World.frozen?, hh], by simp [World.frozen?, hh], hb', by omega, h1⟩
theorem setCell_get (w : World) (g i : Nat) (u : Value) (cs : Array Value) (t : TypeId) (fz : Nat × Nat) (h : w.heap[g]? = some (.cells cs t fz)) : (w.setCell ⟨g, i, none⟩ u).heap[g]? = some (.cells (cs.setIfInBounds i u) t fz) := by
  simp only [World.setCell, Array.getElem?_modify, if_true, h, Option.map_some]; rfl
theorem ReaderAt.set0 {w : World} {g : Nat} {l m : List UInt8} {bad : Bool} (h : ReaderAt w g l bad) (u : Value) (hu : Bytes w u m) : ReaderAt (w.setCell ⟨g, 0, none⟩ u) g m bad := by
  have h' := h
  obtain ⟨v, t, hh, -⟩ := h
  exact ⟨u, t, setCell_get w g 0 u _ t _ hh, hu.only h' ((OnlyAt.refl g w).set 0 u)⟩
theorem ReaderAt.set1 {w : World} {g : Nat} {l : List UInt8} {bad : Bool} (h : ReaderAt w g l bad) (b : Bool) : ReaderAt (w.setCell ⟨g, 1, none⟩ (.bool b)) g l b := by
  have h' := h
  obtain ⟨v, t, hh, hb⟩ := h
  exact ⟨v, t, setCell_get w g 1 _ _ t _ hh, hb.only h' ((OnlyAt.refl g w).set 1 _)⟩
theorem ReaderAt.new (w : World) (v : Value) (l : List UInt8) (bad : Bool) (hb : Bytes w v l) (t : TypeId) : ReaderAt (w.alloc (.cells #[v, .bool bad] t)) w.heap.size l bad :=
  ⟨v, t, by rw [alloc_get, if_pos rfl], hb.alloc _⟩
theorem Bytes.nilv (w : World) : Bytes w (.slice none 0 0) [] := ⟨none, 0, rfl, by simp, by simp, fun _ => rfl, fun i hi => absurd hi (by simp)⟩

theorem Read_any (l : List UInt8) (v : Value) (w : World) (hb : Bytes w v l) (hl : l.length ≤ 16777216) :
    Calls Try.prog 26 #[v] w fun e w' => ∃ g, e = .returned (.pointer (some ⟨g, 0, none⟩)) ∧ w.heap.size ≤ g ∧ Ext w w' ∧ ReaderAt w' g l false := by
  have hb0 := Lib.hid hb
  obtain ⟨a, cap, rfl, -⟩ := hb
  go_enter Try.func26, Try.ntmps26
  go_wp2_with (at_builtin; refine wpList_append_empty_bytes _ rfl (.const (.slice none 0 0)) (.tmp 3) 22 rfl Try.underlying22 _ _ rfl rfl l hb0.out (by omega) ?_)
  intro v1 w1 f1
  have X1 := Lib.hid (show Ext w w1 from f1.below)
  have hsz := f1.grown.size
  have B1 := Lib.hid f1.bytes
  have F1 := B1.out
  clear f1
  obtain ⟨a1, c1, rfl, -⟩ := F1
  have R := Lib.hid (ReaderAt.new w1 _ l false B1.out 108)
  go_wp2
  go_ret
  exact ⟨_, rfl, hsz, X1.out.alloc _, R.out⟩
theorem Good_any (g : Nat) (l : List UInt8) (bad : Bool) (w : World) (h : ReaderAt w g l bad) :
    Calls Try.prog 36 #[.pointer (some ⟨g, 0, none⟩)] w fun e w' => e = .returned (.bool (!bad)) ∧ w = w' := by
  obtain ⟨a, cap, c0, c1, -, -, -, hl, -⟩ := h.open
  clear h
  go_enter Try.func36, Try.ntmps36
  go_wp2
  go_ret
  exact ⟨rfl, rfl⟩
theorem More_any (g : Nat) (l : List UInt8) (bad : Bool) (w : World) (h : ReaderAt w g l bad) :
    Calls Try.prog 37 #[.pointer (some ⟨g, 0, none⟩)] w fun e w' => e = .returned (.bool (!l.isEmpty)) ∧ w = w' := by
  obtain ⟨a, cap, c0, c1, -, -, -, hl, -⟩ := h.open
  clear h
  have e : decide (0 < l.length) = !l.isEmpty := by cases l <;> simp
  have E := Lib.hid e
  clear e
  go_enter Try.func37, Try.ntmps37
  go_wp2
  go_ret
  exact ⟨congrArg (fun x => Ending.returned (.bool x)) E.out, rfl⟩
theorem Done_any (g : Nat) (l : List UInt8) (bad : Bool) (w : World) (h : ReaderAt w g l bad) :
    Calls Try.prog 30 #[.pointer (some ⟨g, 0, none⟩)] w fun e w' => e = .returned (.bool (!bad && l.isEmpty)) ∧ w = w' := by
  obtain ⟨a, cap, c0, c1, -, -, -, hl, -⟩ := h.open
  clear h
  have e : ((l.length : Int) == 0) = l.isEmpty := by cases l <;> simp <;> omega
  have E := Lib.hid e
  clear e
  cases bad
  · go_enter Try.func30, Try.ntmps30
    go_wp2
    go_ret
    exact ⟨by rw [← E.out]; simp, rfl⟩
  · go_enter Try.func30, Try.ntmps30
    go_wp2
    go_ret
    exact ⟨rfl, rfl⟩
def errNo (l : List UInt8) (bad : Bool) : Int := if (!bad && l.isEmpty) then 0 else 4
theorem Err_any (g : Nat) (l : List UInt8) (bad : Bool) (w : World) (h : ReaderAt w g l bad) :
    Calls Try.prog 34 #[.pointer (some ⟨g, 0, none⟩)] w fun e w' => e = .returned (.int .i64 (errNo l bad)) ∧ w = w' := by
  go_enter Try.func34, Try.ntmps34
  go_wp2_with fail
  refine (Done_any g l bad _ h).mono ?_
  rintro e w' ⟨rfl, rfl⟩
  clear h
  have e : errNo l bad = if (!bad && l.isEmpty) then 0 else 4 := rfl
  have E := Lib.hid e
  clear e
  cases hb : (!bad && l.isEmpty)
  · have Hb := Lib.hid hb
    clear hb
    go_wp2
    go_ret
    exact ⟨by rw [E.out, Hb.out]; rfl, rfl⟩
  · have Hb := Lib.hid hb
    clear hb
    go_wp2
    go_ret
    exact ⟨by rw [E.out, Hb.out]; rfl, rfl⟩
/-- The next number, and what is left behind it. -/
def takeNum (l : List UInt8) (most : Int) : Option (Nat × List UInt8) :=
  match l with
  | a :: b :: c :: d :: r => let n := a.toNat + 256 * b.toNat + 65536 * c.toNat + 16777216 * d.toNat; if (n : Int) ≤ most then some (n, r) else none
  | _ => none
theorem Num_short2 (g : Nat) (l : List UInt8) (bad : Bool) (most : Int) (w : World) (h : ReaderAt w g l bad) (hl : l.length < 4) :
    Calls Try.prog 35 #[.pointer (some ⟨g, 0, none⟩), .int .i64 most] w fun e w' => e = .returned (.int .i64 0) ∧ (OnlyAt g w w' ∧ ReaderAt w' g [] true) ∧ w'.heap.size = w.heap.size := by
  have R := Lib.hid ((h.set1 true).set0 _ (Bytes.nilv _))
  have O := Lib.hid (((OnlyAt.refl g w).set 1 (.bool true)).set 0 (.slice none 0 0))
  obtain ⟨a, cap, c0, c1, f0, f1, -, -, -⟩ := h.open
  clear h
  go_enter Try.func35, Try.ntmps35
  go_wp2
  go_ret
  exact ⟨rfl, ⟨O.out, R.out⟩, by simp [World.setCell]⟩
theorem Num_short (g : Nat) (l : List UInt8) (bad : Bool) (most : Int) (w : World) (h : ReaderAt w g l bad) (hl : l.length < 4) :
    Calls Try.prog 35 #[.pointer (some ⟨g, 0, none⟩), .int .i64 most] w fun e w' => e = .returned (.int .i64 0) ∧ OnlyAt g w w' ∧ ReaderAt w' g [] true :=
  (Num_short2 g l bad most w h hl).mono fun _ _ h => ⟨h.1, h.2.1⟩
theorem or_le (a b c d : UInt8) : bits .or .u32 (bits .or .u32 (bits .or .u32 ((a.toNat : Int) % 4294967296) ((b.toNat : Int) % 4294967296 * 256 % 4294967296)) ((c.toNat : Int) % 4294967296 * 65536 % 4294967296)) ((d.toNat : Int) % 4294967296 * 16777216 % 4294967296) =
    ((a.toNat + 256 * b.toNat + 65536 * c.toNat + 16777216 * d.toNat : Nat) : Int) := by
  have ha := a.toNat_lt
  have hb := b.toNat_lt
  have hc := c.toNat_lt
  have hd := d.toNat_lt
  have e1 : bits .or .u32 ((a.toNat : Int) % 4294967296) ((b.toNat : Int) % 4294967296 * 256 % 4294967296) = ((a.toNat + 256 * b.toNat : Nat) : Int) := by
    rw [show ((a.toNat : Int) % 4294967296) = (a.toNat : Int) by omega, show ((b.toNat : Int) % 4294967296 * 256 % 4294967296) = ((256 * b.toNat : Nat) : Int) by omega, u32_or_nat _ _ (by omega) (by omega), Nat.or_comm,
      nat_join 8 _ _ (by omega) (by omega)]
    omega
  have e2 : bits .or .u32 ((a.toNat + 256 * b.toNat : Nat) : Int) ((c.toNat : Int) % 4294967296 * 65536 % 4294967296) = ((a.toNat + 256 * b.toNat + 65536 * c.toNat : Nat) : Int) := by
    rw [show ((c.toNat : Int) % 4294967296 * 65536 % 4294967296) = ((65536 * c.toNat : Nat) : Int) by omega, u32_or_nat _ _ (by omega) (by omega), Nat.or_comm,
      nat_join 16 _ _ (by omega) (by omega)]
    omega
  have e3 : bits .or .u32 ((a.toNat + 256 * b.toNat + 65536 * c.toNat : Nat) : Int) ((d.toNat : Int) % 4294967296 * 16777216 % 4294967296) = ((a.toNat + 256 * b.toNat + 65536 * c.toNat + 16777216 * d.toNat : Nat) : Int) := by
    rw [show ((d.toNat : Int) % 4294967296 * 16777216 % 4294967296) = ((16777216 * d.toNat : Nat) : Int) by omega, u32_or_nat _ _ (by omega) (by omega), Nat.or_comm,
      nat_join 24 _ _ (by omega) (by omega)]
    omega
  rw [e1, e2, e3]
/-- Four bytes as a number. -/
def num4 (a b c d : UInt8) : Nat := a.toNat + 256 * b.toNat + 65536 * c.toNat + 16777216 * d.toNat
theorem num4_lt (a b c d : UInt8) : num4 a b c d < 4294967296 := by
  have ha := a.toNat_lt
  have hb := b.toNat_lt
  have hc := c.toNat_lt
  have hd := d.toNat_lt
  unfold num4; omega
/-- A number is taken, and is within its bound; or above it. -/
def numPost (g : Nat) (n : Nat) (r : List UInt8) (bad : Bool) (most : Int) (w : World) (e : Ending) (w' : World) : Prop :=
  OnlyAt g w w' ∧ (((n : Int) ≤ most ∧ e = .returned (.int .i64 n) ∧ ReaderAt w' g r bad) ∨ (most < (n : Int) ∧ e = .returned (.int .i64 0) ∧ ReaderAt w' g [] true))
def numPost2 (g : Nat) (n : Nat) (r : List UInt8) (bad : Bool) (most : Int) (w : World) (e : Ending) (w' : World) : Prop := numPost g n r bad most w e w' ∧ w'.heap.size = w.heap.size
set_option maxHeartbeats 1000000 in
theorem Num_long2 (g : Nat) (a b c d : UInt8) (r : List UInt8) (bad : Bool) (most : Int) (w : World) (h : ReaderAt w g (a :: b :: c :: d :: r) bad) (hm : 0 ≤ most ∧ most ≤ 9223372036854775807) :
    Calls Try.prog 35 #[.pointer (some ⟨g, 0, none⟩), .int .i64 most] w (numPost2 g (num4 a b c d) r bad most w) := by
  obtain ⟨ad, cap, c0, c1, f0, f1, hb, hlen, hcap⟩ := h.open
  obtain ⟨bb, oo, rfl, hne, d0⟩ := h.bytes_ne hb 0 (by simp)
  obtain ⟨_, _, e1, -, d1⟩ := h.bytes_ne hb 1 (by simp)
  obtain ⟨_, _, e2, -, d2⟩ := h.bytes_ne hb 2 (by simp)
  obtain ⟨_, _, e3, -, d3⟩ := h.bytes_ne hb 3 (by simp)
  cases e1
  cases e2
  cases e3
  simp only [List.getElem_cons_zero, List.getElem_cons_succ, Nat.add_zero] at d0 d1 d2 d3
  have hn4 : (a :: b :: c :: d :: r).length = r.length + 4 := by simp
  have hdrop : r.length = 0 → Hid (cap = 4 → True) := fun _ _ => trivial
  have Hb := Lib.hid hb
  have h0 := Lib.hid h
  have hN := num4_lt a b c d
  have hor : bits .or .u32 (bits .or .u32 (bits .or .u32 ((a.toNat : Int) % 4294967296) ((b.toNat : Int) % 4294967296 * 256 % 4294967296)) ((c.toNat : Int) % 4294967296 * 65536 % 4294967296)) ((d.toNat : Int) % 4294967296 * 16777216 % 4294967296) = (num4 a b c d : Int) := or_le a b c d
  have Hor := Lib.hid hor
  rw [hn4] at c0 hlen hcap
  have q1 : (0 : Int) < ((r.length + 4 : Nat) : Int) := by omega
  have q2 : (1 : Int) < ((r.length + 4 : Nat) : Int) := by omega
  have q3 : (2 : Int) < ((r.length + 4 : Nat) : Int) := by omega
  have q4 : (3 : Int) < ((r.length + 4 : Nat) : Int) := by omega
  have q5 : ¬ ((r.length + 4 : Nat) : Int) < 4 := by omega
  have q6 : 4 ≤ r.length + 4 := by omega
  generalize num4 a b c d = N at *
  generalize hln : r.length + 4 = n at c0 hlen hcap q1 q2 q3 q4 q5 q6
  have Hln := Lib.hid hln
  obtain ⟨V, hV, hVb⟩ : ∃ V, V = Go.sliced (some ⟨bb, oo, none⟩) 4 n cap 1 ∧ Hid (ReaderAt (w.setCell ⟨g, 0, none⟩ V) g r bad) := by
    refine ⟨_, rfl, h.set0 _ ?_⟩
    have := hb.sliced 4 n (by omega) (by simp; omega) _ rfl
    rw [List.take_of_length_le (by simp; omega)] at this
    simpa using this
  have O1 := Lib.hid (fun nq => ((OnlyAt.refl g w).drewN nq).set 0 V)
  have O2 := Lib.hid (fun nq => ((O1.out nq).set 1 (.bool true)).set 0 (.slice none 0 0))
  have R2 := Lib.hid ((hVb.out.set1 true).set0 _ (Bytes.nilv _))
  clear h hb hor hn4 hln hdrop h0 Hb
  by_cases hc4 : cap = 4
  · subst hc4
    have hV2 : V = .slice (some ⟨bb, oo, none⟩) 0 0 := by rw [hV]; simp [Go.sliced]; omega
    clear hV
    subst hV2
    by_cases hm : most < (N : Int)
    · go_enter Try.func35, Try.ntmps35
      go_wp2_with fail
      go_quiet (fail)
      rw [Hor.out]
      clear d0 d1 d2 d3 q1 q2 q3 q4 q5
      go_wp2_with fail
      go_ret
      exact ⟨⟨O2.out _, Or.inr ⟨hm, rfl, R2.out⟩⟩, by simp [World.setCell, World.drewN]⟩
    · go_enter Try.func35, Try.ntmps35
      go_wp2_with fail
      go_quiet (fail)
      rw [Hor.out]
      clear d0 d1 d2 d3 q1 q2 q3 q4 q5
      go_wp2_with fail
      go_ret
      exact ⟨⟨O1.out _, Or.inl ⟨by omega, rfl, hVb.out⟩⟩, by simp [World.setCell, World.drewN]⟩
  · have hV2 : V = .slice (some ⟨bb, oo + 4, none⟩) (n - 4) (cap - 4) := by rw [hV]; simp [Go.sliced, hc4, Addr.add_lit]
    clear hV
    subst hV2
    by_cases hm : most < (N : Int)
    · go_enter Try.func35, Try.ntmps35
      go_wp2_with fail
      go_quiet (fail)
      rw [Hor.out]
      clear d0 d1 d2 d3 q1 q2 q3 q4 q5
      go_wp2_with fail
      go_ret
      exact ⟨⟨O2.out _, Or.inr ⟨hm, rfl, R2.out⟩⟩, by simp [World.setCell, World.drewN]⟩
    · go_enter Try.func35, Try.ntmps35
      go_wp2_with fail
      go_quiet (fail)
      rw [Hor.out]
      clear d0 d1 d2 d3 q1 q2 q3 q4 q5
      go_wp2_with fail
      go_ret
      exact ⟨⟨O1.out _, Or.inl ⟨by omega, rfl, hVb.out⟩⟩, by simp [World.setCell, World.drewN]⟩
theorem Num_long (g : Nat) (a b c d : UInt8) (r : List UInt8) (bad : Bool) (most : Int) (w : World) (h : ReaderAt w g (a :: b :: c :: d :: r) bad) (hm : 0 ≤ most ∧ most ≤ 9223372036854775807) :
    Calls Try.prog 35 #[.pointer (some ⟨g, 0, none⟩), .int .i64 most] w (numPost g (num4 a b c d) r bad most w) :=
  (Num_long2 g a b c d r bad most w h hm).mono fun _ _ h => h.1
end Go.Proofs.Ytgkoblgpadpcjaa
