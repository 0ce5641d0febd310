/- The reader of package rec: bytes, texts, lists. -/
import Derived.Test.YtgkoblgpadpcjaaReader
namespace Go.Proofs.Ytgkoblgpadpcjaa
open Go.RowKit

def numRes (l : List UInt8) (bad : Bool) (most : Int) : Nat × List UInt8 × Bool :=
  match l with
  | a :: b :: c :: d :: r => if (num4 a b c d : Int) ≤ most then (num4 a b c d, r, bad) else (0, [], true)
  | _ => (0, [], true)
theorem numRes_lt (l : List UInt8) (bad : Bool) (most : Int) : (numRes l bad most).1 < 4294967296 := by
  unfold numRes
  split
  · split
    · exact num4_lt _ _ _ _
    · simp
  · simp
theorem numRes_len (l : List UInt8) (bad : Bool) (most : Int) : (numRes l bad most).2.1.length ≤ l.length := by
  unfold numRes
  split
  · split
    · simp; omega
    · simp
  · simp
theorem Num_all2 (g : Nat) (l : List UInt8) (bad : Bool) (most : Int) (w : World) (h : ReaderAt w g l bad) (hm : 0 ≤ most ∧ most ≤ 9223372036854775807) :
    Calls Try.prog 35 #[.pointer (some ⟨g, 0, none⟩), .int .i64 most] w fun e w' => e = .returned (.int .i64 ((numRes l bad most).1 : Nat)) ∧ (OnlyAt g w w' ∧ ReaderAt w' g (numRes l bad most).2.1 (numRes l bad most).2.2) ∧ w'.heap.size = w.heap.size := by
  match l, h with
  | a :: b :: c :: d :: r, h =>
    refine (Num_long2 g a b c d r bad most w h hm).mono ?_
    rintro e w' ⟨⟨ho, ⟨hle, rfl, hr⟩ | ⟨hlt, rfl, hr⟩⟩, hz⟩
    · simp only [numRes, if_pos hle]; exact ⟨trivial, ⟨ho, hr⟩, hz⟩
    · simp only [numRes, if_neg (show ¬ (num4 a b c d : Int) ≤ most by omega)]; exact ⟨rfl, ⟨ho, hr⟩, hz⟩
  | [], h => exact Num_short2 g _ bad most w h (by simp)
  | [a], h => exact Num_short2 g _ bad most w h (by simp)
  | [a, b], h => exact Num_short2 g _ bad most w h (by simp)
  | [a, b, c], h => exact Num_short2 g _ bad most w h (by simp)
theorem Num_all (g : Nat) (l : List UInt8) (bad : Bool) (most : Int) (w : World) (h : ReaderAt w g l bad) (hm : 0 ≤ most ∧ most ≤ 9223372036854775807) :
    Calls Try.prog 35 #[.pointer (some ⟨g, 0, none⟩), .int .i64 most] w fun e w' => e = .returned (.int .i64 ((numRes l bad most).1 : Nat)) ∧ OnlyAt g w w' ∧ ReaderAt w' g (numRes l bad most).2.1 (numRes l bad most).2.2 :=
  (Num_all2 g l bad most w h hm).mono fun _ _ ⟨h1, h2, _⟩ => ⟨h1, h2⟩

def rawRes (l : List UInt8) (bad : Bool) (most : Int) : List UInt8 × List UInt8 × Bool :=
  if (numRes l bad most).1 ≤ (numRes l bad most).2.1.length then ((numRes l bad most).2.1.take (numRes l bad most).1, (numRes l bad most).2.1.drop (numRes l bad most).1, (numRes l bad most).2.2) else ([], [], true)
/-- Bytes that a call has made, or none. -/
def Got (w w' : World) (v : Value) (l : List UInt8) : Prop :=
  (l = [] ∧ ∃ a, v = .slice a 0 0) ∨ ∃ gg cap, v = .slice (some ⟨gg, 0, none⟩) l.length cap ∧ w.heap.size ≤ gg ∧ OwnBytes w' w.heap.size v l
theorem Got.bytes {w w' : World} {v : Value} {l : List UInt8} (h : Got w w' v l) : Bytes w' v l := by
  rcases h with ⟨rfl, a, rfl⟩ | ⟨_, _, _, _, o⟩
  · exact ⟨a, 0, rfl, by simp, by simp, fun _ => rfl, fun i hi => absurd hi (by simp)⟩
  · exact o.bytes
theorem got_of {w w1 w2 : World} {a0 : Option Addr} {v : Value} {l : List UInt8} (f : FreshBytes w1 w2 (.slice a0 0 0) v l) (hs : w.heap.size ≤ w1.heap.size) : Got w w2 v l := by
  rcases f.own with ⟨rfl, rfl⟩ | ⟨_, o, gg, cap, rfl, h1, _⟩
  · exact .inl ⟨rfl, a0, rfl⟩
  · exact .inr ⟨gg, cap, rfl, by omega, o.le hs⟩
theorem Got.setOther {w w' : World} {v : Value} {l : List UInt8} (h : Got w w' v l) (g i : Nat) (hg : g < w.heap.size) (u : Value) : Got w (w'.setCell ⟨g, i, none⟩ u) v l := by
  rcases h with h | ⟨gg, cap, rfl, h1, o⟩
  · exact .inl h
  · exact .inr ⟨gg, cap, rfl, h1, o.other _ (by simp [Value.ownBlock]; omega) u⟩
def rawPost (g : Nat) (l : List UInt8) (bad : Bool) (most : Int) (w : World) (e : Ending) (w' : World) : Prop :=
  ∃ v, e = .returned v ∧ OnlyAt g w w' ∧ Got w w' v (rawRes l bad most).1 ∧ ReaderAt w' g (rawRes l bad most).2.1 (rawRes l bad most).2.2
/-- The reader lies in blocks that are older than the call. -/
def Older (B : Nat) (w : World) (g : Nat) (l : List UInt8) (bad : Bool) : Prop := ReaderAt w g l bad ∧ ∀ W, Below B w W → ReaderAt W g l bad
theorem Older.intro {B : Nat} {w1 w2 : World} {g : Nat} {l m : List UInt8} {bad : Bool} {u : Value} (h : ReaderAt w1 g m bad) (hu : Bytes w1 u l) (hB : w1.heap.size = B) (x : Ext w1 w2) : Older B (w2.setCell ⟨g, 0, none⟩ u) g l bad := by
  have hr := (h.ext x).set0 u (hu.ext x)
  refine ⟨hr, fun W hW => ?_⟩
  have hg : g < B := hB ▸ h.lt
  obtain ⟨v, t, hh, -⟩ := hr
  have hh' := hh
  obtain ⟨v1, t1, hh1, -⟩ := h.ext x
  rw [setCell_get w2 g 0 u _ t1 _ hh1] at hh'
  have hv : v = u := by simp at hh'; exact hh'.1.symm
  subst hv
  refine ⟨v, t, (hW.block g hg).trans hh, ?_⟩
  have hu0 := hu
  obtain ⟨a, cap, rfl, h1, h2, h3, -⟩ := hu
  have hu2 := (hu0.ext x).only (h.ext x) ((OnlyAt.refl g w2).set 0 (.slice a l.length cap))
  refine ⟨a, cap, rfl, h1, h2, h3, fun i hi => ?_⟩
  obtain ⟨b, o, e, hc⟩ := hu2.at i hi
  obtain ⟨b', o', e', hc'⟩ := hu0.at i hi
  subst e
  cases e'
  exact ⟨b, o, rfl, (hW.cell (hB ▸ World.block_lt_of_cell? w1 _ hc')).trans hc⟩
def rawPost2 (g : Nat) (l : List UInt8) (bad : Bool) (most : Int) (w : World) (e : Ending) (w' : World) : Prop :=
  ∃ v, e = .returned v ∧ OnlyAt g w w' ∧ Got w w' v (rawRes l bad most).1 ∧ Older w.heap.size w' g (rawRes l bad most).2.1 (rawRes l bad most).2.2

set_option maxHeartbeats 1000000 in
theorem RawR_any2 (g : Nat) (l : List UInt8) (bad : Bool) (most : Int) (w : World) (h : ReaderAt w g l bad) (hm : 0 ≤ most ∧ most ≤ 9223372036854775807) (hl : l.length ≤ 16777216) :
    Calls Try.prog 27 #[.pointer (some ⟨g, 0, none⟩), .int .i64 most] w (rawPost2 g l bad most w) := by
  have hg := h.lt
  have hN := numRes_lt l bad most
  have hL := numRes_len l bad most
  have hpost : ∀ e w', (∃ v, e = .returned v ∧ OnlyAt g w w' ∧ Got w w' v (rawRes l bad most).1 ∧ Older w.heap.size w' g (rawRes l bad most).2.1 (rawRes l bad most).2.2) → rawPost2 g l bad most w e w' := fun _ _ h => h
  unfold rawRes at hpost
  have hnum := Num_all2 g l bad most w h hm
  generalize (numRes l bad most).1 = n at *
  generalize (numRes l bad most).2.1 = r at *
  generalize (numRes l bad most).2.2 = b1 at *
  have Hpost := Lib.hid hpost
  have Hnum := Lib.hid hnum
  clear hpost hnum h
  go_enter Try.func27, Try.ntmps27
  go_wp2_with fail
  refine Hnum.out.mono ?_
  rintro e w1 ⟨rfl, ⟨o1, r1⟩, hz1⟩
  obtain ⟨a, cap, c0, c1, f0, f1, hb, hlen, hcap⟩ := r1.open
  have R1 := Lib.hid r1
  have O1 := Lib.hid o1
  have B1 := Lib.hid hb
  have hs1 := o1.size
  clear r1 o1 hb
  by_cases hnr : n ≤ r.length
  · rw [if_pos hnr] at Hpost
    have T1 := Lib.hid (B1.out.take n hnr)
    have hnc : n ≤ cap := by omega
    obtain ⟨V, hV, hVb⟩ : ∃ V, V = Go.sliced a n r.length cap 1 ∧ Hid (Bytes w1 V (r.drop n)) := by
      refine ⟨_, rfl, ?_⟩
      have := B1.out.sliced n r.length hnr (Nat.le_refl _) _ rfl
      rw [List.take_length] at this
      exact this
    by_cases hcn : cap = n
    · have hrn : r.length - n = 0 := by omega
      have hV2 : V = .slice a 0 0 := by rw [hV]; simp [Go.sliced, hcn]; omega
      clear hV
      subst hV2
      subst hcn
      go_wp2_with (at_builtin; refine wpList_append_empty_bytes _ rfl (.const (.slice none 0 0)) (.tmp 28) 22 rfl Try.underlying22 _ _ rfl rfl _ T1.out (by simp; omega) ?_)
      intro v2 w2 f2
      have X2 : Ext w1 w2 := f2.below
      have c0' := X2.cell c0
      have f0' := (Below.frozen X2 (World.block_lt_of_cell? w1 _ c0)).trans f0
      have G2 := got_of f2 hs1
      have R2 := Lib.hid (Older.intro R1.out hVb.out hz1 X2)
      have O2 := Lib.hid ((O1.out.ext X2).set 0 (.slice a 0 0))
      have G3 := Lib.hid (G2.setOther g 0 hg (.slice a 0 0))
      clear f2 X2 G2 c0 f0
      go_wp2_with fail
      go_ret
      exact Hpost.out _ _ ⟨_, rfl, O2.out, G3.out, R2.out⟩
    · have hV2 : V = .slice (Option.map (fun x => x.add n) a) (r.length - n) (cap - n) := by rw [hV]; simp [Go.sliced, hcn]
      clear hV
      subst hV2
      go_wp2_with (at_builtin; refine wpList_append_empty_bytes _ rfl (.const (.slice none 0 0)) (.tmp 28) 22 rfl Try.underlying22 _ _ rfl rfl _ T1.out (by simp; omega) ?_)
      intro v2 w2 f2
      have X2 : Ext w1 w2 := f2.below
      have c0' := X2.cell c0
      have f0' := (Below.frozen X2 (World.block_lt_of_cell? w1 _ c0)).trans f0
      have G2 := got_of f2 hs1
      have R2 := Lib.hid (Older.intro R1.out hVb.out hz1 X2)
      have O2 := Lib.hid ((O1.out.ext X2).set 0 (.slice (Option.map (fun x => x.add n) a) (r.length - n) (cap - n)))
      have G3 := Lib.hid (G2.setOther g 0 hg (.slice (Option.map (fun x => x.add n) a) (r.length - n) (cap - n)))
      clear f2 X2 G2 c0 f0
      go_wp2_with fail
      go_ret
      exact Hpost.out _ _ ⟨_, rfl, O2.out, G3.out, R2.out⟩
  · rw [if_neg hnr] at Hpost
    have O2 := Lib.hid ((O1.out.set 1 (.bool true)).set 0 (.slice none 0 0))
    have R2 := Lib.hid (Older.intro (R1.out.set1 true) (Bytes.nilv _) (B := w.heap.size) (by simpa [World.setCell] using hz1) (Ext.refl _))
    go_wp2_with fail
    go_ret
    exact Hpost.out _ _ ⟨_, rfl, O2.out, .inl ⟨rfl, _, rfl⟩, R2.out⟩
theorem RawR_any (g : Nat) (l : List UInt8) (bad : Bool) (most : Int) (w : World) (h : ReaderAt w g l bad) (hm : 0 ≤ most ∧ most ≤ 9223372036854775807) (hl : l.length ≤ 16777216) :
    Calls Try.prog 27 #[.pointer (some ⟨g, 0, none⟩), .int .i64 most] w (rawPost g l bad most w) :=
  (RawR_any2 g l bad most w h hm hl).mono fun _ _ ⟨v, h1, h2, h3, h4⟩ => ⟨v, h1, h2, h3, h4.1⟩

theorem TextR_any (g : Nat) (l : List UInt8) (bad : Bool) (most : Int) (w : World) (h : ReaderAt w g l bad) (hm : 0 ≤ most ∧ most ≤ 9223372036854775807) (hl : l.length ≤ 16777216) :
    Calls Try.prog 29 #[.pointer (some ⟨g, 0, none⟩), .int .i64 most] w fun e w' => e = .returned (.string ⟨(rawRes l bad most).1.toArray⟩) ∧ OnlyAt g w w' ∧ ReaderAt w' g (rawRes l bad most).2.1 (rawRes l bad most).2.2 := by
  have hraw := Lib.hid (RawR_any g l bad most w h hm hl)
  unfold rawPost at hraw
  generalize (rawRes l bad most).1 = out at *
  generalize (rawRes l bad most).2.1 = r at *
  generalize (rawRes l bad most).2.2 = b1 at *
  clear h
  go_enter Try.func29, Try.ntmps29
  go_wp2_with fail
  refine hraw.out.mono ?_
  rintro e w1 ⟨v, rfl, o1, g1, r1⟩
  have hcv := run_bs w1 v out g1.bytes
  have H := Lib.hid (And.intro o1 r1)
  clear o1 r1 g1
  go_wp2_with fail
  go_ret
  exact ⟨rfl, H.out⟩
theorem ListR_any (g : Nat) (l : List UInt8) (bad : Bool) (w : World) (h : ReaderAt w g l bad) (hl : l.length ≤ 16777216) :
    Calls Try.prog 28 #[.pointer (some ⟨g, 0, none⟩)] w fun e w' => ∃ g', e = .returned (.pointer (some ⟨g', 0, none⟩)) ∧ w.heap.size ≤ g' ∧ OnlyAt g w w' ∧ ReaderAt w' g (rawRes l bad 16777216).2.1 (rawRes l bad 16777216).2.2 ∧ ReaderAt w' g' (rawRes l bad 16777216).1 (rawRes l bad 16777216).2.2 := by
  have hraw := Lib.hid (RawR_any g l bad 16777216 w h (by omega) hl)
  unfold rawPost at hraw
  generalize (rawRes l bad 16777216).1 = out at *
  generalize (rawRes l bad 16777216).2.1 = r at *
  generalize (rawRes l bad 16777216).2.2 = b1 at *
  clear h
  go_enter Try.func28, Try.ntmps28
  go_wp2_with fail
  refine hraw.out.mono ?_
  rintro e w1 ⟨v, rfl, o1, g1, r1⟩
  obtain ⟨a, cap, c0, c1, -, -, -, -, -⟩ := r1.open
  have hs := o1.size
  have RN := Lib.hid (ReaderAt.new w1 v out b1 g1.bytes 108)
  have O1 := Lib.hid (o1.ext ((Ext.refl w1).alloc (.cells #[v, .bool b1] 108)))
  have R1 := Lib.hid (r1.ext ((Ext.refl w1).alloc (.cells #[v, .bool b1] 108)))
  obtain ⟨av, nv, cv, rfl⟩ : ∃ av nv cv, v = .slice av nv cv := by obtain ⟨x, y, rfl, _⟩ := g1.bytes; exact ⟨_, _, _, rfl⟩
  clear o1 r1 g1
  go_wp2_with fail
  go_ret
  exact ⟨_, rfl, hs, O1.out, R1.out, RN.out⟩
theorem Truth_any (g : Nat) (l : List UInt8) (bad : Bool) (w : World) (h : ReaderAt w g l bad) :
    Calls Try.prog 63 #[.pointer (some ⟨g, 0, none⟩)] w fun e w' => e = .returned (.bool (((numRes l bad 1).1 : Int) == 1)) ∧ OnlyAt g w w' ∧ ReaderAt w' g (numRes l bad 1).2.1 (numRes l bad 1).2.2 := by
  have hnum := Lib.hid (Num_all g l bad 1 w h (by omega))
  generalize (numRes l bad 1).1 = n at *
  generalize (numRes l bad 1).2.1 = r at *
  generalize (numRes l bad 1).2.2 = b1 at *
  clear h
  go_enter Try.func63, Try.ntmps63
  go_wp2_with fail
  refine hnum.out.mono ?_
  rintro e w1 ⟨rfl, o1, r1⟩
  have H := Lib.hid (And.intro o1 r1)
  clear o1 r1
  go_wp2_with fail
  go_ret
  exact ⟨rfl, H.out⟩

theorem take_eq_succ {l m : List UInt8} (k : Nat) (hl : k < l.length) (hm : k < m.length) (h : l.take k = m.take k) : l.take (k + 1) = m.take (k + 1) ↔ l[k] = m[k] := by
  rw [List.take_succ_eq_append_getElem hl, List.take_succ_eq_append_getElem hm, h]
  constructor
  · intro e; simpa using List.append_cancel_left e
  · intro e; rw [e]
theorem same_any (l m : List UInt8) (u v : Value) (w : World) (hu : Bytes w u l) (hv : Bytes w v m) :
    Calls Try.prog 25 #[u, v] w fun e w' => e = .returned (.bool (decide (l = m))) ∧ w = w' := by
  have hu0 := Lib.hid hu
  have hv0 := Lib.hid hv
  obtain ⟨a, cap, rfl, h1, h2, -, -⟩ := hu
  obtain ⟨a', cap', rfl, h3, h4, -, -⟩ := hv
  by_cases hlm : l.length = m.length
  · have Hlm := Lib.hid hlm
    have q1 : l.length ≤ m.length := by omega
    have q2 : m.length ≤ l.length := by omega
    clear hlm
    go_enter Try.func25, Try.ntmps25
    go_wp2_with fail
    go_loop [14] (fun i => ∃ k : Nat, k ≤ l.length ∧ i = .int .i64 k ∧ Hid (l.take k = m.take k)) (fun i => l.length - (intOf i).toNat)
    case atStart => exact ⟨0, Nat.zero_le _, rfl, rfl⟩
    case round =>
      obtain ⟨k, hk, rfl, ht⟩ := hrel
      by_cases hlt : k < l.length
      · obtain ⟨b, o, rfl, hc⟩ := hu0.out.at k hlt
        obtain ⟨b', o', rfl, hc'⟩ := hv0.out.at k (by omega)
        have hs := Lib.hid (take_eq_succ k hlt (by omega) ht.out)
        by_cases he : l[k] = m[k]
        · have ht2 : Hid (l.take (k + 1) = m.take (k + 1)) := hs.out.2 he
          rw [he] at hc
          clear he hs ht
          go_wp2_with fail
          go_round
          case rel => exact ⟨k + 1, by omega, by go_num, ht2⟩
          case measure => simp [intOf]; omega
        · have hne : Hid (decide (l = m) = false) := by
            show _ = _
            rw [decide_eq_false_iff_not]
            intro e
            subst e
            exact he rfl
          have hb : ((l[k].toNat : Int) == (m[k].toNat : Int)) = false := by
            rw [beq_eq_false_iff_ne]
            intro e
            exact he (UInt8.toNat_inj.1 (by omega))
          have hb2 : ((l[k].toNat : Int) != (m[k].toNat : Int)) = true := by rw [bne, hb]; rfl
          clear he hs
          generalize ((l[k].toNat : Nat) : Int) = x at *
          generalize ((m[k].toNat : Nat) : Int) = y at *
          go_wp2_with fail
          go_ret
          exact ⟨by rw [hne.out]; rfl, rfl⟩
      · have hkl : k = l.length := by omega
        have he : Hid (decide (l = m) = true) := by
          show _ = _
          have := ht.out
          rw [hkl, List.take_length, List.take_of_length_le q2] at this
          simpa using this
        clear ht
        go_wp2_with fail
        go_ret
        exact ⟨by rw [he.out]; rfl, rfl⟩
  · have hb : ((l.length : Int) != (m.length : Int)) = true := by simp; omega
    have he : Hid (decide (l = m) = false) := by
      show _ = _
      rw [decide_eq_false_iff_not]
      intro e; exact hlm (by rw [e])
    clear hlm
    go_enter Try.func25, Try.ntmps25
    go_wp2_with fail
    go_ret
    exact ⟨by rw [he.out]; rfl, rfl⟩
end Go.Proofs.Ytgkoblgpadpcjaa
