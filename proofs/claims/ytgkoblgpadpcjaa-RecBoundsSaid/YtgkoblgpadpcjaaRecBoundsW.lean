/- The walk of RecBounds. -/
import Derived.Test.YtgkoblgpadpcjaaRecAlive
import Derived.Deep.CutRange
namespace Go.Proofs.Ytgkoblgpadpcjaa.recBounds
open Go.RowKit

/-- What the law reckons ahead of the reader: the number, and whether it is to be taken. -/
def OkRel (l : List UInt8) (most : Nat) (n : Nat) (ok : Bool) : Prop :=
  numRes l false most = (if ok then (n, l.drop 4, false) else (0, [], true)) ∧ (ok = true → 4 ≤ l.length) ∧ n < 4294967296
theorem sum_le (a b c d : UInt8) : (a.toNat : Int) + 256 * (b.toNat : Int) + 65536 * (c.toNat : Int) + 16777216 * (d.toNat : Int) = (num4 a b c d : Int) := by
  unfold num4; omega
set_option maxRecDepth 100000 in
set_option maxHeartbeats 8000000 in
theorem walk_num (l : List UInt8) (v : Value) (m : Int) (w : World) (hb : Bytes w v l) (hl : l.length ≤ 200) :
    Calls Try.prog 8 #[v, .int .i64 m, .bool false] w fun e w' => e = .returned (.bool true) ∧ Below w.heap.size w w' := by
  have hb0 := Lib.hid hb
  obtain ⟨a, cap, rfl, hlc, hlm, -, -⟩ := hb
  obtain ⟨most, hmo, hme⟩ := and_i64_mask m 1048575 (by omega)
  have hme' : bits .and .i64 m 1048575 = (most : Int) := hme
  clear hme
  go_enter Try.func8, Try.ntmps8
  go_wp2_with fail
  refine (recAlive_any _).mono ?_
  rintro e w1 ⟨rfl, l1⟩
  have L1 := Lib.hid l1
  have B1 := Lib.hid (hb0.out.below l1 (Nat.le_refl _))
  clear l1
  go_wp2_with (at_builtin; refine wpList_append_empty_bytes _ rfl (.tmp 20) (.tmp 21) 22 rfl Try.underlying22 _ _ rfl rfl l (B1.out.alloc _) (by omega) ?_)
  intro v2 w2 f2
  have F2 := Lib.hid f2.bytes
  have X2 := Lib.hid (((Ext.refl w1).alloc (.cells #[] 5)).trans (show Ext _ w2 from f2.below))
  clear f2
  go_wp2_with fail
  refine (Read_any l _ _ F2.out (by omega)).mono ?_
  rintro e w3 ⟨g, rfl, hg2, x3, r3⟩
  have X3 := Lib.hid (X2.out.trans x3)
  have R3 := Lib.hid r3
  have B3 := Lib.hid (B1.out.ext X3.out)
  have L3 := Lib.hid (L1.out.trans (Ext.mono L1.out.size X3.out))
  have hg : w.heap.size ≤ g := by have := L1.out.size; have := X2.out.size; omega
  have hg1 : w1.heap.size ≤ g := by have := X2.out.size; omega
  clear x3 r3 B1 X2 F2 hb0
  go_upto_if 27 with (fail)
  go_cut [8, 9] from 28 to 52 (fun x y wc => ∃ (n : Nat) (ok : Bool), x = .int .i64 n ∧ y = .bool ok ∧ OkRel l most n ok ∧ OnlyAt g w3 wc ∧ ReaderAt wc g l false)
  case first =>
    by_cases h4 : 4 ≤ l.length
    · obtain ⟨x0, x1, x2, x3, r, rfl⟩ : ∃ x0 x1 x2 x3 r, l = x0 :: x1 :: x2 :: x3 :: r := by
        match l, h4 with
        | x0 :: x1 :: x2 :: x3 :: r, _ => exact ⟨x0, x1, x2, x3, r, rfl⟩
      obtain ⟨bb, oo, rfl, -, d0⟩ := R3.out.bytes_ne B3.out 0 (by simp)
      obtain ⟨_, _, e1, -, d1⟩ := R3.out.bytes_ne B3.out 1 (by simp)
      obtain ⟨_, _, e2, -, d2⟩ := R3.out.bytes_ne B3.out 2 (by simp)
      obtain ⟨_, _, e3, -, d3⟩ := R3.out.bytes_ne B3.out 3 (by simp)
      cases e1
      cases e2
      cases e3
      simp only [List.getElem_cons_zero, List.getElem_cons_succ, Nat.add_zero] at d0 d1 d2 d3
      have Hok : Hid (∀ ok, ok = decide ((num4 x0 x1 x2 x3 : Int) ≤ (most : Int)) → OkRel (x0 :: x1 :: x2 :: x3 :: r) most (num4 x0 x1 x2 x3) ok) := by
        rintro ok rfl
        refine ⟨?_, fun _ => by simp, num4_lt _ _ _ _⟩
        unfold numRes
        by_cases h : (num4 x0 x1 x2 x3 : Int) ≤ (most : Int)
        · simp only [if_pos h, decide_eq_true h, if_true]; rfl
        · simp only [if_neg h, decide_eq_false h]; rfl
      have hs := Lib.hid (sum_le x0 x1 x2 x3)
      have hn4 : (x0 :: x1 :: x2 :: x3 :: r).length = r.length + 4 := by simp
      have q0 : (0 : Int) < ((x0 :: x1 :: x2 :: x3 :: r).length : Int) := by rw [hn4]; omega
      have q1 : (1 : Int) < ((x0 :: x1 :: x2 :: x3 :: r).length : Int) := by rw [hn4]; omega
      have q2 : (2 : Int) < ((x0 :: x1 :: x2 :: x3 :: r).length : Int) := by rw [hn4]; omega
      have q3 : (3 : Int) < ((x0 :: x1 :: x2 :: x3 :: r).length : Int) := by rw [hn4]; omega
      have y0 := x0.toNat_lt
      have y1 := x1.toNat_lt
      have y2 := x2.toNat_lt
      have y3 := x3.toNat_lt
      clear hn4
      go_wp2_with fail
      go_quiet (fail)
      rw [hs.out]
      clear d0 d1 d2 d3 q0 q1 q2 q3 y0 y1 y2 y3
      go_wp2_with fail
      go_meet
      exact ⟨num4 x0 x1 x2 x3, _, rfl, rfl, Hok.out _ (by simp), (OnlyAt.refl _ _).drewN _, R3.out⟩
    · have Hok : Hid (OkRel l most 0 false) := by
        refine ⟨?_, by simp, by simp⟩
        match l, h4 with
        | [], _ => rfl
        | [_], _ => rfl
        | [_, _], _ => rfl
        | [_, _, _], _ => rfl
        | _ :: _ :: _ :: _ :: _, h => exact absurd (by simp) h
      have hd : Hid (decide ((4 : Int) ≤ (l.length : Int)) = false) := by show _ = _; simp; omega
      go_wp2_with fail
      go_meet
      exact ⟨0, false, rfl, by rw [hd.out], Hok.out, OnlyAt.refl _ _, R3.out⟩
  case rest =>
    obtain ⟨n, ok, rfl, rfl, hok, o3, r3⟩ := hcut
    have R4 := Lib.hid r3
    have B4 := Lib.hid (B3.out.only R3.out o3)
    have L4 := Lib.hid (L3.out.trans (o3.below hg L3.out.size))
    obtain ⟨hnum, h4, hn⟩ := hok
    have Hnum := Lib.hid hnum
    clear r3 o3 R3 B3 L3 hnum
    have hcall := Num_all g l false most wc R4.out (by omega)
    cases ok
    · rw [Hnum.out] at hcall
      simp only [Bool.false_eq_true, if_false] at hcall
      have Hc := Lib.hid hcall
      clear hcall h4
      go_wp2_with fail
      refine Hc.out.mono ?_
      rintro e w5 ⟨rfl, o5, r5⟩
      have R5 := Lib.hid r5
      have L5 := Lib.hid (L4.out.trans (o5.below hg L4.out.size))
      clear o5 r5
      go_wp2_with fail
      refine (Good_any g _ _ _ R5.out).mono ?_
      rintro e w' ⟨rfl, rfl⟩
      go_wp2_with fail
      refine (More_any g _ _ _ R5.out).mono ?_
      rintro e w' ⟨rfl, rfl⟩
      go_wp2_with fail
      refine (Done_any g _ _ _ R5.out).mono ?_
      rintro e w' ⟨rfl, rfl⟩
      go_wp2_with fail
      go_ret
      exact ⟨rfl, L5.out⟩
    · rw [Hnum.out] at hcall
      simp only [if_true] at hcall
      have Hc := Lib.hid hcall
      have hl4 := h4 rfl
      clear hcall h4
      have hem : (l.drop 4).isEmpty = decide (l.length ≤ 4) := by
        cases h : l.drop 4 with
        | nil => have := congrArg List.length h; simp at this ⊢; omega
        | cons x y => have := congrArg List.length h; simp at this ⊢; omega
      by_cases h5 : l.length ≤ 4
      · rw [decide_eq_true h5] at hem
        have Hem := Lib.hid hem
        clear hem
        have t1 : decide ((4 : Int) < (l.length : Int)) = false := by simp; omega
        have t2 : ((l.length : Int) == 4) = true := by simp; omega
        go_wp2_with fail
        refine Hc.out.mono ?_
        rintro e w5 ⟨rfl, o5, r5⟩
        have R5 := Lib.hid r5
        have L5 := Lib.hid (L4.out.trans (o5.below hg L4.out.size))
        clear o5 r5
        go_wp2_with fail
        refine (Good_any g _ _ _ R5.out).mono ?_
        rintro e w' ⟨rfl, rfl⟩
        go_wp2_with fail
        refine (More_any g _ _ _ R5.out).mono ?_
        rintro e w' ⟨rfl, rfl⟩
        rw [Hem.out]
        go_wp2_with fail
        refine (Done_any g _ _ _ R5.out).mono ?_
        rintro e w' ⟨rfl, rfl⟩
        rw [Hem.out]
        go_wp2_with fail
        go_ret
        exact ⟨rfl, L5.out⟩
      · rw [decide_eq_false h5] at hem
        have Hem := Lib.hid hem
        clear hem
        have t1 : decide ((4 : Int) < (l.length : Int)) = true := by simp; omega
        have t2 : ((l.length : Int) == 4) = false := by simp; omega
        go_wp2_with fail
        refine Hc.out.mono ?_
        rintro e w5 ⟨rfl, o5, r5⟩
        have R5 := Lib.hid r5
        have L5 := Lib.hid (L4.out.trans (o5.below hg L4.out.size))
        clear o5 r5
        go_wp2_with fail
        refine (Good_any g _ _ _ R5.out).mono ?_
        rintro e w' ⟨rfl, rfl⟩
        go_wp2_with fail
        refine (More_any g _ _ _ R5.out).mono ?_
        rintro e w' ⟨rfl, rfl⟩
        rw [Hem.out]
        go_wp2_with fail
        refine (Done_any g _ _ _ R5.out).mono ?_
        rintro e w' ⟨rfl, rfl⟩
        rw [Hem.out]
        go_wp2_with fail
        go_ret
        exact ⟨rfl, L5.out⟩
end Go.Proofs.Ytgkoblgpadpcjaa.recBounds
