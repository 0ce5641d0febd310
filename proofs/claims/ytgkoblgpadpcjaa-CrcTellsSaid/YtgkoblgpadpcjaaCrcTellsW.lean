/- The walk of CrcTells: bytes of which up to four in a row were turned have another sum, and rows of bytes have that of all: whatever bytes and numbers come in, the call returns true, and they read as before. Conditions: none. -/
import Derived.Test.YtgkoblgpadpcjaaSums
import Derived.ProofKit
import Derived.OpenShut
import Derived.ShutString
import Derived.ChangeOld
import Derived.Test.YtgkoblgpadpcjaaNums
import Derived.Test.YtgkoblgpadpcjaaOpen
import Derived.Deep.RegionHeld3
import Derived.Stop.BytesEq
namespace Go.Proofs.Ytgkoblgpadpcjaa.crcTells
open Go.ChangeShapes Go.WideShapes Go.ChangeAt Go.RowKit
open Go.ChangeMaps (open_string shut_string)
set_option linter.unusedVariables false

theorem own : ownKnob Try.prog.godebug = none := by kernel_rfl
theorem laidOut : laidOutB Try.prog = true := by kernel_rfl

theorem wf_i64_bounds {n : Int} (h : (Lit.int .i64 n).wf = true) : -9223372036854775808 ≤ n ∧ n ≤ 9223372036854775807 := by
  simp [Lit.wf, IntKind.min, IntKind.max, IntKind.signed, IntKind.bits] at h
  omega
theorem at_nat (n : Int) (len : Nat) (h : 4 ≤ len) : ∃ p : Nat, p + 4 ≤ len ∧ (bits .and .i64 n 1023).tmod ((len : Int) - 3) = (p : Int) := by
  obtain ⟨q, hq, he⟩ := and_i64_mask n 1023 (by omega)
  have he' : bits .and .i64 n 1023 = (q : Int) := he
  refine ⟨q % (len - 3), ?_, ?_⟩
  · have := Nat.mod_lt q (show 0 < len - 3 by omega); omega
  · rw [he', show ((len : Int) - 3) = ((len - 3 : Nat) : Int) by omega]
    exact (Int.ofNat_tmod ..).symm
theorem idx4_0 (x0 x1 x2 x3 : UInt8) (w : World) : (Instr.index 28 (.agg #[.int .u8 x0.toNat, .int .u8 x1.toNat, .int .u8 x2.toNat, .int .u8 x3.toNat]) (.int .i64 0)).run Try.prog w = .ok (.int .u8 x0.toNat) w := by kernel_rfl
theorem idx4_1 (x0 x1 x2 x3 : UInt8) (w : World) : (Instr.index 28 (.agg #[.int .u8 x0.toNat, .int .u8 x1.toNat, .int .u8 x2.toNat, .int .u8 x3.toNat]) (.int .i64 1)).run Try.prog w = .ok (.int .u8 x1.toNat) w := by kernel_rfl
theorem idx4_2 (x0 x1 x2 x3 : UInt8) (w : World) : (Instr.index 28 (.agg #[.int .u8 x0.toNat, .int .u8 x1.toNat, .int .u8 x2.toNat, .int .u8 x3.toNat]) (.int .i64 2)).run Try.prog w = .ok (.int .u8 x2.toNat) w := by kernel_rfl
theorem idx4_3 (x0 x1 x2 x3 : UInt8) (w : World) : (Instr.index 28 (.agg #[.int .u8 x0.toNat, .int .u8 x1.toNat, .int .u8 x2.toNat, .int .u8 x3.toNat]) (.int .i64 3)).run Try.prog w = .ok (.int .u8 x3.toNat) w := by kernel_rfl
/-- The range over the array: element k. -/
theorem idx4 (x0 x1 x2 x3 : UInt8) (k : Nat) (hk : k < [x0, x1, x2, x3].length) (w : World) :
    (Instr.index 28 (.agg #[.int .u8 x0.toNat, .int .u8 x1.toNat, .int .u8 x2.toNat, .int .u8 x3.toNat]) (.int .i64 k)).run Try.prog w = .ok (.int .u8 ([x0, x1, x2, x3][k]).toNat) w := by
  match k, hk with
  | 0, _ => exact idx4_0 x0 x1 x2 x3 w
  | 1, _ => exact idx4_1 x0 x1 x2 x3 w
  | 2, _ => exact idx4_2 x0 x1 x2 x3 w
  | 3, _ => exact idx4_3 x0 x1 x2 x3 w

theorem eq4 (x0 x1 x2 x3 : UInt8) (w : World) : (Op.equalIn 10000 28 (.agg #[.int .u8 x0.toNat, .int .u8 x1.toNat, .int .u8 x2.toNat, .int .u8 x3.toNat]) (.agg #[.int .u8 0, .int .u8 0, .int .u8 0, .int .u8 0])).run Try.prog w = .ok ([x0, x1, x2, x3] == [0, 0, 0, 0]) w :=
  run_equalIn_bytes w 9998 28 5 4 Try.underlying28 Try.underlying5 (fun w => by kernel_rfl) [x0, x1, x2, x3] [0, 0, 0, 0] rfl rfl
theorem zero4 (x0 x1 x2 x3 : UInt8) : mnum [x0, x1, x2, x3] = 0 ↔ [x0, x1, x2, x3] = [0, 0, 0, 0] := by
  constructor
  · intro h
    simp only [mnum] at h
    have h0 : x0.toNat = 0 := by omega
    have h1 : x1.toNat = 0 := by omega
    have h2 : x2.toNat = 0 := by omega
    have h3 : x3.toNat = 0 := by omega
    rw [UInt8.toNat_inj.1 (show x0.toNat = (0 : UInt8).toNat from h0), UInt8.toNat_inj.1 (show x1.toNat = (0 : UInt8).toNat from h1), UInt8.toNat_inj.1 (show x2.toNat = (0 : UInt8).toNat from h2), UInt8.toNat_inj.1 (show x3.toNat = (0 : UInt8).toNat from h3)]
  · intro h; rw [h]; rfl
theorem tells_bool (l : List UInt8) (x0 x1 x2 x3 : UInt8) (p : Nat) (hp : p + 4 ≤ l.length) : ((crcOf l : Int) == (crcOf (turnTo l p [x0, x1, x2, x3] 4) : Int)) = ([x0, x1, x2, x3] == [0, 0, 0, 0]) := by
  have h := crc_tells l [x0, x1, x2, x3] p hp rfl
  rw [zero4] at h
  rw [Bool.eq_iff_iff]
  simp only [beq_iff_eq]
  rw [← h]
  exact Int.ofNat_inj

theorem keep4 {w0 W : World} {g : Nat} {v0 v1 v2 v3 : Value} (h : w0.cell? ⟨g, 0, none⟩ = some v0 ∧ w0.cell? ⟨g, 1, none⟩ = some v1 ∧ w0.cell? ⟨g, 2, none⟩ = some v2 ∧ w0.cell? ⟨g, 3, none⟩ = some v3) (hx : Ext w0 W) :
    W.cell? ⟨g, 0, none⟩ = some v0 ∧ W.cell? ⟨g, 1, none⟩ = some v1 ∧ W.cell? ⟨g, 2, none⟩ = some v2 ∧ W.cell? ⟨g, 3, none⟩ = some v3 :=
  ⟨hx.cell h.1, hx.cell h.2.1, hx.cell h.2.2.1, hx.cell h.2.2.2⟩
set_option maxRecDepth 100000 in
set_option maxHeartbeats 4000000 in
theorem walk_main (l : List UInt8) (v : Value) (n : Int) (x0 x1 x2 x3 : UInt8) (w : World) (hb : Bytes w v l) (hn : -9223372036854775808 ≤ n ∧ n ≤ 9223372036854775807) (h1 : l.length ≤ 300) (h2 : 4 ≤ l.length) :
    Calls Try.prog 4 #[v, .int .i64 n, .agg #[.int .u8 x0.toNat, .int .u8 x1.toNat, .int .u8 x2.toNat, .int .u8 x3.toNat]] w fun e w' => e = .returned (.bool true) ∧ Below w.heap.size w w' := by
  have hb0 := Lib.hid hb
  obtain ⟨a, cap, rfl, hlc, hlm, -, -⟩ := hb
  obtain ⟨p, hp, hpe⟩ := at_nat n l.length h2
  have hd1 : decide ((300 : Int) < (l.length : Int)) = false := by simp; omega
  have hd2 : decide ((l.length : Int) < 4) = false := by simp; omega
  have hB := Lib.hid ((Below.refl w.heap.size w).alloc (Nat.le_refl _) (.cells #[.int .u8 x0.toNat, .int .u8 x1.toNat, .int .u8 x2.toNat, .int .u8 x3.toNat] 28))
  have hc0 := cell_new0 w #[.int .u8 x0.toNat, .int .u8 x1.toNat, .int .u8 x2.toNat, .int .u8 x3.toNat] 28
  have hbx := hb0.out.alloc (.cells #[.int .u8 x0.toNat, .int .u8 x1.toNat, .int .u8 x2.toNat, .int .u8 x3.toNat] 28)
  generalize hwx : w.alloc (.cells #[.int .u8 x0.toNat, .int .u8 x1.toNat, .int .u8 x2.toNat, .int .u8 x3.toNat] 28) = wx at *
  have hszx : wx.heap.size = w.heap.size + 1 := by rw [← hwx]; simp
  have HC0 := Lib.hid hc0
  have Hwx := Lib.hid hwx
  have Hbx := Lib.hid hbx
  have Hszx := Lib.hid hszx
  clear hc0 hbx hwx hszx
  go_enter Try.func4, Try.ntmps4
  go_wp2_with fail
  rw [Hwx.out]
  refine (alive_any _).mono ?_
  rintro e w1 ⟨rfl, bel1⟩
  have A1 := Lib.hid (Hbx.out.below bel1 (Nat.le_refl _))
  have hsz1 := bel1.size
  have HB1 := Lib.hid (hB.out.trans (bel1.mono (by rw [Hszx.out]; omega)))
  have hle1 : w.heap.size < w1.heap.size := by have := Hszx.out; omega
  have hblk : w1.heap[w.heap.size]? = some (.cells #[.int .u8 x0.toNat, .int .u8 x1.toNat, .int .u8 x2.toNat, .int .u8 x3.toNat] 28 (0, 0)) := by
    rw [bel1.block _ (by rw [Hszx.out]; omega), ← Hwx.out]
    show (w.heap.push _)[w.heap.size]? = _; simp
  have Q := Lib.hid hblk
  clear bel1 hblk
  go_wp2_with (at_builtin; refine wpList_append_empty_bytes _ rfl (.tmp 26) (.tmp 27) 22 rfl Try.underlying22 _ _ rfl rfl l (A1.out.alloc _) (by omega) ?_)
  intro v2 w2 f2
  have O2 := one_of (by omega) ((Below.refl w1.heap.size w1).alloc (Nat.le_refl _) _) f2
  clear f2
  have Q2 := Lib.hid ((O2.choose_spec.choose_spec.2.2.2.block _ hle1).trans Q.out)
  have ob : ∃ ax cx, v2 = .slice ax l.length cx := by obtain ⟨g, c, rfl, _⟩ := O2; exact ⟨_, _, rfl⟩
  obtain ⟨ax, cx, rfl⟩ := ob
  have HO2 : Hid (One w1 w2 (.slice ax l.length cx) (turnTo l p [x0, x1, x2, x3] 0)) := O2
  clear O2
  go_wp2_with (refine wpList_load_row rfl 28 (.tmp 5) rfl _ rfl 28 _ (0, 0) _ Q2.out Try.underlying28 rfl (by kernel_rfl) ?_)
  go_loopw [30] (fun i wr => ∃ k : Nat, k ≤ 4 ∧ i = .int .i64 k ∧ One w1 wr (.slice ax l.length cx) (turnTo l p [x0, x1, x2, x3] k)) (fun i _ => 4 - (intOf i).toNat)
  case atStart => exact ⟨0, by omega, rfl, HO2.out⟩
  case round =>
    obtain ⟨k, hk, rfl, T⟩ := hrel
    clear HO2
    by_cases hlt : k < 4
    · obtain ⟨g, q, r, rfl, hg, cX, fX, e1, T2⟩ := tells_step T (by omega) (show k < [x0, x1, x2, x3].length from hlt)
      have hix := idx4 x0 x1 x2 x3 k hlt
      have TT2 := Lib.hid T2
      generalize ([x0, x1, x2, x3][k]).toNat = xk at *
      clear T T2
      go_wp2_with fail
      go_roundw
      case rel => exact ⟨k + 1, by omega, by go_num, TT2.out⟩
      case measure => simp [intOf]; omega
    · have hk4 : k = 4 := by omega
      subst hk4
      go_wp2_with fail
      have Q3 := (T.choose_spec.choose_spec.2.2.2.block _ hle1).trans Q.out
      have TB := Lib.hid T.bytes
      have LB := A1.out.below T.choose_spec.choose_spec.2.2.2 (Nat.le_refl _)
      obtain ⟨b0, o0, rfl, -⟩ := LB.at 0 (by omega)
      have LD := Lib.hid (LB.tail p (by omega))
      have LT := Lib.hid (LB.take p (by omega))
      have LL := Lib.hid LB
      clear LB
      have hbz := tells_bool l x0 x1 x2 x3 p hp
      have heq := eq4 x0 x1 x2 x3
      generalize ([x0, x1, x2, x3] == [0, 0, 0, 0]) = bz at hbz heq
      have HB2 := Lib.hid (HB1.out.trans (T.choose_spec.choose_spec.2.2.2.mono (by omega)))
      have hp1 : (0 : Int) ≤ (p : Int) := by omega
      have hp2 : (p : Int) ≤ (l.length : Int) := by omega
      have hp3 : p ≤ l.length := by omega
      have hp4 : p ≤ cap := by omega
      have hcp : ¬ cap = p := by omega
      clear T
      have c0 : wr.cell? ⟨w.heap.size, 0, none⟩ = some (.int .u8 x0.toNat) := by simp [World.cell?, Q3]
      have c1 : wr.cell? ⟨w.heap.size, 1, none⟩ = some (.int .u8 x1.toNat) := by simp [World.cell?, Q3]
      have c2 : wr.cell? ⟨w.heap.size, 2, none⟩ = some (.int .u8 x2.toNat) := by simp [World.cell?, Q3]
      have c3 : wr.cell? ⟨w.heap.size, 3, none⟩ = some (.int .u8 x3.toNat) := by simp [World.cell?, Q3]
      have hlt1 : w.heap.size < wr.heap.size := World.block_lt_of_cell? wr _ c0
      have HS := Lib.hid (And.intro c0 (And.intro c1 (And.intro c2 c3)))
      clear Q3
      go_region_held3 (fun W => W.cell? ⟨w.heap.size, 0, none⟩ = some (.int .u8 x0.toNat) ∧ W.cell? ⟨w.heap.size, 1, none⟩ = some (.int .u8 x1.toNat) ∧ W.cell? ⟨w.heap.size, 2, none⟩ = some (.int .u8 x2.toNat) ∧ W.cell? ⟨w.heap.size, 3, none⟩ = some (.int .u8 x3.toNat))
        (first
          | ((with_reducible refine keep4 HS.out ?_); (repeat (first | with_reducible exact Ext.refl _ | with_reducible refine Ext.drew ?_ | with_reducible refine Ext.alloc ?_ _)))
          | go_keep)
        (first
          | (go_at_call 18; (with_reducible refine Calls.mono (crc_any (ls := ?_) ?_ ?_) ?_); (any_goals (first | ((with_reducible refine RowsN.one LL.out ?_ ?_); (focus (repeat (first | with_reducible exact Ext.refl _ | with_reducible refine Ext.drew ?_ | with_reducible refine Ext.alloc ?_ _))); (focus (simp only [drew_heap, alloc_get, alloc_size, if_true, if_false, Nat.add_right_cancel_iff, nf1, nf2, nf3, nf4, nf5, nf6]; done))) | ((with_reducible refine RowsN.one TB.out ?_ ?_); (focus (repeat (first | with_reducible exact Ext.refl _ | with_reducible refine Ext.drew ?_ | with_reducible refine Ext.alloc ?_ _))); (focus (simp only [drew_heap, alloc_get, alloc_size, if_true, if_false, Nat.add_right_cancel_iff, nf1, nf2, nf3, nf4, nf5, nf6]; done))) | ((with_reducible refine RowsN.two LT.out LD.out ?_ ?_); (focus (repeat (first | with_reducible exact Ext.refl _ | with_reducible refine Ext.drew ?_ | with_reducible refine Ext.alloc ?_ _))); (focus (simp only [drew_heap, alloc_get, alloc_size, if_true, if_false, Nat.add_right_cancel_iff, nf1, nf2, nf3, nf4, nf5, nf6]; done))))); (any_goals omega); rintro e w' ⟨rfl, rfl⟩))
      all_goals go_wp2
      all_goals go_ret
      all_goals
        refine ⟨rfl, HB2.out.trans (Ext.mono (Nat.le_of_lt hlt1) ?_)⟩
        (repeat (first | with_reducible exact Ext.refl _ | with_reducible refine Ext.drew ?_ | with_reducible refine Ext.alloc ?_ _))

set_option maxRecDepth 100000 in
theorem walk' (l : List UInt8) (v : Value) (n : Int) (x0 x1 x2 x3 : UInt8) (w : World) (hb : Bytes w v l) (hn : -9223372036854775808 ≤ n ∧ n ≤ 9223372036854775807) :
    Calls Try.prog 4 #[v, .int .i64 n, .agg #[.int .u8 x0.toNat, .int .u8 x1.toNat, .int .u8 x2.toNat, .int .u8 x3.toNat]] w fun e w' => e = .returned (.bool true) ∧ Below w.heap.size w w' := by
  by_cases h1 : l.length ≤ 300
  · by_cases h2 : 4 ≤ l.length
    · exact walk_main l v n x0 x1 x2 x3 w hb hn h1 h2
    · obtain ⟨a, cap, rfl, hlc, hlm, -, -⟩ := hb
      have hd1 : decide ((300 : Int) < (l.length : Int)) = false := by simp; omega
      have hd2 : decide ((l.length : Int) < 4) = true := by simp; omega
      have hB := Lib.hid (fun (w' : World) (h : Below (w.heap.size + 1) (w.alloc (.cells #[.int .u8 x0.toNat, .int .u8 x1.toNat, .int .u8 x2.toNat, .int .u8 x3.toNat] 28)) w') => ((Below.refl w.heap.size w).alloc (Nat.le_refl _) _).trans (h.mono (by omega)))
      go_enter Try.func4, Try.ntmps4
      go_wp2_with fail
      refine (alive_any _).mono ?_
      rintro e w1 ⟨rfl, bel1⟩
      have Bel := Lib.hid (hB.out w1 (by simpa using bel1))
      clear bel1
      go_wp2
      go_ret
      exact ⟨rfl, Bel.out⟩
  · obtain ⟨a, cap, rfl, hlc, hlm, -, -⟩ := hb
    have hd1 : decide ((300 : Int) < (l.length : Int)) = true := by simp; omega
    have hB := Lib.hid (fun (w' : World) (h : Below (w.heap.size + 1) (w.alloc (.cells #[.int .u8 x0.toNat, .int .u8 x1.toNat, .int .u8 x2.toNat, .int .u8 x3.toNat] 28)) w') => ((Below.refl w.heap.size w).alloc (Nat.le_refl _) _).trans (h.mono (by omega)))
    go_enter Try.func4, Try.ntmps4
    go_wp2_with fail
    refine (alive_any _).mono ?_
    rintro e w1 ⟨rfl, bel1⟩
    have Bel := Lib.hid (hB.out w1 (by simpa using bel1))
    clear bel1
    go_wp2
    go_ret
    exact ⟨rfl, Bel.out⟩
theorem four_of (l : List UInt8) (h : l.length = 4) : ∃ x0 x1 x2 x3, l = [x0, x1, x2, x3] := by
  match l, h with
  | [x0, x1, x2, x3], _ => exact ⟨x0, x1, x2, x3, rfl⟩
end Go.Proofs.Ytgkoblgpadpcjaa.crcTells
