/- RecBack: a reader takes a piece (the function takes). -/
import Derived.Test.YtgkoblgpadpcjaaRecBackQ
namespace Go.Proofs.Ytgkoblgpadpcjaa.recBack
open Go.RowKit Go.Proofs.Ytgkoblgpadpcjaa.recApart

def takesPost (g : Nat) (rest : List UInt8) (w : World) (e : Ending) (w' : World) : Prop :=
  e = .returned (.bool true) ∧ OnlyAt g w w' ∧ ReaderAt w' g rest false
theorem numRes_le4 (n : Nat) (r : List UInt8) (bad : Bool) (most : Int) (h : (n : Int) ≤ most) (h2 : n < 4294967296) : numRes (le4 n ++ r) bad most = (n, r, bad) := by
  simp only [numRes, le4, List.cons_append, List.nil_append, num4_le4 _ h2, if_pos h]
theorem OnlyAt.new {g g' : Nat} {w a b : World} (h : OnlyAt g w a) (k : OnlyAt g' a b) (hg : w.heap.size ≤ g') : OnlyAt g w b :=
  ⟨k.os.trans h.os, k.tape.trans h.tape, k.output.trans h.output, Nat.le_trans h.size k.size, fun i hi hne => (k.block i (Nat.lt_of_lt_of_le hi h.size) (by simp; omega)).trans (h.block i hi hne)⟩
theorem same_true (b : List UInt8) (u v : Value) (w : World) (hu : Bytes w u b) (hv : Bytes w v b) : Calls Try.prog 25 #[u, v] w fun e w' => e = .returned (.bool true) ∧ w = w' :=
  (same_any b b u v w hu hv).mono fun e w' ⟨h1, h2⟩ => ⟨by rw [h1]; simp, h2⟩

set_option maxRecDepth 100000 in
set_option maxHeartbeats 2000000 in
theorem takes_raw (g n : Nat) (b rest : List UInt8) (c2 c3 : Value) (deep : Int) (w : World) (hb : Bytes w c2 b) (hl : b.length ≤ 1000) (hr : ReaderAt w g (le4 b.length ++ b ++ rest) false) (hrl : (le4 b.length ++ b ++ rest).length ≤ 16777216) :
    Calls Try.prog 33 #[.pointer (some ⟨g, 0, none⟩), .agg #[.int .i64 1, .int .u32 n, c2, c3], .int .i64 deep] w (takesPost g rest w) := by
  have B0 := Lib.hid hb
  have R0 := Lib.hid hr
  have HL := Lib.hid hl
  have HRL := Lib.hid hrl
  have hgl := Lib.hid hr.lt
  have HE := Lib.hid (rawRes_le4 b rest false 1000 (by omega) (by omega))
  obtain ⟨ab, cb, rfl, hb1, hb2, -, -⟩ := hb
  have X0 := Lib.hid ((Ext.refl w).alloc (.cells #[.int .i64 1, .int .u32 n, .slice ab b.length cb, c3] 46))
  have X1 := Lib.hid ((Ext.refl w).alloc (.cells #[.int .i64 1, .int .u32 n, .slice ab b.length cb, c3] 46)).drew
  have KC : Hid (∀ W, OnlyAt g (w.alloc (.cells #[.int .i64 1, .int .u32 n, .slice ab b.length cb, c3] 46)) W → W.cell? ⟨w.heap.size, 2, none⟩ = some (.slice ab b.length cb)) :=
    fun W h => h.cell (cell_new0 w _ 46 2) (by have := hr.lt; simp; omega)
  clear hl hr hrl
  go_enter Try.func33, Try.ntmps33
  go_wp2_with fail
  go_region_held3 (fun W => W.cell? ⟨w.heap.size, 2, none⟩ = some (.slice ab b.length cb))
    (first
      | exact KC.out _ (OnlyAt.refl _ _)
      | exact KC.out _ (OnlyAt.refl _ _).drew
      | exact KC.out _ O3.out
      | go_keep)
    (first
      | ((go_at_call 27); (refine (RawR_any g (le4 b.length ++ b ++ rest) false 1000 _ (R0.out.ext X1.out) (by omega) HRL.out).mono ?_); (rintro e w3 ⟨v3, rfl, o3, g3, r3⟩); (rw [HE.out] at g3 r3); (have O3 := Lib.hid ((OnlyAt.refl _ _).drew.trans o3)); (have G3 := Lib.hid g3.bytes); (have R3 := Lib.hid r3); (have B3 := Lib.hid (Bytes.only (R0.out.ext X1.out) (B0.out.ext X1.out) o3)); (clear o3 g3 r3))
      | ((go_at_call 25); (refine (same_true b _ _ _ G3.out B3.out).mono ?_); (rintro e w4 ⟨rfl, rfl⟩))
      | ((go_at_call 36); (refine (Good_any g rest false _ R3.out).mono ?_); (rintro e w5 ⟨rfl, rfl⟩)))
  all_goals go_wp2_with fail
  all_goals go_ret
  all_goals exact ⟨rfl, (X0.out.only g).trans O3.out, R3.out⟩

set_option maxRecDepth 100000 in
set_option maxHeartbeats 2000000 in
theorem takes_num (g : Nat) (k : Int) (n : Nat) (rest : List UInt8) (c2 c3 : Value) (deep : Int) (w : World) (hn : n < 4294967296) (hk : k ≠ 1) (hd : k ≠ 2 ∨ 4 ≤ deep) (hr : ReaderAt w g (le4 n ++ rest) false) :
    Calls Try.prog 33 #[.pointer (some ⟨g, 0, none⟩), .agg #[.int .i64 k, .int .u32 n, c2, c3], .int .i64 deep] w (takesPost g rest w) := by
  have R0 := Lib.hid hr
  have hgl := Lib.hid hr.lt
  have HE := Lib.hid (numRes_le4 n rest false 4294967295 (by omega) hn)
  have X0 := Lib.hid ((Ext.refl w).alloc (.cells #[.int .i64 k, .int .u32 n, c2, c3] 46))
  have X1 := Lib.hid ((Ext.refl w).alloc (.cells #[.int .i64 k, .int .u32 n, c2, c3] 46)).drew
  have KC : Hid (∀ W, OnlyAt g (w.alloc (.cells #[.int .i64 k, .int .u32 n, c2, c3] 46)) W → W.cell? ⟨w.heap.size, 1, none⟩ = some (.int .u32 n)) :=
    fun W h => h.cell (cell_new0 w _ 46 1) (by have := hr.lt; simp; omega)
  have hcv : IntKind.i64.wrap (n : Int) = (n : Int) := IntWalk.i64_in _ (by omega)
  clear hr
  by_cases h2 : k = 2
  · subst h2
    have hd4 : 4 ≤ deep := by rcases hd with h | h; exact absurd rfl h; exact h
    clear hd hk
    go_enter Try.func33, Try.ntmps33
    go_wp2_with fail
    go_region_held3 (fun W => W.cell? ⟨w.heap.size, 1, none⟩ = some (.int .u32 n))
      (first
        | exact KC.out _ (OnlyAt.refl _ _)
        | exact KC.out _ (OnlyAt.refl _ _).drew
        | exact KC.out _ O3.out
        | go_keep)
      (first
        | ((go_at_call 35); (refine (Num_all g (le4 n ++ rest) false 4294967295 _ (R0.out.ext X1.out) (by omega)).mono ?_); (rw [HE.out]); (rintro e w3 ⟨rfl, o3, r3⟩); (have O3 := Lib.hid ((OnlyAt.refl _ _).drew.trans o3)); (have R3 := Lib.hid r3); (clear o3 r3))
        | ((go_at_call 36); (refine (Good_any g rest false _ R3.out).mono ?_); (rintro e w5 ⟨rfl, rfl⟩)))
    all_goals go_wp2_with fail
    all_goals go_ret
    all_goals exact ⟨rfl, (X0.out.only g).trans O3.out, R3.out⟩
  · clear hd
    have q1 : (k == 1) = false := by simpa using hk
    have q2 : (k == 2) = false := by simpa using h2
    go_enter Try.func33, Try.ntmps33
    go_wp2_with fail
    go_region_held3 (fun W => W.cell? ⟨w.heap.size, 1, none⟩ = some (.int .u32 n))
      (first
        | exact KC.out _ (OnlyAt.refl _ _)
        | exact KC.out _ (OnlyAt.refl _ _).drew
        | exact KC.out _ O3.out
        | go_keep)
      (first
        | ((go_at_call 35); (refine (Num_all g (le4 n ++ rest) false 4294967295 _ (R0.out.ext X1.out) (by omega)).mono ?_); (rw [HE.out]); (rintro e w3 ⟨rfl, o3, r3⟩); (have O3 := Lib.hid ((OnlyAt.refl _ _).drew.trans o3)); (have R3 := Lib.hid r3); (clear o3 r3))
        | ((go_at_call 36); (refine (Good_any g rest false _ R3.out).mono ?_); (rintro e w5 ⟨rfl, rfl⟩)))
    all_goals go_wp2_with fail
    all_goals go_ret
    all_goals exact ⟨rfl, (X0.out.only g).trans O3.out, R3.out⟩
end Go.Proofs.Ytgkoblgpadpcjaa.recBack
