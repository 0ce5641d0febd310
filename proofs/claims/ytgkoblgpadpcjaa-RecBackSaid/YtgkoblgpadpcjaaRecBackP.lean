/- RecBack: a piece as a part, and its bytes by hand (the function part). -/
import Derived.Test.YtgkoblgpadpcjaaRecBackS
import Derived.Deep.RegionHeld3
namespace Go.Proofs.Ytgkoblgpadpcjaa.recBack
open Go.RowKit Go.Proofs.Ytgkoblgpadpcjaa.recApart

/-- A piece as a part, and its bytes. -/
def partPost (w : World) (l : List UInt8) (e : Ending) (w' : World) : Prop :=
  ∃ a1 n1 k1 a2 n2 k2, e = .returned (.tuple #[.slice a1 n1 k1, .slice a2 n2 k2]) ∧ Fresh w w' (.slice a1 n1 k1) l ∧ Fresh w w' (.slice a2 n2 k2) l
theorem partPost.mk {w w' : World} {v1 v2 : Value} {l : List UInt8} (h1 : Fresh w w' v1 l) (h2 : Fresh w w' v2 l) : partPost w l (.returned (.tuple #[v1, v2])) w' := by
  obtain ⟨a1, k1, rfl, -⟩ := h1.bytes
  obtain ⟨a2, k2, rfl, -⟩ := h2.bytes
  exact ⟨_, _, _, _, _, _, rfl, h1, h2⟩

set_option maxRecDepth 100000 in
set_option maxHeartbeats 1000000 in
theorem part_raw (n : Nat) (b : List UInt8) (c2 c3 : Value) (deep : Int) (w : World) (hb : Bytes w c2 b) (hl : b.length ≤ 1000) :
    Calls Try.prog 32 #[.agg #[.int .i64 1, .int .u32 n, c2, c3], .int .i64 deep] w (partPost w (le4 b.length ++ b)) := by
  have B0 := Lib.hid hb
  have HL := Lib.hid hl
  obtain ⟨ab, cb, rfl, hb1, hb2, -, -⟩ := hb
  have X0 := Lib.hid ((Ext.refl w).alloc (.cells #[.int .i64 1, .int .u32 n, .slice ab b.length cb, c3] 46))
  have X1 := Lib.hid ((Ext.refl w).alloc (.cells #[.int .i64 1, .int .u32 n, .slice ab b.length cb, c3] 46)).drew
  have KC : Hid (∀ W, Ext (w.alloc (.cells #[.int .i64 1, .int .u32 n, .slice ab b.length cb, c3] 46)) W → W.cell? ⟨w.heap.size, 2, none⟩ = some (.slice ab b.length cb)) :=
    fun W h => h.cell (cell_new0 w _ 46 2)
  have hcv : IntKind.u32.wrap (b.length : Int) = (b.length : Int) := IntWalk.u32_in _ (by omega)
  have hle : 4 + b.length ≤ 140737488355328 := by omega
  go_enter Try.func32, Try.ntmps32
  go_wp2_with fail
  go_region_held3 (fun W => W.cell? ⟨w.heap.size, 2, none⟩ = some (.slice ab b.length cb))
    (first
      | exact KC.out _ (Ext.refl _)
      | exact KC.out _ (Ext.refl _).drew
      | exact KC.out _ X3.out
      | exact KC.out _ X4.out
      | exact KC.out _ X5.out
      | go_keep)
    (first
      | ((go_at_call 22); (refine (Raw_any b _ _ (B0.out.ext X1.out) (by have := HL.out; omega)).mono ?_); (rintro e w3 ⟨v3, rfl, f3⟩); (have F3 := Lib.hid f3); (have X3 := Lib.hid ((Ext.refl _).drew.trans f3.1)); (clear f3))
      | ((go_at_call 65); (refine (four_any b.length (by have := HL.out; omega) _).mono ?_); (rintro e w4 ⟨v4, rfl, f4⟩); (have F4 := Lib.hid f4); (have X4 := Lib.hid (X3.out.trans f4.1)); (have B4 := Lib.hid ((B0.out.ext X1.out).ext (F3.out.1.trans f4.1))); (have S4 := Lib.hid f4.1.size); (clear f4))
      | ((refine step_append_bytes rfl (.tmp 25) (.tmp 27) 22 rfl Try.underlying22 w3.heap.size _ _ rfl rfl _ _ F4.out.2 B4.out hle S4.out ?_); (intro v5 w5 o5 g5 n5); (have X5 := Lib.hid (X3.out.trans (F4.out.1.grown g5 S4.out (fun k hk => (F4.out.2.lt k hk).1)))); (have O5 := Lib.hid (OwnBytes.le o5 (Nat.le_trans X0.out.size X3.out.size))); (have F5 := Lib.hid (F3.out.before (F4.out.1.grown g5 S4.out (fun k hk => (F4.out.2.lt k hk).1)))); (clear o5 g5 n5)))
  all_goals go_wp2_with fail
  all_goals go_ret2
  all_goals exact partPost.mk (F5.out.after X1.out) ⟨X0.out.trans X5.out, O5.out⟩

set_option maxRecDepth 100000 in
set_option maxHeartbeats 1000000 in
theorem part_num (k : Int) (n : Nat) (c2 c3 : Value) (deep : Int) (w : World) (hn : n < 4294967296) (hk : k ≠ 1) (hd : k ≠ 2 ∨ 4 ≤ deep) :
    Calls Try.prog 32 #[.agg #[.int .i64 k, .int .u32 n, c2, c3], .int .i64 deep] w (partPost w (le4 n)) := by
  have hmod : ((n : Int) % 4294967296).toNat = n := by omega
  have HM := Lib.hid hmod
  have HN := Lib.hid hn
  clear hmod
  have X0 := Lib.hid ((Ext.refl w).alloc (.cells #[.int .i64 k, .int .u32 n, c2, c3] 46))
  have X1 := Lib.hid ((Ext.refl w).alloc (.cells #[.int .i64 k, .int .u32 n, c2, c3] 46)).drew
  have KC : Hid (∀ W, Ext (w.alloc (.cells #[.int .i64 k, .int .u32 n, c2, c3] 46)) W → W.cell? ⟨w.heap.size, 1, none⟩ = some (.int .u32 n)) :=
    fun W h => h.cell (cell_new0 w _ 46 1)
  have hcv : IntKind.i64.wrap (n : Int) = (n : Int) := IntWalk.i64_in _ (by omega)
  by_cases h2 : k = 2
  · subst h2
    have hd4 : 4 ≤ deep := by rcases hd with h | h; exact absurd rfl h; exact h
    clear hd hk
    go_enter Try.func32, Try.ntmps32
    go_wp2_with fail
    go_region_held3 (fun W => W.cell? ⟨w.heap.size, 1, none⟩ = some (.int .u32 n))
      (first
        | exact KC.out _ (Ext.refl _)
        | exact KC.out _ (Ext.refl _).drew
        | exact KC.out _ X3.out
        | exact KC.out _ X4.out
        | go_keep)
      (first
        | ((go_at_call 62); (refine (Num_any (n : Int) _).mono ?_); (rintro e w3 ⟨v3, rfl, f3⟩); (rw [HM.out] at f3); (have F3 := Lib.hid f3); (have X3 := Lib.hid ((Ext.refl _).drew.trans f3.1)); (clear f3))
        | ((go_at_call 65); (refine (four_any n HN.out _).mono ?_); (rintro e w4 ⟨v4, rfl, f4⟩); (have F4 := Lib.hid (f4.after X3.out)); (have F3' := Lib.hid (F3.out.before f4.1)); (have X4 := Lib.hid (X3.out.trans f4.1)); (clear f4)))
    all_goals go_wp2_with fail
    all_goals go_ret2
    all_goals exact partPost.mk (F3'.out.after X1.out) (F4.out.after X0.out)
  · clear hd
    have q1 : (k == 1) = false := by simpa using hk
    have q2 : (k == 2) = false := by simpa using h2
    go_enter Try.func32, Try.ntmps32
    go_wp2_with fail
    go_region_held3 (fun W => W.cell? ⟨w.heap.size, 1, none⟩ = some (.int .u32 n))
      (first
        | exact KC.out _ (Ext.refl _)
        | exact KC.out _ (Ext.refl _).drew
        | exact KC.out _ X3.out
        | exact KC.out _ X4.out
        | go_keep)
      (first
        | ((go_at_call 62); (refine (Num_any (n : Int) _).mono ?_); (rintro e w3 ⟨v3, rfl, f3⟩); (rw [HM.out] at f3); (have F3 := Lib.hid f3); (have X3 := Lib.hid ((Ext.refl _).drew.trans f3.1)); (clear f3))
        | ((go_at_call 65); (refine (four_any n HN.out _).mono ?_); (rintro e w4 ⟨v4, rfl, f4⟩); (have F4 := Lib.hid (f4.after X3.out)); (have F3' := Lib.hid (F3.out.before f4.1)); (have X4 := Lib.hid (X3.out.trans f4.1)); (clear f4)))
    all_goals go_wp2_with fail
    all_goals go_ret2
    all_goals exact partPost.mk (F3'.out.after X1.out) (F4.out.after X0.out)
end Go.Proofs.Ytgkoblgpadpcjaa.recBack
