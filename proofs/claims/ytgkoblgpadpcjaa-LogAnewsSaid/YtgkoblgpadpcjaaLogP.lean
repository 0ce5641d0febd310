/- A log: put, its head: the sum and the bytes. -/
import Derived.Test.YtgkoblgpadpcjaaLogO
namespace Go.Proofs.Ytgkoblgpadpcjaa
open Go.RowKit

/-- The cells of a number's four bytes. -/
def numCells (n : Int) : Array Value := (byteVals (le4 (n % 4294967296).toNat)).toArray
theorem Num_new (n : Int) (w : World) :
    Calls Try.prog 62 #[.int .i64 n] w fun e w' => e = .returned (.slice (some ⟨w.heap.size, 0, none⟩) 4 4) ∧ w.alloc (.cells (numCells n) 5) = w' := by
  obtain ⟨k, hk⟩ : ∃ k : Nat, k = (n % 4294967296).toNat := ⟨_, rfl⟩
  have hb : k < 4294967296 := by omega
  have hc : n % 4294967296 = (k : Int) := by omega
  have Hc := Lib.hid hc
  have e : numCells n = #[.int .u8 ((k : Int) % 256), .int .u8 ((k : Int) / 256 % 256), .int .u8 ((k : Int) / 65536 % 256), .int .u8 ((k : Int) / 16777216)] := by
    unfold numCells
    rw [← hk]
    simp [byteVals, le4]; omega
  rw [e]
  clear hc hk e
  go_enter Try.func62, Try.ntmps62
  go_wp2_with fail
  rw [Hc.out]
  have key : Calls Try.prog 64 #[.int .u32 k] w fun e w' => e = .returned (.slice (some ⟨w.heap.size, 0, none⟩) 4 4) ∧ w.alloc (.cells #[.int .u8 ((k : Int) % 256), .int .u8 ((k : Int) / 256 % 256), .int .u8 ((k : Int) / 65536 % 256), .int .u8 ((k : Int) / 16777216)] 5) = w' := by
    clear Hc
    go_enter Try.func64, Try.ntmps64
    go_wp2
    go_ret
    exact ⟨rfl, rfl⟩
  refine key.mono ?_
  rintro e w' ⟨rfl, rfl⟩
  go_wp2
  go_ret
  exact ⟨rfl, rfl⟩
/-- A block of a number's bytes. -/
theorem num_bytes {W : World} {B : Nat} {n : Int} (k : Nat) (hn : n = (k : Int)) (hk : k < 4294967296) (h : W.heap[B]? = some (.cells (numCells n) 5 (0, 0))) : Bytes W (.slice (some ⟨B, 0, none⟩) 4 4) (le4 k) := by
  subst hn
  have e : ((k : Int) % 4294967296).toNat = k := by omega
  unfold numCells at h
  rw [e] at h
  refine ⟨_, 4, rfl, Nat.le_refl _, by decide, (fun h => by cases h), fun i hi => ⟨B, 0, rfl, ?_⟩⟩
  rw [Nat.zero_add, cell_of_row W B i _ 5 (0, 0) h, List.getElem?_toArray, byteVals_get _ i hi]
theorem rows_lit2 {W : World} {g : Nat} {v u : Value} {l m : List UInt8} {t : TypeId} (hb : Bytes W v l) (hm : Bytes W u m) (hh : W.heap[g]? = some (.cells #[v, u] t (0, 0))) : Rows' W (.slice (some ⟨g, 0, none⟩) 2 2) [l, m] := by
  refine ⟨_, 2, rfl, by simp, fun i hi => ?_⟩
  match i, hi with
  | 0, _ => exact ⟨g, 0, v, rfl, by simp only [World.cell?, hh]; rfl, hb⟩
  | 1, _ => exact ⟨g, 0, u, rfl, by simp only [World.cell?, hh]; rfl, hm⟩
theorem rows_lit5 {W : World} {g : Nat} {v1 v2 v3 v4 v5 : Value} {l1 l2 l3 l4 l5 : List UInt8} {t : TypeId} (h1 : Bytes W v1 l1) (h2 : Bytes W v2 l2) (h3 : Bytes W v3 l3) (h4 : Bytes W v4 l4) (h5 : Bytes W v5 l5)
    (hh : W.heap[g]? = some (.cells #[v1, v2, v3, v4, v5] t (0, 0))) : Rows' W (.slice (some ⟨g, 0, none⟩) 5 5) [l1, l2, l3, l4, l5] := by
  refine ⟨_, 5, rfl, by simp, fun i hi => ?_⟩
  match i, hi with
  | 0, _ => exact ⟨g, 0, v1, rfl, by simp only [World.cell?, hh]; rfl, h1⟩
  | 1, _ => exact ⟨g, 0, v2, rfl, by simp only [World.cell?, hh]; rfl, h2⟩
  | 2, _ => exact ⟨g, 0, v3, rfl, by simp only [World.cell?, hh]; rfl, h3⟩
  | 3, _ => exact ⟨g, 0, v4, rfl, by simp only [World.cell?, hh]; rfl, h4⟩
  | 4, _ => exact ⟨g, 0, v5, rfl, by simp only [World.cell?, hh]; rfl, h5⟩
theorem heap_at_new (w : World) (o : Obj) (k : Nat) (h : k = w.heap.size) : (w.alloc o).heap[k]? = some o := by subst h; exact heap_alloc_new w o
theorem heap_at_old (w : World) (o : Obj) (k : Nat) (h : k < w.heap.size) : (w.alloc o).heap[k]? = w.heap[k]? := Below.heap_alloc w o k h
theorem size_alloc (w : World) (o : Obj) : (w.alloc o).heap.size = w.heap.size + 1 := by simp

theorem hx0 (w : World) (a b c : Obj) : (((w.alloc a).alloc b).alloc c).heap[w.heap.size]? = some a :=
  ((heap_at_old _ _ _ (by simp; omega)).trans (heap_at_old _ _ _ (by simp))).trans (heap_at_new _ _ _ rfl)
theorem hx1 (w : World) (a b c : Obj) : (((w.alloc a).alloc b).alloc c).heap[w.heap.size + 1]? = some b :=
  (heap_at_old _ _ _ (by simp)).trans (heap_at_new _ _ _ (by simp))
theorem hx2 (w : World) (a b c : Obj) : (((w.alloc a).alloc b).alloc c).heap[w.heap.size + 1 + 1]? = some c := heap_at_new _ _ _ (by simp)
theorem hx3 (w : World) (a b c d : Obj) : ((((w.alloc a).alloc b).alloc c).alloc d).heap[w.heap.size + 1 + 1 + 1]? = some d := heap_at_new _ _ _ (by simp)
theorem hx4 (w : World) (a b c d e : Obj) : (((((w.alloc a).alloc b).alloc c).alloc d).alloc e).heap[w.heap.size + 1 + 1 + 1 + 1]? = some e := heap_at_new _ _ _ (by simp)
theorem hxo (w : World) (x : Obj) {k : Nat} {o : Obj} (h : w.heap[k]? = some o) : (w.alloc x).heap[k]? = some o :=
  (heap_at_old _ _ _ (Array.getElem?_eq_some_iff.1 h).1).trans h
theorem hd0 (w : World) (a b c : Obj) : (((w.alloc a).alloc b).alloc c).drew.heap[w.heap.size]? = some a := hx0 w a b c
theorem hd1 (w : World) (a b c : Obj) : (((w.alloc a).alloc b).alloc c).drew.heap[w.heap.size + 1]? = some b := hx1 w a b c
theorem hd2 (w : World) (a b c : Obj) : (((w.alloc a).alloc b).alloc c).drew.heap[w.heap.size + 1 + 1]? = some c := hx2 w a b c
theorem hy (w : World) (a b c d e : Obj) : (((((w.alloc a).alloc b).alloc c).alloc d).alloc e).drew.heap[w.heap.size]? = some a ∧ (((((w.alloc a).alloc b).alloc c).alloc d).alloc e).drew.heap[w.heap.size + 1]? = some b ∧
    (((((w.alloc a).alloc b).alloc c).alloc d).alloc e).drew.heap[w.heap.size + 1 + 1]? = some c ∧ (((((w.alloc a).alloc b).alloc c).alloc d).alloc e).drew.heap[w.heap.size + 1 + 1 + 1]? = some d ∧ (((((w.alloc a).alloc b).alloc c).alloc d).alloc e).drew.heap[w.heap.size + 1 + 1 + 1 + 1]? = some e :=
  ⟨hxo _ _ (hxo _ _ (hx0 w a b c)), hxo _ _ (hxo _ _ (hx1 w a b c)), hxo _ _ (hxo _ _ (hx2 w a b c)), hxo _ _ (hx3 w a b c d), hx4 w a b c d e⟩
theorem le4_len (n : Nat) : (le4 n).length = 4 := rfl
theorem Pack_two (x y : Nat) (hx : x < 4294967296) (hy : y < 4294967296) (W : World) (g B1 B2 : Nat) (h1 : W.heap[B1]? = some (.cells (numCells x) 5 (0, 0))) (h2 : W.heap[B2]? = some (.cells (numCells y) 5 (0, 0)))
    (h3 : W.heap[g]? = some (.cells #[.slice (some ⟨B1, 0, none⟩) 4 4, .slice (some ⟨B2, 0, none⟩) 4 4] 32 (0, 0))) :
    Calls Try.prog 21 #[.slice (some ⟨g, 0, none⟩) 2 2] W fun e w' => ∃ a c, e = .returned (.slice a 8 c) ∧ Ext W w' ∧ Hid (Bytes w' (.slice a 8 c) (le4 x ++ le4 y)) := by
  refine (Pack_any [le4 x, le4 y] _ _ (rows_lit2 (num_bytes x rfl hx h1) (num_bytes y rfl hy h2) h3) (by simp [le4_len])).mono ?_
  rintro e w' ⟨v, rfl, f⟩
  have e8 : ([le4 x, le4 y] : List (List UInt8)).flatten = le4 x ++ le4 y := by simp
  rw [e8] at f
  have hb := f.bytes
  have hb2 := Lib.hid hb
  obtain ⟨a, c, rfl, -⟩ := hb
  exact ⟨a, c, rfl, f.1, hb2⟩
theorem Pack_five (n x y z : Nat) (b : List UInt8) (bv : Value) (hn : n < 4294967296) (hx : x < 4294967296) (hy : y < 4294967296) (hz : z < 4294967296) (hbl : b.length ≤ 4096) (W : World) (g B1 B2 B3 B4 : Nat)
    (h1 : W.heap[B1]? = some (.cells (numCells n) 5 (0, 0))) (h2 : W.heap[B2]? = some (.cells (numCells x) 5 (0, 0))) (h3 : W.heap[B3]? = some (.cells (numCells y) 5 (0, 0))) (h4 : W.heap[B4]? = some (.cells (numCells z) 5 (0, 0)))
    (hb : Bytes W bv b)
    (h5 : W.heap[g]? = some (.cells #[.slice (some ⟨B1, 0, none⟩) 4 4, .slice (some ⟨B2, 0, none⟩) 4 4, .slice (some ⟨B3, 0, none⟩) 4 4, .slice (some ⟨B4, 0, none⟩) 4 4, bv] 32 (0, 0))) :
    Calls Try.prog 21 #[.slice (some ⟨g, 0, none⟩) 5 5] W fun e w' => ∃ v, e = .returned v ∧ Fresh W w' v (le4 n ++ le4 x ++ le4 y ++ le4 z ++ b) := by
  refine (Pack_any [le4 n, le4 x, le4 y, le4 z, b] _ _ (rows_lit5 (num_bytes n rfl hn h1) (num_bytes x rfl hx h2) (num_bytes y rfl hy h3) (num_bytes z rfl hz h4) hb h5) (by simp [le4_len]; omega)).mono ?_
  rintro e w' ⟨v, rfl, f⟩
  have e8 : ([le4 n, le4 x, le4 y, le4 z, b] : List (List UInt8)).flatten = le4 n ++ le4 x ++ le4 y ++ le4 z ++ b := by simp
  rw [e8] at f
  exact ⟨v, rfl, f⟩

end Go.Proofs.Ytgkoblgpadpcjaa
