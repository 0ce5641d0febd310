/- A log: what stands while it runs; a row of noughts. -/
import Derived.Test.YtgkoblgpadpcjaaLogBd
import Derived.Test.YtgkoblgpadpcjaaLogZ
import Derived.Test.YtgkoblgpadpcjaaDiskMap
import Derived.Laws.MakeOwn
namespace Go.Proofs.Ytgkoblgpadpcjaa
open Go.RowKit

theorem RecRow.same2 {base : Nat} {w w' : World} {lv : Value} {ls : List (List UInt8)} (h : RecRow base w lv ls) (hs : ∀ (k : Nat) (cs : Array Value) (t : TypeId), base ≤ k → (t = 22 ∨ t = 5) → w.heap[k]? = some (.cells cs t (0, 0)) → w'.heap[k]? = w.heap[k]?) : RecRow base w' lv ls := by
  have key : ∀ {e s n : Nat} {v : Value} {xs : List Value} (_ : e = 22 ∨ e = 5), w.ownsRow base e s v n xs → w'.ownsRow base e s v n xs := by
    intro e s n v xs he o
    refine row_same o fun k hk => ?_
    rcases o.2 with ⟨rfl, _⟩ | ⟨q, cap, cur, rfl, hb, hh, -⟩
    · cases hk
    · simp only [Value.ownBlock, Option.some.injEq] at hk
      subst hk
      exact hs _ _ _ hb he hh
  obtain ⟨vs, h1, h2⟩ := h
  refine ⟨vs, key (.inl rfl) h1, fun i hi => ?_⟩
  obtain ⟨v, hv, ho⟩ := h2 i hi
  exact ⟨v, hv, key (.inr rfl) ho⟩
theorem RecRow.lonly {b0 base g kb l : Nat} {lb : Option Nat} {w w' : World} {v : Value} {ls : List (List UInt8)} (h : RecRow b0 w v ls) (o : LOnly base g kb l lb w w') (hg : g < b0) (hk : kb < b0) (hl : l < b0) (hlb : ∀ q, lb = some q → q < b0) : RecRow b0 w' v ls := by
  refine h.same2 fun k cs t hbk ht hh => o.block k (Array.getElem?_eq_some_iff.1 hh).1 (by omega) (by omega) (by omega) (fun e => ?_) (.inr fun cs' fz' e => ?_)
  · have := hlb k e.symm; omega
  · rw [hh] at e
    simp only [Option.some.injEq, Obj.cells.injEq] at e
    obtain ⟨-, e, -⟩ := e
    subst e
    rcases ht with ht | ht <;> exact absurd ht (by decide)
theorem stands_two {base g kb l : Nat} {w : World} {B : Nat} {x y : Value} {X Y : List UInt8} (hB : w.heap[B]? = some (.cells #[x, y] 22 (0, 0))) (hg : B ≠ g) (hk : B ≠ kb) (hl : B ≠ l) (hx : ∀ W, LOnly base g kb l none w W → Bytes W x X) (hy : ∀ W, LOnly base g kb l none w W → Bytes W y Y) :
    Stands base g kb l w (.slice (some ⟨B, 0, none⟩) 2 2) [X, Y] := by
  have key : ∀ W, LOnly base g kb l none w W → W.heap[B]? = some (.cells #[x, y] 22 (0, 0)) := fun W o =>
    (o.block B (Array.getElem?_eq_some_iff.1 hB).1 hg hk hl (by simp) (.inr fun cs fz e => by rw [hB] at e; simp at e)).trans hB
  refine ⟨_, _, rfl, fun i hi => ?_⟩
  match i, hi with
  | 0, _ => exact ⟨B, 0, x, rfl, fun W o => ⟨by simp only [World.cell?, key W o]; rfl, hx W o⟩⟩
  | 1, _ => exact ⟨B, 0, y, rfl, fun W o => ⟨by simp only [World.cell?, key W o]; rfl, hy W o⟩⟩
theorem made_noughts (n : Nat) : madeCells (Value.int IntKind.u8 0).cells n = (byteVals (List.replicate n 0)).toArray := by
  unfold byteVals
  rw [List.map_replicate]
  apply Array.ext
  · simp [madeCells]
  · intro i h1 h2
    simp [madeCells, Value.cells, Nat.mod_one]
theorem wpList_make_bytes {ops : Array Oper} {rest : List Oper} {o : Oper} {a : Act} {w : World} {Q : Exit → Act → World → Prop} (hg : Region.wanted o (yielded ops a.tmps) = true) (x y : Operand) (ho : o.op = .makeSlice 22 x y) (n : Nat) (hn : n ≤ 1000000)
    (hx : a.eval x = .int .i64 (n : Int)) (hy : a.eval y = .int .i64 (n : Int))
    (h : wpList Try.prog ops Q rest (a.put o.dst (.slice (some ⟨w.heap.size, 0, none⟩) n n)) (w.alloc (.cells (byteVals (List.replicate n 0)).toArray 5))) : wpList Try.prog ops Q (o :: rest) a w := by
  obtain ⟨i0, hi, hz0, hz1, hz2⟩ := info_parts Try.info5
  have hrun := run_make (P := Try.prog) w 22 5 i0 _ Try.underlying22 hi hz0 .i64 .i64 (n : Int) (n : Int) (by omega) (by omega) (by rw [hz2]; omega) (by omega)
  rw [hz1, Int.toNat_natCast, Nat.mul_one, made_noughts] at hrun
  refine wpList_value hg _ ?_ h
  simp [execOp, ho, hx, hy, hrun, Result.andThen]
end Go.Proofs.Ytgkoblgpadpcjaa
