/- A write is built; a sector is built. -/
import Derived.Test.YtgkoblgpadpcjaaDiskS
namespace Go.Proofs.Ytgkoblgpadpcjaa
open Go.RowKit

theorem fold_putAt (off : Nat) : ∀ (l : List Value) (k : Nat) (cells : Array Value), (l.zipIdx k).foldl (fun cs (x : Value × Nat) => cs.setIfInBounds (off + x.2) x.1) cells = putAt cells (off + k) l
  | [], _, _ => rfl
  | v :: r, k, cells => by
    rw [List.zipIdx_cons, List.foldl_cons, fold_putAt off r (k + 1)]
    rfl
theorem fold_putAt' (off : Nat) (v : Array Value) (cells : Array Value) : v.zipIdx.foldl (fun cs (x : Value × Nat) => cs.setIfInBounds (off + x.2) x.1) cells = putAt cells off v.toList := by
  rw [← Array.foldl_toList, Array.toList_zipIdx, fold_putAt]
  rfl
theorem putAt_size (cs : Array Value) : ∀ (vs : List Value) (o : Nat), (putAt cs o vs).size = cs.size
  | vs, o => by
    induction vs generalizing cs o with
    | nil => rfl
    | cons v r ih => rw [putAt, ih]; simp
theorem fill_two (place : Nat → Option (Nat × Nat)) (Z : Array Value) (u v : Value) (n : Nat) (X : List Value) (h0 : place 0 = some (0, 1)) (h1 : place 1 = some (1, n)) (hZ : Z.size = n + 1) (hu : u.cells = #[u]) (hv : v.cells = X.toArray) (hX : X.length = n) :
    Instr.fill place Z [(0, u), (1, v)] = some (u :: X).toArray := by
  obtain ⟨z, R, hR⟩ : ∃ z R, Z = (z :: R).toArray := by
    cases h : Z.toList with
    | nil => have : Z.toList.length = 0 := by rw [h]; rfl
             rw [Array.length_toList] at this; omega
    | cons z R => exact ⟨z, R, by rw [← h]⟩
  have hRl : R.length = n := by rw [hR] at hZ; simpa using hZ
  have e1 := putAt_mid [u] [z] [] R rfl
  have e2 := putAt_mid X R [u] [] (by omega)
  simp only [List.nil_append, List.length_nil, List.singleton_append, List.append_nil, List.length_singleton] at e1 e2
  unfold Instr.fill
  simp only [h0]
  rw [if_neg (by simp [hu, hR])]
  rw [show (u.cells.zipIdx.foldl (fun cs (x : Value × Nat) => cs.setIfInBounds (0 + x.2) x.1) Z) = putAt Z 0 u.cells.toList from fold_putAt' 0 u.cells Z, hu, hR]
  simp only [List.singleton_append] at *
  rw [e1]
  unfold Instr.fill
  simp only [h1]
  rw [if_neg (by simp [hv, hX, hRl]; omega)]
  rw [show (v.cells.zipIdx.foldl (fun cs (x : Value × Nat) => cs.setIfInBounds (1 + x.2) x.1) (u :: R).toArray) = putAt (u :: R).toArray 1 v.cells.toList from fold_putAt' 1 v.cells _, hv]
  rw [e2]
  rfl
theorem Try.zero113 : (Try.prog.info? 113).map (fun i => (i.zero, i.size, i.bytes)) = some (some (.agg Try.zeroCells113), 65, 72) := by kernel_rfl
theorem Try.zero63 : (Try.prog.info? 63).map (fun i => (i.zero, i.size, i.bytes)) = some (some (.agg (byteVals zero64).toArray), 64, 64) := by kernel_rfl
set_option maxRecDepth 100000 in
theorem built_write (a : Int) (s : List UInt8) (h : s.length = 64) : Try.prog.built 113 [(0, .int .i64 a), (1, .agg (byteVals s).toArray)] = some (.int .i64 a :: byteVals s).toArray := by
  obtain ⟨i0, hi, hz0, hz1, hz2⟩ := info_parts Try.zero113
  unfold Program.built
  rw [hi, Try.underlying113]
  simp only [hz0]
  generalize hp : (List.mapM (m := Option) _ _) = pl
  have hp' : pl = some [(0, 1), (1, 64)] := by rw [← hp]; kernel_rfl
  rw [hp']
  simp only
  exact fill_two _ _ _ _ 64 (byteVals s) rfl rfl (by show Try.zeroCells113.size = _; rw [zc113]) rfl rfl (by rw [byteVals_length]; exact h)
theorem run_built_write (a : Int) (s : List UInt8) (h : s.length = 64) (w : World) : (Instr.build 113 #[(0, .int .i64 a), (1, .agg (byteVals s).toArray)]).run Try.prog w = .ok (.agg (.int .i64 a :: byteVals s).toArray) w :=
  run_build w 113 _ _ (built_write a s h)
theorem fill_one (Z : Array Value) (v : Value) (X : List Value) (n : Nat) (hv : v.cells = X.toArray) (hX : X.length = n) (hZ : Z.size = n) :
    Instr.fill (fun i => some (i * n, n)) Z [(0, v)] = some X.toArray := by
  have e := putAt_mid X Z.toList [] [] (by simp [hX, hZ])
  simp only [List.nil_append, List.length_nil, List.append_nil] at e
  unfold Instr.fill
  simp only [Nat.zero_mul]
  rw [if_neg (by simp [hv, hX, hZ])]
  rw [show (v.cells.zipIdx.foldl (fun cs (x : Value × Nat) => cs.setIfInBounds (0 + x.2) x.1) Z) = putAt Z 0 v.cells.toList from fold_putAt' 0 v.cells Z, hv, e]
  rfl
set_option maxRecDepth 100000 in
theorem run_buildSlice_write (X : List Value) (h : X.length = 65) (w : World) : (Instr.buildSlice 109 1 #[(0, .agg X.toArray)]).run Try.prog w = .ok (.slice (some ⟨w.heap.size, 0, none⟩) 1 1) (w.alloc (.cells X.toArray 113)) := by
  obtain ⟨i0, hi, hz0, hz1, hz2⟩ := info_parts Try.zero113
  have hf := fill_one ((Array.range (1 * 65)).map (fun j => (Value.agg Try.zeroCells113).cells[j % (Value.agg Try.zeroCells113).cells.size]!)) (.agg X.toArray) X 65 rfl h (by simp)
  simp only [Instr.buildSlice, Sem.run_bind, run_underlying Try.underlying109, Result.andThen_ok, sizeOf, typeInfo, hi, zeroValue, hz0, hz1]
  simp [hf, hi, hz0, hz1, newRow]
end Go.Proofs.Ytgkoblgpadpcjaa
