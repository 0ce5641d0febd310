/- The region of the document's Put: its steps, and what stands through it. -/
import Derived.Test.YtgkoblgpadpcjaaDiskE
namespace Go.Proofs.Ytgkoblgpadpcjaa
open Go.RowKit

theorem own_form {w : World} {base e s n : Nat} {v : Value} {xs : List Value} (h : w.ownsRow base e s v n xs) : ∃ a cap, v = .slice a n cap ∧ n ≤ cap ∧ cap ≤ 9223372036854775807 := by
  rcases h.2 with ⟨rfl, rfl⟩ | ⟨g, cap, cur, rfl, hb, hh, hc, hm, hs, ht⟩
  · exact ⟨_, _, rfl, Nat.le_refl _, by omega⟩
  · exact ⟨_, _, rfl, hc, by unfold maxLen at hm; omega⟩
theorem step_value {P : Program} {ops : Array Oper} {o : Oper} {a : Act} {w w' : World} {K : Act → World → Prop} {Q : Exit → Act → World → Prop} {E : Prop} (hg : o.guard = none) (v : Value) (hr : (execOp a.eval o).run P w = .ok (.value v) w')
    (h : K (a.put o.dst v) w') : if Region.wanted o (yielded ops a.tmps) = true then Oper.wp P o a w K Q else E := by
  rw [if_pos (by simp [Region.wanted, hg])]
  unfold Oper.wp
  rw [hr]
  exact h
theorem step_skip {P : Program} {ops : Array Oper} {o : Oper} {a : Act} {w w' : World} {K : Act → World → Prop} {Q : Exit → Act → World → Prop} {E : Prop} (hg : o.guard = none) (hr : (execOp a.eval o).run P w = .ok .skip w')
    (h : K (a.put o.dst undef) w') : if Region.wanted o (yielded ops a.tmps) = true then Oper.wp P o a w K Q else E := by
  rw [if_pos (by simp [Region.wanted, hg])]
  unfold Oper.wp
  rw [hr]
  exact h
set_option maxRecDepth 100000 in
theorem built_write115 (a : Int) (s : List UInt8) (h : s.length = 64) : Try.prog.built 115 [(0, .int .i64 a), (1, .agg (byteVals s).toArray)] = some (.int .i64 a :: byteVals s).toArray := by
  obtain ⟨i0, hi, hz0, hz1, hz2⟩ := info_parts Try.zero115
  unfold Program.built
  rw [hi, Try.underlying115]
  simp only [hz0]
  generalize hp : (List.mapM (m := Option) _ _) = pl
  have hp' : pl = some [(0, 1), (1, 64)] := by rw [← hp]; kernel_rfl
  rw [hp']
  simp only
  exact fill_two _ _ _ _ 64 (byteVals s) rfl rfl (by show Try.zeroCells115.size = _; rw [zc115]) rfl rfl (by rw [byteVals_length]; exact h)
theorem run_built_write115 (a : Int) (s : List UInt8) (h : s.length = 64) (w : World) : (Instr.build 115 #[(0, .int .i64 a), (1, .agg (byteVals s).toArray)]).run Try.prog w = .ok (.agg (.int .i64 a :: byteVals s).toArray) w :=
  run_build w 115 _ _ (built_write115 a s h)
set_option maxRecDepth 100000 in
theorem run_buildSlice115 (X : List Value) (h : X.length = 65) (w : World) : (Instr.buildSlice 74 1 #[(0, .agg X.toArray)]).run Try.prog w = .ok (.slice (some ⟨w.heap.size, 0, none⟩) 1 1) (w.alloc (.cells X.toArray 115)) := by
  obtain ⟨i0, hi, hz0, hz1, hz2⟩ := info_parts Try.zero115
  have hf := fill_one ((Array.range (1 * 65)).map (fun j => (Value.agg Try.zeroCells115).cells[j % (Value.agg Try.zeroCells115).cells.size]!)) (.agg X.toArray) X 65 rfl h (by simp)
  simp only [Instr.buildSlice, Sem.run_bind, run_underlying Try.underlying74, Result.andThen_ok, sizeOf, typeInfo, hi, zeroValue, hz0, hz1]
  simp [hf, hi, hz0, hz1, newRow]
theorem run_buildSlice115_0 (w : World) : (Instr.buildSlice 74 0 #[]).run Try.prog w = .ok (.slice (some ⟨w.heap.size, 0, none⟩) 0 0) (w.alloc (.cells #[] 115)) := by
  obtain ⟨i0, hi, hz0, hz1, hz2⟩ := info_parts Try.zero115
  simp only [Instr.buildSlice, Sem.run_bind, run_underlying Try.underlying74, Result.andThen_ok, sizeOf, typeInfo, hi, zeroValue, hz0, hz1]
  simp [Instr.fill, hi, hz0, hz1, newRow]
  rw [show Array.map (fun _ : Nat => (default : Value)) (Array.range 0) = #[] from Array.eq_empty_of_size_eq_zero (by simp)]
theorem yields_write {ops : Array Oper} {S : World → Prop} {op : Oper} {act : Act} (hw : Region.wanted op (yielded ops act.tmps) = true) (x y : Operand) (ho : op.op = .build 115 #[(0, x), (1, y)]) (a : Nat) (s : List UInt8) (h : s.length = 64)
    (hx : act.eval x = .int .i64 (a : Int)) (hy : act.eval y = .agg (byteVals s).toArray) : YieldsIf Try.prog ops S op (.agg (wvals (a, s)).toArray) act :=
  .inl ⟨hw, fun w _ => by simp [execOp, ho, hx, hy, run_built_write115 (a : Int) s h w, wvals]⟩
theorem step_bs0 {ops : Array Oper} {o : Oper} {a : Act} {w : World} {K : Act → World → Prop} {Q : Exit → Act → World → Prop} {E : Prop} (hg : o.guard = none) (ho : o.op = .buildSlice 74 0 #[])
    (h : K (a.put o.dst (.slice (some ⟨w.heap.size, 0, none⟩) 0 0)) (w.alloc (.cells #[] 115))) : if Region.wanted o (yielded ops a.tmps) = true then Oper.wp Try.prog o a w K Q else E :=
  step_value hg _ (by simp [execOp, ho, run_buildSlice115_0 w]) h
theorem step_bs1 {ops : Array Oper} {o : Oper} {a : Act} {w : World} {K : Act → World → Prop} {Q : Exit → Act → World → Prop} {E : Prop} (hg : o.guard = none) (x : Operand) (ho : o.op = .buildSlice 74 1 #[(0, x)]) (X : List Value) (hX : X.length = 65) (hx : a.eval x = .agg X.toArray)
    (h : K (a.put o.dst (.slice (some ⟨w.heap.size, 0, none⟩) 1 1)) (w.alloc (.cells X.toArray 115))) : if Region.wanted o (yielded ops a.tmps) = true then Oper.wp Try.prog o a w K Q else E :=
  step_value hg _ (by simp [execOp, ho, hx, run_buildSlice115 X hX w]) h
theorem step_load1 {ops : Array Oper} {o : Oper} {a : Act} {w : World} {K : Act → World → Prop} {Q : Exit → Act → World → Prop} {E : Prop} (hg : o.guard = none) (x : Operand) (ho : o.op = .load 74 x) (p : Addr) (v : Value) (hx : a.eval x = .pointer (some p)) (hc : w.cell? p = some v)
    (h : K (a.put o.dst v) w) : if Region.wanted o (yielded ops a.tmps) = true then Oper.wp Try.prog o a w K Q else E := by
  refine step_value hg v ?_ h
  simp [execOp, ho, hx, Instr.loadAt, Instr.sureAddr, loadVar, run_underlying Try.underlying74, hc]
theorem step_store1 {ops : Array Oper} {o : Oper} {a : Act} {w : World} {K : Act → World → Prop} {Q : Exit → Act → World → Prop} {E : Prop} (hg : o.guard = none) (x y : Operand) (ho : o.op = .store 74 x y) (p : Addr) (sa : Option Addr) (sn sc : Nat) (hx : a.eval x = .pointer (some p)) (hy : a.eval y = .slice sa sn sc) (u : Value) (hc : w.cell? p = some u) (hf : w.frozen? p = false)
    (h : K (a.put o.dst undef) (w.setCell p (.slice sa sn sc))) : if Region.wanted o (yielded ops a.tmps) = true then Oper.wp Try.prog o a w K Q else E := by
  refine step_skip hg ?_ h
  have hp : p.add 0 = p := by cases p; rfl
  simp [execOp, ho, hx, hy, Instr.storeAt, Instr.sureAddr, storeVar, run_underlying Try.underlying74, storeCells, hp, run_store Try.prog w p (.slice sa sn sc) .plain rfl, hc, hf, Value.cells]
theorem step_app {ops : Array Oper} {o : Oper} {a : Act} {w : World} {Q : Exit → Act → World → Prop} {Kt : Act → World → Prop} {E : Prop}
    (hg : o.guard = none) (s x : Operand) (hop : o.op = Op.call { callee := Callee.builtin Builtin.append, args := #[s, x], argTypes := #[74, 74] })
    (base : Nat) (v u : Value) (hs : a.eval s = v) (hx : a.eval x = u) (K L : List (Nat × List UInt8)) (hown : w.ownsRow base 115 65 v K.length (flatC K)) (hL : ∀ c ∈ L, c.2.length = 64) (hsrc : Src w u L.length (flatC L))
    (hm : K.length + L.length ≤ 1000000000) (hbase : base ≤ w.heap.size)
    (hK : ∀ v' w', w'.ownsRow base 115 65 v' (K ++ L).length (flatC (K ++ L)) → w.grownBy w' v.ownBlock → NewOrSame w v v' → Kt (a.put o.dst v') w') :
    if Region.wanted o (yielded ops a.tmps) = true then Oper.wp Try.prog o a w Kt Q else E := by
  obtain ⟨i0, hi, hz0, hz1, hz2⟩ := info_parts Try.zero115
  refine step_append_src hg s x 74 hop base 115 i0 _ 65 72 Try.underlying74 hi hz0 hz1 hz2 zc115 (by decide) v u hs hx K.length (flatC K) hown L.length (flatC L) (flatC_len L hL) hsrc (flatC_one L) (by unfold maxLen; omega) (by omega) hbase ?_
  intro v' w' h1 h2 h3
  refine hK v' w' ?_ h2 h3
  rw [List.length_append, show flatC (K ++ L) = flatC K ++ flatC L by unfold flatC; rw [List.flatMap_append]]
  exact h1

/-- What stands through the region. -/
structure PM (w : World) (ka ca : Option Addr) (kcap ccap kp : Nat) (D : Dk) (s : List UInt8) (W : World) : Prop where
  x : Ext w W
  base : w.heap.size + 3 ≤ W.heap.size
  hb : W.heap[w.heap.size]? = some (.cells #[.slice ka D.kept.length kcap, .slice ca D.cache.length ccap, .bool false, .int .i64 D.fate, .int .u64 kp, .int .i64 D.steps] 76 (0, 0))
  hs : W.heap[w.heap.size + 1]? = some (.cells (byteVals s).toArray 62 (0, 0))
  hz : W.heap[w.heap.size + 1 + 1]? = some (.cells #[.slice none 0 0, .slice none 0 0, .bool false, .int .i64 0, .int .u64 0, .int .i64 0] 76 (0, 0))
section
variable {w W : World} {ka ca : Option Addr} {kcap ccap kp : Nat} {D : Dk} {s : List UInt8}
theorem PM.alloc (h : PM w ka ca kcap ccap kp D s W) (o : Obj) : PM w ka ca kcap ccap kp D s (W.alloc o) := by
  have hb := h.base
  exact ⟨Ext.alloc h.x o, by rw [World.size_alloc]; omega, by rw [heap_alloc_old _ _ (by omega)]; exact h.hb, by rw [heap_alloc_old _ _ (by omega)]; exact h.hs, by rw [heap_alloc_old _ _ (by omega)]; exact h.hz⟩
theorem PM.grown {W' : World} {row : Option Nat} (h : PM w ka ca kcap ccap kp D s W) (g : W.grownBy W' row) (hr : ∀ k, row = some k → w.heap.size + 3 ≤ k) : PM w ka ca kcap ccap kp D s W' := by
  have hb := h.base
  have hne : ∀ k, k < w.heap.size + 3 → W'.heap[k]? = W.heap[k]? := fun k hk => g.block k (by omega) (fun e => by have := hr k e.symm; omega)
  exact ⟨Ext.grown h.x g (fun k e => by have := hr k e; omega), Nat.le_trans hb g.size, (hne _ (by omega)).trans h.hb, (hne _ (by omega)).trans h.hs, (hne _ (by omega)).trans h.hz⟩
theorem PM.cell (h : PM w ka ca kcap ccap kp D s W) : W.cell? ⟨w.heap.size, 1, none⟩ = some (.slice ca D.cache.length ccap) := by rw [cell_of_row _ _ _ _ _ _ h.hb]; rfl
theorem PM.thaw (h : PM w ka ca kcap ccap kp D s W) : W.frozen? ⟨w.heap.size, 1, none⟩ = false := by simp [World.frozen?, h.hb]
theorem PM.range (h : PM w ka ca kcap ccap kp D s W) : W.rangeAt (w.heap.size + 1) 0 (byteVals s) := fun j v hj => by
  rw [cell_of_row _ _ _ _ _ _ h.hs, Nat.zero_add, List.getElem?_toArray]; exact hj
theorem PM.range_set (h : PM w ka ca kcap ccap kp D s W) (u : Value) : (W.setCell ⟨w.heap.size, 1, none⟩ u).rangeAt (w.heap.size + 1) 0 (byteVals s) :=
  range_keep h.range (Below.heap_setCell W _ u _ (by simp))
theorem PM.src (h : PM w ka ca kcap ccap kp D s W) {v : Value} {n : Nat} {xs : List Value} {b e sz : Nat} (o : w.ownsRow b e sz v n xs) : Src W v n xs := own_src (own_ext o h.x)
theorem own_lit0 (h : PM w ka ca kcap ccap kp D s W) : (W.alloc (.cells #[] 115)).ownsRow (w.heap.size + 3) 115 65 (.slice (some ⟨W.heap.size, 0, none⟩) 0 0) 0 [] := own_base (own_none W 115 65) h.base
theorem own_lit1 (h : PM w ka ca kcap ccap kp D s W) {X : List Value} (hX : X.length = 65) : (W.alloc (.cells X.toArray 115)).ownsRow (w.heap.size + 3) 115 65 (.slice (some ⟨W.heap.size, 0, none⟩) 1 1) 1 X := by
  have := World.ownsRow_lit (base := w.heap.size + 3) (e := 115) (size := 65) W X.toArray 1 h.base (by decide) (by simpa using hX)
  simpa using this
theorem own_row {b e sz n : Nat} {v : Value} {xs : List Value} (o : W.ownsRow b e sz v n xs) : ∀ k, v.ownBlock = some k → b ≤ k := fun k hk => (o.lt k hk).1
theorem own_ne23 {b e sz n : Nat} {v : Value} {xs : List Value} (o : W.ownsRow b e sz v n xs) : v.ownBlock ≠ (Value.slice (some ⟨W.heap.size, 0, none⟩) 0 0).ownBlock := fun h => by
  have := (o.lt W.heap.size h).2
  omega
theorem own_ne30 {b e sz n : Nat} {v : Value} {xs : List Value} (o : W.ownsRow b e sz v n xs) : (Value.slice (some ⟨W.heap.size, 0, none⟩) 1 1).ownBlock ≠ v.ownBlock := fun h => by
  have := (o.lt W.heap.size h.symm).2
  omega
theorem own_src1 {b a : Nat} {v : Value} (o : W.ownsRow b 115 65 v 1 (wvals (a, s))) : Src W v [(a, s)].length (flatC [(a, s)]) := by
  have := own_src o
  simpa [flatC] using this
end
/-- Behind the write's place in the cache. -/
def RPutMid (w : World) (D : Dk) (kp a : Nat) (s : List UInt8) (ka : Option Addr) (kcap : Nat) (wc : World) : Prop :=
  ∃ (ca : Option Addr) (ccap : Nat), Ext w wc ∧ wc.heap[w.heap.size]? = some (.cells #[.slice ka D.kept.length kcap, .slice ca (D.cache.length + 1) ccap, .bool D.down, .int .i64 D.fate, .int .u64 kp, .int .i64 D.steps] 76 (0, 0)) ∧
    wc.heap[w.heap.size + 1 + 1]? = some (.cells #[.slice none 0 0, .slice none 0 0, .bool false, .int .i64 0, .int .u64 0, .int .i64 0] 76 (0, 0)) ∧ RefIs wc (.slice ka D.kept.length kcap) (.slice ca (D.cache.length + 1) ccap) kp { D with cache := D.cache ++ [(a, s)] }
theorem own_setCell {w : World} {base e s n b i : Nat} {v u : Value} {xs : List Value} {cs : Array Value} (h : w.ownsRow base e s v n xs) (hb : w.heap[b]? = some (.cells cs 76 (0, 0))) (he : e ≠ 76) : (w.setCell ⟨b, i, none⟩ u).ownsRow base e s v n xs := by
  refine row_same h fun k hk => Below.heap_setCell w _ u k fun e2 => ?_
  subst e2
  rcases h.2 with ⟨rfl, _⟩ | ⟨g, cap, cur, rfl, -, hh, -⟩
  · cases hk
  · simp only [Value.ownBlock, Option.some.injEq] at hk
    subst hk
    have := hb.symm.trans hh
    simp only [Option.some.injEq, Obj.cells.injEq] at this
    exact he this.2.1.symm
theorem PM.ends {w W : World} {ka ca a5 : Option Addr} {kcap ccap kp c5 a : Nat} {D : Dk} {s : List UInt8} (h : PM w ka ca kcap ccap kp D s W) (r : RefIs w (.slice ka D.kept.length kcap) (.slice ca D.cache.length ccap) kp D) (hdf : D.down = false) (ha : a < D.kept.length) (hl : s.length = 64)
    (o : W.ownsRow (w.heap.size + 3) 115 65 (.slice a5 ([] ++ D.cache ++ [(a, s)]).length c5) ([] ++ D.cache ++ [(a, s)]).length (flatC ([] ++ D.cache ++ [(a, s)]))) : RPutMid w D kp a s ka kcap (W.setCell ⟨w.heap.size, 1, none⟩ (.slice a5 (D.cache.length + 1) c5)) := by
  rw [List.nil_append] at o
  have e : (D.cache ++ [(a, s)]).length = D.cache.length + 1 := by simp
  have o2 := own_setCell (i := 1) (u := .slice a5 (D.cache ++ [(a, s)]).length c5) o h.hb (by decide)
  have k2 := own_setCell (i := 1) (u := .slice a5 (D.cache ++ [(a, s)]).length c5) (own_ext r.kept h.x) h.hb (by decide)
  rw [e] at o2 k2
  refine ⟨a5, c5, ?_, ?_, ?_, ⟨k2, ?_, r.keeps, r.same, ⟨r.wf.pos, r.wf.most, r.wf.kept, ?_, r.wf.keeps, r.wf.fate⟩⟩⟩
  · exact ⟨h.x.os, h.x.tape, h.x.output, by simp [World.setCell]; exact h.x.size, fun k hk => (Below.heap_setCell W _ _ k (by show k ≠ w.heap.size; omega)).trans (h.x.block k hk)⟩
  · rw [setCell_get W _ 1 _ _ _ _ h.hb, hdf]; rfl
  · rw [Below.heap_setCell W _ _ _ (by show w.heap.size + 1 + 1 ≠ w.heap.size; omega)]; exact h.hz
  · show World.ownsRow _ _ _ _ _ (D.cache ++ [(a, s)]).length (flatC (D.cache ++ [(a, s)]))
    rw [e]; exact own_base o2 (Nat.zero_le _)
  · intro c hc
    rcases List.mem_append.1 hc with hc | hc
    · exact r.wf.cache c hc
    · simp at hc; subst hc; exact ⟨ha, hl⟩
end Go.Proofs.Ytgkoblgpadpcjaa
