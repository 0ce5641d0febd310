/- A graph in memory: Get. -/
import Derived.Test.YtobdjfibaemmhaaGc
namespace Go.Proofs.Ytobdjfibaemmhaa
open Go.RowKit Go.Maps Go.Lib

def unit0 : Un := ⟨[], [], [], [], [], [], [], 0⟩
theorem unit0_is (w : World) : UnitIs w zero45 unit0 := by
  refine ⟨[.slice none 0 0, .slice none 0 0, .slice none 0 0, .slice none 0 0, .slice none 0 0, .slice none 0 0], rfl, rfl, fun j hj => ?_⟩
  match j, hj with
  | 0, _ => exact ⟨_, _, rfl, rfl, SRow.nil w⟩
  | 1, _ => exact ⟨_, _, rfl, rfl, SRow.nil w⟩
  | 2, _ => exact ⟨_, _, rfl, rfl, SRow.nil w⟩
  | 3, _ => exact ⟨_, _, rfl, rfl, SRow.nil w⟩
  | 4, _ => exact ⟨_, _, rfl, rfl, SRow.nil w⟩
  | 5, _ => exact ⟨_, _, rfl, rfl, SRow.nil w⟩
theorem unit_size (n : Str) (xs : List Value) (r : Int) (h : xs.length = 6) : (unitCells n xs r).size = 8 := by simp [unitCells, h]
theorem UnitIs.cells {w : World} {v : Value} {u : Un} (h : UnitIs w v u) : ∃ R : Array Value, v = .agg R ∧ R.size = 8 ∧ R.all (·.oneCell') = true := by
  obtain ⟨xs, rfl, h2, h3⟩ := h
  refine ⟨_, rfl, unit_size _ _ _ h2, unit_one _ _ _ fun x hx => ?_⟩
  obtain ⟨j, hj, rfl⟩ := List.getElem_of_mem hx
  obtain ⟨x, l, h4, _, h6⟩ := h3 j (by omega)
  rw [List.getElem?_eq_getElem hj] at h4
  cases h4
  obtain ⟨a, c, e, -⟩ := h6.form
  rw [e]; rfl
theorem res_get {f : Func} {r t : Nat} (hf : f.results = #[.cell r 45, .tmp t]) (tmps : Array Value) (w : World) (B : Nat) (cs : Array Value) (e : Value) (hp : tmps.getD r undef = .pointer (some ⟨B, 0, none⟩)) (h5 : tmps.getD t undef = e) (hg : w.heap[B]? = some (.cells cs 45 (0, 0))) (hcs : cs.size = 8) :
    (results f tmps).run Try.prog w = .ok (.tuple #[.agg cs, e]) w := by
  have hp' : tmps[r]?.getD undef = .pointer (some ⟨B, 0, none⟩) := by simpa using hp
  have h5' : tmps[t]?.getD undef = e := by simpa using h5
  simp [results, hf, hp', h5', asAddr, run_loadVar_row w B 45 45 cs (0, 0) _ hg Try.underlying45 rfl (by rw [hcs]; exact Try.info45)]
theorem Try.results22 : Try.f22.results = #[.cell 4 45, .tmp 5] := by kernel_rfl
theorem two_a (w : World) (o1 o2 : Obj) : ((w.alloc o1).alloc o2).heap[w.heap.size]? = some o1 := by
  show ((w.heap.push o1).push o2)[w.heap.size]? = _
  rw [Array.getElem?_push, Array.getElem?_push]
  simp
def unitD (o : Option Un) : Un := o.getD unit0
def getPost (w : World) (us : List Un) (n : Str) (e : Ending) (w' : World) : Prop := ∃ v, e = .returned (.tuple #[v, .bool (there us n)]) ∧ UnitIs w' v (unitD (findU us n)) ∧ Ext w w'
set_option maxRecDepth 100000 in
set_option maxHeartbeats 2000000 in
theorem Get_any {w : World} {g ub nu : Nat} {bv ov : Value} {us : List Un} {n : Str} (hg : w.heap[g]? = some (.cells #[.map (some ub), bv, ov] 57 (0, 0))) (hu : UnitsAt w ub nu us) (hs : SmallU us) (hn : n.length ≤ maxLen) :
    Calls Try.prog 22 #[.pointer (some ⟨g, 0, none⟩), .string (ba n)] w (getPost w us n) := by
  have x1 : Ext w (w.alloc (.cells (unitCells [] [.slice none 0 0, .slice none 0 0, .slice none 0 0, .slice none 0 0, .slice none 0 0, .slice none 0 0] 0) 45)) := (Ext.refl w).alloc _
  obtain ⟨get, hm, hget⟩ := hu
  have hgn := hget n
  obtain ⟨v, hv, hlk⟩ : ∃ v, UnitIs w v (unitD (findU us n)) ∧ ∀ o, (Instr.lookup 54 (.map (some ub)) (.string (ba n)) true).run Try.prog (w.alloc o) = .ok (.tuple #[v, .bool (there us n)]) (w.alloc o) := by
    cases hf : findU us n with
    | none =>
      rw [hf] at hgn
      simp only at hgn
      have ht : there us n = false := by unfold there; rw [hf]; rfl
      refine ⟨zero45, unit0_is w, fun o => ?_⟩
      have := (hm.ext ((Ext.refl w).alloc o)).look_ok (t := 54) (e := 45) Try.underlying54 (zero45_run _) hn
      rw [hgn] at this
      rw [this, ht]; rfl
    | some u =>
      rw [hf] at hgn
      simp only at hgn
      obtain ⟨uv, hgu, hui⟩ := hgn
      have ht : there us n = true := by unfold there; rw [hf]; rfl
      refine ⟨uv, hui, fun o => ?_⟩
      have := (hm.ext ((Ext.refl w).alloc o)).look_ok (t := 54) (e := 45) Try.underlying54 (zero45_run _) hn
      rw [hgu] at this
      rw [this, ht]; rfl
  have hll : ∀ l ∈ listsOf (unitD (findU us n)), l.length * 16 ≤ 140737488355328 := by
    intro l hl
    cases hf : findU us n with
    | none =>
      rw [hf] at hl
      simp [listsOf, unitD, unit0] at hl
      rw [hl]; simp
    | some u =>
      rw [hf] at hl
      have := (hs.lists u (findU_name hf).1 l hl).1
      omega
  have HL := Lib.hid hll
  have HV := Lib.hid hv
  have c0 : ∀ o, (w.alloc o).cell? ⟨g, 0, none⟩ = some (.map (some ub)) := fun o => by rw [cell_blk (((Ext.refl w).alloc o).get hg)]; rfl
  obtain ⟨a0, n0, c0', a1, n1, c1', a2, n2, c2', a3, n3, c3', a4, n4, c4', a5, n5, c5', rfl, -⟩ := hv.shape
  clear hg hm hget hgn hll x1 hv
  go_enter Try.func22, Try.ntmps22
  go_wp2_with (first
    | (go_at_call 30; refine (uclone_any (HV.out.ext (((Ext.refl w).alloc _).alloc _)) HL.out).mono ?_; rintro e w3 ⟨v3, rfl, h3, x3⟩; have H3 := Lib.hid h3; have X3 := Lib.hid x3; clear h3 x3; (obtain ⟨R, rfl, hR8, hR1⟩ := H3.out.is.cells); have HB := Lib.hid (X3.out.get (two_a w _ _)); have HR8 := Lib.hid hR8; have HR1 := Lib.hid hR1; clear hR8 hR1)
    | (refine wpList_store_row rfl 45 (.tmp 4) (.tmp 18) rfl w.heap.size R rfl rfl 45 _ HB.out (by rw [HR8.out]; exact Try.info45) (by rw [HR8.out]; rfl) HR1.out ?_))
  have X9 := below_setRow (((((Ext.refl w).alloc _).alloc _).trans X3.out : Ext w w3)) (Nat.le_refl w.heap.size) R
  refine bodyPost_ret (res_get Try.results22 _ _ w.heap.size R _ rfl rfl (setRow_heap _ _ _ _ _ _ HB.out) HR8.out) rfl ?_
  refine ⟨_, rfl, ?_, X9⟩
  exact (H3.out.grown (grown_setRow w3 w.heap.size R) (fun k hk => by cases hk; simp; omega)).is
end Go.Proofs.Ytobdjfibaemmhaa
