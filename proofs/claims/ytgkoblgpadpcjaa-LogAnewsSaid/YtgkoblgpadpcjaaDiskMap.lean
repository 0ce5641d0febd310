/- Maps from numbers to maps from sectors to numbers. -/
import Derived.Test.YtgkoblgpadpcjaaDiskO
import Derived.MapKept
namespace Go.Proofs.Ytgkoblgpadpcjaa
open Go.RowKit

def secEntry (s : List UInt8) (b : Nat) : MapEntry := { key := .agg (byteVals s).toArray, val := .int .i64 1, born := b }
def secEntries : List (List UInt8) → Nat → List MapEntry
  | [], _ => []
  | s :: r, b => secEntry s b :: secEntries r (b + 1)
def secIdx (s : List UInt8) : List (List UInt8) → Nat → Option Nat
  | [], _ => none
  | t :: r, i => if s = t then some i else secIdx s r (i + 1)
def outer : List Nat → Nat → List MapEntry
  | [], _ => []
  | ib :: r, k => { key := .int .i64 k, val := .map (some ib), born := k } :: outer r (k + 1)
theorem secEntries_len : ∀ (L : List (List UInt8)) (b : Nat), (secEntries L b).length = L.length
  | [], _ => rfl
  | s :: r, b => by rw [secEntries, List.length_cons, secEntries_len r, List.length_cons]
theorem outer_len : ∀ (L : List Nat) (b : Nat), (outer L b).length = L.length
  | [], _ => rfl
  | s :: r, b => by rw [outer, List.length_cons, outer_len r, List.length_cons]
theorem secEntries_snoc : ∀ (L : List (List UInt8)) (s : List UInt8) (b : Nat), secEntries (L ++ [s]) b = secEntries L b ++ [secEntry s (b + L.length)]
  | [], s, b => rfl
  | t :: r, s, b => by
    rw [List.cons_append, secEntries, secEntries_snoc r s (b + 1), secEntries, List.length_cons]
    simp only [List.cons_append]
    rw [show b + 1 + r.length = b + (r.length + 1) by omega]
theorem outer_snoc : ∀ (L : List Nat) (s : Nat) (b : Nat), outer (L ++ [s]) b = outer L b ++ [{ key := .int .i64 ((b + L.length : Nat) : Int), val := .map (some s), born := b + L.length }]
  | [], s, b => rfl
  | t :: r, s, b => by
    rw [List.cons_append, outer, outer_snoc r s (b + 1), outer, List.length_cons]
    simp only [List.cons_append]
    rw [show b + 1 + r.length = b + (r.length + 1) by omega]
theorem secIdx_ge (s : List UInt8) : ∀ (L : List (List UInt8)) (i j : Nat), secIdx s L i = some j → i ≤ j ∧ j < i + L.length
  | [], i, j, h => by simp [secIdx] at h
  | t :: r, i, j, h => by
    rw [secIdx] at h
    split at h
    · simp at h; subst h; simp
    · have := secIdx_ge s r (i + 1) j h
      simp only [List.length_cons]; omega
theorem secIdx_mem (s : List UInt8) : ∀ (L : List (List UInt8)) (i : Nat), s ∈ L → ∃ j, secIdx s L i = some j
  | [], i, h => by cases h
  | t :: r, i, h => by
    rw [secIdx]
    split
    · exact ⟨i, rfl⟩
    · rename_i hne
      rcases List.mem_cons.1 h with h | h
      · exact absurd h hne
      · exact secIdx_mem s r (i + 1) h
theorem secIdx_none (s : List UInt8) (L : List (List UInt8)) (i : Nat) (h : secIdx s L i = none) : s ∉ L := by
  intro hm
  obtain ⟨j, hj⟩ := secIdx_mem s L i hm
  rw [h] at hj; cases hj
theorem secEntries_get (s : List UInt8) : ∀ (L : List (List UInt8)) (i j b : Nat), secIdx s L i = some j → (secEntries L b)[j - i]? = some (secEntry s (b + (j - i)))
  | [], i, j, b, h => by simp [secIdx] at h
  | t :: r, i, j, b, h => by
    have hge := secIdx_ge s (t :: r) i j h
    rw [secIdx] at h
    split at h
    · rename_i e
      simp at h; subst h; subst e
      simp [secEntries]
    · have h2 := secIdx_ge s r (i + 1) j h
      have := secEntries_get s r (i + 1) j (b + 1) h
      rw [secEntries, show j - i = (j - (i + 1)) + 1 by omega, List.getElem?_cons_succ, this]
      congr 2
      omega

theorem run_checkKey_sec (em : Bool) (n : Nat) (s : List UInt8) (hs : s.length = 64) (w : World) : (Instr.checkKey em (n + 2) 63 (.agg (byteVals s).toArray)).run Try.prog w = .ok () w := by
  have hsz : ∀ w, (sizeOf 5).run Try.prog w = .ok 1 w := fun w => by kernel_rfl
  rw [Instr.checkKey]
  simp only [Sem.run_bind, run_underlying Try.underlying63, Result.andThen_ok, Std.Legacy.Range.forIn_eq_forIn_range', Std.Legacy.Range.size, Nat.sub_zero, Nat.add_sub_cancel, Nat.div_one]
  have hl : ∀ i ∈ List.range' 0 64 1, i < 64 := fun i hi => by simpa using (List.mem_range'_1.1 hi).2
  generalize List.range' 0 64 1 = l at hl ⊢
  induction l with
  | nil => simp
  | cons i l ih =>
    have hi : i < 64 := hl i (by simp)
    have px : (part 5 (byteVals s).toArray (i * 1)).run Try.prog w = .ok (.int .u8 (s.getD i 0).toNat) w := by
      simp [part, isAgg, run_underlying Try.underlying5, byteVals, List.getD, List.getElem?_eq_getElem (show i < s.length by omega)]
    have pk : (Instr.checkKey em (n + 1) 5 (.int .u8 (s.getD i 0).toNat)).run Try.prog w = .ok () w := by
      rw [Instr.checkKey]
      simp [run_underlying Try.underlying5]
    simp only [List.forIn_cons, Sem.run_bind, hsz, px, pk, Result.andThen_ok, Sem.run_pure]
    exact ih fun j hj => hl j (by simp [hj])
theorem run_findAsking_sec (s : List UInt8) (hs : s.length = 64) (w : World) : ∀ (L : List (List UInt8)) (_ : ∀ t ∈ L, t.length = 64) (i b : Nat), (Instr.findAsking 63 (.agg (byteVals s).toArray) (secEntries L b) i).run Try.prog w = .ok ((secIdx s L i).map fun j => (j, .int .i64 1)) w
  | [], _, i, b => by simp [secEntries, Instr.findAsking, secIdx]
  | t :: r, h, i, b => by
    have ih := run_findAsking_sec s hs w r (fun x hx => h x (by simp [hx])) (i + 1) (b + 1)
    have he := sec_eq s t hs (h t (by simp)) w
    rw [secEntries, Instr.findAsking]
    simp only [secEntry, Sem.run_bind, Op.equal, show Op.maxDepth = 10000 from rfl, he, Result.andThen_ok]
    by_cases hst : s = t
    · subst hst; simp [secIdx]
    · have hb : (s == t) = false := by simpa using hst
      rw [hb, secIdx, if_neg hst]
      simpa using ih
theorem run_findKey_sec (s : List UInt8) (hs : s.length = 64) (w : World) (L : List (List UInt8)) (h : ∀ t ∈ L, t.length = 64) : (Instr.findKey 63 (.agg (byteVals s).toArray) (secEntries L 0)).run Try.prog w = .ok ((secIdx s L 0).map fun j => (j, .int .i64 1)) w := by
  unfold Instr.findKey
  simp only [Sem.run_bind, run_underlying Try.underlying63, Result.andThen_ok]
  cases L with
  | nil => simp [secEntries, Instr.findNow, secIdx]
  | cons t r =>
    have := run_findAsking_sec s hs w (t :: r) h 0 0
    simpa [secEntries, Instr.findNow, Instr.sameNow, secEntry] using this
theorem findNow_outer (kd : IntKind) : ∀ (ibs : List Nat) (k0 i0 a : Nat), Instr.findNow (.int kd) (.int .i64 (a : Int)) (outer ibs k0) i0 = some (if h : k0 ≤ a ∧ a < k0 + ibs.length then some (i0 + (a - k0), .map (some (ibs[a - k0]'(by omega)))) else none)
  | [], k0, i0, a => by
    rw [outer, Instr.findNow, dif_neg (by simp only [List.length_nil]; omega)]
  | ib :: r, k0, i0, a => by
    rw [outer, Instr.findNow]
    by_cases he : a = k0
    · subst he
      simp [Instr.sameNow]
    · have hb : ((a : Int) == (k0 : Int)) = false := by rw [beq_eq_false_iff_ne]; omega
      have ih := findNow_outer kd r (k0 + 1) (i0 + 1) a
      simp only [Instr.sameNow, if_true, hb]
      rw [ih]
      congr 1
      by_cases hin : k0 + 1 ≤ a ∧ a < k0 + 1 + r.length
      · rw [dif_pos hin, dif_pos (by simp only [List.length_cons]; omega)]
        have e2 : (ib :: r)[a - k0]'(by simp only [List.length_cons]; omega) = r[a - (k0 + 1)]'(by omega) := by
          simp only [show a - k0 = (a - (k0 + 1)) + 1 by omega, List.getElem_cons_succ]
        rw [e2, show i0 + 1 + (a - (k0 + 1)) = i0 + (a - k0) by omega]
      · rw [dif_neg hin, dif_neg (by simp only [List.length_cons]; omega)]
theorem run_lookup_outer (w : World) (ob c k : Nat) (ibs : List Nat) (hk : k < ibs.length) (hb : w.heap[ob]? = some (.map (outer ibs 0).toArray c)) : (Instr.lookup 64 (.map (some ob)) (.int .i64 (k : Int)) false).run Try.prog w = .ok (.map (some ibs[k])) w := by
  have hf : (Instr.findKey 3 (.int .i64 (k : Int)) (outer ibs 0)).run Try.prog w = .ok (some (k, .map (some ibs[k]))) w := by
    unfold Instr.findKey
    simp only [Sem.run_bind, run_underlying Try.underlying3, Result.andThen_ok]
    rw [findNow_outer, dif_pos (by omega)]
    simp
  have hc : ∀ em, (Instr.checkKey em 10000 3 (.int .i64 (k : Int))).run Try.prog w = .ok () w := fun em => by
    rw [Instr.checkKey]; simp [run_underlying Try.underlying3]
  simp [Instr.lookup, run_underlying Try.underlying64, MapKept.run_getObj_map hb, hc, hf]
theorem run_lookup_sec (w : World) (ib c j : Nat) (L : List (List UInt8)) (h : ∀ t ∈ L, t.length = 64) (s : List UInt8) (hs : s.length = 64) (hj : secIdx s L 0 = some j) (hb : w.heap[ib]? = some (.map (secEntries L 0).toArray c)) : (Instr.lookup 68 (.map (some ib)) (.agg (byteVals s).toArray) false).run Try.prog w = .ok (.int .i64 1) w := by
  have hf := run_findKey_sec s hs w L h
  have hc : ∀ em, (Instr.checkKey em 10000 63 (.agg (byteVals s).toArray)).run Try.prog w = .ok () w := fun em => run_checkKey_sec em 9998 s hs w
  rw [hj] at hf
  simp [Instr.lookup, run_underlying Try.underlying68, MapKept.run_getObj_map hb, hc, hf]

/-- A map's object is set. -/
def setMap (w : World) (r : Nat) (o : Obj) : World := { w with heap := w.heap.setIfInBounds r o }
theorem setMap_heap {w : World} {r : Nat} {o p : Obj} (h : w.heap[r]? = some p) : (setMap w r o).heap[r]? = some o := by
  have hlt := (Array.getElem?_eq_some_iff.1 h).1
  simp [setMap, hlt]
theorem setMap_other {w : World} {r k : Nat} {o : Obj} (h : k ≠ r) : (setMap w r o).heap[k]? = w.heap[k]? := by
  simp only [setMap, Array.getElem?_setIfInBounds]
  rw [if_neg (Ne.symm h)]
theorem setMap_size (w : World) (r : Nat) (o : Obj) : (setMap w r o).heap.size = w.heap.size := by simp [setMap]
theorem below_setMap {B r : Nat} {a w : World} {o : Obj} (h : Below B a w) (hr : B ≤ r) : Below B a (setMap w r o) :=
  h.trans ⟨rfl, rfl, rfl, by rw [setMap_size]; exact Nat.le_refl _, fun k hk => setMap_other (by omega)⟩
def addSec (s : List UInt8) (L : List (List UInt8)) : List (List UInt8) := if s ∈ L then L else L ++ [s]
theorem sameBits_bytes (n : Nat) : ∀ (s : List UInt8), ((byteVals s).zip (byteVals s)).all (fun (x, y) => Instr.sameBits n x y) = true
  | [] => rfl
  | b :: r => by
    have ih := sameBits_bytes n r
    simp only [byteVals, List.map_cons, List.zip_cons_cons, List.all_cons] at ih ⊢
    rw [ih]
    simp [Instr.sameBits]
theorem run_keyStays_sec (s : List UInt8) (w : World) : (Instr.keyThatStays (.agg (byteVals s).toArray) (.agg (byteVals s).toArray)).run Try.prog w = .ok (.agg (byteVals s).toArray) w := by
  have h : Instr.sameBits 10000 (.agg (byteVals s).toArray) (.agg (byteVals s).toArray) = true := by
    rw [Instr.sameBits]
    simpa using sameBits_bytes 9999 s
  simp [Instr.keyThatStays, h]
theorem run_update_sec (w : World) (ib : Nat) (L : List (List UInt8)) (h : ∀ t ∈ L, t.length = 64) (s : List UInt8) (hs : s.length = 64) (hb : w.heap[ib]? = some (.map (secEntries L 0).toArray L.length)) :
    (Instr.mapUpdate 68 (.map (some ib)) (.agg (byteVals s).toArray) (.int .i64 1)).run Try.prog w = .ok () (setMap w ib (.map (secEntries (addSec s L) 0).toArray (addSec s L).length)) := by
  have hf := run_findKey_sec s hs w L h
  have hc : ∀ em, (Instr.checkKey em 10000 63 (.agg (byteVals s).toArray)).run Try.prog w = .ok () w := fun em => run_checkKey_sec em 9998 s hs w
  cases hj : secIdx s L 0 with
  | none =>
    rw [hj] at hf
    have hn := secIdx_none s L 0 hj
    have ha : addSec s L = L ++ [s] := by unfold addSec; rw [if_neg hn]
    rw [ha, secEntries_snoc, List.length_append]
    simp [Instr.mapUpdate, run_underlying Try.underlying68, MapKept.run_getObj_map hb, hc, hf, MapKept.run_setObj_map _ hb, setMap, secEntry]
  | some j =>
    rw [hj] at hf
    have hm : s ∈ L := by
      have hg := secEntries_get s L 0 j 0 hj
      have := secIdx_ge s L 0 j hj
      by_cases hm : s ∈ L
      · exact hm
      · exfalso
        have : ∀ (L : List (List UInt8)) (i : Nat), s ∉ L → secIdx s L i = none := by
          intro L
          induction L with
          | nil => intro i _; rfl
          | cons t r ih =>
            intro i hi
            rw [secIdx, if_neg (fun e => hi (by rw [e]; simp))]
            exact ih (i + 1) (fun hx => hi (by simp [hx]))
        rw [this L 0 hm] at hj
        cases hj
    have ha : addSec s L = L := by unfold addSec; rw [if_pos hm]
    have hg := secEntries_get s L 0 j 0 hj
    simp only [Nat.sub_zero, Nat.zero_add] at hg
    have hga : (secEntries L 0).toArray[j]? = some (secEntry s j) := by rw [List.getElem?_toArray]; exact hg
    have hmod : (secEntries L 0).toArray.modify j (fun e => { e with key := .agg (byteVals s).toArray, val := .int .i64 1 }) = (secEntries L 0).toArray := by
      apply Array.ext_getElem?
      intro i
      rw [Array.getElem?_modify]
      by_cases hi : j = i
      · subst hi; rw [if_pos rfl, hga]; rfl
      · rw [if_neg hi]
    rw [List.modify_toArray] at hmod
    rw [ha]
    have hga' : (secEntries L 0)[j]? = some (secEntry s j) := hg
    simp [Instr.mapUpdate, run_underlying Try.underlying68, MapKept.run_getObj_map hb, hc, hf, hga', secEntry, run_keyStays_sec, MapKept.run_setObj_map _ hb, hmod, setMap]
theorem run_update_outer (w : World) (ob ib : Nat) (ibs : List Nat) (hb : w.heap[ob]? = some (.map (outer ibs 0).toArray ibs.length)) :
    (Instr.mapUpdate 64 (.map (some ob)) (.int .i64 ((ibs.length : Nat) : Int)) (.map (some ib))).run Try.prog w = .ok () (setMap w ob (.map (outer (ibs ++ [ib]) 0).toArray (ibs ++ [ib]).length)) := by
  have hf : (Instr.findKey 3 (.int .i64 ((ibs.length : Nat) : Int)) (outer ibs 0)).run Try.prog w = .ok none w := by
    unfold Instr.findKey
    simp only [Sem.run_bind, run_underlying Try.underlying3, Result.andThen_ok]
    rw [findNow_outer, dif_neg (by omega)]
    simp
  have hc : ∀ em, (Instr.checkKey em 10000 3 (.int .i64 ((ibs.length : Nat) : Int))).run Try.prog w = .ok () w := fun em => by
    rw [Instr.checkKey]; simp [run_underlying Try.underlying3]
  rw [outer_snoc, List.length_append]
  simp [Instr.mapUpdate, run_underlying Try.underlying64, MapKept.run_getObj_map hb, hc, hf, MapKept.run_setObj_map _ hb, setMap]

/-- An operation whose run is known. -/
theorem wpList_value {P : Program} {ops : Array Oper} {rest : List Oper} {o : Oper} {a : Act} {w w' : World} {Q : Exit → Act → World → Prop} (hw : Region.wanted o (yielded ops a.tmps) = true) (v : Value) (hr : (execOp a.eval o).run P w = .ok (.value v) w')
    (h : wpList P ops Q rest (a.put o.dst v) w') : wpList P ops Q (o :: rest) a w := by
  unfold wpList
  rw [if_pos hw]
  left
  unfold Oper.wp
  rw [hr]
  exact h
theorem wpList_skip {P : Program} {ops : Array Oper} {rest : List Oper} {o : Oper} {a : Act} {w w' : World} {Q : Exit → Act → World → Prop} (hw : Region.wanted o (yielded ops a.tmps) = true) (hr : (execOp a.eval o).run P w = .ok .skip w')
    (h : wpList P ops Q rest (a.put o.dst undef) w') : wpList P ops Q (o :: rest) a w := by
  unfold wpList
  rw [if_pos hw]
  left
  unfold Oper.wp
  rw [hr]
  exact h
theorem wpList_lookup_outer {ops : Array Oper} {rest : List Oper} {o : Oper} {a : Act} {w : World} {Q : Exit → Act → World → Prop} (hw : Region.wanted o (yielded ops a.tmps) = true) (x y : Operand) (ho : o.op = .lookup 64 x y false)
    (ob c k : Nat) (ibs : List Nat) (hk : k < ibs.length) (hx : a.eval x = .map (some ob)) (hy : a.eval y = .int .i64 (k : Int)) (hb : w.heap[ob]? = some (.map (outer ibs 0).toArray c))
    (h : wpList Try.prog ops Q rest (a.put o.dst (.map (some ibs[k]))) w) : wpList Try.prog ops Q (o :: rest) a w := by
  refine wpList_value hw _ ?_ h
  simp [execOp, ho, hx, hy, run_lookup_outer w ob c k ibs hk hb]
theorem wpList_lookup_sec {ops : Array Oper} {rest : List Oper} {o : Oper} {a : Act} {w : World} {Q : Exit → Act → World → Prop} (hw : Region.wanted o (yielded ops a.tmps) = true) (x y : Operand) (ho : o.op = .lookup 68 x y false)
    (ib c j : Nat) (L : List (List UInt8)) (hL : ∀ t ∈ L, t.length = 64) (s : List UInt8) (hs : s.length = 64) (hj : secIdx s L 0 = some j) (hx : a.eval x = .map (some ib)) (hy : a.eval y = .agg (byteVals s).toArray) (hb : w.heap[ib]? = some (.map (secEntries L 0).toArray c))
    (h : wpList Try.prog ops Q rest (a.put o.dst (.int .i64 1)) w) : wpList Try.prog ops Q (o :: rest) a w := by
  refine wpList_value hw _ ?_ h
  simp [execOp, ho, hx, hy, run_lookup_sec w ib c j L hL s hs hj hb]
theorem wpList_update_sec {ops : Array Oper} {rest : List Oper} {o : Oper} {a : Act} {w : World} {Q : Exit → Act → World → Prop} (hw : Region.wanted o (yielded ops a.tmps) = true) (x y z : Operand) (ho : o.op = .mapUpdate 68 x y z ∨ o.op = .insert 68 x y z)
    (ib : Nat) (L : List (List UInt8)) (hL : ∀ t ∈ L, t.length = 64) (s : List UInt8) (hs : s.length = 64) (hx : a.eval x = .map (some ib)) (hy : a.eval y = .agg (byteVals s).toArray) (hz : a.eval z = .int .i64 1) (hb : w.heap[ib]? = some (.map (secEntries L 0).toArray L.length))
    (h : wpList Try.prog ops Q rest (a.put o.dst undef) (setMap w ib (.map (secEntries (addSec s L) 0).toArray (addSec s L).length))) : wpList Try.prog ops Q (o :: rest) a w := by
  refine wpList_skip hw ?_ h
  rcases ho with ho | ho <;> simp [execOp, ho, hx, hy, hz, run_update_sec w ib L hL s hs hb]
theorem wpList_update_outer {ops : Array Oper} {rest : List Oper} {o : Oper} {a : Act} {w : World} {Q : Exit → Act → World → Prop} (hw : Region.wanted o (yielded ops a.tmps) = true) (x y z : Operand) (ho : o.op = .mapUpdate 64 x y z)
    (ob ib : Nat) (ibs : List Nat) (hx : a.eval x = .map (some ob)) (hy : a.eval y = .int .i64 ((ibs.length : Nat) : Int)) (hz : a.eval z = .map (some ib)) (hb : w.heap[ob]? = some (.map (outer ibs 0).toArray ibs.length))
    (h : wpList Try.prog ops Q rest (a.put o.dst undef) (setMap w ob (.map (outer (ibs ++ [ib]) 0).toArray (ibs ++ [ib]).length))) : wpList Try.prog ops Q (o :: rest) a w := by
  refine wpList_skip hw ?_ h
  simp only [execOp, ho, hx, hy, hz]
  simp [run_update_outer w ob ib ibs hb]
end Go.Proofs.Ytgkoblgpadpcjaa
