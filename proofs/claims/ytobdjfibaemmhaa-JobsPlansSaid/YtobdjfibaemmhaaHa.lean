/- jobs: Restart, Gone. -/
import Derived.Test.YtobdjfibaemmhaaGp
namespace Go.Proofs.Ytobdjfibaemmhaa
open Go.RowKit Go.Maps Go.Lib

set_option maxRecDepth 100000 in
set_option maxHeartbeats 2000000 in
theorem restart35 {W : World} {B : Nat} {nv : Value} {names : List Str} (hc : W.cell? ⟨B, 0, none⟩ = some nv) (hs : SRow W nv names) (x : Str) :
    Calls Try.prog 35 #[.string (ba x), .pointer (some ⟨B, 0, none⟩)] W fun e w' => e = .returned (.bool (!decide (x ∈ names))) ∧ ∃ q, w' = W.drewN q := by
  have HC := contains_any hs x
  rw [encStr_ba] at HC
  obtain ⟨a, c, rfl, -⟩ := hs.form
  clear hs
  go_enter Try.func35, Try.ntmps35
  go_wp2_with (go_at_call 36; refine HC.mono ?_; rintro e w' ⟨rfl, rfl⟩; clear HC)
  go_ret
  exact ⟨rfl, 0, rfl⟩
/-- What is to stop, of what leans (L) and runs. -/
def stopOf (us : List Un) (L run : List Str) : List Str := ((orderOf us).1.filter fun x => decide (x ∈ L.filter fun y => decide (y ∈ run))).reverse
def startOf (us : List Un) (stop : List Str) : List Str := (orderOf us).1.filter fun x => decide (x ∈ stop)
def restartPost (w : World) (us vs : List Un) (run hit : List Str) (e : Ending) (w' : World) : Prop :=
  ∃ sv tv L, e = .returned (.agg #[sv, tv]) ∧ ListOf (LeanIn us hit) L ∧ OwnS w' w.heap.size sv (stopOf us L run) ∧ OwnS w' w.heap.size tv (startOf vs (stopOf us L run)) ∧ Ext w w'
theorem Try.results11 : Try.f11.results = #[.cell 8 31] := by kernel_rfl
theorem Try.info31 : (Try.prog.info? 31).map (·.size) = some 2 := by kernel_rfl
set_option maxRecDepth 100000 in
set_option maxHeartbeats 4000000 in
theorem Restart_any {w : World} {g ub nu bb nb g2 ub2 nu2 bb2 nb2 : Nat} {ov ov2 rv hv : Value} {us vs : List Un} {bh bh2 : Beh} {run hit : List Str} (h1 : GraphAt w g ub nu bb nb ov us bh (orderOf us).1) (h2 : GraphAt w g2 ub2 nu2 bb2 nb2 ov2 vs bh2 (orderOf vs).1)
    (hs1 : SmallU us) (hs2 : SmallU vs) (hd1 : (us.map Un.name).Nodup) (hd2 : (vs.map Un.name).Nodup) (hr : SRow w rv run) (hh : SRow w hv hit) (hhs : ShortAll hit) (hhl : hit.length ≤ 1000) :
    Calls Try.prog 11 #[.pointer (some ⟨g, 0, none⟩), .pointer (some ⟨g2, 0, none⟩), rv, hv] w (restartPost w us vs run hit) := by
  have o1 := order_short hs1 hd1
  have o2 := order_short hs2 hd2
  have G1 := Lib.hid h1
  have G2 := Lib.hid h2
  have HR := Lib.hid hr
  have HHH := Lib.hid hh
  have HS1 := Lib.hid hs1
  have O1S := Lib.hid o1
  have O2S := Lib.hid o2
  have HHS := Lib.hid hhs
  obtain ⟨ar, cr, rfl, -⟩ := hr.form
  obtain ⟨ah, ch, rfl, -⟩ := hh.form
  clear h1 h2 hr hh o1 o2 hhs
  go_enter Try.func11, Try.ntmps11
  go_upto_region 1 with fail
  obtain ⟨W, hW⟩ : ∃ W : World, W = (w.alloc (.cells #[.slice ar run.length cr] 23)).alloc (.cells #[.slice none 0 0, .slice none 0 0] 31) := ⟨_, rfl⟩
  have XW := Lib.hid (show Ext w W by rw [hW]; exact ((Ext.refl w).alloc _).alloc _)
  have BW := Lib.hid (show W.heap[w.heap.size]? = some (.cells #[.slice ar run.length cr] 23 (0, 0)) by rw [hW]; exact two_a w _ _)
  have BP := Lib.hid (show W.heap[w.heap.size + 1]? = some (.cells #[.slice none 0 0, .slice none 0 0] 31 (0, 0)) by rw [hW]; exact alloc_at _ _ (by simp))
  rw [← hW]
  have hws : w.heap.size + 1 < W.heap.size := by rw [hW]; simp
  clear hW
  have HL := Lib.hid (Lean_any (G1.out.ext XW.out).cells (G1.out.ext XW.out).units HS1.out (HHH.out.ext XW.out) hhl HHS.out)
  go_wp2_with fail
  refine HL.out.mono ?_
  rintro e w3 ⟨v3, L, rfl, o3, x3, l3⟩
  have O3 := Lib.hid o3
  have X3 := Lib.hid x3
  have L3 := Lib.hid l3
  have hLs : ShortAll L := fun x hx => by
    have := ((l3.2.2 x).1 hx).there
    obtain ⟨u, hu, rfl⟩ := List.mem_map.1 (there_iff.1 this)
    have := hs1.name u hu
    unfold maxLen
    omega
  have hLl : L.length ≤ us.length := there_len l3.1 (fun x hx => ((l3.2.2 x).1 hx).there)
  have hus := hs1.len
  have HD := Lib.hid (dfunc_any o3 hLs (by omega) (fun x => !decide (x ∈ run)) 35 #[.pointer (some ⟨w.heap.size, 0, none⟩)] (enters_of Try.func35 (by kernel_rfl) rfl) (fun V x hg => by
    have hx2 : Ext W V := X3.out.grow hg fun k hk => (O3.out.lt k hk).1
    exact restart35 (by rw [cell_blk (hx2.get BW.out)]; rfl) (HR.out.ext (XW.out.trans hx2)) x.1) (fun e => by rw [e]; exact dfunc_nil _ _))
  obtain ⟨a3, c3, rfl, -⟩ := o3.row.form
  clear o3 x3 l3 hLs hLl
  go_wp2_with fail
  refine HD.out.mono ?_
  rintro e w4 ⟨v4, rfl, o4, g4⟩
  rw [filter_nn] at o4
  have O4 := Lib.hid (o4.base (base' := W.heap.size) (Nat.le_refl _))
  have X4 := Lib.hid (X3.out.grow g4 fun k hk => (O3.out.lt k hk).1)
  have HO := Lib.hid (Order_any (G1.out.ext (XW.out.trans X4.out)) O4.out.row O1S.out.1 (by have := O1S.out.2; omega))
  obtain ⟨a4, c4, rfl, -⟩ := o4.row.form
  clear o4 g4
  go_wp2_with fail
  refine HO.out.mono ?_
  rintro e w5 ⟨v5, rfl, o5, x5⟩
  have O5 := Lib.hid o5
  have X5 := Lib.hid (X4.out.trans x5)
  have HV := Lib.hid (reverse_any o5)
  obtain ⟨st, hst⟩ : ∃ st, st = (orderOf us).1.filter fun x => decide (x ∈ L.filter fun y => decide (y ∈ run)) := ⟨_, rfl⟩
  have HST := Lib.hid hst
  rw [← hst] at HV O5 o5
  obtain ⟨a5, c5, rfl, -⟩ := o5.row.form
  clear o5 x5 hst
  go_wp2_with fail
  refine HV.out.mono ?_
  rintro e w6 ⟨rfl, o6, g6⟩
  have X6 := Lib.hid (X5.out.grow g6 fun k hk => by have := (O5.out.lt k hk).1; have := X4.out.sz; omega)
  have O6 := Lib.hid (o6.base (base' := W.heap.size) (by have := X4.out.sz; omega))
  have hrv : st.reverse.length = st.length := List.length_reverse
  have HO2 := Order_any (G2.out.ext (XW.out.trans X6.out)) O6.out.row O2S.out.1 (by have := O2S.out.2; omega)
  have HO2 := Lib.hid HO2
  clear o6 g6 hrv
  go_wp2_with fail
  refine HO2.out.mono ?_
  rintro e w7 ⟨v7, rfl, o7, x7⟩
  obtain ⟨sl, hsl⟩ : ∃ sl, sl = (orderOf vs).1.filter (fun x => decide (x ∈ st.reverse)) := ⟨_, rfl⟩
  rw [← hsl] at o7
  have HSL := Lib.hid hsl
  clear hsl
  have O7 := Lib.hid (o7.base (base' := W.heap.size) (by have := X6.out.sz; omega))
  have X7 := Lib.hid (X6.out.trans x7)
  have O67 := Lib.hid (O6.out.ext x7)
  obtain ⟨a7, c7, rfl, -⟩ := o7.row.form
  have BP7 := Lib.hid (X7.out.get BP.out)
  clear o7 x7
  go_wp2_with (refine wpList_store_row rfl 31 (.tmp 8) (.tmp 23) rfl (w.heap.size + 1) _ rfl rfl 31 _ BP7.out Try.info31 rfl (by simp [Value.oneCell']) ?_)
  refine bodyPost_ret (results_cell_row Try.results11 _ _ (w.heap.size + 1) 31 _ (0, 0) _ rfl (setRow_heap _ _ _ _ _ _ BP7.out) Try.underlying31 rfl Try.info31) rfl ?_
  have hst2 : st.reverse = stopOf us L run := by rw [HST.out]; rfl
  have X9 := below_setRow (B := w.heap.size) (XW.out.trans X7.out) (Nat.le_succ w.heap.size) #[.slice a5 st.length c5, .slice a7 sl.length c7]
  refine ⟨_, _, L, rfl, L3.out, ?_, ?_, X9⟩
  · rw [← hst2]
    have := O67.out.kept (row := some (w.heap.size + 1)) (grown_setRow w7 (w.heap.size + 1) #[.slice a5 st.length c5, .slice a7 sl.length c7]) (.inr fun e => by have := (O67.out.lt _ e).1; omega)
    exact this.base (base' := w.heap.size) (by omega)
  · have := O7.out.kept (row := some (w.heap.size + 1)) (grown_setRow w7 (w.heap.size + 1) #[.slice a5 st.length c5, .slice a7 sl.length c7]) (.inr fun e => by have := (O7.out.lt _ e).1; omega)
    unfold startOf
    rw [← hst2, ← HSL.out]
    exact this.base (base' := w.heap.size) (by omega)
end Go.Proofs.Ytobdjfibaemmhaa
