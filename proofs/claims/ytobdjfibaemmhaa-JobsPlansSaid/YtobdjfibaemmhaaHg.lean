/- The document's Order. -/
import Derived.Test.YtobdjfibaemmhaaHf
import Derived.Deep.QuietTactic
import Derived.BigQuiet
namespace Go.Proofs.Ytobdjfibaemmhaa
open Go.RowKit Go.Maps Go.Lib

def standIn (us : List Un) (out : List Str) (n x : Str) : Bool := !standsB us n x || decide (x ∈ out)
theorem rfree_eq {us : List Un} {out : List Str} {n : Str} : rfree us out n = (!decide (n ∈ out) && (namesOf us).all (standIn us out n)) := by
  unfold rfree standIn
  by_cases h : n ∈ out <;> simp [h]
def ordRel1 (w1 : World) (us : List Un) (N : Nat) (ov i : Value) (wr : World) : Prop := ∃ (n : Nat) (out : List Str), n ≤ N + 1 ∧ out.length ≤ n ∧ i = .int .i64 n ∧ Hid (OwnS wr w1.heap.size ov out) ∧ Hid (Ext w1 wr) ∧ Hid (rorder us (N + 1 - n) out = (orderOf us).1)
def ordRel2 (wq : World) (ns : List Str) (p : Str → Bool) (nx : Option Str) (ov0 ov i : Value) (wr : World) : Prop := ∃ k : Nat, k ≤ ns.length ∧ i = .int .i64 k ∧ ov = ov0 ∧ Hid (Ext wq wr) ∧ Hid ((ns.drop k).find? p = nx)
def ordRel3 (wq : World) (ns : List Str) (b0 : Bool) (p : Str → Bool) (fv i : Value) (wr : World) : Prop := ∃ (j : Nat) (b : Bool), j ≤ ns.length ∧ i = .int .i64 j ∧ fv = .bool b ∧ Hid ((b0 && (ns.take j).all p) = b) ∧ Hid (Ext wq wr)
theorem OwnS.len {w : World} {base : Nat} {a : Option Addr} {n c : Nat} {l : List Str} (h : OwnS w base (.slice a n c) l) : n = l.length := by
  obtain ⟨a', c', e, -⟩ := h.row.form
  cases e; rfl
set_option maxRecDepth 100000 in
set_option maxHeartbeats 4000000 in
theorem ROrder_any {w : World} {v : Value} {us : List Un} (h : UnitsIn w v us) (hl : us.length ≤ 1000) (hd : (us.map Un.name).Nodup) : Calls Try.prog 14 #[v] w fun e w' => ∃ v, e = .returned v ∧ OwnS w' w.heap.size v (orderOf us).1 ∧ Ext w w' := by
  have HU := Lib.hid h
  have HOR := Lib.hid (rorder_order hd)
  have HNL : (namesOf us).length = us.length := by unfold namesOf; rw [(sortS_perm _).length_eq, List.length_map]
  have HN := Lib.hid (RNames_any h hl)
  have HRF := Lib.hid (show ∀ out n, rfree us out n = (!decide (n ∈ out) && (namesOf us).all (standIn us out n)) from fun _ _ => rfree_eq)
  have HRN := Lib.hid (show ∀ out, rnext us out = (namesOf us).find? (rfree us out) from fun _ => rfl)
  obtain ⟨av, cv, rfl, hcap, hcap2, -⟩ := h
  have hNS : (namesOf us).length ≤ 1000 := by omega
  generalize namesOf us = NS at *
  clear HNL
  go_enter Try.func14, Try.ntmps14
  go_wp2_with fail
  refine HN.out.mono ?_
  rintro e w1 ⟨nv, rfl, on, x1⟩
  have HNS := Lib.hid on
  have X1 := Lib.hid x1
  have HE := Lib.hid (OwnS.empty w1 w1.heap.size (Nat.le_refl _))
  obtain ⟨an, cn, rfl, hcn, hcn2⟩ := on.row.form
  clear on x1 HN
  go_wp2_with fail
  go_loopw [4, 5] (fun ov i wr => ordRel1 w1 us NS.length ov i wr) (fun _ i _ => NS.length + 1 - (intOf i).toNat)
  case atStart => exact ⟨0, [], Nat.zero_le _, Nat.le_refl _, rfl, HE, Lib.hid ((Ext.refl w1).alloc _), Lib.hid HOR.out⟩
  case round =>
    obtain ⟨wq, rfl⟩ : ∃ x : World, x = wr := ⟨_, rfl⟩
    obtain ⟨n, out, hn, hol, rfl, HO, HX, HT⟩ := hrel
    obtain ⟨ao, co, rfl, hco, hco2⟩ := HO.out.row.form
    by_cases hlt : n ≤ NS.length
    · have HT2 := Lib.hid (show rorder us (NS.length + 1 - (n + 1)) (rstep us out) = (orderOf us).1 by
        rw [← HT.out, show NS.length + 1 - n = (NS.length + 1 - (n + 1)) + 1 by omega]; rfl)
      go_wp2_with fail
      go_loopw [4, 6] (fun ov i wr2 => ordRel2 wq NS (rfree us out) (rnext us out) (.slice ao out.length co) ov i wr2) (fun _ i _ => NS.length - (intOf i).toNat)
      case atStart => exact ⟨0, Nat.zero_le _, rfl, rfl, Lib.hid (Ext.refl wq), Lib.hid (HRN.out out).symm⟩
      case round =>
        obtain ⟨wi, rfl⟩ : ∃ x : World, x = wr := ⟨_, rfl⟩
        obtain ⟨k, hk, rfl, rfl, HXI, HFI⟩ := hrel
        by_cases hlt2 : k < NS.length
        · obtain ⟨b, o, e, e1⟩ := (HNS.out.row.ext (HX.out.trans HXI.out)).at k hlt2
          cases e
          have HRK := Lib.hid (HRF.out out NS[k])
          have HDK := Lib.hid (show NS.drop k = NS[k] :: NS.drop (k + 1) from List.drop_eq_getElem_cons hlt2)
          have HH := Lib.hid (has_any (HO.out.row.ext HXI.out) NS[k])
          generalize NS[k] = x at *
          go_wp2_with fail
          refine HH.out.mono ?_
          rintro e w' ⟨rfl, rfl⟩
          go_wp2_with fail
          go_loopw [7, 8] (fun fv i wr3 => ordRel3 wi NS (!decide (x ∈ out)) (standIn us out x) fv i wr3) (fun _ i _ => NS.length - (intOf i).toNat)
          case atStart => exact ⟨0, _, Nat.zero_le _, rfl, rfl, Lib.hid (by simp), Lib.hid (Ext.refl wi)⟩
          case round =>
            obtain ⟨wj, rfl⟩ : ∃ x : World, x = wr := ⟨_, rfl⟩
            obtain ⟨j, bb, hj, rfl, rfl, HB, HXJ⟩ := hrel
            by_cases hlt3 : j < NS.length
            · obtain ⟨b', o', e', e2⟩ := (HNS.out.row.ext ((HX.out.trans HXI.out).trans HXJ.out)).at j hlt3
              cases e'
              have e3 : wj.cell? ⟨b, o + k, none⟩ = some (.string (ba x)) := HXJ.out.cell e1
              have HTK := Lib.hid (show (NS.take (j + 1)).all (standIn us out x) = ((NS.take j).all (standIn us out x) && standIn us out x NS[j]) by
                rw [List.take_succ_eq_append_getElem hlt3, List.all_append]; simp)
              have HXW := Lib.hid (((X1.out.trans HX.out).trans HXI.out).trans HXJ.out)
              have HST := Lib.hid (show ∀ m, Calls Try.prog 39 #[.slice av us.length cv, .string (ba x), .string (ba NS[j])] (wj.drewN m) fun e w' => e = .returned (.bool (standsB us x NS[j])) ∧ w' = wj.drewN m from fun m => (Stands_any (HU.out.ext (HXW.out.drewN m)) x NS[j]).mono fun e w' h => ⟨h.1, h.2.symm⟩)
              have HHA := Lib.hid (show ∀ m, Calls Try.prog 26 #[.slice ao out.length co, .string (ba NS[j])] (wj.drewN m) fun e w' => e = .returned (.bool (decide (NS[j] ∈ out))) ∧ w' = wj.drewN m from fun m => (has_bool (HO.out.row.ext ((HXI.out.trans HXJ.out).drewN m)) rfl).mono fun e w' h => ⟨h.1, h.2.symm⟩)
              have HSI := Lib.hid (show standIn us out x NS[j] = (!standsB us x NS[j] || decide (NS[j] ∈ out)) from rfl)
              generalize NS[j] = y at *
              generalize standsB us x y = sb at *
              generalize decide (y ∈ out) = db at *
              generalize standIn us out x y = q at *
              have HAL : Hid (q = false ∨ q = true) := Lib.hid (by cases q <;> simp)
              cases sb with
              | false =>
                go_upto_region 13 with fail
                go_quiet (first
                  | ((go_at_call 39); exact Calls.quiet_of_same (HST.out _))
                  | ((go_at_call 26); exact Calls.quiet_of_same (HHA.out _)))
                go_wp2_with fail
                exact ⟨⟨j + 1, _, hlt3, rfl, rfl, Lib.hid (by rw [HTK.out, HSI.out, ← HB.out]; simp), Lib.hid (HXJ.out.drewN nq)⟩, by simp [intOf]; omega⟩
              | true =>
                cases db with
                | true =>
                  go_upto_region 13 with fail
                  go_quiet (first
                    | ((go_at_call 39); exact Calls.quiet_of_same (HST.out _))
                    | ((go_at_call 26); exact Calls.quiet_of_same (HHA.out _)))
                  go_wp2_with fail
                  exact ⟨⟨j + 1, _, hlt3, rfl, rfl, Lib.hid (by rw [HTK.out, HSI.out, ← HB.out]; simp), Lib.hid (HXJ.out.drewN nq)⟩, by simp [intOf]; omega⟩
                | false =>
                  go_upto_region 13 with fail
                  go_quiet (first
                    | ((go_at_call 39); exact Calls.quiet_of_same (HST.out _))
                    | ((go_at_call 26); exact Calls.quiet_of_same (HHA.out _)))
                  go_wp2_with fail
                  exact ⟨⟨j + 1, _, hlt3, rfl, rfl, Lib.hid (by rw [HTK.out, HSI.out]; simp), Lib.hid (HXJ.out.drewN nq)⟩, by simp [intOf]; omega⟩
            · have HBB := Lib.hid (show rfree us out x = bb by
                rw [HRK.out, ← HB.out, List.take_of_length_le (by omega)])
              have HXW := Lib.hid (HXI.out.trans HXJ.out)
              cases bb with
              | false =>
                have HF2 := Lib.hid (show (NS.drop (k + 1)).find? (rfree us out) = rnext us out by
                  rw [← HFI.out, HDK.out, List.find?_cons_of_neg (by simp [HBB.out])])
                go_wp2_with fail
                exact ⟨⟨k + 1, hlt2, rfl, rfl, HXW, HF2⟩, by simp [intOf]; omega⟩
              | true =>
                have HF2 := Lib.hid (show rstep us out = out ++ [x] by
                  unfold rstep
                  rw [← HFI.out, HDK.out, List.find?_cons_of_pos (by simp [HBB.out])])
                have e3 : wj.cell? ⟨b, o + k, none⟩ = some (.string (ba x)) := HXJ.out.cell e1
                have hol2 : out.length ≤ 1001 := by omega
                have HOJ := Lib.hid (HO.out.ext HXW.out)
                go_wp2_with (refine wpList_append_str _ rfl (.tmp 57) (.tmp 62) 23 rfl Try.underlying23 w1.heap.size _ _ rfl rfl out [x] (HOJ.out.ext ((Ext.refl _).alloc _)) (SRow.one _ _) (by simp; omega) (by have := (HX.out.trans HXW.out).sz; simp; omega) ?_; intro v9 w9 o9 g9 n9; have X9 := Lib.hid (((HX.out.trans HXW.out).alloc (.cells #[.string (ba x)] 9)).grow g9 fun q hq => (HOJ.out.lt q hq).1); have O9 := Lib.hid o9; (obtain ⟨a9, c9, rfl, h91, h92⟩ := o9.row.form); clear o9 g9 n9)
                exact ⟨⟨n + 1, out ++ [x], by omega, by simp; omega, rfl, Lib.hid (by have := O9.out; rw [List.length_append] at this; exact this), X9, Lib.hid (HF2.out ▸ HT2.out)⟩, by simp [intOf]; omega⟩
        · have HF2 := Lib.hid (show rstep us out = out by
            unfold rstep
            rw [← HFI.out, List.drop_of_length_le (by omega)]; rfl)
          go_wp2_with fail
          exact ⟨⟨n + 1, out, by omega, by omega, rfl, Lib.hid (HO.out.ext HXI.out), Lib.hid (HX.out.trans HXI.out), Lib.hid (HF2.out ▸ HT2.out)⟩, by simp [intOf]; omega⟩
    · have hnn : n = NS.length + 1 := by omega
      subst hnn
      have HT2 := Lib.hid (show out = (orderOf us).1 by
        have := HT.out; rw [Nat.sub_self] at this; exact this)
      go_wp2_with fail
      go_ret
      exact ⟨_, rfl, HT2.out ▸ HO.out.base X1.out.sz, X1.out.trans HX.out⟩
end Go.Proofs.Ytobdjfibaemmhaa
