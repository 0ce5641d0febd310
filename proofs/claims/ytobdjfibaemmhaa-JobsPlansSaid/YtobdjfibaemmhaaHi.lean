/- The document's Lean. -/
import Derived.Test.YtobdjfibaemmhaaHh
import Derived.Deep.QuietTactic
import Derived.BigQuiet
namespace Go.Proofs.Ytobdjfibaemmhaa
open Go.RowKit Go.Maps Go.Lib

/-- A row that grows, and others that lie apart from it. -/
structure Flock (w wr : World) (iv : Value) (S : List Str) (os : List (Value × List Str)) : Prop where
  x : Ext w wr
  i : OwnS wr w.heap.size iv S
  n : ∀ p ∈ os, OwnS wr w.heap.size p.1 p.2
  ap : ∀ p ∈ os, ∀ q, iv.ownBlock = some q → p.1.ownBlock ≠ some q
theorem Flock.ext {w wr W : World} {iv : Value} {S : List Str} {os : List (Value × List Str)} (h : Flock w wr iv S os) (x : Ext wr W) : Flock w W iv S os :=
  ⟨h.x.trans x, h.i.ext x, fun p hp => (h.n p hp).ext x, h.ap⟩
theorem Flock.push {w wr W w9 : World} {iv v9 : Value} {S S9 : List Str} {os : List (Value × List Str)} (h : Flock w wr iv S os) (x : Ext wr W) (o9 : OwnS w9 w.heap.size v9 S9) (g9 : W.grownBy w9 iv.ownBlock) (n9 : NewOrSame W iv v9) : Flock w w9 v9 S9 os := by
  have hb := h.ext x
  refine ⟨hb.x.grow g9 fun q hq => (hb.i.lt q hq).1, o9, fun p hp => (hb.n p hp).kept g9 ?_, fun p hp q hq => ?_⟩
  · cases hi : iv.ownBlock with
    | none =>
      cases hp' : p.1.ownBlock with
      | none => exact .inl rfl
      | some q => exact .inr (by simp)
    | some q => exact .inr (hb.ap p hp q hi)
  · rcases n9 with h1 | ⟨k, h1, h2⟩
    · exact hb.ap p hp q (h1 ▸ hq)
    · rw [h1] at hq
      cases hq
      intro he
      have := ((hb.n p hp).lt _ he).2
      omega
theorem Flock.empty {w w1 : World} {b : Nat} (x : Ext w w1) (o : OwnS w1 w.heap.size (.slice (some ⟨b, 0, none⟩) 0 0) []) {os : List (Value × List Str)} (hn : ∀ p ∈ os, OwnS w1 w.heap.size p.1 p.2) (ha : ∀ p ∈ os, p.1.ownBlock ≠ some b) : Flock w w1 (.slice (some ⟨b, 0, none⟩) 0 0) [] os :=
  ⟨x, o, hn, fun p hp q hq => by cases hq; exact ha p hp⟩
/-- A row bears s, or not. -/
structure HasIs (w : World) (v : Value) (s : Str) (b : Bool) : Prop where
  row : ∃ l, SRow w v l ∧ decide (s ∈ l) = b
theorem HasIs.calls {w : World} {v : Value} {s : Str} {b : Bool} (h : HasIs w v s b) (m : Nat) : Calls Try.prog 26 #[v, .string (ba s)] (w.drewN m) fun e w' => e = .returned (.bool b) ∧ w' = w.drewN m := by
  obtain ⟨l, h1, h2⟩ := h.row
  exact (has_bool (h1.ext ((Ext.refl w).drewN m)) h2).mono fun e w' h => ⟨h.1, h.2.symm⟩
def rlRel1 (w : World) (us : List Un) (l : List Str) (R : List Str) (nv : Value) (NS : List Str) (iv i : Value) (wr : World) : Prop := ∃ (n : Nat) (S : List Str), n ≤ NS.length + 1 ∧ i = .int .i64 n ∧ Hid (Flock w wr iv S [(nv, NS)]) ∧ Hid (RL us l S) ∧ Hid (lrounds us l (NS.length + 1 - n) S = R)
def rlRel2 (w : World) (us : List Un) (l : List Str) (R : List Str) (nv : Value) (NS : List Str) (iv i : Value) (wr : World) : Prop := ∃ (k : Nat) (S : List Str), k ≤ NS.length ∧ i = .int .i64 k ∧ Hid (Flock w wr iv S [(nv, NS)]) ∧ Hid (RL us l S) ∧ Hid ((NS.drop k).foldl (lstep us l) S = R)
def rlRel3 (W : World) (S : List Str) (b0 : Bool) (p : Str → Bool) (fv i : Value) (wr : World) : Prop := ∃ (j : Nat) (b : Bool), j ≤ S.length ∧ i = .int .i64 j ∧ fv = .bool b ∧ Hid ((b0 || (S.take j).any p) = b) ∧ Hid (Ext W wr)
def rlRel4 (W : World) (NS : List Str) (p : Str → Bool) (ov i : Value) (wr : World) : Prop := ∃ k : Nat, k ≤ NS.length ∧ i = .int .i64 k ∧ Hid (OwnS wr W.heap.size ov ((NS.take k).filter p)) ∧ Hid (Ext W wr)
set_option maxRecDepth 100000 in
set_option maxHeartbeats 4000000 in
theorem RLean_any {w : World} {v hv : Value} {us : List Un} {l : List Str} (h : UnitsIn w v us) (hl : us.length ≤ 1000) (hd : (us.map Un.name).Nodup) (hh : SRow w hv l) : Calls Try.prog 13 #[v, hv] w fun e w' => ∃ v, e = .returned v ∧ OwnS w' w.heap.size v ((namesOf us).filter fun x => decide (x ∈ lrounds us l (us.length + 1) [])) ∧ Ext w w' := by
  have HU := Lib.hid h
  have HHV := Lib.hid hh
  have HNL : (namesOf us).length = us.length := by unfold namesOf; rw [(sortS_perm _).length_eq, List.length_map]
  obtain ⟨W0, hW0⟩ : ∃ W0 : World, W0 = w.alloc (.cells #[] 9) := ⟨_, rfl⟩
  have XW0 := Lib.hid (show Ext w W0 by rw [hW0]; exact (Ext.refl w).alloc _)
  have hws : w.heap.size < W0.heap.size := by rw [hW0]; simp
  have HE := Lib.hid (OwnS.empty w w.heap.size (Nat.le_refl _))
  rw [← hW0] at HE
  have HN := Lib.hid (RNames_any (h.ext XW0.out) hl)
  have HLP := Lib.hid (show ∀ S, lpass us l S = (namesOf us).foldl (lstep us l) S from fun _ => rfl)
  have HFP := Lib.hid (show ∀ n ∈ namesOf us, ∃ p, findP us n = some p ∧ ∃ hp : p < us.length, findU us n = some us[p] from fun n hn => by
    have ht : there us n = true := there_iff.2 (sortS_mem.1 hn)
    cases hf : findP us n with
    | none => rw [there, findP_none hf] at ht; simp at ht
    | some p => obtain ⟨h1, h2, h3⟩ := findP_some hf; exact ⟨p, rfl, h1, h3⟩)
  have HST := Lib.hid (show ∀ (S : List Str) n, n ∈ namesOf us → RL us l S → RL us l (lstep us l S n) from fun S n hn h => h.step hn)
  obtain ⟨av, cv, rfl, hcap, hcap2, -⟩ := h
  obtain ⟨ah, ch, rfl, hch, hch2⟩ := hh.form
  have hNS : (namesOf us).length ≤ 1000 := by omega
  obtain ⟨R, hR⟩ : ∃ R, R = lrounds us l (us.length + 1) [] := ⟨_, rfl⟩
  rw [← hR]
  rw [← HNL] at hR
  have HR := Lib.hid hR
  generalize namesOf us = NS at *
  have HUL := Lib.hid HNL
  clear HNL hR hh
  go_enter Try.func13, Try.ntmps13
  go_wp2_with fail
  rw [← hW0]
  clear hW0
  refine HN.out.mono ?_
  rintro e w1 ⟨nv, rfl, on, x1⟩
  have X1 := Lib.hid (XW0.out.trans x1)
  obtain ⟨an, cn, rfl, hcn, hcn2⟩ := on.row.form
  have HRW := Lib.hid (show Flock w w1 (.slice (some ⟨w.heap.size, 0, none⟩) 0 0) [] [(.slice an NS.length cn, NS)] from Flock.empty X1.out (HE.out.ext x1)
    (fun p hp => by rw [List.mem_singleton] at hp; subst hp; exact on.base (Nat.le_of_lt hws))
    (fun p hp => by rw [List.mem_singleton] at hp; subst hp; exact fun e => by have := (on.lt _ e).1; omega))
  clear on x1 HN
  go_wp2_with fail
  go_loopw [5, 7] (fun ov i wr => rlRel1 w us l R (.slice an NS.length cn) NS ov i wr) (fun _ i _ => NS.length + 1 - (intOf i).toNat)
  case atStart => exact ⟨0, [], Nat.zero_le _, rfl, HRW, Lib.hid ⟨List.nodup_nil, fun x h => (by cases h)⟩, Lib.hid HR.out.symm⟩
  case round =>
    obtain ⟨wq, rfl⟩ : ∃ x : World, x = wr := ⟨_, rfl⟩
    obtain ⟨n, S0, hn, rfl, HRS, HRL, HT⟩ := hrel
    by_cases hlt : n ≤ NS.length
    · have HT2 := Lib.hid (show lrounds us l (NS.length + 1 - (n + 1)) (NS.foldl (lstep us l) S0) = R by
        rw [← HT.out, show NS.length + 1 - n = (NS.length + 1 - (n + 1)) + 1 by omega, ← HLP.out]; rfl)
      go_wp2_with fail
      go_loopw [5, 8] (fun ov i wr2 => rlRel2 w us l (NS.foldl (lstep us l) S0) (.slice an NS.length cn) NS ov i wr2) (fun _ i _ => NS.length - (intOf i).toNat)
      case atStart => exact ⟨0, S0, Nat.zero_le _, rfl, HRS, HRL, Lib.hid rfl⟩
      case round =>
        obtain ⟨wi, rfl⟩ : ∃ x : World, x = wr := ⟨_, rfl⟩
        obtain ⟨k, S, hk, rfl, HRS, HRL, HFI⟩ := hrel
        by_cases hlt2 : k < NS.length
        · have HNR := Lib.hid (show OwnS wi w.heap.size (.slice an NS.length cn) NS from HRS.out.n (.slice an NS.length cn, NS) (by simp))
          obtain ⟨ai, ci, rfl, hci, hci2⟩ := HRS.out.i.row.form
          obtain ⟨b, o, e, e1⟩ := HNR.out.row.at k hlt2
          cases e
          have hmk : NS[k] ∈ NS := List.getElem_mem hlt2
          obtain ⟨p, hfp, hp, hfu⟩ := HFP.out NS[k] hmk
          have HFI2 := Lib.hid (show (NS.drop (k + 1)).foldl (lstep us l) (lstep us l S NS[k]) = NS.foldl (lstep us l) S0 by
            rw [← HFI.out, show NS.drop k = NS[k] :: NS.drop (k + 1) from List.drop_eq_getElem_cons hlt2]; rfl)
          have HRL2 := Lib.hid (HST.out S NS[k] hmk HRL.out)
          have HLO := Lib.hid (show ∀ y, leanOn us NS[k] y = (decide (y ∈ us[p].requires) || decide (y ∈ us[p].partOf)) from fun y => by unfold leanOn; rw [hfu])
          have HFD := Lib.hid (Find_any (HU.out.ext HRS.out.x) NS[k])
          rw [hfp] at HFD
          replace HFD : Hid (Calls Try.prog 18 #[.slice av us.length cv, .string (ba NS[k])] wi fun e w' => e = .returned (.int .i64 (p : Int)) ∧ wi = w') := HFD
          obtain ⟨bu, ou, Ru, e, hui, hrg⟩ := (HU.out.ext HRS.out.x).at p hp
          cases e
          obtain ⟨a0, n0, c0, a1, n1, c1, a2, n2, c2, a3, n3, c3, a4, n4, c4, a5, n5, c5, e, -, -, -, sr, -, sp⟩ := hui.shape
          cases e
          have SR := Lib.hid sr
          have SP := Lib.hid sp
          clear hui sr sp hfp hfu hmk
          have hSl : S.length ≤ 1000 := Nat.le_trans HRL.out.len hl
          have HLS := Lib.hid (show lstep us l S NS[k] = if leansB us l S NS[k] && !decide (NS[k] ∈ S) then S ++ [NS[k]] else S from rfl)
          have HLB := Lib.hid (show leansB us l S NS[k] = (decide (NS[k] ∈ l) || S.any (leanOn us NS[k])) from rfl)
          generalize NS[k] = x at *
          generalize us[p] = u at *
          go_upto_region 10 with (first
            | (go_at_call 18; refine HFD.out.mono ?_; rintro e w' ⟨rfl, rfl⟩)
            | (refine wpList_load_mid rfl 67 (.tmp 36) rfl bu (ou + p * 8) rfl _ _ hrg Try.underlying67 rfl rfl ?_))
          obtain ⟨W, hW⟩ : ∃ W : World, W = wi.alloc (.cells #[Value.string (ba u.name), Value.slice a0 n0 c0, Value.slice a1 n1 c1, Value.slice a2 n2 c2, Value.slice a3 n3 c3, Value.slice a4 n4 c4, Value.slice a5 n5 c5, Value.int IntKind.i64 u.retry] 67) := ⟨_, rfl⟩
          have XW := Lib.hid (show Ext wi W by rw [hW]; exact (Ext.refl wi).alloc _)
          obtain ⟨-, -, -, -, k4, -, k6, -⟩ := cells8 (show W.heap[wi.heap.size]? = some _ by rw [hW]; exact heap_alloc_new _ _)
          rw [← hW]
          have e2 : W.cell? ⟨b, o + k, none⟩ = some (.string (ba x)) := XW.out.cell e1
          have HHX := Lib.hid (has_any (HHV.out.ext (HRS.out.x.trans XW.out)) x)
          have KX := Lib.hid (And.intro k4 k6)
          clear hW hrg e1 k4 k6
          go_wp2_with (go_at_call 26; refine HHX.out.mono ?_; rintro e w' ⟨rfl, rfl⟩)
          go_loopw [10, 11] (fun fv i wr3 => rlRel3 W S (decide (x ∈ l)) (leanOn us x) fv i wr3) (fun _ i _ => S.length - (intOf i).toNat)
          case atStart => exact ⟨0, _, Nat.zero_le _, rfl, rfl, Lib.hid (by simp), Lib.hid (Ext.refl W)⟩
          case round =>
            obtain ⟨wj, rfl⟩ : ∃ x : World, x = wr := ⟨_, rfl⟩
            obtain ⟨j, bb, hj, rfl, rfl, HB, HXJ⟩ := hrel
            by_cases hlt3 : j < S.length
            · obtain ⟨b', o', e', e3⟩ := (HRS.out.i.row.ext (XW.out.trans HXJ.out)).at j hlt3
              cases e'
              have HTK := Lib.hid (show (S.take (j + 1)).any (leanOn us x) = ((S.take j).any (leanOn us x) || leanOn us x S[j]) by
                rw [List.take_succ_eq_append_getElem hlt3, List.any_append]; simp)
              have k4 := HXJ.out.cell KX.out.1
              have k6 := HXJ.out.cell KX.out.2
              have HLY := Lib.hid (HLO.out S[j])
              have HH4 := Lib.hid (show HasIs wj (.slice a3 n3 c3) S[j] (decide (S[j] ∈ u.requires)) from ⟨_, SR.out.ext (XW.out.trans HXJ.out), rfl⟩)
              have HH6 := Lib.hid (show HasIs wj (.slice a5 n5 c5) S[j] (decide (S[j] ∈ u.partOf)) from ⟨_, SP.out.ext (XW.out.trans HXJ.out), rfl⟩)
              have HHG := Lib.hid (show ∀ (v : Value) (s : Str) (b : Bool) (m : Nat), HasIs wj v s b → Calls Try.prog 26 #[v, .string (ba s)] (wj.drewN m) fun e w' => e = .returned (.bool b) ∧ w' = wj.drewN m from fun _ _ _ m h => h.calls m)
              generalize S[j] = y at *
              generalize decide (y ∈ u.requires) = d1 at *
              generalize decide (y ∈ u.partOf) = d2 at *
              cases bb with
              | true =>
                have HTK2 := Lib.hid (show (decide (x ∈ l) || (S.take (j + 1)).any (leanOn us x)) = true by rw [HTK.out, ← Bool.or_assoc, HB.out]; rfl)
                go_upto_region 14 with fail
                go_quiet (first | ((go_at_call_of 26 (Value.slice a3 n3 c3)); exact Calls.quiet_of_same (HH4.out.calls _)) | ((go_at_call_of 26 (Value.slice a5 n5 c5)); exact Calls.quiet_of_same (HH6.out.calls _)))
                go_wp2_with fail
                exact ⟨⟨j + 1, _, hlt3, rfl, rfl, Lib.hid (by exact HTK2.out), Lib.hid (HXJ.out.drewN nq)⟩, by simp [intOf]; omega⟩
              | false =>
                cases d1 with
                | true =>
                  go_upto_region 14 with fail
                  go_quiet (first | ((go_at_call_of 26 (Value.slice a3 n3 c3)); exact Calls.quiet_of_same (HH4.out.calls _)) | ((go_at_call_of 26 (Value.slice a5 n5 c5)); exact Calls.quiet_of_same (HH6.out.calls _)))
                  go_wp2_with fail
                  exact ⟨⟨j + 1, _, hlt3, rfl, rfl, Lib.hid (by rw [HTK.out, ← Bool.or_assoc, HB.out, HLY.out]; simp), Lib.hid (HXJ.out.drewN nq)⟩, by simp [intOf]; omega⟩
                | false =>
                  cases d2 with
                  | true =>
                    go_upto_region 14 with fail
                    go_quiet (first | ((go_at_call_of 26 (Value.slice a3 n3 c3)); exact Calls.quiet_of_same (HH4.out.calls _)) | ((go_at_call_of 26 (Value.slice a5 n5 c5)); exact Calls.quiet_of_same (HH6.out.calls _)))
                    go_wp2_with fail
                    exact ⟨⟨j + 1, _, hlt3, rfl, rfl, Lib.hid (by rw [HTK.out, ← Bool.or_assoc, HB.out, HLY.out]; simp), Lib.hid (HXJ.out.drewN nq)⟩, by simp [intOf]; omega⟩
                  | false =>
                    go_upto_region 14 with fail
                    go_quiet (first | ((go_at_call_of 26 (Value.slice a3 n3 c3)); exact Calls.quiet_of_same (HH4.out.calls _)) | ((go_at_call_of 26 (Value.slice a5 n5 c5)); exact Calls.quiet_of_same (HH6.out.calls _)))
                    go_wp2_with fail
                    exact ⟨⟨j + 1, _, hlt3, rfl, rfl, Lib.hid (by rw [HTK.out, ← Bool.or_assoc, HB.out, HLY.out]; simp), Lib.hid (HXJ.out.drewN nq)⟩, by simp [intOf]; omega⟩
            · have HBB := Lib.hid (show leansB us l S x = bb by
                rw [HLB.out, ← HB.out, List.take_of_length_le (by omega)])
              have XWJ := Lib.hid (XW.out.trans HXJ.out)
              have HRJ := Lib.hid (HRS.out.ext XWJ.out)
              have e4 : wj.cell? ⟨b, o + k, none⟩ = some (.string (ba x)) := HXJ.out.cell e2
              cases bb with
              | false =>
                have HLS2 := Lib.hid (show lstep us l S x = S by rw [HLS.out, HBB.out]; rfl)
                go_wp2_with fail
                exact ⟨⟨k + 1, S, hlt2, rfl, HRJ, HRL, Lib.hid (by rw [← HFI2.out, HLS2.out])⟩, by simp [intOf]; omega⟩
              | true =>
                by_cases hxs : x ∈ S
                · have HLS2 := Lib.hid (show lstep us l S x = S by rw [HLS.out, HBB.out, decide_eq_true hxs]; rfl)
                  have HHS := Lib.hid (has_bool HRJ.out.i.row (show decide (x ∈ S) = true from decide_eq_true hxs))
                  clear hxs
                  go_wp2_with (go_at_call 26; refine HHS.out.mono ?_; rintro e w' ⟨rfl, rfl⟩)
                  exact ⟨⟨k + 1, S, hlt2, rfl, HRJ, HRL, Lib.hid (by rw [← HFI2.out, HLS2.out])⟩, by simp [intOf]; omega⟩
                · have HLS2 := Lib.hid (show lstep us l S x = S ++ [x] by rw [HLS.out, HBB.out, decide_eq_false hxs]; rfl)
                  have HHS := Lib.hid (has_bool HRJ.out.i.row (show decide (x ∈ S) = false from decide_eq_false hxs))
                  clear hxs
                  go_wp2_with (first
                    | (go_at_call 26; refine HHS.out.mono ?_; rintro e w' ⟨rfl, rfl⟩)
                    | (refine wpList_append_str _ rfl (.tmp 81) (.tmp 86) 23 rfl Try.underlying23 w.heap.size _ _ rfl rfl S [x] (HRJ.out.i.ext ((Ext.refl _).alloc _)) (SRow.one _ _) (by simp; omega) (by have := HRJ.out.x.sz; simp; omega) ?_; intro v9 w9 o9 g9 n9; have O9 := Lib.hid (HRJ.out.push ((Ext.refl _).alloc _) o9 g9 n9); clear o9 g9 n9))
                  exact ⟨⟨k + 1, S ++ [x], hlt2, rfl, O9, Lib.hid (HLS2.out ▸ HRL2.out), Lib.hid (by rw [← HFI2.out, HLS2.out])⟩, by simp [intOf]; omega⟩
        · have HT3 := Lib.hid (show S = NS.foldl (lstep us l) S0 by
            rw [← HFI.out, List.drop_of_length_le (by omega)]; rfl)
          go_wp2_with fail
          exact ⟨⟨n + 1, S, by omega, rfl, HRS, HRL, Lib.hid (HT3.out ▸ HT2.out)⟩, by simp [intOf]; omega⟩
    · skip
      have HT2 := Lib.hid (show S0 = R by
        have := HT.out; rw [show NS.length + 1 - n = 0 by omega] at this; exact this)
      have HNR := Lib.hid (show OwnS wq w.heap.size (.slice an NS.length cn) NS from HRS.out.n (.slice an NS.length cn, NS) (by simp))
      have HIR := Lib.hid (show SRow wq u5 R from HT2.out ▸ HRS.out.i.row)
      have XQ := Lib.hid HRS.out.x
      obtain ⟨ai, ci, rfl, hci, hci2⟩ := HIR.out.form
      have HE4 := Lib.hid (OwnS.empty wq wq.heap.size (Nat.le_refl _))
      clear HRS HRL HT HT2 HFP HST HLP HRW HR HE
      go_wp2_with fail
      go_loopw [12, 13] (fun ov i wr => rlRel4 wq NS (fun x => decide (x ∈ R)) ov i wr) (fun _ i _ => NS.length - (intOf i).toNat)
      case atStart => exact ⟨0, Nat.zero_le _, rfl, HE4, Lib.hid ((Ext.refl wq).alloc _)⟩
      case round =>
        obtain ⟨wi, rfl⟩ : ∃ x : World, x = wr := ⟨_, rfl⟩
        obtain ⟨k, hk, rfl, HO, HX⟩ := hrel
        have hol : ((NS.take k).filter fun x => decide (x ∈ R)).length ≤ 1000 := by
          have := List.length_filter_le (fun x => decide (x ∈ R)) (NS.take k)
          rw [List.length_take] at this; omega
        by_cases hlt2 : k < NS.length
        · obtain ⟨b, o, e, e1⟩ := (HNR.out.row.ext HX.out).at k hlt2
          cases e
          have HTK := Lib.hid (show (NS.take (k + 1)).filter (fun x => decide (x ∈ R)) = (NS.take k).filter (fun x => decide (x ∈ R)) ++ (if NS[k] ∈ R then [NS[k]] else []) by
            rw [List.take_succ_eq_append_getElem hlt2, List.filter_append]
            by_cases hx : NS[k] ∈ R <;> simp [hx])
          generalize NS[k] = x at *
          generalize (NS.take k).filter (fun x => decide (x ∈ R)) = out at *
          obtain ⟨ao, co, rfl, hco, hco2⟩ := HO.out.row.form
          by_cases hxr : x ∈ R
          · have HH := Lib.hid (has_bool (HIR.out.ext HX.out) (show decide (x ∈ R) = true from decide_eq_true hxr))
            rw [if_pos hxr] at HTK
            clear hxr
            go_wp2_with (first
              | (go_at_call 26; refine HH.out.mono ?_; rintro e w' ⟨rfl, rfl⟩)
              | (refine wpList_append_str _ rfl (.tmp 101) (.tmp 106) 23 rfl Try.underlying23 wq.heap.size _ _ rfl rfl out [x] (HO.out.ext ((Ext.refl _).alloc _)) (SRow.one _ _) (by simp; omega) (by have := HX.out.sz; simp; omega) ?_; intro v9 w9 o9 g9 n9; have X9 := Lib.hid ((HX.out.alloc (.cells #[.string (ba x)] 9)).grow g9 fun q hq => (HO.out.lt q hq).1); have O9 := Lib.hid o9; clear o9 g9 n9))
            exact ⟨⟨k + 1, hlt2, rfl, Lib.hid (HTK.out ▸ O9.out), X9⟩, by simp [intOf]; omega⟩
          · have HH := Lib.hid (has_bool (HIR.out.ext HX.out) (show decide (x ∈ R) = false from decide_eq_false hxr))
            rw [if_neg hxr, List.append_nil] at HTK
            clear hxr
            go_wp2_with (go_at_call 26; refine HH.out.mono ?_; rintro e w' ⟨rfl, rfl⟩)
            go_roundw
            case rel => exact ⟨k + 1, hlt2, by go_num, Lib.hid (HTK.out ▸ HO.out), HX⟩
            case measure => simp [intOf]; omega
        · rw [List.take_of_length_le (by omega)] at HO
          have HO2 := Lib.hid HO.out
          go_wp2_with fail
          go_ret
          exact ⟨_, rfl, HO2.out.base XQ.out.sz, XQ.out.trans HX.out⟩
end Go.Proofs.Ytobdjfibaemmhaa
