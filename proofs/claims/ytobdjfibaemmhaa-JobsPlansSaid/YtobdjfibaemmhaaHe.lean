/- The document's Names. -/
import Derived.Test.YtobdjfibaemmhaaHd
import Derived.WalkLawsBesides
namespace Go.Proofs.Ytobdjfibaemmhaa
open Go.RowKit Go.Maps Go.Lib

theorem OwnS.set {w : World} {base g n cap : Nat} {l : List Str} (h : OwnS w base (.slice (some ⟨g, 0, none⟩) n cap) l) (hn : n = l.length) (k : Nat) (s : Str) :
    OwnS (w.setCell ⟨g, k, none⟩ (.string (ba s))) base (.slice (some ⟨g, 0, none⟩) n cap) (l.set k s) := by
  subst hn
  have := (World.ownsRow.stored h k (.string (ba s))).1
  unfold OwnS
  rw [List.length_set, strVals, List.map_set]
  exact this
theorem OwnS.cell {w : World} {base g n cap : Nat} {l : List Str} (h : OwnS w base (.slice (some ⟨g, 0, none⟩) n cap) l) (hn : n = l.length) (i : Nat) {s : Str} (hi : l[i]? = some s) : w.cell? ⟨g, i, none⟩ = some (.string (ba s)) := by
  subst hn
  obtain ⟨h1, h2⟩ := List.getElem?_eq_some_iff.1 hi
  rw [World.ownsRow.cellAt h i (by omega), strVals_get l i h1, h2]; rfl
theorem OwnS.frozen {w : World} {base g n cap : Nat} {l : List Str} (h : OwnS w base (.slice (some ⟨g, 0, none⟩) n cap) l) (hn : n = l.length) (i : Nat) : w.frozen? ⟨g, i, none⟩ = false := by
  subst hn
  exact World.ownsRow.frozenAt h i
/-- x put into a sorted list, at place j. -/
def insAt (L : List Str) (x : Str) (j : Nat) : List Str := L.take j ++ x :: L.drop j
theorem insAt_len (L : List Str) (x : Str) (j : Nat) (hj : j ≤ L.length) : (insAt L x j).length = L.length + 1 := by
  unfold insAt; simp; omega
theorem insAt_get (L : List Str) (x : Str) (j : Nat) (hj : j ≤ L.length) : (insAt L x j)[j]? = some x := by
  unfold insAt
  rw [List.getElem?_append_right (by simp; omega)]
  simp [Nat.min_eq_left hj]
theorem insAt_prev (L : List Str) (x : Str) (j : Nat) (hj : j < L.length) : (insAt L x (j + 1))[j]? = some L[j] := by
  unfold insAt
  rw [List.getElem?_append_left (by simp; omega)]
  simp [hj]
theorem insAt_swap (L : List Str) (x : Str) (j : Nat) (hj : j < L.length) : ((insAt L x (j + 1)).set (j + 1) L[j]).set j x = insAt L x j := by
  unfold insAt
  have h1 : L.take (j + 1) = L.take j ++ [L[j]] := List.take_succ_eq_append_getElem hj
  have h2 : L.drop j = L[j] :: L.drop (j + 1) := List.drop_eq_getElem_cons hj
  have hl : (L.take j).length = j := by simp; omega
  rw [h1, h2]
  rw [List.append_assoc, List.set_append_right _ _ (by omega), hl]
  rw [List.set_append_right _ _ (by omega), hl]
  simp
theorem insAt_done {L : List Str} {x : Str} {j : Nat} (hj : j ≤ L.length) (hs : L.Pairwise fun a b => leS a b = true) (hlow : ∀ k (h : k < j), leS (L[k]'(by omega)) x = true) (hup : ∀ y ∈ L.drop j, leS x y = true) : insAt L x j = sortS (L ++ [x]) := by
  refine sorted_unique ?_ ?_ (sortS_sorted _)
  · refine List.Perm.trans ?_ (sortS_perm _).symm
    unfold insAt
    refine List.perm_middle.trans ?_
    rw [List.take_append_drop]
    exact (List.perm_append_singleton x L).symm
  · unfold insAt
    rw [List.pairwise_append]
    refine ⟨hs.sublist (List.take_sublist _ _), List.pairwise_cons.2 ⟨hup, hs.sublist (List.drop_sublist _ _)⟩, fun a ha b hb => ?_⟩
    obtain ⟨k, hk, rfl⟩ := List.getElem_of_mem ha
    rw [List.length_take] at hk
    rw [List.getElem_take]
    rcases List.mem_cons.1 hb with rfl | hb
    · exact hlow k (by omega)
    · obtain ⟨m, hm, rfl⟩ := List.getElem_of_mem hb
      rw [List.length_drop] at hm
      rw [List.getElem_drop]
      exact List.pairwise_iff_getElem.1 hs k (j + m) (by omega) (by omega) (by omega)
theorem sortS_snoc {l : List Str} {x : Str} : sortS (sortS l ++ [x]) = sortS (l ++ [x]) := sortS_eq ((sortS_perm l).append_right [x])
def namesRel1 (w : World) (us : List Un) (ov i : Value) (wr : World) : Prop := ∃ k : Nat, k ≤ us.length ∧ i = .int .i64 k ∧ Hid (OwnS wr w.heap.size ov (sortS ((us.take k).map Un.name))) ∧ Hid (Ext w wr)
def namesRel2 (w : World) (ov : Value) (L : List Str) (x : Str) (i : Value) (wr : World) : Prop := ∃ j : Nat, j ≤ L.length ∧ i = .int .i64 j ∧ Hid (OwnS wr w.heap.size ov (insAt L x j)) ∧ Hid (Ext w wr) ∧ Hid (∀ y ∈ L.drop j, leS x y = true)
set_option maxRecDepth 100000 in
set_option maxHeartbeats 4000000 in
theorem RNames_any {w : World} {v : Value} {us : List Un} (h : UnitsIn w v us) (hl : us.length ≤ 1000) : Calls Try.prog 16 #[v] w fun e w' => ∃ v, e = .returned v ∧ OwnS w' w.heap.size v (namesOf us) ∧ Ext w w' := by
  have HU := Lib.hid h
  obtain ⟨av, cv, rfl, hcap, hcap2, -⟩ := h
  have HE := Lib.hid (OwnS.empty w w.heap.size (Nat.le_refl _))
  go_enter Try.func16, Try.ntmps16
  go_wp2_with fail
  go_loopw [3, 4] (fun ov i wr => namesRel1 w us ov i wr) (fun _ i _ => us.length - (intOf i).toNat)
  case atStart => exact ⟨0, Nat.zero_le _, rfl, Lib.hid (by rw [List.take_zero, List.map_nil]; unfold sortS; rw [List.mergeSort_nil]; exact HE.out), Lib.hid ((Ext.refl w).alloc _)⟩
  case round =>
    obtain ⟨wq, rfl⟩ : ∃ x : World, x = wr := ⟨_, rfl⟩
    obtain ⟨k, hk, rfl, HO, HX⟩ := hrel
    have hLl : (sortS ((us.take k).map Un.name)).length = k := by rw [(sortS_perm _).length_eq, List.length_map, List.length_take]; omega
    obtain ⟨al, cl, rfl, hcl, hcl2⟩ := HO.out.row.form
    by_cases hlt : k < us.length
    · obtain ⟨b, o, a0, n0, c0, a1, n1, c1, a2, n2, c2, a3, n3, c3, a4, n4, c4, a5, n5, c5, rfl, e1, -⟩ := (HU.out.ext HX.out).cells k hlt
      have HTK := Lib.hid (show sortS ((us.take (k + 1)).map Un.name) = sortS (sortS ((us.take k).map Un.name) ++ [us[k].name]) by
        rw [List.take_succ_eq_append_getElem hlt, List.map_append, sortS_snoc]; rfl)
      have HSO := Lib.hid (sortS_sorted ((us.take k).map Un.name))
      generalize us[k].name = x at *
      generalize sortS ((us.take k).map Un.name) = L at *
      rw [hLl] at HO hcl
      rw [hLl]
      have HLL := Lib.hid hLl
      have hL1 : L.length ≤ 1000 := by omega
      clear hLl
      go_wp2_with (refine wpList_append_str _ rfl (.tmp 14) (.tmp 20) 23 rfl Try.underlying23 w.heap.size _ _ rfl rfl L [x] (HO.out.ext ((Ext.refl _).alloc _)) (SRow.one _ _) (by rw [HLL.out]; simp; omega) (by have := HX.out.sz; simp; omega) ?_; intro v9 w9 o9 g9 n9; have X9 := Lib.hid ((HX.out.alloc (.cells #[.string (ba x)] 9)).grow g9 fun q hq => (HO.out.lt q hq).1); have O9 := Lib.hid o9; (obtain ⟨a9, c9, rfl, h91, h92⟩ := o9.row.form); clear o9 g9 n9)
      have O9L := O9.out
      rw [List.length_append] at O9L
      obtain ⟨g9, hg9⟩ : ∃ g9, a9 = some ⟨g9, 0, none⟩ := by
        rcases O9L.2 with ⟨e, -⟩ | ⟨g, cap, cur, e, -⟩
        · simp at e
        · simp only [Value.slice.injEq] at e
          exact ⟨g, e.1⟩
      subst hg9
      have O9M := Lib.hid O9L
      clear O9L
      go_loopw [5] (fun i wr2 => namesRel2 w (.slice (some ⟨g9, 0, none⟩) (L.length + 1) c9) L x i wr2) (fun i _ => (intOf i).toNat)
      case atStart =>
        refine ⟨L.length, Nat.le_refl _, rfl, Lib.hid ?_, X9, Lib.hid (by simp)⟩
        have := O9.out
        rw [List.length_append] at this
        unfold insAt
        rw [List.take_length, List.drop_length]
        exact this
      case round =>
        obtain ⟨wi, rfl⟩ : ∃ x : World, x = wr := ⟨_, rfl⟩
        obtain ⟨j, hj, rfl, HI, HXI, HUP⟩ := hrel
        have HLN := Lib.hid (insAt_len L x j hj)
        by_cases hj0 : 0 < j
        · obtain ⟨j, rfl⟩ : ∃ j', j = j' + 1 := ⟨j - 1, by omega⟩
          have k1 : wi.cell? ⟨g9, j + 1, none⟩ = some (.string (ba x)) := HI.out.cell HLN.out.symm _ (insAt_get L x _ hj)
          have k0 : wi.cell? ⟨g9, j, none⟩ = some (.string (ba L[j])) := HI.out.cell HLN.out.symm _ (insAt_prev L x j (by omega))
          have f1 : wi.frozen? ⟨g9, j + 1, none⟩ = false := HI.out.frozen HLN.out.symm _
          have f0 : wi.frozen? ⟨g9, j, none⟩ = false := HI.out.frozen HLN.out.symm _
          have HSW := Lib.hid (insAt_swap L x j (by omega))
          have HDR := Lib.hid (show L.drop j = L[j] :: L.drop (j + 1) from List.drop_eq_getElem_cons (by omega))
          have HLJ := Lib.hid (show ∀ k (h : k < j + 1), leS (L[k]'(by omega)) L[j] = true from fun k h => by
            rcases Nat.lt_or_ge k j with h1 | h1
            · exact List.pairwise_iff_getElem.1 HSO.out k j (by omega) (by omega) h1
            · have : k = j := by omega
              subst this; unfold leS; simp)
          generalize L[j] = y at *
          by_cases hle : leS y x = true
          · have hb : (!Op.bytesLess y x && !y == x) = false := by
              rw [bytesLess_eq]; unfold leS at hle
              have h1 : y ≤ x := of_decide_eq_true hle
              by_cases h2 : y < x
              · rw [decide_eq_true h2]; rfl
              · have h3 : y = x := List.le_antisymm h1 (List.not_lt.1 h2)
                subst h3; simp
            have HSY := Lib.hid (insAt_done hj HSO.out (fun k hk => leS_trans _ _ _ (HLJ.out k hk) hle) HUP.out)
            go_upto_region 7 with fail
            go_quiet (fail)
            go_wp2_with fail
            exact ⟨⟨k + 1, by omega, rfl, Lib.hid (by rw [HTK.out, ← HSY.out]; exact HI.out.ext ((Ext.refl wi).drewN nq)), Lib.hid (HXI.out.drewN nq)⟩, by simp [intOf]; omega⟩
          · have hb : (!Op.bytesLess y x && !y == x) = true := by
              rw [bytesLess_eq]; unfold leS at hle
              have h1 : ¬ y ≤ x := fun h => hle (decide_eq_true h)
              have h2 : ¬ y < x := fun h => h1 (List.le_of_lt h)
              have h3 : y ≠ x := fun h => h1 (h ▸ List.le_refl _)
              rw [decide_eq_false h2, beq_false_of_ne h3]; try rfl
            have HXY := Lib.hid (show leS x y = true from (Bool.or_eq_true _ _ ▸ leS_total x y).resolve_right hle)
            go_upto_region 7 with fail
            go_quiet (fail)
            go_wp2_with fail
            refine ⟨⟨j, by omega, rfl, Lib.hid ?_, Lib.hid ?_, Lib.hid ?_⟩, by simp [intOf]⟩
            · have h1 := ((HI.out.ext ((Ext.refl wi).drewN nq)).set HLN.out.symm (j + 1) y)
              have h2 := h1.set (by rw [List.length_set]; exact HLN.out.symm) j x
              rw [HSW.out] at h2
              exact h2
            · have hb9 : w.heap.size ≤ g9 := (HI.out.lt _ rfl).1
              exact ((HXI.out.drewN nq).setCell (p := ⟨g9, j + 1, none⟩) hb9 _).setCell (p := ⟨g9, j, none⟩) hb9 _
            · rw [HDR.out]
              intro z hz
              rcases List.mem_cons.1 hz with rfl | hz
              · exact HXY.out
              · exact HUP.out z hz
        · have hj00 : j = 0 := by omega
          have HSY := Lib.hid (insAt_done hj HSO.out (fun k hk => absurd hk (by omega)) HUP.out)
          go_upto_region 7 with fail
          go_quiet (fail)
          go_wp2_with fail
          exact ⟨⟨k + 1, by omega, rfl, Lib.hid (by rw [HTK.out, ← HSY.out]; exact HI.out.ext ((Ext.refl wi).drewN nq)), Lib.hid (HXI.out.drewN nq)⟩, by simp [intOf]; omega⟩
    · have hk' : k = us.length := by omega
      subst hk'
      rw [List.take_length] at *
      go_upto_region 3 with fail
      go_wp2_with fail
      go_ret
      exact ⟨_, rfl, HO.out, HX.out⟩
end Go.Proofs.Ytobdjfibaemmhaa
