/- The document's disk: step, Put, Flush. -/
import Derived.Test.YtgkoblgpadpcjaaDiskGa
namespace Go.Proofs.Ytgkoblgpadpcjaa
open Go.RowKit

theorem two_blocks (w : World) (o1 o2 : Obj) : ((w.alloc o1).alloc o2).heap[w.heap.size]? = some o1 ∧ ((w.alloc o1).alloc o2).heap[w.heap.size + 1]? = some o2 := by
  have e1 := heap_alloc_new w o1
  have e2 := heap_alloc_new (w.alloc o1) o2
  rw [World.size_alloc] at e2
  exact ⟨by rw [heap_alloc_old _ _ (by simp), e1], e2⟩
theorem three_last (w : World) (o1 o2 o3 : Obj) : (((w.alloc o1).alloc o2).alloc o3).heap[w.heap.size + 1 + 1]? = some o3 := by
  have e3 := heap_alloc_new ((w.alloc o1).alloc o2) o3
  simpa only [World.size_alloc] using e3
theorem PM.drew {w W : World} {ka ca : Option Addr} {kcap ccap kp : Nat} {D : Dk} {s : List UInt8} (h : PM w ka ca kcap ccap kp D s W) : PM w ka ca kcap ccap kp D s W.drew := ⟨h.x.drew, h.base, h.hb, h.hs, h.hz⟩
theorem PM.start (w : World) (ka ca : Option Addr) (kcap ccap kp : Nat) (D : Dk) (s : List UInt8) : PM w ka ca kcap ccap kp D s (((w.alloc (.cells #[.slice ka D.kept.length kcap, .slice ca D.cache.length ccap, .bool false, .int .i64 D.fate, .int .u64 kp, .int .i64 D.steps] 76)).alloc (.cells (byteVals s).toArray 62)).alloc (.cells #[.slice none 0 0, .slice none 0 0, .bool false, .int .i64 0, .int .u64 0, .int .i64 0] 76)) :=
  ⟨(((Ext.refl w).alloc _).alloc _).alloc _, by simp, (three_blocks w _ _ _).1, (three_blocks w _ _ _).2, three_last w _ _ _⟩
theorem own_setRow {w : World} {base e s n b : Nat} {v : Value} {xs : List Value} {cs R0 : Array Value} (h : w.ownsRow base e s v n xs) (hb : w.heap[b]? = some (.cells cs 76 (0, 0))) (he : e ≠ 76) : (w.setRow b R0).ownsRow base e s v n xs := by
  refine row_same h fun k hk => setRow_other w _ k _ fun e2 => ?_
  subst e2
  rcases h.2 with ⟨rfl, _⟩ | ⟨g, cap, cur, rfl, -, hh, -⟩
  · cases hk
  · simp only [Value.ownBlock, Option.some.injEq] at hk
    subst hk
    have := hb.symm.trans hh
    simp only [Option.some.injEq, Obj.cells.injEq] at this
    exact he this.2.1.symm
theorem RefIs.setRow {w : World} {kv cv : Value} {kp : Nat} {D : Dk} (h : RefIs w kv cv kp D) (b : Nat) {cs : Array Value} (R0 : Array Value) (hb : w.heap[b]? = some (.cells cs 76 (0, 0))) : RefIs (w.setRow b R0) kv cv kp D :=
  ⟨own_setRow h.kept hb (by decide), own_setRow h.cache hb (by decide), h.keeps, h.same, h.wf⟩
def RStepPost (D : Dk) (w : World) (e : Ending) (w' : World) : Prop :=
  ∃ v, e = .returned (.tuple #[v, .bool (Dk.step D).2]) ∧ Ext w w' ∧ Ref w' v (Dk.step D).1
theorem Try.results67 : Try.f67.results = #[.cell 2 76, .tmp 3] := by kernel_rfl
theorem row_rangeC {w : World} {b : Nat} {cs : Array Value} {t : TypeId} (h : w.heap[b]? = some (.cells cs t (0, 0))) : w.rangeAt b 0 cs.toList := fun i v hi => by
  rw [Nat.zero_add, cell_of_row w b i _ t (0, 0) h]; simpa using hi
set_option maxRecDepth 100000 in
set_option maxHeartbeats 2000000 in
theorem RStep_any (D : Dk) (kv cv : Value) (kp : Nat) (w : World) (h : RefIs w kv cv kp D) (hcl : D.cache.length ≤ 1000000000) (hs : D.steps ≤ 1000000000) :
    Calls Try.prog 67 #[.agg #[kv, cv, .bool D.down, .int .i64 D.fate, .int .u64 kp, .int .i64 D.steps]] w (RStepPost D w) := by
  have HR := Lib.hid h
  obtain ⟨ka, kcap, rfl, hk1, hk2⟩ := own_form h.kept
  obtain ⟨ca, ccap, rfl, hc1, hc2⟩ := own_form h.cache
  have hft := h.wf.fate
  clear h
  by_cases h1 : D.fate = 1
  · have hbeq : (D.fate == 1) = true := by simp [h1]
    have HS := Lib.hid (show Dk.step D = (Dk.crash { D with steps := D.steps + 1, fate := 1 } kp, false) by
      unfold Dk.step; rw [if_pos (by omega), if_pos h1, HR.out.same (by omega)]; rfl)
    have HRK := Lib.hid (show RefIs w (.slice ka D.kept.length kcap) (.slice ca D.cache.length ccap) kp { D with steps := D.steps + 1, fate := 1 } from
      ⟨HR.out.kept, HR.out.cache, HR.out.keeps, fun _ => HR.out.same (by omega), HR.out.wf.more.setFate 1 (by omega)⟩)
    go_enter Try.func67, Try.ntmps67
    go_wp2_with fail
    refine (RCrash_any { D with steps := D.steps + 1, fate := 1 } _ _ kp kp _ (HRK.out.ext (((Ext.refl w).alloc _).alloc _)) HR.out.keeps hcl).mono ?_
    rintro e w2 ⟨v, rfl, x2, r2⟩
    obtain ⟨kv2, cv2, kp2, rfl, r2⟩ := r2
    obtain ⟨ka2, kcap2, rfl, -, -⟩ := own_form r2.kept
    obtain ⟨ca2, ccap2, rfl, -, -⟩ := own_form r2.cache
    have X2 := Lib.hid (Ext.trans (((Ext.refl w).alloc _).alloc _) x2)
    have B2 := Lib.hid (x2.keep (two_blocks w _ _).2)
    obtain ⟨E, hE⟩ : ∃ E : Dk, E = Dk.crash { D with steps := D.steps + 1, fate := 1 } kp := ⟨_, rfl⟩
    rw [← hE] at r2 HS ⊢
    have R2 := Lib.hid r2
    clear x2 r2 hE
    obtain ⟨R0, hR0⟩ : ∃ R0 : Array Value, R0 = #[.slice ka2 E.kept.length kcap2, .slice ca2 E.cache.length ccap2, .bool E.down, .int .i64 E.fate, .int .u64 kp2, .int .i64 E.steps] := ⟨_, rfl⟩
    have HR0 := Lib.hid hR0
    have HI6 : Hid ((Try.prog.info? 76).map (·.size) = some R0.size) := by rw [hR0]; exact Try.info76
    have HAL : Hid (R0.all (·.oneCell') = true) := by rw [hR0]; exact six_one _ _ _ _ _ _ _ _ _ _
    have HSZ : Hid (R0.size = 6) := by rw [hR0]; exact rfl
    rw [← hR0]
    clear hR0
    go_wp2_with (refine wpList_store_row rfl 76 (.tmp 2) (.tmp 14) rfl (w.heap.size + 1) R0 rfl rfl 76 _ B2.out HI6.out HSZ.out.symm HAL.out ?_)
    refine bodyPost_ret (res_two Try.results67 _ _ (w.heap.size + 1) R0 _ rfl rfl (setRow_heap w2 _ _ _ _ _ B2.out) HSZ.out) rfl ?_
    have HB := below_setRow X2.out (Nat.le_succ w.heap.size) R0
    unfold RStepPost
    rw [HS.out]
    exact ⟨_, rfl, HB, _, _, kp2, by rw [HR0.out], R2.out.setRow (w.heap.size + 1) R0 B2.out⟩
  · by_cases h2 : 1 < D.fate
    · have hbeq : (D.fate == 1) = false := by rw [beq_eq_false_iff_ne]; omega
      have HS := Lib.hid (show Dk.step D = ({ D with steps := D.steps + 1, fate := D.fate - 1 }, true) by
        unfold Dk.step; rw [if_pos (by omega), if_neg h1])
      have HRK := Lib.hid (show RefIs w (.slice ka D.kept.length kcap) (.slice ca D.cache.length ccap) kp { D with steps := D.steps + 1, fate := D.fate - 1 } from
        ⟨HR.out.kept, HR.out.cache, HR.out.keeps, fun _ => HR.out.same (by omega), HR.out.wf.more.setFate _ (by omega)⟩)
      go_enter Try.func67, Try.ntmps67
      go_wp2_with fail
      refine bodyPost_ret (res_two Try.results67 _ _ (w.heap.size + 1) _ _ rfl rfl (two_blocks w _ _).2 rfl) rfl ?_
      unfold RStepPost
      rw [HS.out]
      exact ⟨_, rfl, ((Ext.refl w).alloc _).alloc _, _, _, kp, rfl, HRK.out.ext (((Ext.refl w).alloc _).alloc _)⟩
    · have hbeq : (D.fate == 1) = false := by rw [beq_eq_false_iff_ne]; omega
      have HS := Lib.hid (show Dk.step D = ({ D with steps := D.steps + 1 }, true) by
        unfold Dk.step; rw [if_neg (by omega)])
      have HRK := Lib.hid (show RefIs w (.slice ka D.kept.length kcap) (.slice ca D.cache.length ccap) kp { D with steps := D.steps + 1 } from
        ⟨HR.out.kept, HR.out.cache, HR.out.keeps, fun h => absurd h (by show ¬ 0 < D.fate; omega), HR.out.wf.more⟩)
      go_enter Try.func67, Try.ntmps67
      go_wp2_with fail
      refine bodyPost_ret (res_two Try.results67 _ _ (w.heap.size + 1) _ _ rfl rfl (two_blocks w _ _).2 rfl) rfl ?_
      unfold RStepPost
      rw [HS.out]
      exact ⟨_, rfl, ((Ext.refl w).alloc _).alloc _, _, _, kp, rfl, HRK.out.ext (((Ext.refl w).alloc _).alloc _)⟩

def RPutPost (D : Dk) (at_ : Int) (s : List UInt8) (w : World) (e : Ending) (w' : World) : Prop :=
  ∃ v, e = .returned (.tuple #[v, .int .i64 (D.write at_ s).2]) ∧ Ext w w' ∧ Ref w' v (D.write at_ s).1
theorem Try.results49 : Try.f49.results = #[.cell 6 76, .tmp 7] := by kernel_rfl
set_option maxRecDepth 100000 in
set_option maxHeartbeats 2000000 in
theorem RPut_any (D : Dk) (kv cv : Value) (kp : Nat) (at_ : Int) (s : List UInt8) (w : World) (h : RefIs w kv cv kp D) (hcl : D.cache.length ≤ 500000000) (hs : D.steps ≤ 1000000000) (hl : s.length = 64) :
    Calls Try.prog 49 #[.agg #[kv, cv, .bool D.down, .int .i64 D.fate, .int .u64 kp, .int .i64 D.steps], .int .i64 at_, .agg (byteVals s).toArray] w (RPutPost D at_ s w) := by
  have HR := Lib.hid h
  have hm4 := h.wf.most
  obtain ⟨ka, kcap, rfl, hk1, hk2⟩ := own_form h.kept
  obtain ⟨ca, ccap, rfl, hc1, hc2⟩ := own_form h.cache
  have hft := h.wf.fate
  clear h
  by_cases hd : D.down = true
  · have HS := Lib.hid (show D.write at_ s = (D, 3) by unfold Dk.write; rw [if_pos hd])
    go_enter Try.func49, Try.ntmps49
    go_wp2_with fail
    refine bodyPost_ret (res_two Try.results49 _ _ (w.heap.size + 1 + 1) _ _ rfl rfl (three_last w _ _ _) rfl) rfl ?_
    unfold RPutPost
    rw [HS.out]
    refine ⟨_, rfl, (((Ext.refl w).alloc _).alloc _).alloc _, _, _, kp, by rw [hd], HR.out.ext ((((Ext.refl w).alloc _).alloc _).alloc _)⟩
  · have hdf : D.down = false := by simpa using hd
    by_cases h12 : at_ < 0 ∨ (D.kept.length : Int) ≤ at_
    · have HS := Lib.hid (show D.write at_ s = (D, 2) by unfold Dk.write; rw [if_neg hd, if_pos h12])
      by_cases h1 : at_ < 0
      · clear h12
        go_enter Try.func49, Try.ntmps49
        go_wp2_with fail
        refine bodyPost_ret (res_two Try.results49 _ _ (w.heap.size + 1 + 1) _ _ rfl rfl (three_last w _ _ _) rfl) rfl ?_
        unfold RPutPost
        rw [HS.out]
        exact ⟨_, rfl, (((Ext.refl w).alloc _).alloc _).alloc _, _, _, kp, by rw [hdf], HR.out.ext ((((Ext.refl w).alloc _).alloc _).alloc _)⟩
      · have h2 : (D.kept.length : Int) ≤ at_ := by omega
        clear h12
        go_enter Try.func49, Try.ntmps49
        go_wp2_with fail
        refine bodyPost_ret (res_two Try.results49 _ _ (w.heap.size + 1 + 1) _ _ rfl rfl (three_last w _ _ _) rfl) rfl ?_
        unfold RPutPost
        rw [HS.out]
        exact ⟨_, rfl, (((Ext.refl w).alloc _).alloc _).alloc _, _, _, kp, by rw [hdf], HR.out.ext ((((Ext.refl w).alloc _).alloc _).alloc _)⟩
    · obtain ⟨a, rfl⟩ : ∃ a : Nat, at_ = (a : Int) := ⟨at_.toNat, by omega⟩
      have ha : a < D.kept.length := by omega
      have h2 : ¬ (D.kept.length : Int) ≤ (a : Int) := by omega
      have HS := Lib.hid (show D.write (a : Int) s = if (Dk.step { D with cache := D.cache ++ [(a, s)] }).2 then ((Dk.step { D with cache := D.cache ++ [(a, s)] }).1, 0) else ((Dk.step { D with cache := D.cache ++ [(a, s)] }).1, 3) by
        unfold Dk.write; rw [if_neg hd, if_neg (by omega)]; rfl)
      clear h12 hd
      go_enter Try.func49, Try.ntmps49
      go_upto_region 5 with fail
      go_cut [] from 23 to 34 (fun wc => RPutMid w D kp a s ka kcap wc)
      case first =>
        have HA := Lib.hid ha
        have HL := Lib.hid hl
        have HDF := Lib.hid hdf
        have HWL : Hid ((wvals (a, s)).length = 65) := wvals_len hl
        have HCW : Hid (∀ c ∈ D.cache, c.2.length = 64) := fun c hc => (HR.out.wf.cache c hc).2
        have HSW : Hid (∀ c ∈ [(a, s)], c.2.length = 64) := fun c hc => by simp at hc; subst hc; exact hl
        have HM : Hid (([] : List (Nat × List UInt8)).length + D.cache.length ≤ 1000000000) := by show _ ≤ _; simp; omega
        have HM1 : Hid (([] ++ D.cache).length + [(a, s)].length ≤ 1000000000) := by show _ ≤ _; simp; omega
        have P00 := Lib.hid (PM.start w ka ca kcap ccap kp D s)
        generalize (((w.alloc (.cells #[.slice ka D.kept.length kcap, .slice ca D.cache.length ccap, .bool false, .int .i64 D.fate, .int .u64 kp, .int .i64 D.steps] 76)).alloc (.cells (byteVals s).toArray 62)).alloc (.cells #[.slice none 0 0, .slice none 0 0, .bool false, .int .i64 0, .int .u64 0, .int .i64 0] 76)) = W0 at *
        have P0 := Lib.hid (PM.drew P00.out)
        have hu := Try.underlying62
        have hi : (Try.prog.info? 62).map (·.size) = some (byteVals s).length := by rw [byteVals_length, hl]; exact Try.info62
        clear hdf ha hl
        refine wp_region_noPanic ?_
        refine wp_region_held_drew (S := fun W => W.rangeAt (w.heap.size + 1) 0 (byteVals s)) (by kernel_rfl) (PM.range P0.out) (fun hHeld => ?_)
        refine wpAnyH_take (i := 1) (v := .pointer (some ⟨w.heap.size, 1, none⟩)) rfl (by kernel_rfl) (by kernel_rfl) (by kernel_rfl) (fun _ _ _ h => h) (Or.inl ⟨by rfl, ?_⟩) (by assumption) ?_
        · intro w hSw; go_simp
        try simp only [List.getElem_toArray, List.getElem_cons_zero, List.getElem_cons_succ, Act.put, List.setIfInBounds_toArray, List.set_cons_zero, List.set_cons_succ]
        refine wpAnyH_take (i := 4) (v := .int .i64 (a : Int)) rfl (by kernel_rfl) (by kernel_rfl) (by kernel_rfl) (fun _ _ _ h => h) (Or.inl ⟨by rfl, ?_⟩) (by assumption) ?_
        · intro w hSw; go_simp
        try simp only [List.getElem_toArray, List.getElem_cons_zero, List.getElem_cons_succ, Act.put, List.setIfInBounds_toArray, List.set_cons_zero, List.set_cons_succ]
        refine wpAnyH_take (i := 5) (v := .agg (byteVals s).toArray) rfl (by kernel_rfl) (by kernel_rfl) (by kernel_rfl) (fun _ _ _ h => h) (yieldsIf_load_mid (by rfl) 62 (.tmp 5) rfl (w.heap.size + 1) 0 rfl (byteVals s) _ (fun _ h => h) hu rfl hi) (by assumption) ?_
        try simp only [List.getElem_toArray, List.getElem_cons_zero, List.getElem_cons_succ, Act.put, List.setIfInBounds_toArray, List.set_cons_zero, List.set_cons_succ]
        refine wpAnyH_take (i := 6) (v := .agg (wvals (a, s)).toArray) rfl (by kernel_rfl) (by kernel_rfl) (by kernel_rfl) (fun _ _ _ h => h) (yields_write (by rfl) _ _ rfl a s HL.out rfl rfl) (by assumption) ?_
        try simp only [List.getElem_toArray, List.getElem_cons_zero, List.getElem_cons_succ, Act.put, List.setIfInBounds_toArray, List.set_cons_zero, List.set_cons_succ]
        refine wpAnyH_ready (rs := [0, 2, 7]) (by kernel_rfl) (by simp) (AllReadyH.cons rfl (fun K hK => ?_) (AllReadyH.cons rfl (fun K hK => ?_) (AllReadyH.cons rfl (fun K hK => ?_) (AllReadyH.nil))))
        · refine step_bs0 rfl rfl ?_
          have P1 := Lib.hid (PM.alloc P0.out (.cells #[] 115))
          have OA1 := Lib.hid (own_lit0 P0.out)
          refine hK.out _ _ (PM.range P1.out) (fun hHeld1 => ?_)
          clear hK K
          try simp only [List.getElem_toArray, List.getElem_cons_zero, List.getElem_cons_succ, Act.put, List.setIfInBounds_toArray, List.set_cons_zero, List.set_cons_succ]
          refine wpAnyH_ready (rs := [2, 7]) (by kernel_rfl) (by simp) (AllReadyH.cons rfl (fun K hK => ?_) (AllReadyH.cons rfl (fun K hK => ?_) (AllReadyH.nil)))
          · refine step_load1 rfl _ rfl ⟨w.heap.size, 1, none⟩ (.slice ca D.cache.length ccap) rfl (PM.cell P1.out) ?_
            refine hK.out _ _ (PM.range P1.out) (fun hHeld2 => ?_)
            clear hK K
            try simp only [List.getElem_toArray, List.getElem_cons_zero, List.getElem_cons_succ, Act.put, List.setIfInBounds_toArray, List.set_cons_zero, List.set_cons_succ]
            refine wpAnyH_ready (rs := [3, 7]) (by kernel_rfl) (by simp) (AllReadyH.cons rfl (fun K hK => ?_) (AllReadyH.cons rfl (fun K hK => ?_) (AllReadyH.nil)))
            · refine step_app rfl _ _ rfl (w.heap.size + 3) _ (.slice ca D.cache.length ccap) rfl rfl [] D.cache OA1.out HCW.out (PM.src P1.out HR.out.cache) HM.out (PM.base P1.out) ?_
              intro v3 w3 o3 g3 _
              obtain ⟨a3, c3, rfl, -, -⟩ := own_form o3
              have P3 := Lib.hid (PM.grown P1.out g3 (own_row OA1.out))
              have OC3 := Lib.hid o3
              clear o3 g3
              refine hK.out _ _ (PM.range P3.out) (fun hHeld3 => ?_)
              clear hK K
              try simp only [List.getElem_toArray, List.getElem_cons_zero, List.getElem_cons_succ, Act.put, List.setIfInBounds_toArray, List.set_cons_zero, List.set_cons_succ]
              refine wpAnyH_ready (rs := [7]) (by kernel_rfl) (by simp) (AllReadyH.cons rfl (fun K hK => ?_) (AllReadyH.nil))
              refine step_bs1 rfl _ rfl (wvals (a, s)) HWL.out rfl ?_
              have P4 := Lib.hid (PM.alloc P3.out (.cells (wvals (a, s)).toArray 115))
              have OB4 := Lib.hid (own_lit1 P3.out HWL.out)
              have OC4 := Lib.hid (World.ownsRow.alloc OC3.out (.cells (wvals (a, s)).toArray 115))
              refine hK.out _ _ (PM.range P4.out) (fun hHeld4 => ?_)
              clear hK K
              try simp only [List.getElem_toArray, List.getElem_cons_zero, List.getElem_cons_succ, Act.put, List.setIfInBounds_toArray, List.set_cons_zero, List.set_cons_succ]
              refine wpAnyH_ready (rs := [8]) (by kernel_rfl) (by simp) (AllReadyH.cons rfl (fun K hK => ?_) (AllReadyH.nil))
              refine step_app rfl _ _ rfl (w.heap.size + 3) _ _ rfl rfl ([] ++ D.cache) [(a, s)] OC4.out HSW.out (own_src1 OB4.out) HM1.out (PM.base P4.out) ?_
              intro v5 w5 o5 g5 _
              obtain ⟨a5, c5, rfl, -, -⟩ := own_form o5
              have P5 := Lib.hid (PM.grown P4.out g5 (own_row OC4.out))
              have OD5 := Lib.hid o5
              clear o5 g5
              refine hK.out _ _ (PM.range P5.out) (fun hHeld5 => ?_)
              clear hK K
              try simp only [List.getElem_toArray, List.getElem_cons_zero, List.getElem_cons_succ, Act.put, List.setIfInBounds_toArray, List.set_cons_zero, List.set_cons_succ]
              refine wpAnyH_take (i := 9) (v := .pointer (some ⟨w.heap.size, 1, none⟩)) rfl (by kernel_rfl) (by kernel_rfl) (by kernel_rfl) (fun _ _ _ h => h) (Or.inl ⟨by rfl, ?_⟩) (by assumption) ?_
              · intro w hSw; go_simp
              try simp only [List.getElem_toArray, List.getElem_cons_zero, List.getElem_cons_succ, Act.put, List.setIfInBounds_toArray, List.set_cons_zero, List.set_cons_succ]
              refine wpAnyH_ready (rs := [10]) (by kernel_rfl) (by simp) (AllReadyH.cons rfl (fun K hK => ?_) AllReadyH.nil)
              refine step_store1 rfl _ _ rfl ⟨w.heap.size, 1, none⟩ a5 ([] ++ D.cache ++ [(a, s)]).length c5 rfl rfl _ (PM.cell P5.out) (PM.thaw P5.out) ?_
              refine hK.out _ _ (PM.range_set P5.out _) (fun hHeldE => ?_)
              clear hK K
              try simp only [List.getElem_toArray, List.getElem_cons_zero, List.getElem_cons_succ, Act.put, List.setIfInBounds_toArray, List.set_cons_zero, List.set_cons_succ]
              refine wpAnyH_done (by kernel_rfl) ?_ _
              refine NoPanic.normal ?_
              go_wp2_with fail
              go_meet
              exact PM.ends P5.out HR.out HDF.out HA.out HL.out OD5.out
            · refine step_bs1 rfl _ rfl (wvals (a, s)) HWL.out rfl ?_
              have P6 := Lib.hid (PM.alloc P1.out (.cells (wvals (a, s)).toArray 115))
              have OB6 := Lib.hid (own_lit1 P1.out HWL.out)
              have OA6 := Lib.hid (World.ownsRow.alloc OA1.out (.cells (wvals (a, s)).toArray 115))
              have HN6 := Lib.hid (own_ne30 OA1.out)
              refine hK.out _ _ (PM.range P6.out) (fun hHeld6 => ?_)
              clear hK K
              try simp only [List.getElem_toArray, List.getElem_cons_zero, List.getElem_cons_succ, Act.put, List.setIfInBounds_toArray, List.set_cons_zero, List.set_cons_succ]
              refine wpAnyH_ready (rs := [3]) (by kernel_rfl) (by simp) (AllReadyH.cons rfl (fun K hK => ?_) (AllReadyH.nil))
              refine step_app rfl _ _ rfl (w.heap.size + 3) _ (.slice ca D.cache.length ccap) rfl rfl [] D.cache OA6.out HCW.out (PM.src P6.out HR.out.cache) HM.out (PM.base P6.out) ?_
              intro v7 w7 o7 g7 _
              obtain ⟨a7, c7, rfl, -, -⟩ := own_form o7
              have P7 := Lib.hid (PM.grown P6.out g7 (own_row OA6.out))
              have OC7 := Lib.hid o7
              have OB7 := Lib.hid (World.ownsRow.kept OB6.out g7 (.inr HN6.out))
              clear o7 g7
              refine hK.out _ _ (PM.range P7.out) (fun hHeld7 => ?_)
              clear hK K
              try simp only [List.getElem_toArray, List.getElem_cons_zero, List.getElem_cons_succ, Act.put, List.setIfInBounds_toArray, List.set_cons_zero, List.set_cons_succ]
              refine wpAnyH_ready (rs := [8]) (by kernel_rfl) (by simp) (AllReadyH.cons rfl (fun K hK => ?_) (AllReadyH.nil))
              refine step_app rfl _ _ rfl (w.heap.size + 3) _ _ rfl rfl ([] ++ D.cache) [(a, s)] OC7.out HSW.out (own_src1 OB7.out) HM1.out (PM.base P7.out) ?_
              intro v8 w8 o8 g8 _
              obtain ⟨a8, c8, rfl, -, -⟩ := own_form o8
              have P8 := Lib.hid (PM.grown P7.out g8 (own_row OC7.out))
              have OD8 := Lib.hid o8
              clear o8 g8
              refine hK.out _ _ (PM.range P8.out) (fun hHeld8 => ?_)
              clear hK K
              try simp only [List.getElem_toArray, List.getElem_cons_zero, List.getElem_cons_succ, Act.put, List.setIfInBounds_toArray, List.set_cons_zero, List.set_cons_succ]
              refine wpAnyH_take (i := 9) (v := .pointer (some ⟨w.heap.size, 1, none⟩)) rfl (by kernel_rfl) (by kernel_rfl) (by kernel_rfl) (fun _ _ _ h => h) (Or.inl ⟨by rfl, ?_⟩) (by assumption) ?_
              · intro w hSw; go_simp
              try simp only [List.getElem_toArray, List.getElem_cons_zero, List.getElem_cons_succ, Act.put, List.setIfInBounds_toArray, List.set_cons_zero, List.set_cons_succ]
              refine wpAnyH_ready (rs := [10]) (by kernel_rfl) (by simp) (AllReadyH.cons rfl (fun K hK => ?_) AllReadyH.nil)
              refine step_store1 rfl _ _ rfl ⟨w.heap.size, 1, none⟩ a8 ([] ++ D.cache ++ [(a, s)]).length c8 rfl rfl _ (PM.cell P8.out) (PM.thaw P8.out) ?_
              refine hK.out _ _ (PM.range_set P8.out _) (fun hHeldE => ?_)
              clear hK K
              try simp only [List.getElem_toArray, List.getElem_cons_zero, List.getElem_cons_succ, Act.put, List.setIfInBounds_toArray, List.set_cons_zero, List.set_cons_succ]
              refine wpAnyH_done (by kernel_rfl) ?_ _
              refine NoPanic.normal ?_
              go_wp2_with fail
              go_meet
              exact PM.ends P8.out HR.out HDF.out HA.out HL.out OD8.out
          · refine step_bs1 rfl _ rfl (wvals (a, s)) HWL.out rfl ?_
            have P9 := Lib.hid (PM.alloc P1.out (.cells (wvals (a, s)).toArray 115))
            have OB9 := Lib.hid (own_lit1 P1.out HWL.out)
            have OA9 := Lib.hid (World.ownsRow.alloc OA1.out (.cells (wvals (a, s)).toArray 115))
            have HN9 := Lib.hid (own_ne30 OA1.out)
            refine hK.out _ _ (PM.range P9.out) (fun hHeld9 => ?_)
            clear hK K
            try simp only [List.getElem_toArray, List.getElem_cons_zero, List.getElem_cons_succ, Act.put, List.setIfInBounds_toArray, List.set_cons_zero, List.set_cons_succ]
            refine wpAnyH_ready (rs := [2]) (by kernel_rfl) (by simp) (AllReadyH.cons rfl (fun K hK => ?_) (AllReadyH.nil))
            refine step_load1 rfl _ rfl ⟨w.heap.size, 1, none⟩ (.slice ca D.cache.length ccap) rfl (PM.cell P9.out) ?_
            refine hK.out _ _ (PM.range P9.out) (fun hHeld10 => ?_)
            clear hK K
            try simp only [List.getElem_toArray, List.getElem_cons_zero, List.getElem_cons_succ, Act.put, List.setIfInBounds_toArray, List.set_cons_zero, List.set_cons_succ]
            refine wpAnyH_ready (rs := [3]) (by kernel_rfl) (by simp) (AllReadyH.cons rfl (fun K hK => ?_) (AllReadyH.nil))
            refine step_app rfl _ _ rfl (w.heap.size + 3) _ (.slice ca D.cache.length ccap) rfl rfl [] D.cache OA9.out HCW.out (PM.src P9.out HR.out.cache) HM.out (PM.base P9.out) ?_
            intro v11 w11 o11 g11 _
            obtain ⟨a11, c11, rfl, -, -⟩ := own_form o11
            have P11 := Lib.hid (PM.grown P9.out g11 (own_row OA9.out))
            have OC11 := Lib.hid o11
            have OB11 := Lib.hid (World.ownsRow.kept OB9.out g11 (.inr HN9.out))
            clear o11 g11
            refine hK.out _ _ (PM.range P11.out) (fun hHeld11 => ?_)
            clear hK K
            try simp only [List.getElem_toArray, List.getElem_cons_zero, List.getElem_cons_succ, Act.put, List.setIfInBounds_toArray, List.set_cons_zero, List.set_cons_succ]
            refine wpAnyH_ready (rs := [8]) (by kernel_rfl) (by simp) (AllReadyH.cons rfl (fun K hK => ?_) (AllReadyH.nil))
            refine step_app rfl _ _ rfl (w.heap.size + 3) _ _ rfl rfl ([] ++ D.cache) [(a, s)] OC11.out HSW.out (own_src1 OB11.out) HM1.out (PM.base P11.out) ?_
            intro v12 w12 o12 g12 _
            obtain ⟨a12, c12, rfl, -, -⟩ := own_form o12
            have P12 := Lib.hid (PM.grown P11.out g12 (own_row OC11.out))
            have OD12 := Lib.hid o12
            clear o12 g12
            refine hK.out _ _ (PM.range P12.out) (fun hHeld12 => ?_)
            clear hK K
            try simp only [List.getElem_toArray, List.getElem_cons_zero, List.getElem_cons_succ, Act.put, List.setIfInBounds_toArray, List.set_cons_zero, List.set_cons_succ]
            refine wpAnyH_take (i := 9) (v := .pointer (some ⟨w.heap.size, 1, none⟩)) rfl (by kernel_rfl) (by kernel_rfl) (by kernel_rfl) (fun _ _ _ h => h) (Or.inl ⟨by rfl, ?_⟩) (by assumption) ?_
            · intro w hSw; go_simp
            try simp only [List.getElem_toArray, List.getElem_cons_zero, List.getElem_cons_succ, Act.put, List.setIfInBounds_toArray, List.set_cons_zero, List.set_cons_succ]
            refine wpAnyH_ready (rs := [10]) (by kernel_rfl) (by simp) (AllReadyH.cons rfl (fun K hK => ?_) AllReadyH.nil)
            refine step_store1 rfl _ _ rfl ⟨w.heap.size, 1, none⟩ a12 ([] ++ D.cache ++ [(a, s)]).length c12 rfl rfl _ (PM.cell P12.out) (PM.thaw P12.out) ?_
            refine hK.out _ _ (PM.range_set P12.out _) (fun hHeldE => ?_)
            clear hK K
            try simp only [List.getElem_toArray, List.getElem_cons_zero, List.getElem_cons_succ, Act.put, List.setIfInBounds_toArray, List.set_cons_zero, List.set_cons_succ]
            refine wpAnyH_done (by kernel_rfl) ?_ _
            refine NoPanic.normal ?_
            go_wp2_with fail
            go_meet
            exact PM.ends P12.out HR.out HDF.out HA.out HL.out OD12.out
        · refine step_load1 rfl _ rfl ⟨w.heap.size, 1, none⟩ (.slice ca D.cache.length ccap) rfl (PM.cell P0.out) ?_
          refine hK.out _ _ (PM.range P0.out) (fun hHeld13 => ?_)
          clear hK K
          try simp only [List.getElem_toArray, List.getElem_cons_zero, List.getElem_cons_succ, Act.put, List.setIfInBounds_toArray, List.set_cons_zero, List.set_cons_succ]
          refine wpAnyH_ready (rs := [0, 7]) (by kernel_rfl) (by simp) (AllReadyH.cons rfl (fun K hK => ?_) (AllReadyH.cons rfl (fun K hK => ?_) (AllReadyH.nil)))
          · refine step_bs0 rfl rfl ?_
            have P14 := Lib.hid (PM.alloc P0.out (.cells #[] 115))
            have OA14 := Lib.hid (own_lit0 P0.out)
            refine hK.out _ _ (PM.range P14.out) (fun hHeld14 => ?_)
            clear hK K
            try simp only [List.getElem_toArray, List.getElem_cons_zero, List.getElem_cons_succ, Act.put, List.setIfInBounds_toArray, List.set_cons_zero, List.set_cons_succ]
            refine wpAnyH_ready (rs := [3, 7]) (by kernel_rfl) (by simp) (AllReadyH.cons rfl (fun K hK => ?_) (AllReadyH.cons rfl (fun K hK => ?_) (AllReadyH.nil)))
            · refine step_app rfl _ _ rfl (w.heap.size + 3) _ (.slice ca D.cache.length ccap) rfl rfl [] D.cache OA14.out HCW.out (PM.src P14.out HR.out.cache) HM.out (PM.base P14.out) ?_
              intro v15 w15 o15 g15 _
              obtain ⟨a15, c15, rfl, -, -⟩ := own_form o15
              have P15 := Lib.hid (PM.grown P14.out g15 (own_row OA14.out))
              have OC15 := Lib.hid o15
              clear o15 g15
              refine hK.out _ _ (PM.range P15.out) (fun hHeld15 => ?_)
              clear hK K
              try simp only [List.getElem_toArray, List.getElem_cons_zero, List.getElem_cons_succ, Act.put, List.setIfInBounds_toArray, List.set_cons_zero, List.set_cons_succ]
              refine wpAnyH_ready (rs := [7]) (by kernel_rfl) (by simp) (AllReadyH.cons rfl (fun K hK => ?_) (AllReadyH.nil))
              refine step_bs1 rfl _ rfl (wvals (a, s)) HWL.out rfl ?_
              have P16 := Lib.hid (PM.alloc P15.out (.cells (wvals (a, s)).toArray 115))
              have OB16 := Lib.hid (own_lit1 P15.out HWL.out)
              have OC16 := Lib.hid (World.ownsRow.alloc OC15.out (.cells (wvals (a, s)).toArray 115))
              refine hK.out _ _ (PM.range P16.out) (fun hHeld16 => ?_)
              clear hK K
              try simp only [List.getElem_toArray, List.getElem_cons_zero, List.getElem_cons_succ, Act.put, List.setIfInBounds_toArray, List.set_cons_zero, List.set_cons_succ]
              refine wpAnyH_ready (rs := [8]) (by kernel_rfl) (by simp) (AllReadyH.cons rfl (fun K hK => ?_) (AllReadyH.nil))
              refine step_app rfl _ _ rfl (w.heap.size + 3) _ _ rfl rfl ([] ++ D.cache) [(a, s)] OC16.out HSW.out (own_src1 OB16.out) HM1.out (PM.base P16.out) ?_
              intro v17 w17 o17 g17 _
              obtain ⟨a17, c17, rfl, -, -⟩ := own_form o17
              have P17 := Lib.hid (PM.grown P16.out g17 (own_row OC16.out))
              have OD17 := Lib.hid o17
              clear o17 g17
              refine hK.out _ _ (PM.range P17.out) (fun hHeld17 => ?_)
              clear hK K
              try simp only [List.getElem_toArray, List.getElem_cons_zero, List.getElem_cons_succ, Act.put, List.setIfInBounds_toArray, List.set_cons_zero, List.set_cons_succ]
              refine wpAnyH_take (i := 9) (v := .pointer (some ⟨w.heap.size, 1, none⟩)) rfl (by kernel_rfl) (by kernel_rfl) (by kernel_rfl) (fun _ _ _ h => h) (Or.inl ⟨by rfl, ?_⟩) (by assumption) ?_
              · intro w hSw; go_simp
              try simp only [List.getElem_toArray, List.getElem_cons_zero, List.getElem_cons_succ, Act.put, List.setIfInBounds_toArray, List.set_cons_zero, List.set_cons_succ]
              refine wpAnyH_ready (rs := [10]) (by kernel_rfl) (by simp) (AllReadyH.cons rfl (fun K hK => ?_) AllReadyH.nil)
              refine step_store1 rfl _ _ rfl ⟨w.heap.size, 1, none⟩ a17 ([] ++ D.cache ++ [(a, s)]).length c17 rfl rfl _ (PM.cell P17.out) (PM.thaw P17.out) ?_
              refine hK.out _ _ (PM.range_set P17.out _) (fun hHeldE => ?_)
              clear hK K
              try simp only [List.getElem_toArray, List.getElem_cons_zero, List.getElem_cons_succ, Act.put, List.setIfInBounds_toArray, List.set_cons_zero, List.set_cons_succ]
              refine wpAnyH_done (by kernel_rfl) ?_ _
              refine NoPanic.normal ?_
              go_wp2_with fail
              go_meet
              exact PM.ends P17.out HR.out HDF.out HA.out HL.out OD17.out
            · refine step_bs1 rfl _ rfl (wvals (a, s)) HWL.out rfl ?_
              have P18 := Lib.hid (PM.alloc P14.out (.cells (wvals (a, s)).toArray 115))
              have OB18 := Lib.hid (own_lit1 P14.out HWL.out)
              have OA18 := Lib.hid (World.ownsRow.alloc OA14.out (.cells (wvals (a, s)).toArray 115))
              have HN18 := Lib.hid (own_ne30 OA14.out)
              refine hK.out _ _ (PM.range P18.out) (fun hHeld18 => ?_)
              clear hK K
              try simp only [List.getElem_toArray, List.getElem_cons_zero, List.getElem_cons_succ, Act.put, List.setIfInBounds_toArray, List.set_cons_zero, List.set_cons_succ]
              refine wpAnyH_ready (rs := [3]) (by kernel_rfl) (by simp) (AllReadyH.cons rfl (fun K hK => ?_) (AllReadyH.nil))
              refine step_app rfl _ _ rfl (w.heap.size + 3) _ (.slice ca D.cache.length ccap) rfl rfl [] D.cache OA18.out HCW.out (PM.src P18.out HR.out.cache) HM.out (PM.base P18.out) ?_
              intro v19 w19 o19 g19 _
              obtain ⟨a19, c19, rfl, -, -⟩ := own_form o19
              have P19 := Lib.hid (PM.grown P18.out g19 (own_row OA18.out))
              have OC19 := Lib.hid o19
              have OB19 := Lib.hid (World.ownsRow.kept OB18.out g19 (.inr HN18.out))
              clear o19 g19
              refine hK.out _ _ (PM.range P19.out) (fun hHeld19 => ?_)
              clear hK K
              try simp only [List.getElem_toArray, List.getElem_cons_zero, List.getElem_cons_succ, Act.put, List.setIfInBounds_toArray, List.set_cons_zero, List.set_cons_succ]
              refine wpAnyH_ready (rs := [8]) (by kernel_rfl) (by simp) (AllReadyH.cons rfl (fun K hK => ?_) (AllReadyH.nil))
              refine step_app rfl _ _ rfl (w.heap.size + 3) _ _ rfl rfl ([] ++ D.cache) [(a, s)] OC19.out HSW.out (own_src1 OB19.out) HM1.out (PM.base P19.out) ?_
              intro v20 w20 o20 g20 _
              obtain ⟨a20, c20, rfl, -, -⟩ := own_form o20
              have P20 := Lib.hid (PM.grown P19.out g20 (own_row OC19.out))
              have OD20 := Lib.hid o20
              clear o20 g20
              refine hK.out _ _ (PM.range P20.out) (fun hHeld20 => ?_)
              clear hK K
              try simp only [List.getElem_toArray, List.getElem_cons_zero, List.getElem_cons_succ, Act.put, List.setIfInBounds_toArray, List.set_cons_zero, List.set_cons_succ]
              refine wpAnyH_take (i := 9) (v := .pointer (some ⟨w.heap.size, 1, none⟩)) rfl (by kernel_rfl) (by kernel_rfl) (by kernel_rfl) (fun _ _ _ h => h) (Or.inl ⟨by rfl, ?_⟩) (by assumption) ?_
              · intro w hSw; go_simp
              try simp only [List.getElem_toArray, List.getElem_cons_zero, List.getElem_cons_succ, Act.put, List.setIfInBounds_toArray, List.set_cons_zero, List.set_cons_succ]
              refine wpAnyH_ready (rs := [10]) (by kernel_rfl) (by simp) (AllReadyH.cons rfl (fun K hK => ?_) AllReadyH.nil)
              refine step_store1 rfl _ _ rfl ⟨w.heap.size, 1, none⟩ a20 ([] ++ D.cache ++ [(a, s)]).length c20 rfl rfl _ (PM.cell P20.out) (PM.thaw P20.out) ?_
              refine hK.out _ _ (PM.range_set P20.out _) (fun hHeldE => ?_)
              clear hK K
              try simp only [List.getElem_toArray, List.getElem_cons_zero, List.getElem_cons_succ, Act.put, List.setIfInBounds_toArray, List.set_cons_zero, List.set_cons_succ]
              refine wpAnyH_done (by kernel_rfl) ?_ _
              refine NoPanic.normal ?_
              go_wp2_with fail
              go_meet
              exact PM.ends P20.out HR.out HDF.out HA.out HL.out OD20.out
          · refine step_bs1 rfl _ rfl (wvals (a, s)) HWL.out rfl ?_
            have P21 := Lib.hid (PM.alloc P0.out (.cells (wvals (a, s)).toArray 115))
            have OB21 := Lib.hid (own_lit1 P0.out HWL.out)
            refine hK.out _ _ (PM.range P21.out) (fun hHeld21 => ?_)
            clear hK K
            try simp only [List.getElem_toArray, List.getElem_cons_zero, List.getElem_cons_succ, Act.put, List.setIfInBounds_toArray, List.set_cons_zero, List.set_cons_succ]
            refine wpAnyH_ready (rs := [0]) (by kernel_rfl) (by simp) (AllReadyH.cons rfl (fun K hK => ?_) (AllReadyH.nil))
            refine step_bs0 rfl rfl ?_
            have P22 := Lib.hid (PM.alloc P21.out (.cells #[] 115))
            have OA22 := Lib.hid (own_lit0 P21.out)
            have OB22 := Lib.hid (World.ownsRow.alloc OB21.out (.cells #[] 115))
            have HN22 := Lib.hid (own_ne23 OB21.out)
            refine hK.out _ _ (PM.range P22.out) (fun hHeld22 => ?_)
            clear hK K
            try simp only [List.getElem_toArray, List.getElem_cons_zero, List.getElem_cons_succ, Act.put, List.setIfInBounds_toArray, List.set_cons_zero, List.set_cons_succ]
            refine wpAnyH_ready (rs := [3]) (by kernel_rfl) (by simp) (AllReadyH.cons rfl (fun K hK => ?_) (AllReadyH.nil))
            refine step_app rfl _ _ rfl (w.heap.size + 3) _ (.slice ca D.cache.length ccap) rfl rfl [] D.cache OA22.out HCW.out (PM.src P22.out HR.out.cache) HM.out (PM.base P22.out) ?_
            intro v23 w23 o23 g23 _
            obtain ⟨a23, c23, rfl, -, -⟩ := own_form o23
            have P23 := Lib.hid (PM.grown P22.out g23 (own_row OA22.out))
            have OC23 := Lib.hid o23
            have OB23 := Lib.hid (World.ownsRow.kept OB22.out g23 (.inr HN22.out))
            clear o23 g23
            refine hK.out _ _ (PM.range P23.out) (fun hHeld23 => ?_)
            clear hK K
            try simp only [List.getElem_toArray, List.getElem_cons_zero, List.getElem_cons_succ, Act.put, List.setIfInBounds_toArray, List.set_cons_zero, List.set_cons_succ]
            refine wpAnyH_ready (rs := [8]) (by kernel_rfl) (by simp) (AllReadyH.cons rfl (fun K hK => ?_) (AllReadyH.nil))
            refine step_app rfl _ _ rfl (w.heap.size + 3) _ _ rfl rfl ([] ++ D.cache) [(a, s)] OC23.out HSW.out (own_src1 OB23.out) HM1.out (PM.base P23.out) ?_
            intro v24 w24 o24 g24 _
            obtain ⟨a24, c24, rfl, -, -⟩ := own_form o24
            have P24 := Lib.hid (PM.grown P23.out g24 (own_row OC23.out))
            have OD24 := Lib.hid o24
            clear o24 g24
            refine hK.out _ _ (PM.range P24.out) (fun hHeld24 => ?_)
            clear hK K
            try simp only [List.getElem_toArray, List.getElem_cons_zero, List.getElem_cons_succ, Act.put, List.setIfInBounds_toArray, List.set_cons_zero, List.set_cons_succ]
            refine wpAnyH_take (i := 9) (v := .pointer (some ⟨w.heap.size, 1, none⟩)) rfl (by kernel_rfl) (by kernel_rfl) (by kernel_rfl) (fun _ _ _ h => h) (Or.inl ⟨by rfl, ?_⟩) (by assumption) ?_
            · intro w hSw; go_simp
            try simp only [List.getElem_toArray, List.getElem_cons_zero, List.getElem_cons_succ, Act.put, List.setIfInBounds_toArray, List.set_cons_zero, List.set_cons_succ]
            refine wpAnyH_ready (rs := [10]) (by kernel_rfl) (by simp) (AllReadyH.cons rfl (fun K hK => ?_) AllReadyH.nil)
            refine step_store1 rfl _ _ rfl ⟨w.heap.size, 1, none⟩ a24 ([] ++ D.cache ++ [(a, s)]).length c24 rfl rfl _ (PM.cell P24.out) (PM.thaw P24.out) ?_
            refine hK.out _ _ (PM.range_set P24.out _) (fun hHeldE => ?_)
            clear hK K
            try simp only [List.getElem_toArray, List.getElem_cons_zero, List.getElem_cons_succ, Act.put, List.setIfInBounds_toArray, List.set_cons_zero, List.set_cons_succ]
            refine wpAnyH_done (by kernel_rfl) ?_ _
            refine NoPanic.normal ?_
            go_wp2_with fail
            go_meet
            exact PM.ends P24.out HR.out HDF.out HA.out HL.out OD24.out
        · refine step_bs1 rfl _ rfl (wvals (a, s)) HWL.out rfl ?_
          have P25 := Lib.hid (PM.alloc P0.out (.cells (wvals (a, s)).toArray 115))
          have OB25 := Lib.hid (own_lit1 P0.out HWL.out)
          refine hK.out _ _ (PM.range P25.out) (fun hHeld25 => ?_)
          clear hK K
          try simp only [List.getElem_toArray, List.getElem_cons_zero, List.getElem_cons_succ, Act.put, List.setIfInBounds_toArray, List.set_cons_zero, List.set_cons_succ]
          refine wpAnyH_ready (rs := [0, 2]) (by kernel_rfl) (by simp) (AllReadyH.cons rfl (fun K hK => ?_) (AllReadyH.cons rfl (fun K hK => ?_) (AllReadyH.nil)))
          · refine step_bs0 rfl rfl ?_
            have P26 := Lib.hid (PM.alloc P25.out (.cells #[] 115))
            have OA26 := Lib.hid (own_lit0 P25.out)
            have OB26 := Lib.hid (World.ownsRow.alloc OB25.out (.cells #[] 115))
            have HN26 := Lib.hid (own_ne23 OB25.out)
            refine hK.out _ _ (PM.range P26.out) (fun hHeld26 => ?_)
            clear hK K
            try simp only [List.getElem_toArray, List.getElem_cons_zero, List.getElem_cons_succ, Act.put, List.setIfInBounds_toArray, List.set_cons_zero, List.set_cons_succ]
            refine wpAnyH_ready (rs := [2]) (by kernel_rfl) (by simp) (AllReadyH.cons rfl (fun K hK => ?_) (AllReadyH.nil))
            refine step_load1 rfl _ rfl ⟨w.heap.size, 1, none⟩ (.slice ca D.cache.length ccap) rfl (PM.cell P26.out) ?_
            refine hK.out _ _ (PM.range P26.out) (fun hHeld27 => ?_)
            clear hK K
            try simp only [List.getElem_toArray, List.getElem_cons_zero, List.getElem_cons_succ, Act.put, List.setIfInBounds_toArray, List.set_cons_zero, List.set_cons_succ]
            refine wpAnyH_ready (rs := [3]) (by kernel_rfl) (by simp) (AllReadyH.cons rfl (fun K hK => ?_) (AllReadyH.nil))
            refine step_app rfl _ _ rfl (w.heap.size + 3) _ (.slice ca D.cache.length ccap) rfl rfl [] D.cache OA26.out HCW.out (PM.src P26.out HR.out.cache) HM.out (PM.base P26.out) ?_
            intro v28 w28 o28 g28 _
            obtain ⟨a28, c28, rfl, -, -⟩ := own_form o28
            have P28 := Lib.hid (PM.grown P26.out g28 (own_row OA26.out))
            have OC28 := Lib.hid o28
            have OB28 := Lib.hid (World.ownsRow.kept OB26.out g28 (.inr HN26.out))
            clear o28 g28
            refine hK.out _ _ (PM.range P28.out) (fun hHeld28 => ?_)
            clear hK K
            try simp only [List.getElem_toArray, List.getElem_cons_zero, List.getElem_cons_succ, Act.put, List.setIfInBounds_toArray, List.set_cons_zero, List.set_cons_succ]
            refine wpAnyH_ready (rs := [8]) (by kernel_rfl) (by simp) (AllReadyH.cons rfl (fun K hK => ?_) (AllReadyH.nil))
            refine step_app rfl _ _ rfl (w.heap.size + 3) _ _ rfl rfl ([] ++ D.cache) [(a, s)] OC28.out HSW.out (own_src1 OB28.out) HM1.out (PM.base P28.out) ?_
            intro v29 w29 o29 g29 _
            obtain ⟨a29, c29, rfl, -, -⟩ := own_form o29
            have P29 := Lib.hid (PM.grown P28.out g29 (own_row OC28.out))
            have OD29 := Lib.hid o29
            clear o29 g29
            refine hK.out _ _ (PM.range P29.out) (fun hHeld29 => ?_)
            clear hK K
            try simp only [List.getElem_toArray, List.getElem_cons_zero, List.getElem_cons_succ, Act.put, List.setIfInBounds_toArray, List.set_cons_zero, List.set_cons_succ]
            refine wpAnyH_take (i := 9) (v := .pointer (some ⟨w.heap.size, 1, none⟩)) rfl (by kernel_rfl) (by kernel_rfl) (by kernel_rfl) (fun _ _ _ h => h) (Or.inl ⟨by rfl, ?_⟩) (by assumption) ?_
            · intro w hSw; go_simp
            try simp only [List.getElem_toArray, List.getElem_cons_zero, List.getElem_cons_succ, Act.put, List.setIfInBounds_toArray, List.set_cons_zero, List.set_cons_succ]
            refine wpAnyH_ready (rs := [10]) (by kernel_rfl) (by simp) (AllReadyH.cons rfl (fun K hK => ?_) AllReadyH.nil)
            refine step_store1 rfl _ _ rfl ⟨w.heap.size, 1, none⟩ a29 ([] ++ D.cache ++ [(a, s)]).length c29 rfl rfl _ (PM.cell P29.out) (PM.thaw P29.out) ?_
            refine hK.out _ _ (PM.range_set P29.out _) (fun hHeldE => ?_)
            clear hK K
            try simp only [List.getElem_toArray, List.getElem_cons_zero, List.getElem_cons_succ, Act.put, List.setIfInBounds_toArray, List.set_cons_zero, List.set_cons_succ]
            refine wpAnyH_done (by kernel_rfl) ?_ _
            refine NoPanic.normal ?_
            go_wp2_with fail
            go_meet
            exact PM.ends P29.out HR.out HDF.out HA.out HL.out OD29.out
          · refine step_load1 rfl _ rfl ⟨w.heap.size, 1, none⟩ (.slice ca D.cache.length ccap) rfl (PM.cell P25.out) ?_
            refine hK.out _ _ (PM.range P25.out) (fun hHeld30 => ?_)
            clear hK K
            try simp only [List.getElem_toArray, List.getElem_cons_zero, List.getElem_cons_succ, Act.put, List.setIfInBounds_toArray, List.set_cons_zero, List.set_cons_succ]
            refine wpAnyH_ready (rs := [0]) (by kernel_rfl) (by simp) (AllReadyH.cons rfl (fun K hK => ?_) (AllReadyH.nil))
            refine step_bs0 rfl rfl ?_
            have P31 := Lib.hid (PM.alloc P25.out (.cells #[] 115))
            have OA31 := Lib.hid (own_lit0 P25.out)
            have OB31 := Lib.hid (World.ownsRow.alloc OB25.out (.cells #[] 115))
            have HN31 := Lib.hid (own_ne23 OB25.out)
            refine hK.out _ _ (PM.range P31.out) (fun hHeld31 => ?_)
            clear hK K
            try simp only [List.getElem_toArray, List.getElem_cons_zero, List.getElem_cons_succ, Act.put, List.setIfInBounds_toArray, List.set_cons_zero, List.set_cons_succ]
            refine wpAnyH_ready (rs := [3]) (by kernel_rfl) (by simp) (AllReadyH.cons rfl (fun K hK => ?_) (AllReadyH.nil))
            refine step_app rfl _ _ rfl (w.heap.size + 3) _ (.slice ca D.cache.length ccap) rfl rfl [] D.cache OA31.out HCW.out (PM.src P31.out HR.out.cache) HM.out (PM.base P31.out) ?_
            intro v32 w32 o32 g32 _
            obtain ⟨a32, c32, rfl, -, -⟩ := own_form o32
            have P32 := Lib.hid (PM.grown P31.out g32 (own_row OA31.out))
            have OC32 := Lib.hid o32
            have OB32 := Lib.hid (World.ownsRow.kept OB31.out g32 (.inr HN31.out))
            clear o32 g32
            refine hK.out _ _ (PM.range P32.out) (fun hHeld32 => ?_)
            clear hK K
            try simp only [List.getElem_toArray, List.getElem_cons_zero, List.getElem_cons_succ, Act.put, List.setIfInBounds_toArray, List.set_cons_zero, List.set_cons_succ]
            refine wpAnyH_ready (rs := [8]) (by kernel_rfl) (by simp) (AllReadyH.cons rfl (fun K hK => ?_) (AllReadyH.nil))
            refine step_app rfl _ _ rfl (w.heap.size + 3) _ _ rfl rfl ([] ++ D.cache) [(a, s)] OC32.out HSW.out (own_src1 OB32.out) HM1.out (PM.base P32.out) ?_
            intro v33 w33 o33 g33 _
            obtain ⟨a33, c33, rfl, -, -⟩ := own_form o33
            have P33 := Lib.hid (PM.grown P32.out g33 (own_row OC32.out))
            have OD33 := Lib.hid o33
            clear o33 g33
            refine hK.out _ _ (PM.range P33.out) (fun hHeld33 => ?_)
            clear hK K
            try simp only [List.getElem_toArray, List.getElem_cons_zero, List.getElem_cons_succ, Act.put, List.setIfInBounds_toArray, List.set_cons_zero, List.set_cons_succ]
            refine wpAnyH_take (i := 9) (v := .pointer (some ⟨w.heap.size, 1, none⟩)) rfl (by kernel_rfl) (by kernel_rfl) (by kernel_rfl) (fun _ _ _ h => h) (Or.inl ⟨by rfl, ?_⟩) (by assumption) ?_
            · intro w hSw; go_simp
            try simp only [List.getElem_toArray, List.getElem_cons_zero, List.getElem_cons_succ, Act.put, List.setIfInBounds_toArray, List.set_cons_zero, List.set_cons_succ]
            refine wpAnyH_ready (rs := [10]) (by kernel_rfl) (by simp) (AllReadyH.cons rfl (fun K hK => ?_) AllReadyH.nil)
            refine step_store1 rfl _ _ rfl ⟨w.heap.size, 1, none⟩ a33 ([] ++ D.cache ++ [(a, s)]).length c33 rfl rfl _ (PM.cell P33.out) (PM.thaw P33.out) ?_
            refine hK.out _ _ (PM.range_set P33.out _) (fun hHeldE => ?_)
            clear hK K
            try simp only [List.getElem_toArray, List.getElem_cons_zero, List.getElem_cons_succ, Act.put, List.setIfInBounds_toArray, List.set_cons_zero, List.set_cons_succ]
            refine wpAnyH_done (by kernel_rfl) ?_ _
            refine NoPanic.normal ?_
            go_wp2_with fail
            go_meet
            exact PM.ends P33.out HR.out HDF.out HA.out HL.out OD33.out
      obtain ⟨ca2, ccap2, xc, b1, b3, rc⟩ := hcut
      have XC := Lib.hid xc
      have B3 := Lib.hid b3
      have HI0 := Lib.hid (show (Try.prog.info? 76).map (·.size) = some (#[.slice ka D.kept.length kcap, .slice ca2 (D.cache.length + 1) ccap2, .bool D.down, .int .i64 D.fate, .int .u64 kp, .int .i64 D.steps] : Array Value).size from Try.info76)
      clear xc b3
      have B1 := Lib.hid b1
      clear b1
      go_wp2_with (refine wpList_load_row rfl 76 (.tmp 3) rfl w.heap.size rfl 76 _ (0, 0) _ B1.out Try.underlying76 rfl HI0.out ?_)
      have hEE : ({ D with cache := D.cache ++ [(a, s)] } : Dk) = { D with cache := D.cache ++ [(a, s)], down := false } := by rw [← hdf]
      rw [hEE] at HS rc
      have hcl3 : (D.cache ++ [(a, s)]).length ≤ 1000000000 := by rw [List.length_append]; simp; omega
      clear hEE
      refine (RStep_any { D with cache := D.cache ++ [(a, s)], down := false } _ _ kp wc rc hcl3 hs).mono ?_
      rintro e w2 ⟨v, rfl, x2, r2⟩
      obtain ⟨kv2, cv2, kp2, rfl, r2⟩ := r2
      obtain ⟨ka3, kcap3, rfl, -, -⟩ := own_form r2.kept
      obtain ⟨ca3, ccap3, rfl, -, -⟩ := own_form r2.cache
      generalize Dk.step { D with cache := D.cache ++ [(a, s)], down := false } = st at *
      obtain ⟨E, b⟩ := st
      simp only at r2 HS ⊢
      obtain ⟨R0, hR0⟩ : ∃ R0 : Array Value, R0 = #[.slice ka3 E.kept.length kcap3, .slice ca3 E.cache.length ccap3, .bool E.down, .int .i64 E.fate, .int .u64 kp2, .int .i64 E.steps] := ⟨_, rfl⟩
      have HR0 := Lib.hid hR0
      have HI6 : Hid ((Try.prog.info? 76).map (·.size) = some R0.size) := by rw [hR0]; exact Try.info76
      have HAL : Hid (R0.all (·.oneCell') = true) := by rw [hR0]; exact six_one _ _ _ _ _ _ _ _ _ _
      have HSZ : Hid (R0.size = 6) := by rw [hR0]; exact rfl
      have X2 := Lib.hid (XC.out.trans x2)
      have X3 := Lib.hid (below_setRow (X2.out.alloc (.cells R0 76)) (show w.heap.size ≤ w.heap.size + 1 + 1 by omega) R0)
      have B4 := Lib.hid ((Ext.trans x2 ((Ext.refl w2).alloc (.cells R0 76))).keep B3.out)
      have R4 := Lib.hid ((r2.ext ((Ext.refl w2).alloc (.cells R0 76))).setRow (w.heap.size + 1 + 1) R0 B4.out)
      rw [← hR0]
      clear hR0 x2 r2
      cases b
      · go_wp2_with (first
          | (refine wpList_store_new rfl 76 (.tmp 8) (.tmp 36) rfl w2 76 _ R0 rfl rfl HI6.out HSZ.out.symm HAL.out ?_)
          | (refine wpList_load_row rfl 76 (.tmp 8) rfl w2.heap.size rfl 76 R0 (0, 0) _ (heap_alloc_new w2 _) Try.underlying76 rfl HI6.out ?_)
          | (refine wpList_store_row rfl 76 (.tmp 6) (.tmp 40) rfl (w.heap.size + 1 + 1) R0 rfl rfl 76 _ B4.out HI6.out HSZ.out.symm HAL.out ?_))
        refine bodyPost_ret (res_two Try.results49 _ _ (w.heap.size + 1 + 1) R0 _ rfl rfl (setRow_heap _ _ _ _ _ _ B4.out) HSZ.out) rfl ?_
        unfold RPutPost
        rw [HS.out]
        exact ⟨_, rfl, X3.out, _, _, kp2, by rw [HR0.out]; rfl, R4.out⟩
      · go_wp2_with (first
          | (refine wpList_store_new rfl 76 (.tmp 8) (.tmp 36) rfl w2 76 _ R0 rfl rfl HI6.out HSZ.out.symm HAL.out ?_)
          | (refine wpList_load_row rfl 76 (.tmp 8) rfl w2.heap.size rfl 76 R0 (0, 0) _ (heap_alloc_new w2 _) Try.underlying76 rfl HI6.out ?_)
          | (refine wpList_store_row rfl 76 (.tmp 6) (.tmp 41) rfl (w.heap.size + 1 + 1) R0 rfl rfl 76 _ B4.out HI6.out HSZ.out.symm HAL.out ?_))
        refine bodyPost_ret (res_two Try.results49 _ _ (w.heap.size + 1 + 1) R0 _ rfl rfl (setRow_heap _ _ _ _ _ _ B4.out) HSZ.out) rfl ?_
        unfold RPutPost
        rw [HS.out]
        exact ⟨_, rfl, X3.out, _, _, kp2, by rw [HR0.out]; rfl, R4.out⟩
end Go.Proofs.Ytgkoblgpadpcjaa
