/- A disk's Write. -/
import Derived.Test.YtgkoblgpadpcjaaDiskB
namespace Go.Proofs.Ytgkoblgpadpcjaa
open Go.RowKit

theorem src_lits (w : World) (cs : List Value) (t : TypeId) (c : Nat) (hc : 1 ≤ c) : Src (w.alloc (.cells cs.toArray t)) (.slice (some ⟨w.heap.size, 0, none⟩) 1 c) 1 cs := by
  refine ⟨_, _, rfl, (fun h => by cases h), fun ad had j y hy => ?_⟩
  cases had
  rw [Addr.add_lit, cell_new0, List.getElem?_toArray, Nat.zero_add]
  exact hy
/-- The disk behind the append of a write. -/
theorem DiskAt.pushed {base g kb : Nat} {w w' : World} {cv cv' : Value} {D : Dk} (h : DiskAt base w g kb cv D) (a : Nat) (s : List UInt8) (ha : a < D.kept.length) (hs : s.length = 64)
    (o : w'.ownsRow base 113 65 cv' (D.cache.length + 1) (flatC D.cache ++ wvals (a, s))) (gr : w.grownBy w' cv.ownBlock) :
    DiskAt base (w'.setCell ⟨g, 1, none⟩ cv') g kb cv' { D with cache := D.cache ++ [(a, s)] } ∧ w'.cell? ⟨g, 1, none⟩ = some cv ∧ w'.frozen? ⟨g, 1, none⟩ = false := by
  have hg := gr.block g (h.lt g (.inl rfl)) h.gne
  have hk := gr.block kb (h.lt kb (.inr (.inl rfl))) h.kne
  have hb := hg.trans h.blk
  have hr := hk.trans h.row
  have hog : ∀ k, some k = cv'.ownBlock → k ≠ g := by
    rintro k e rfl
    rcases o.2 with ⟨rfl, _⟩ | ⟨q, cap, cur, rfl, _, hh, -⟩
    · simp [Value.ownBlock] at e
    · simp only [Value.ownBlock, Option.some.injEq] at e
      subst e
      have := hb.symm.trans hh
      simp at this
  refine ⟨⟨h.hg, h.hk, ?_, ?_, ?_, ⟨h.wf.pos, h.wf.most, h.wf.kept, ?_, h.wf.keeps, h.wf.fate⟩⟩, ?_, ?_⟩
  · rw [setCell_get w' g 1 cv' _ _ _ hb]; rfl
  · rw [Below.heap_setCell w' _ cv' kb (Ne.symm h.ne)]; exact hr
  · have e1 : flatC (D.cache ++ [(a, s)]) = flatC D.cache ++ wvals (a, s) := by unfold flatC; rw [List.flatMap_append]; simp
    have e2 : (D.cache ++ [(a, s)]).length = D.cache.length + 1 := by simp
    show World.ownsRow _ _ _ _ _ (D.cache ++ [(a, s)]).length (flatC (D.cache ++ [(a, s)]))
    rw [e1, e2]
    exact row_same o fun k hk => Below.heap_setCell w' _ cv' k (hog k hk)
  · intro c hc
    rcases List.mem_append.1 hc with hc | hc
    · exact h.wf.cache c hc
    · simp at hc; subst hc; exact ⟨ha, hs⟩
  · simp only [World.cell?, hb]; rfl
  · simp [World.frozen?, hb]
theorem row_shape {w : World} {base e s n : Nat} {v : Value} {xs : List Value} (h : w.ownsRow base e s v n xs) : ∃ a m c, v = .slice a m c := by
  rcases h.2 with ⟨rfl, _⟩ | ⟨g, cap, cur, rfl, _⟩
  · exact ⟨_, _, _, rfl⟩
  · exact ⟨_, _, _, rfl⟩
theorem range_keep {W W' : World} {B o : Nat} {cs : List Value} (h : W.rangeAt B o cs) (hb : W'.heap[B]? = W.heap[B]?) : W'.rangeAt B o cs :=
  fun j v hj => (World.cell?_of_block (a := ⟨B, o + j, none⟩) hb).trans (h j v hj)
theorem fold_write (a : Int) (s : List UInt8) (h : s.length = 64) : List.foldl (fun cs (x : Value × Nat) => cs.setIfInBounds (1 + x.2) x.1) (Try.zeroCells113.setIfInBounds 0 (.int .i64 a)) (byteVals s).zipIdx = (.int .i64 a :: byteVals s).toArray := by
  rw [fold_putAt]
  obtain ⟨z, R, hR⟩ : ∃ z R, Try.zeroCells113 = (z :: R).toArray := by
    have hz := zc113
    cases h : Try.zeroCells113.toList with
    | nil => have : Try.zeroCells113.toList.length = 0 := by rw [h]; rfl
             rw [Array.length_toList] at this; omega
    | cons z R => exact ⟨z, R, by rw [← h]⟩
  have hRl : R.length = 64 := by have hz := zc113; rw [hR] at hz; simpa using hz
  have e2 := putAt_mid (byteVals s) R [.int .i64 a] [] (by rw [byteVals_length]; omega)
  rw [hR]
  simpa using e2
theorem fold_one (X : List Value) (h : X.length = 65) (Z : Array Value) (hZ : Z.size = 65) : Array.foldl (fun cs (x : Value × Nat) => cs.setIfInBounds x.2 x.1) Z X.toArray.zipIdx 0 65 = X.toArray := by
  have hs : X.toArray.zipIdx.size = 65 := by simp [h]
  conv => lhs; rw [← hs]
  have e := fold_putAt' 0 X.toArray Z
  simp only [Nat.zero_add] at e
  rw [e]
  have e2 := putAt_mid X Z.toList [] [] (by simp [h, hZ])
  simpa using e2

set_option maxRecDepth 100000 in
set_option maxHeartbeats 2000000 in
theorem Write_any (base g kb : Nat) (D : Dk) (at_ : Int) (s : List UInt8) (w : World) (h : Disk base w g kb D) (hs : D.steps ≤ 1000000000) (hcl : D.cache.length ≤ 1000000000) (hl : s.length = 64) (hb : base ≤ w.heap.size) :
    Calls Try.prog 40 #[.pointer (some ⟨g, 0, none⟩), .int .i64 at_, .agg (byteVals s).toArray] w fun e w' => e = .returned (.int .i64 (D.write at_ s).2) ∧ DOnly base g kb w w' ∧ Disk base w' g kb (D.write at_ s).1 := by
  obtain ⟨cv, h⟩ := h
  have hm := h.wf.most
  have hx := h.ext ((Ext.refl w).alloc (.cells (byteVals s).toArray 63))
  have O1 := Lib.hid ((DOnly.refl base g kb w).ext ((Ext.refl w).alloc (.cells (byteVals s).toArray 63)))
  obtain ⟨c0, c1, c2, c3, c4, c5, hf⟩ := hx.open
  have HX := Lib.hid hx
  by_cases hd : D.down = true
  · have HS := Lib.hid (show D.write at_ s = (D, 3) by unfold Dk.write; rw [if_pos hd])
    clear h hf hx
    go_enter Try.func40, Try.ntmps40
    go_wp2_with fail
    go_ret
    rw [HS.out]
    exact ⟨rfl, O1.out, _, HX.out⟩
  · have hdf : D.down = false := by simpa using hd
    by_cases h1 : at_ < 0
    · have HS := Lib.hid (show D.write at_ s = (D, 2) by unfold Dk.write; rw [if_neg hd, if_pos (.inl h1)])
      clear h hf hx hd
      go_enter Try.func40, Try.ntmps40
      go_wp2_with fail
      go_ret
      rw [HS.out]
      exact ⟨rfl, O1.out, _, HX.out⟩
    · by_cases h2 : (D.kept.length : Int) ≤ at_
      · have HS := Lib.hid (show D.write at_ s = (D, 2) by unfold Dk.write; rw [if_neg hd, if_pos (.inr h2)])
        clear h hf hx hd
        go_enter Try.func40, Try.ntmps40
        go_wp2_with fail
        go_ret
        rw [HS.out]
        exact ⟨rfl, O1.out, _, HX.out⟩
      · obtain ⟨a, rfl⟩ : ∃ a : Nat, at_ = (a : Int) := ⟨at_.toNat, by omega⟩
        have ha : a < D.kept.length := by omega
        have HS := Lib.hid (show D.write (a : Int) s = if (Dk.step { D with cache := D.cache ++ [(a, s)] }).2 then ((Dk.step { D with cache := D.cache ++ [(a, s)] }).1, 0) else ((Dk.step { D with cache := D.cache ++ [(a, s)] }).1, 3) by
          unfold Dk.write; rw [if_neg hd, if_neg (by omega)]; rfl)
        have HA := Lib.hid ha
        have HBW := Lib.hid hb
        have h0 := Lib.hid h
        clear h hf hx hd h1
        go_enter Try.func40, Try.ntmps40
        go_upto_region 5 with (fail)
        have e2 : (w.alloc (.cells (byteVals s).toArray 63)).rangeAt w.heap.size 0 (byteVals s) := by
          intro j v hj
          rw [cell_new0, List.getElem?_toArray, Nat.zero_add]
          exact hj
        have hB : w.heap.size < (w.alloc (.cells (byteVals s).toArray 63)).heap.size := by simp
        have hBg : w.heap.size ≠ g := by have := h0.out.lt g (.inl rfl); omega
        have hgs := HX.out.lt g (.inl rfl)
        have hbs : base ≤ (w.alloc (.cells (byteVals s).toArray 63)).heap.size := by simp; omega
        obtain ⟨i0, hi0, hz0, hz1, hz2⟩ := info_parts Try.zero113
        have HI := Lib.hid (And.intro hi0 (And.intro hz0 (And.intro hz1 hz2)))
        have hu := Try.underlying63
        have hi : (Try.prog.info? 63).map (·.size) = some (byteVals s).length := by rw [byteVals_length, hl]; exact Try.info63
        have hbl : (byteVals s).length = 64 := by rw [byteVals_length]; exact hl
        have h1b := byteVals_oneCell s
        obtain ⟨WV, hWV⟩ : ∃ WV : Array Value, WV = (.int .i64 (a : Int) :: byteVals s).toArray := ⟨_, rfl⟩
        have hF := fold_write (a : Int) s hl
        have hF2 := fold_one (.int .i64 (a : Int) :: byteVals s) (by rw [List.length_cons, byteVals_length, hl])
        rw [← hWV] at hF hF2
        have hWs : WV.size = 65 := by rw [hWV]; simp [byteVals_length, hl]
        have HWV := Lib.hid hWV
        have HCB := Lib.hid (show some w.heap.size ≠ cv.ownBlock from fun e => by have := h0.out.lt _ (.inr (.inr e)); omega)
        clear hWV
        clear hi0 hz0 hz1 hz2
        generalize hB0 : w.heap.size = B at *
        generalize hWE : w.alloc (.cells (byteVals s).toArray 63) = W1 at *
        have hne := World.new_ne W1 ⟨g, 1, none⟩ c1
        have HWE := Lib.hid (And.intro hB0 hWE)
        clear hB0 hWE c0 c2 c3 c4 c5
        refine wp_region_noPanic ?_
        refine wp_region_held_drew (S := fun W => W.rangeAt B 0 (byteVals s)) (by kernel_rfl) e2 (fun hHeld => ?_)
        refine wpAnyH_take (i := 0) (v := .pointer (some ⟨g, 0, none⟩)) rfl (by kernel_rfl) (by kernel_rfl) (by kernel_rfl) (fun _ _ _ h => h) (Or.inl ⟨by rfl, ?_⟩) (by assumption) ?_
        · intro w hSw; go_simp
        simp only [List.getElem_toArray, List.getElem_cons_zero, List.getElem_cons_succ, Act.put, List.setIfInBounds_toArray, List.set_cons_zero, List.set_cons_succ]
        refine wpAnyH_take (i := 1) (v := .pointer (some ⟨g, 0, none⟩)) rfl (by kernel_rfl) (by kernel_rfl) (by kernel_rfl) (fun _ _ _ h => h) (Or.inl ⟨by rfl, ?_⟩) (by assumption) ?_
        · intro w hSw; go_simp
        simp only [List.getElem_toArray, List.getElem_cons_zero, List.getElem_cons_succ, Act.put, List.setIfInBounds_toArray, List.set_cons_zero, List.set_cons_succ]
        refine wpAnyH_take (i := 2) (v := .pointer (some ⟨g, 0, none⟩)) rfl (by kernel_rfl) (by kernel_rfl) (by kernel_rfl) (fun _ _ _ h => h) (Or.inl ⟨by rfl, ?_⟩) (by assumption) ?_
        · intro w hSw; go_simp
        simp only [List.getElem_toArray, List.getElem_cons_zero, List.getElem_cons_succ, Act.put, List.setIfInBounds_toArray, List.set_cons_zero, List.set_cons_succ]
        refine wpAnyH_take (i := 3) (v := .pointer (some ⟨g, 1, none⟩)) rfl (by kernel_rfl) (by kernel_rfl) (by kernel_rfl) (fun _ _ _ h => h) (Or.inl ⟨by rfl, ?_⟩) (by assumption) ?_
        · intro w hSw; go_simp
        simp only [List.getElem_toArray, List.getElem_cons_zero, List.getElem_cons_succ, Act.put, List.setIfInBounds_toArray, List.set_cons_zero, List.set_cons_succ]
        refine wpAnyH_take (i := 5) (v := .int .i64 (a : Int)) rfl (by kernel_rfl) (by kernel_rfl) (by kernel_rfl) (fun _ _ _ h => h) (Or.inl ⟨by rfl, ?_⟩) (by assumption) ?_
        · intro w hSw; go_simp
        simp only [List.getElem_toArray, List.getElem_cons_zero, List.getElem_cons_succ, Act.put, List.setIfInBounds_toArray, List.set_cons_zero, List.set_cons_succ]
        refine wpAnyH_take (i := 6) (v := .agg (byteVals s).toArray) rfl (by kernel_rfl) (by kernel_rfl) (by kernel_rfl) (fun _ _ _ h => h) (yieldsIf_load_mid (by rfl) 63 (.tmp 5) rfl B 0 rfl (byteVals s) _ (fun _ h => h) hu rfl hi) (by assumption) ?_
        simp only [List.getElem_toArray, List.getElem_cons_zero, List.getElem_cons_succ, Act.put, List.setIfInBounds_toArray, List.set_cons_zero, List.set_cons_succ]
        refine wpAnyH_take (i := 7) (v := .agg WV) rfl (by kernel_rfl) (by kernel_rfl) (by kernel_rfl) (fun _ _ _ h => h) (Or.inl ⟨by rfl, ?_⟩) (by assumption) ?_
        · intro w hSw; go_simp
        simp only [List.getElem_toArray, List.getElem_cons_zero, List.getElem_cons_succ, Act.put, List.setIfInBounds_toArray, List.set_cons_zero, List.set_cons_succ]
        refine wpAnyH_ready (rs := [4, 8]) (by kernel_rfl) (by simp) (AllReadyH.cons rfl (fun K hK => ?_) (AllReadyH.cons rfl (fun K hK => ?_) AllReadyH.nil))
        · go_simp
          refine hK.out _ _ hHeld (fun hHeld2 => ?_)
          clear hK K
          try simp only [List.getElem_toArray, List.getElem_cons_zero, List.getElem_cons_succ, Act.put, List.setIfInBounds_toArray, List.set_cons_zero, List.set_cons_succ]
          refine wpAnyH_ready (rs := [8]) (by kernel_rfl) (by simp) (AllReadyH.cons rfl (fun K hK => ?_) AllReadyH.nil)
          go_simp
          refine hK.out _ _ (World.rangeAt_alloc e2 _) (fun hHeld3 => ?_)
          clear hK K
          try simp only [List.getElem_toArray, List.getElem_cons_zero, List.getElem_cons_succ, Act.put, List.setIfInBounds_toArray, List.set_cons_zero, List.set_cons_succ]
          refine wpAnyH_ready (rs := [9]) (by kernel_rfl) (by simp) (AllReadyH.cons rfl (fun K hK => ?_) AllReadyH.nil)
          refine step_append_src rfl (.tmp 28) (.tmp 32) 109 rfl base 113 i0 _ 65 72 Try.underlying109 HI.out.1 HI.out.2.1 HI.out.2.2.1 HI.out.2.2.2 zc113 (by decide) cv _ rfl rfl D.cache.length (flatC D.cache) (World.ownsRow.drew (World.ownsRow.alloc HX.out.cache _)) 1 (wvals (a, s)) (wvals_len hl) (by rw [HWV.out]; exact src_lits W1 _ _ _ (Nat.le_refl _)) (wvals_one _) (by unfold maxLen; omega) (by omega) (by simp; omega) ?_
          intro cv' w5 o5 g5 n5
          obtain ⟨av, nv, kv, rfl⟩ := row_shape o5
          have P5 := DiskAt.pushed ((HX.out.ext ((Ext.refl _).alloc _)).drew) a s HA.out hl o5 g5
          have q1 := P5.2.1
          have q2 := P5.2.2
          have HP5 := Lib.hid P5.1
          have HO5 := Lib.hid (((O1.out.ext ((Ext.refl _).alloc _)).drew.row (World.ownsRow.drew (World.ownsRow.alloc HX.out.cache _)) g5).setG 1 (.slice av nv kv))
          have KS5 := Lib.hid (range_keep (World.rangeAt_alloc e2 _) (g5.block B (by simp; omega) HCB.out))
          have KS6 := Lib.hid (range_keep (W' := w5.setCell ⟨g, 1, none⟩ (.slice av nv kv)) KS5.out (Below.heap_setCell w5 _ (.slice av nv kv) B hBg))
          clear P5 o5 g5 n5
          refine hK.out _ _ KS5.out (fun hHeld5 => ?_)
          clear hK K
          try simp only [List.getElem_toArray, List.getElem_cons_zero, List.getElem_cons_succ, Act.put, List.setIfInBounds_toArray, List.set_cons_zero, List.set_cons_succ]
          refine wpAnyH_take (i := 10) (v := .pointer (some ⟨g, 0, none⟩)) rfl (by kernel_rfl) (by kernel_rfl) (by kernel_rfl) (fun _ _ _ h => h) (Or.inl ⟨by rfl, ?_⟩) (by assumption) ?_
          · intro w hSw; go_simp
          try simp only [List.getElem_toArray, List.getElem_cons_zero, List.getElem_cons_succ, Act.put, List.setIfInBounds_toArray, List.set_cons_zero, List.set_cons_succ]
          refine wpAnyH_take (i := 11) (v := .pointer (some ⟨g, 1, none⟩)) rfl (by kernel_rfl) (by kernel_rfl) (by kernel_rfl) (fun _ _ _ h => h) (Or.inl ⟨by rfl, ?_⟩) (by assumption) ?_
          · intro w hSw; go_simp
          try simp only [List.getElem_toArray, List.getElem_cons_zero, List.getElem_cons_succ, Act.put, List.setIfInBounds_toArray, List.set_cons_zero, List.set_cons_succ]
          refine wpAnyH_ready (rs := [12]) (by kernel_rfl) (by simp) (AllReadyH.cons rfl (fun K hK => ?_) AllReadyH.nil)
          go_simp
          refine hK.out _ _ KS6.out (fun hHeld6 => ?_)
          clear hK K
          try simp only [List.getElem_toArray, List.getElem_cons_zero, List.getElem_cons_succ, Act.put, List.setIfInBounds_toArray, List.set_cons_zero, List.set_cons_succ]
          refine wpAnyH_done (by kernel_rfl) ?_ _
          refine NoPanic.normal ?_
          go_wp2_with fail
          refine (step_any base g kb { D with cache := D.cache ++ [(a, s)] } _ ⟨_, HP5.out⟩ hs (by have h1 := HBW.out; have h2 := HO5.out.size; rw [HWE.out.1] at h2; omega)).mono ?_
          rintro e w6 ⟨rfl, o6, r6⟩
          have O6 := Lib.hid (HO5.out.trans o6)
          have R6 := Lib.hid r6
          clear o6 r6
          generalize Dk.step { D with cache := D.cache ++ [(a, s)] } = st at *
          obtain ⟨D2, b⟩ := st
          cases b
          · go_wp2_with fail
            go_ret
            rw [HS.out]
            exact ⟨rfl, O6.out, R6.out⟩
          · go_wp2_with fail
            go_ret
            rw [HS.out]
            exact ⟨rfl, O6.out, R6.out⟩
        · go_simp
          refine hK.out _ _ (World.rangeAt_alloc e2 _) (fun hHeld3 => ?_)
          clear hK K
          try simp only [List.getElem_toArray, List.getElem_cons_zero, List.getElem_cons_succ, Act.put, List.setIfInBounds_toArray, List.set_cons_zero, List.set_cons_succ]
          refine wpAnyH_ready (rs := [4]) (by kernel_rfl) (by simp) (AllReadyH.cons rfl (fun K hK => ?_) AllReadyH.nil)
          go_simp
          refine hK.out _ _ (World.rangeAt_alloc e2 _) (fun hHeld4 => ?_)
          clear hK K
          try simp only [List.getElem_toArray, List.getElem_cons_zero, List.getElem_cons_succ, Act.put, List.setIfInBounds_toArray, List.set_cons_zero, List.set_cons_succ]
          refine wpAnyH_ready (rs := [9]) (by kernel_rfl) (by simp) (AllReadyH.cons rfl (fun K hK => ?_) AllReadyH.nil)
          refine step_append_src rfl (.tmp 28) (.tmp 32) 109 rfl base 113 i0 _ 65 72 Try.underlying109 HI.out.1 HI.out.2.1 HI.out.2.2.1 HI.out.2.2.2 zc113 (by decide) cv _ rfl rfl D.cache.length (flatC D.cache) (World.ownsRow.drew (World.ownsRow.alloc HX.out.cache _)) 1 (wvals (a, s)) (wvals_len hl) (by rw [HWV.out]; exact src_lits W1 _ _ _ (Nat.le_refl _)) (wvals_one _) (by unfold maxLen; omega) (by omega) (by simp; omega) ?_
          intro cv' w5 o5 g5 n5
          obtain ⟨av, nv, kv, rfl⟩ := row_shape o5
          have P5 := DiskAt.pushed ((HX.out.ext ((Ext.refl _).alloc _)).drew) a s HA.out hl o5 g5
          have q1 := P5.2.1
          have q2 := P5.2.2
          have HP5 := Lib.hid P5.1
          have HO5 := Lib.hid (((O1.out.ext ((Ext.refl _).alloc _)).drew.row (World.ownsRow.drew (World.ownsRow.alloc HX.out.cache _)) g5).setG 1 (.slice av nv kv))
          have KS5 := Lib.hid (range_keep (World.rangeAt_alloc e2 _) (g5.block B (by simp; omega) HCB.out))
          have KS6 := Lib.hid (range_keep (W' := w5.setCell ⟨g, 1, none⟩ (.slice av nv kv)) KS5.out (Below.heap_setCell w5 _ (.slice av nv kv) B hBg))
          clear P5 o5 g5 n5
          refine hK.out _ _ KS5.out (fun hHeld5 => ?_)
          clear hK K
          try simp only [List.getElem_toArray, List.getElem_cons_zero, List.getElem_cons_succ, Act.put, List.setIfInBounds_toArray, List.set_cons_zero, List.set_cons_succ]
          refine wpAnyH_take (i := 10) (v := .pointer (some ⟨g, 0, none⟩)) rfl (by kernel_rfl) (by kernel_rfl) (by kernel_rfl) (fun _ _ _ h => h) (Or.inl ⟨by rfl, ?_⟩) (by assumption) ?_
          · intro w hSw; go_simp
          try simp only [List.getElem_toArray, List.getElem_cons_zero, List.getElem_cons_succ, Act.put, List.setIfInBounds_toArray, List.set_cons_zero, List.set_cons_succ]
          refine wpAnyH_take (i := 11) (v := .pointer (some ⟨g, 1, none⟩)) rfl (by kernel_rfl) (by kernel_rfl) (by kernel_rfl) (fun _ _ _ h => h) (Or.inl ⟨by rfl, ?_⟩) (by assumption) ?_
          · intro w hSw; go_simp
          try simp only [List.getElem_toArray, List.getElem_cons_zero, List.getElem_cons_succ, Act.put, List.setIfInBounds_toArray, List.set_cons_zero, List.set_cons_succ]
          refine wpAnyH_ready (rs := [12]) (by kernel_rfl) (by simp) (AllReadyH.cons rfl (fun K hK => ?_) AllReadyH.nil)
          go_simp
          refine hK.out _ _ KS6.out (fun hHeld6 => ?_)
          clear hK K
          try simp only [List.getElem_toArray, List.getElem_cons_zero, List.getElem_cons_succ, Act.put, List.setIfInBounds_toArray, List.set_cons_zero, List.set_cons_succ]
          refine wpAnyH_done (by kernel_rfl) ?_ _
          refine NoPanic.normal ?_
          go_wp2_with fail
          refine (step_any base g kb { D with cache := D.cache ++ [(a, s)] } _ ⟨_, HP5.out⟩ hs (by have h1 := HBW.out; have h2 := HO5.out.size; rw [HWE.out.1] at h2; omega)).mono ?_
          rintro e w6 ⟨rfl, o6, r6⟩
          have O6 := Lib.hid (HO5.out.trans o6)
          have R6 := Lib.hid r6
          clear o6 r6
          generalize Dk.step { D with cache := D.cache ++ [(a, s)] } = st at *
          obtain ⟨D2, b⟩ := st
          cases b
          · go_wp2_with fail
            go_ret
            rw [HS.out]
            exact ⟨rfl, O6.out, R6.out⟩
          · go_wp2_with fail
            go_ret
            rw [HS.out]
            exact ⟨rfl, O6.out, R6.out⟩

end Go.Proofs.Ytgkoblgpadpcjaa
