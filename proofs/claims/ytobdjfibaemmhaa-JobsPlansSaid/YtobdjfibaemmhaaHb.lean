/- jobs: Gone. -/
import Derived.Test.YtobdjfibaemmhaaHa
namespace Go.Proofs.Ytobdjfibaemmhaa
open Go.RowKit Go.Maps Go.Lib

def goneStep (vs : List Un) (o : List Str) (n : Str) : List Str := if !there vs n && !decide (n ∈ o) then o ++ [n] else o
def goneP (vs : List Un) (run : List Str) : List Str := run.foldl (goneStep vs) []
theorem gone_len (vs : List Un) : ∀ (run o : List Str), (run.foldl (goneStep vs) o).length ≤ o.length + run.length
  | [], o => Nat.le_refl _
  | n :: r, o => by
    rw [List.foldl_cons]
    refine Nat.le_trans (gone_len vs r _) ?_
    unfold goneStep
    split
    · simp; omega
    · simp
def goneRel (w : World) (vs : List Un) (run : List Str) (ov i : Value) (wr : World) : Prop := ∃ k : Nat, k ≤ run.length ∧ i = .int .i64 k ∧ Hid (OwnS wr w.heap.size ov (goneP vs (run.take k))) ∧ Hid (Ext w wr)
def gonePost (w : World) (vs : List Un) (run : List Str) (e : Ending) (w' : World) : Prop := ∃ v, e = .returned v ∧ OwnS w' w.heap.size v (sortS (goneP vs run)) ∧ Ext w w'
set_option maxRecDepth 100000 in
set_option maxHeartbeats 4000000 in
theorem Gone_any {w : World} {g ub nu bb nb : Nat} {ov rv : Value} {vs : List Un} {bh : Beh} {order run : List Str} (h : GraphAt w g ub nu bb nb ov vs bh order) (hs : SmallU vs) (hr : SRow w rv run) (hrs : ShortAll run) (hl : run.length ≤ 20) :
    Calls Try.prog 20 #[.pointer (some ⟨g, 0, none⟩), rv] w (gonePost w vs run) := by
  have G := Lib.hid h
  have HR := Lib.hid hr
  have HRS := Lib.hid hrs
  obtain ⟨ar, cr, rfl, -⟩ := hr.form
  clear h hr hrs
  go_enter Try.func20, Try.ntmps20
  go_wp2_with fail
  go_loopw [5, 12] (fun v i wr => goneRel w vs run v i wr) (fun _ i _ => run.length - (intOf i).toNat)
  case atStart => exact ⟨0, Nat.zero_le _, rfl, OwnS.nil _ _, Ext.refl w⟩
  case round =>
    obtain ⟨wq, rfl⟩ : ∃ x : World, x = wr := ⟨_, rfl⟩
    obtain ⟨k, hk, rfl, HO, HX⟩ := hrel
    have hgl : (goneP vs (run.take k)).length ≤ 20 := by
      have := gone_len vs (run.take k) []
      unfold goneP
      simp at this ⊢
      omega
    have HGL := Lib.hid hgl
    by_cases hlt : k < run.length
    · obtain ⟨b, o, rfl, e1⟩ := (HR.out.ext HX.out).at k hlt
      have hnl := HRS.out run[k] (List.getElem_mem hlt)
      have HTK := Lib.hid (show goneP vs (run.take (k + 1)) = goneStep vs (goneP vs (run.take k)) run[k] by
        rw [List.take_succ_eq_append_getElem hlt]
        unfold goneP
        rw [List.foldl_append]; rfl)
      generalize run[k] = n at *
      generalize goneP vs (run.take k) = l at *
      have HG := Lib.hid (Get_any (G.out.ext HX.out).cells (G.out.ext HX.out).units hs hnl)
      obtain ⟨al, cl, rfl, hcl, hcl2⟩ := HO.out.row.form
      clear hgl
      cases ht : there vs n with
      | true =>
        have HTT := Lib.hid ht
        clear ht
        go_wp2_with (go_at_call 22; refine HG.out.mono ?_; rintro e w3 ⟨v3, rfl, u3, x3⟩; rw [HTT.out]; have X3 := Lib.hid x3; (obtain ⟨s0, a0, n0, c0, a1, n1, c1, a2, n2, c2, a3, n3, c3, a4, n4, c4, a5, n5, c5, r0, rfl⟩ := u3.like); clear u3 x3)
        go_roundw
        case rel =>
          refine ⟨k + 1, by omega, by go_num, ?_, Lib.hid (HX.out.trans (X3.out.alloc _))⟩
          rw [HTK.out]
          unfold goneStep
          rw [HTT.out]
          exact Lib.hid (HO.out.ext (X3.out.alloc _))
        case measure => simp [intOf]; omega
      | false =>
        have HTT := Lib.hid ht
        clear ht
        have HC := Lib.hid (show ∀ W, Ext wq W → Calls Try.prog 36 #[.slice al l.length cl, .string (ba n)] W fun e w' => e = .returned (.bool (decide (n ∈ l))) ∧ W = w' from fun W x => contains_any (HO.out.ext x).row n)
        by_cases hin : n ∈ l
        · have HIN := Lib.hid (show decide (n ∈ l) = true by simpa using hin)
          clear hin
          go_wp2_with (first
            | (go_at_call 22; refine HG.out.mono ?_; rintro e w3 ⟨v3, rfl, u3, x3⟩; rw [HTT.out]; have X3 := Lib.hid x3; (obtain ⟨s0, a0, n0, c0, a1, n1, c1, a2, n2, c2, a3, n3, c3, a4, n4, c4, a5, n5, c5, r0, rfl⟩ := u3.like); clear u3 x3)
            | (go_at_call 36; refine (HC.out _ (X3.out.alloc _)).mono ?_; rintro e w' ⟨rfl, rfl⟩; rw [HIN.out]))
          go_roundw
          case rel =>
            refine ⟨k + 1, by omega, by go_num, ?_, Lib.hid (HX.out.trans (X3.out.alloc _))⟩
            rw [HTK.out]
            unfold goneStep
            rw [HTT.out, HIN.out]
            exact Lib.hid (HO.out.ext (X3.out.alloc _))
          case measure => simp [intOf]; omega
        · have HIN := Lib.hid (show decide (n ∈ l) = false by simpa using hin)
          clear hin
          go_upto_region 6 with (go_at_call 22; refine HG.out.mono ?_; rintro e w3 ⟨v3, rfl, u3, x3⟩; rw [HTT.out]; have X3 := Lib.hid x3; (obtain ⟨s0, a0, n0, c0, a1, n1, c1, a2, n2, c2, a3, n3, c3, a4, n4, c4, a5, n5, c5, r0, rfl⟩ := u3.like); clear u3 x3)
          obtain ⟨W8, hW8⟩ : ∃ W8 : World, W8 = w3.alloc (.cells #[Value.string s0, Value.slice a0 n0 c0, Value.slice a1 n1 c1, Value.slice a2 n2 c2, Value.slice a3 n3 c3, Value.slice a4 n4 c4, Value.slice a5 n5 c5, Value.int IntKind.i64 r0] 45) := ⟨_, rfl⟩
          have X8 := Lib.hid (show Ext wq W8 by rw [hW8]; exact X3.out.alloc _)
          rw [← hW8]
          clear hW8
          go_wp2_with (first
            | (go_at_call 36; refine (HC.out _ X8.out).mono ?_; rintro e w' ⟨rfl, rfl⟩; rw [HIN.out])
            | (refine wpList_append_str _ rfl (.tmp 30) (.tmp 32) 23 rfl Try.underlying23 w.heap.size _ _ rfl rfl l [n] ((HO.out.ext X8.out).ext ((Ext.refl _).alloc _)) (SRow.one _ _) (by have := HGL.out; simp; omega) (by have := HX.out.sz; have := X8.out.sz; simp; omega) ?_; intro v9 w9 o9 g9 n9; have X9 := Lib.hid ((HX.out.trans (X8.out.alloc (.cells #[.string (ba n)] 9))).grow g9 fun q hq => (HO.out.lt q hq).1); have O9 := Lib.hid o9; (obtain ⟨a9, c9, rfl, -⟩ := o9.row.form); clear o9 g9 n9))
          go_roundw
          case rel =>
            refine ⟨k + 1, by omega, by go_num, ?_, X9⟩
            rw [HTK.out]
            unfold goneStep
            rw [HTT.out, HIN.out]
            have := O9.out
            rw [List.length_append] at this
            exact Lib.hid this
          case measure => simp [intOf]; omega
    · have hkl : k = run.length := by omega
      subst hkl
      have hO := HO.out
      rw [List.take_length] at hO HGL
      have HV := Lib.hid (sort_any hO (by have := HGL.out; omega))
      have HO2 := Lib.hid hO
      obtain ⟨al, cl, rfl, -⟩ := hO.row.form
      clear hO
      go_wp2_with (go_at_call 40; refine HV.out.mono ?_; rintro e w6 ⟨rfl, o6, g6⟩; have X6 := Lib.hid (HX.out.grow g6 fun q hq => (HO2.out.lt q hq).1); have O6 := Lib.hid o6; clear o6 g6)
      go_ret
      exact ⟨_, rfl, O6.out, X6.out⟩
end Go.Proofs.Ytobdjfibaemmhaa
