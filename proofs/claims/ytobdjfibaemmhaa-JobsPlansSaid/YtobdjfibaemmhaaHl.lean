/- The walk of JobsPlans. -/
import Derived.Test.YtobdjfibaemmhaaHk
import Derived.Test.YtobdjfibaemmhaaGq
import Derived.Deep.QuietTactic
import Derived.BigQuiet
namespace Go.Proofs.Ytobdjfibaemmhaa
open Go.RowKit Go.Maps Go.Lib

def plRel1 (w10 w12 : World) (OL : List Str) (p : Str → Bool) (ov i : Value) (wr : World) : Prop := ∃ k : Nat, k ≤ OL.length ∧ i = .int .i64 k ∧ Hid (OwnS wr w10.heap.size ov ((OL.take k).filter p).reverse) ∧ Hid (Ext w12 wr) ∧ Hid (ov.ownBlock ≠ some (w10.heap.size + 1))
def plRel2 (w10 : World) (OL : List Str) (p : Str → Bool) (os : List (Value × List Str)) (ov i : Value) (wr : World) : Prop := ∃ k : Nat, k ≤ OL.length ∧ i = .int .i64 k ∧ Hid (Flock w10 wr ov ((OL.take k).filter p) os)
def plRel3 (w0 : World) (vs : List Un) (run NL : List Str) (nv : Value) (gv i : Value) (wr : World) : Prop := ∃ k : Nat, k ≤ NL.length ∧ i = .int .i64 k ∧ Hid (Flock w0 wr gv (lgone vs run (NL.take k)) [(nv, NL)])
theorem lgone_len (vs : List Un) (run : List Str) : ∀ ns : List Str, (lgone vs run ns).length ≤ ns.length := by
  have : ∀ (ns o : List Str), (ns.foldl (gstep vs run) o).length ≤ o.length + ns.length := by
    intro ns
    induction ns with
    | nil => intro o; simp
    | cons n ns ih =>
      intro o
      have h1 := ih (gstep vs run o n)
      have h2 : (gstep vs run o n).length ≤ o.length + 1 := by unfold gstep; split <;> simp
      rw [List.foldl_cons, List.length_cons]; omega
  intro ns
  have h := this ns []
  simp at h
  exact h
theorem lsame_true {w : World} {v u : Value} {xs : List Str} (hv : SRow w v xs) (hu : SRow w u xs) : Calls Try.prog 19 #[v, u] w fun e w' => e = .returned (.bool true) ∧ w = w' := by
  have := lsame_any hv hu
  rw [beq_self_eq_true] at this
  exact this
theorem lhas_bool {w : World} {v : Value} {l : List Str} {s : Str} {b : Bool} (h : SRow w v l) (hb : decide (s ∈ l) = b) : Calls Try.prog 15 #[v, .string (ba s)] w fun e w' => e = .returned (.bool b) ∧ w = w' := by
  have := lhas_any h s
  rw [hb] at this
  exact this
theorem OwnS.one (w : World) (base : Nat) (hb : base ≤ w.heap.size) (n : Str) : OwnS (w.alloc (.cells #[.string (ba n)] 9)) base (.slice (some ⟨w.heap.size, 0, none⟩) 1 1) [n] :=
  World.ownsRow_lit w #[.string (ba n)] 1 hb (by decide) rfl
set_option maxRecDepth 100000 in
set_option maxHeartbeats 4000000 in
theorem plans_any {w : World} {uv vv rv hv : Value} {us vs : List Un} {run hit : List Str} (hu : UnitsIn w uv us) (hnu : NilOk uv) (hv' : UnitsIn w vv vs) (hnv : NilOk vv) (hr : SRow w rv run) (hrs : ShortAll run) (hh : SRow w hv hit) (hhs : ShortAll hit) :
    Calls Try.prog 3 #[uv, vv, rv, hv] w fun e w' => e = .returned (.bool true) ∧ Ext w w' := by
  have HA := Lib.hid (alive15 w)
  have HSM1 := Lib.hid (show ∀ W, Ext w W → Calls Try.prog 9 #[uv] W (smallPost W us) from fun W x => Small_any (hu.ext x))
  have HSM2 := Lib.hid (show ∀ W, Ext w W → Calls Try.prog 9 #[vv] W (smallPost W vs) from fun W x => Small_any (hv'.ext x))
  have HNW1 := Lib.hid (show ∀ W, Ext w W → SmallU us → Calls Try.prog 10 #[uv] W (newPost W us) from fun W x s => New_any (hu.ext x) s)
  have HNW2 := Lib.hid (show ∀ W, Ext w W → SmallU vs → Calls Try.prog 10 #[vv] W (newPost W vs) from fun W x s => New_any (hv'.ext x) s)
  have HU := Lib.hid hu
  have HV := Lib.hid hv'
  have HR := Lib.hid hr
  have HH := Lib.hid hh
  obtain ⟨ar, cr, rfl, hlr, hlr2⟩ := hr.form
  obtain ⟨ah, ch, rfl, hlh, hlh2⟩ := hh.form
  obtain ⟨au, cu, rfl, hcu, hcu2, -⟩ := hu
  obtain ⟨av, cv, rfl, hcv, hcv2, -⟩ := hv'
  clear hr hh
  cases hs1 : smallB us with
  | false =>
    have HN1 := Lib.hid (smallN_no hs1)
    clear hs1
    go_enter Try.func3, Try.ntmps3
    go_wp2_with (first
      | (go_at_call 8; refine HA.out.mono ?_; rintro e w1 ⟨rfl, x1⟩; have X1 := Lib.hid x1; clear x1)
      | (go_at_call_of 9 (Value.slice au us.length cu); refine (HSM1.out _ X1.out).mono ?_; rintro e w2 ⟨rfl, x2⟩; rw [HN1.out]; have X2 := Lib.hid (X1.out.trans x2); clear x2))
    go_ret
    exact ⟨rfl, X2.out⟩
  | true =>
    have HN1 := Lib.hid (smallN_yes hs1)
    have HSU := Lib.hid (smallB_u hs1)
    clear hs1
    cases hs2 : smallB vs with
    | false =>
      have HN2 := Lib.hid (smallN_no hs2)
      clear hs2
      go_enter Try.func3, Try.ntmps3
      go_wp2_with (first
        | (go_at_call 8; refine HA.out.mono ?_; rintro e w1 ⟨rfl, x1⟩; have X1 := Lib.hid x1; clear x1)
        | (go_at_call_of 9 (Value.slice au us.length cu); refine (HSM1.out _ X1.out).mono ?_; rintro e w2 ⟨rfl, x2⟩; rw [HN1.out]; have X2 := Lib.hid (X1.out.trans x2); clear x2)
        | (go_at_call_of 9 (Value.slice av vs.length cv); refine (HSM2.out _ X2.out).mono ?_; rintro e w3 ⟨rfl, x3⟩; rw [HN2.out]; have X3 := Lib.hid (X2.out.trans x3); clear x3))
      go_ret
      exact ⟨rfl, X3.out⟩
    | true =>
      have HN2 := Lib.hid (smallN_yes hs2)
      have HSV := Lib.hid (smallB_u hs2)
      clear hs2
      by_cases hl1 : 20 < run.length
      · skip
        go_enter Try.func3, Try.ntmps3
        go_wp2_with (first
          | (go_at_call 8; refine HA.out.mono ?_; rintro e w1 ⟨rfl, x1⟩; have X1 := Lib.hid x1; clear x1)
          | (go_at_call_of 9 (Value.slice au us.length cu); refine (HSM1.out _ X1.out).mono ?_; rintro e w2 ⟨rfl, x2⟩; rw [HN1.out]; have X2 := Lib.hid (X1.out.trans x2); clear x2)
          | (go_at_call_of 9 (Value.slice av vs.length cv); refine (HSM2.out _ X2.out).mono ?_; rintro e w3 ⟨rfl, x3⟩; rw [HN2.out]; have X3 := Lib.hid (X2.out.trans x3); clear x3))
        go_ret
        exact ⟨rfl, X3.out⟩
      · by_cases hl2 : 20 < hit.length
        · skip
          go_enter Try.func3, Try.ntmps3
          go_wp2_with (first
            | (go_at_call 8; refine HA.out.mono ?_; rintro e w1 ⟨rfl, x1⟩; have X1 := Lib.hid x1; clear x1)
            | (go_at_call_of 9 (Value.slice au us.length cu); refine (HSM1.out _ X1.out).mono ?_; rintro e w2 ⟨rfl, x2⟩; rw [HN1.out]; have X2 := Lib.hid (X1.out.trans x2); clear x2)
            | (go_at_call_of 9 (Value.slice av vs.length cv); refine (HSM2.out _ X2.out).mono ?_; rintro e w3 ⟨rfl, x3⟩; rw [HN2.out]; have X3 := Lib.hid (X2.out.trans x3); clear x3))
          go_ret
          exact ⟨rfl, X3.out⟩
        · cases hne1 : newErr us with
          | some cn =>
            obtain ⟨c, n⟩ := cn
            have HE1 := Lib.hid hne1
            obtain ⟨hc1, hc2, hc3, hc4, hc5⟩ := newErr_ne hne1
            clear hne1
            cases hne2 : newErr vs with
            | some cn2 =>
              obtain ⟨c2, n2⟩ := cn2
              have HE2 := Lib.hid hne2
              clear hne2
              go_enter Try.func3, Try.ntmps3
              go_wp2_with (first
                | (go_at_call 8; refine HA.out.mono ?_; rintro e w1 ⟨rfl, x1⟩; have X1 := Lib.hid x1; clear x1)
                | (go_at_call_of 9 (Value.slice au us.length cu); refine (HSM1.out _ X1.out).mono ?_; rintro e w2 ⟨rfl, x2⟩; rw [HN1.out]; have X2 := Lib.hid (X1.out.trans x2); clear x2)
                | (go_at_call_of 9 (Value.slice av vs.length cv); refine (HSM2.out _ X2.out).mono ?_; rintro e w3 ⟨rfl, x3⟩; rw [HN2.out]; have X3 := Lib.hid (X2.out.trans x3); clear x3)
                | (go_at_call_of 10 (Value.slice au us.length cu); refine (HNW1.out _ X3.out HSU.out).mono ?_; intro e w4 h; (obtain ⟨x, rfl⟩ := new_no h HE1.out); have X4 := Lib.hid (X3.out.trans x); clear x h)
                | (go_at_call_of 10 (Value.slice av vs.length cv); refine (HNW2.out _ X4.out HSV.out).mono ?_; intro e w5 h; (obtain ⟨x, rfl⟩ := new_no h HE2.out); have X5 := Lib.hid (X4.out.trans x); clear x h))
              go_ret
              exact ⟨rfl, X5.out⟩
            | none =>
              have HE2 := Lib.hid hne2
              clear hne2
              go_enter Try.func3, Try.ntmps3
              go_wp2_with (first
                | (go_at_call 8; refine HA.out.mono ?_; rintro e w1 ⟨rfl, x1⟩; have X1 := Lib.hid x1; clear x1)
                | (go_at_call_of 9 (Value.slice au us.length cu); refine (HSM1.out _ X1.out).mono ?_; rintro e w2 ⟨rfl, x2⟩; rw [HN1.out]; have X2 := Lib.hid (X1.out.trans x2); clear x2)
                | (go_at_call_of 9 (Value.slice av vs.length cv); refine (HSM2.out _ X2.out).mono ?_; rintro e w3 ⟨rfl, x3⟩; rw [HN2.out]; have X3 := Lib.hid (X2.out.trans x3); clear x3)
                | (go_at_call_of 10 (Value.slice au us.length cu); refine (HNW1.out _ X3.out HSU.out).mono ?_; intro e w4 h; (obtain ⟨x, rfl⟩ := new_no h HE1.out); have X4 := Lib.hid (X3.out.trans x); clear x h)
                | (go_at_call_of 10 (Value.slice av vs.length cv); refine (HNW2.out _ X4.out HSV.out).mono ?_; intro e w5 h; (obtain ⟨x, g2, ub2, nu2, bb2, nb2, ov2, rfl, hg⟩ := new_ok h HE2.out); have X5 := Lib.hid (X4.out.trans x); have XX5 := Lib.hid x; have G2 := Lib.hid hg; clear x h hg))
              go_ret
              exact ⟨rfl, X5.out⟩
          | none =>
            have HE1 := Lib.hid hne1
            have HQ1 := Lib.hid (newErr_none hne1)
            clear hne1
            cases hne2 : newErr vs with
            | some cn2 =>
              obtain ⟨c2, n2⟩ := cn2
              have HE2 := Lib.hid hne2
              obtain ⟨hc1, hc2, hc3, hc4, hc5⟩ := newErr_ne hne2
              clear hne2
              go_enter Try.func3, Try.ntmps3
              go_wp2_with (first
                | (go_at_call 8; refine HA.out.mono ?_; rintro e w1 ⟨rfl, x1⟩; have X1 := Lib.hid x1; clear x1)
                | (go_at_call_of 9 (Value.slice au us.length cu); refine (HSM1.out _ X1.out).mono ?_; rintro e w2 ⟨rfl, x2⟩; rw [HN1.out]; have X2 := Lib.hid (X1.out.trans x2); clear x2)
                | (go_at_call_of 9 (Value.slice av vs.length cv); refine (HSM2.out _ X2.out).mono ?_; rintro e w3 ⟨rfl, x3⟩; rw [HN2.out]; have X3 := Lib.hid (X2.out.trans x3); clear x3)
                | (go_at_call_of 10 (Value.slice au us.length cu); refine (HNW1.out _ X3.out HSU.out).mono ?_; intro e w4 h; (obtain ⟨x, g1, ub1, nu1, bb1, nb1, ov1, rfl, hg⟩ := new_ok h HE1.out); have X4 := Lib.hid (X3.out.trans x); have XX4 := Lib.hid x; have G1 := Lib.hid hg; clear x h hg)
                | (go_at_call_of 10 (Value.slice av vs.length cv); refine (HNW2.out _ X4.out HSV.out).mono ?_; intro e w5 h; (obtain ⟨x, rfl⟩ := new_no h HE2.out); have X5 := Lib.hid (X4.out.trans x); clear x h))
              go_ret
              exact ⟨rfl, X5.out⟩
            | none =>
              have HE2 := Lib.hid hne2
              have HQ2 := Lib.hid (newErr_none hne2)
              clear hne2
              go_enter Try.func3, Try.ntmps3
              go_upto_region 9 with (first
                | (go_at_call 8; refine HA.out.mono ?_; rintro e w1 ⟨rfl, x1⟩; have X1 := Lib.hid x1; clear x1)
                | (go_at_call_of 9 (Value.slice au us.length cu); refine (HSM1.out _ X1.out).mono ?_; rintro e w2 ⟨rfl, x2⟩; rw [HN1.out]; have X2 := Lib.hid (X1.out.trans x2); clear x2)
                | (go_at_call_of 9 (Value.slice av vs.length cv); refine (HSM2.out _ X2.out).mono ?_; rintro e w3 ⟨rfl, x3⟩; rw [HN2.out]; have X3 := Lib.hid (X2.out.trans x3); clear x3)
                | (go_at_call_of 10 (Value.slice au us.length cu); refine (HNW1.out _ X3.out HSU.out).mono ?_; intro e w4 h; (obtain ⟨x, g1, ub1, nu1, bb1, nb1, ov1, rfl, hg⟩ := new_ok h HE1.out); have X4 := Lib.hid (X3.out.trans x); have XX4 := Lib.hid x; have G1 := Lib.hid hg; clear x h hg)
                | (go_at_call_of 10 (Value.slice av vs.length cv); refine (HNW2.out _ X4.out HSV.out).mono ?_; intro e w5 h; (obtain ⟨x, g2, ub2, nu2, bb2, nb2, ov2, rfl, hg⟩ := new_ok h HE2.out); have X5 := Lib.hid (X4.out.trans x); have XX5 := Lib.hid x; have G2 := Lib.hid hg; clear x h hg))
              have hRS := Restart_any (G1.out.ext XX5.out) G2.out HSU.out HSV.out HQ1.out.2.1 HQ2.out.2.1 (HR.out.ext X5.out) (HH.out.ext X5.out) hhs (by omega)
              have HRS := Lib.hid hRS
              clear hRS
              obtain ⟨ST, hST⟩ : ∃ ST, ST = lstop us hit run := ⟨_, rfl⟩
              obtain ⟨SA, hSA⟩ : ∃ SA, SA = startOf vs ST := ⟨_, rfl⟩
              have HST := Lib.hid hST
              have HSA := Lib.hid hSA
              clear hST hSA
              go_upto_region 10 with (go_at_call 11; refine HRS.out.mono ?_; rintro e w6 ⟨sv, tv, L, rfl, hL, o6, p6, x6⟩; rw [lstop_eq hL, ← HST.out] at o6 p6; rw [← HSA.out] at p6; (obtain ⟨as6, cs6, rfl, -⟩ := o6.row.form); (obtain ⟨at6, ct6, rfl, -⟩ := p6.row.form); have X6 := Lib.hid x6; have O6 := Lib.hid o6; have P6 := Lib.hid p6; clear x6 o6 p6 hL)
              obtain ⟨W6, hW6⟩ : ∃ W6 : World, W6 = w6.alloc (.cells #[.slice as6 ST.length cs6, .slice at6 SA.length ct6] 31) := ⟨_, rfl⟩
              have XW6 := Lib.hid (show Ext w6 W6 by rw [hW6]; exact (Ext.refl w6).alloc _)
              have BP := Lib.hid (show W6.heap[w6.heap.size]? = some (.cells #[.slice as6 ST.length cs6, .slice at6 SA.length ct6] 31 (0, 0)) by rw [hW6]; exact heap_alloc_new _ _)
              have X7 := Lib.hid (X5.out.trans (X6.out.trans XW6.out))
              rw [← hW6]
              clear hW6
              have HP1 := Lib.hid (plain_any (HU.out.ext X7.out) (by have := HSU.out.len; omega))
              go_upto_region 12 with (first
                | (go_at_call_of 12 (Value.slice au us.length cu); refine HP1.out.mono ?_; rintro e w8 ⟨v8, rfl, u8, z8, x8⟩; have X8 := Lib.hid x8; have U8 := Lib.hid u8; clear x8 u8 z8)
                | (go_at_call_of 12 (Value.slice av vs.length cv); refine (plain_any (HV.out.ext (X7.out.trans X8.out)) (by have := HSV.out.len; omega)).mono ?_; rintro e w9 ⟨v9, rfl, u9, z9, x9⟩; have X9 := Lib.hid x9; have U9 := Lib.hid u9; have Z9 := Lib.hid z9; clear x9 u9 z9)
                | (go_at_call 13; refine (RLean_any (U8.out.ext X9.out) (by have := HSU.out.len; omega) HQ1.out.2.1 (HH.out.ext (X7.out.trans (X8.out.trans X9.out)))).mono ?_; rintro e w10 ⟨v10, rfl, o10, x10⟩; have X10 := Lib.hid x10; have O10 := Lib.hid o10; clear x10 o10))
              obtain ⟨W11, hW11⟩ : ∃ W11 : World, W11 = (w10.alloc (.cells #[] 9)).alloc (.cells #[] 9) := ⟨_, rfl⟩
              have XW11 := Lib.hid (show Ext w10 W11 by rw [hW11]; exact ((Ext.refl w10).alloc _).alloc _)
              have hs11 : w10.heap.size + 2 ≤ W11.heap.size := by rw [hW11]; simp
              have HE1 := Lib.hid (show OwnS W11 w10.heap.size (.slice (some ⟨w10.heap.size, 0, none⟩) 0 0) [] by rw [hW11]; exact (OwnS.empty w10 w10.heap.size (Nat.le_refl _)).ext ((Ext.refl _).alloc _))
              have HE2 := Lib.hid (show OwnS W11 w10.heap.size (.slice (some ⟨w10.heap.size + 1, 0, none⟩) 0 0) [] by rw [hW11]; have := OwnS.empty (w10.alloc (.cells #[] 9)) w10.heap.size (by simp); rw [World.size_alloc] at this; exact this)
              go_upto_region 13 with fail
              rw [← hW11]
              clear hW11
              have HO1 := Lib.hid (ROrder_any (U8.out.ext (X9.out.trans (X10.out.trans XW11.out))) (by have := HSU.out.len; omega) HQ1.out.2.1)
              have HOL := Lib.hid (order_short HSU.out HQ1.out.2.1)
              have HST2 := Lib.hid (show ST = ((orderOf us).1.filter fun n => decide (n ∈ rlean us hit) && decide (n ∈ run)).reverse from HST.out)
              have HRLR := Lib.hid (show OwnS w10 w9.heap.size v10 (rlean us hit) from O10.out)
              generalize (orderOf us).1 = OL at *
              go_wp2_with (go_at_call 14; refine HO1.out.mono ?_; rintro e w12 ⟨v12, rfl, o12, x12⟩; have X12 := Lib.hid x12; have O12 := Lib.hid o12; (obtain ⟨a12, c12, rfl, -⟩ := o12.row.form); clear x12 o12)
              obtain ⟨S1, hS1⟩ : ∃ S1, S1 = fun n => decide (n ∈ rlean us hit) && decide (n ∈ run) := ⟨_, rfl⟩
              rw [← hS1] at HST2
              have HS1 := Lib.hid (show ∀ n, S1 n = (decide (n ∈ rlean us hit) && decide (n ∈ run)) from fun n => by rw [hS1])
              have HRX := Lib.hid (show Ext w w12 from X7.out.trans (X8.out.trans (X9.out.trans (X10.out.trans (XW11.out.trans X12.out)))))
              have HLW := Lib.hid (show SRow w12 v10 (rlean us hit) from HRLR.out.row.ext (XW11.out.trans X12.out))
              have HRW := Lib.hid (HR.out.ext HRX.out)
              have HE1b := Lib.hid (HE1.out.ext X12.out)
              have hOLl : OL.length ≤ 20 := HOL.out.2
              generalize rlean us hit = RLs at *
              obtain ⟨a10, c10, rfl, -⟩ := HLW.out.form
              clear hS1
              go_loopw [19, 83] (fun ov i wr => plRel1 w10 w12 OL S1 ov i wr) (fun _ i _ => OL.length - (intOf i).toNat)
              case atStart => exact ⟨0, Nat.zero_le _, rfl, HE1b, Lib.hid (Ext.refl w12), Lib.hid (by simp [Value.ownBlock])⟩
              case round =>
                obtain ⟨wq, rfl⟩ : ∃ x : World, x = wr := ⟨_, rfl⟩
                obtain ⟨k, hk, rfl, HO, HX, HOB⟩ := hrel
                by_cases hlt : k < OL.length
                · skip
                  obtain ⟨b, o, e, e1⟩ := (O12.out.row.ext HX.out).at k hlt
                  cases e
                  have HTK := Lib.hid (show ((OL.take (k + 1)).filter S1).reverse = (if S1 OL[k] = true then [OL[k]] else []) ++ ((OL.take k).filter S1).reverse by
                    rw [List.take_succ_eq_append_getElem hlt, List.filter_append, List.reverse_append]
                    by_cases hx : S1 OL[k] = true <;> simp [hx])
                  have HSX := Lib.hid (HS1.out OL[k])
                  have hfl : ((OL.take k).filter S1).reverse.length ≤ 20 := by
                    have := List.length_filter_le S1 (OL.take k)
                    rw [List.length_take] at this; rw [List.length_reverse]; omega
                  generalize OL[k] = x at *
                  generalize ((OL.take k).filter S1).reverse = out at *
                  obtain ⟨ao, co, rfl, hco, hco2⟩ := HO.out.row.form
                  have HH1 := Lib.hid (show Calls Try.prog 15 #[.slice a10 RLs.length c10, .string (ba x)] wq fun e w' => e = .returned (.bool (decide (x ∈ RLs))) ∧ wq = w' from lhas_bool (HLW.out.ext HX.out) rfl)
                  have HH2 := Lib.hid (show Calls Try.prog 15 #[.slice ar run.length cr, .string (ba x)] wq fun e w' => e = .returned (.bool (decide (x ∈ run))) ∧ wq = w' from lhas_bool (HRW.out.ext HX.out) rfl)
                  generalize decide (x ∈ RLs) = d1 at *
                  generalize decide (x ∈ run) = d2 at *
                  cases d1 with
                  | false =>
                    rw [HSX.out] at HTK
                    go_wp2_with (go_at_call_of 15 (Value.slice a10 RLs.length c10); refine HH1.out.mono ?_; rintro e w' ⟨rfl, rfl⟩)
                    go_roundw
                    case rel => exact ⟨k + 1, hlt, by go_num, Lib.hid (HTK.out ▸ HO.out), HX, HOB⟩
                    case measure => simp [intOf]; omega
                  | true =>
                    cases d2 with
                    | false =>
                      rw [HSX.out] at HTK
                      go_wp2_with (first
                        | (go_at_call_of 15 (Value.slice a10 RLs.length c10); refine HH1.out.mono ?_; rintro e w' ⟨rfl, rfl⟩)
                        | (go_at_call_of 15 (Value.slice ar run.length cr); refine HH2.out.mono ?_; rintro e w' ⟨rfl, rfl⟩))
                      go_roundw
                      case rel => exact ⟨k + 1, hlt, by go_num, Lib.hid (HTK.out ▸ HO.out), HX, HOB⟩
                      case measure => simp [intOf]; omega
                    | true =>
                      rw [HSX.out] at HTK
                      go_wp2_with (first
                        | (go_at_call_of 15 (Value.slice a10 RLs.length c10); refine HH1.out.mono ?_; rintro e w' ⟨rfl, rfl⟩)
                        | (go_at_call_of 15 (Value.slice ar run.length cr); refine HH2.out.mono ?_; rintro e w' ⟨rfl, rfl⟩)
                        | (refine wpList_append_str _ rfl (.tmp 96) (.tmp 97) 23 rfl Try.underlying23 wq.heap.size _ _ rfl rfl [x] out (OwnS.one wq _ (Nat.le_refl _) x) (HO.out.row.ext ((Ext.refl _).alloc _)) (by simp; omega) (by simp) ?_; intro v9 w9 o9 g9 n9; have XX9 := Lib.hid (((Ext.refl wq).alloc (.cells #[.string (ba x)] 9)).grow g9 fun q hq => by cases hq; exact Nat.le_refl _); have O9 := Lib.hid o9; clear o9 g9 n9))
                      go_roundw
                      case rel => exact ⟨k + 1, hlt, by go_num, Lib.hid (by rw [HTK.out]; exact O9.out.base (Nat.le_trans (XW11.out.trans X12.out).sz HX.out.sz)), Lib.hid (HX.out.trans XX9.out), Lib.hid (fun e => by have h1 := (O9.out.lt _ e).1; have h2 := HX.out.sz; have h3 := X12.out.sz; omega)⟩
                      case measure => simp [intOf]; omega
                · have HO2 := Lib.hid (show OwnS wq w10.heap.size u19 ST by
                    have := HO.out; rw [List.take_of_length_le (by omega), ← HST2.out] at this; exact this)
                  obtain ⟨aST, cST, rfl, -⟩ := HO2.out.row.form
                  have HO3 := Lib.hid (ROrder_any (U9.out.ext (X10.out.trans (XW11.out.trans (X12.out.trans HX.out)))) (by have := HSV.out.len; omega) HQ2.out.2.1)
                  have HOL2 := Lib.hid (order_short HSV.out HQ2.out.2.1)
                  have HSA2 := Lib.hid (show SA = (orderOf vs).1.filter fun x => decide (x ∈ ST) from HSA.out)
                  generalize (orderOf vs).1 = OL2 at *
                  go_wp2_with (go_at_call 14; refine HO3.out.mono ?_; rintro e w13 ⟨v13, rfl, o13, x13⟩; have X13 := Lib.hid x13; have O13 := Lib.hid o13; (obtain ⟨a13, c13, rfl, -⟩ := o13.row.form); clear x13 o13)
                  have hq := (XW11.out.trans (X12.out.trans HX.out))
                  have HFL := Lib.hid (show Flock w10 w13 (.slice (some ⟨w10.heap.size + 1, 0, none⟩) 0 0) [] [(.slice aST ST.length cST, ST), (.slice a13 OL2.length c13, OL2)] from
                    Flock.empty (hq.trans X13.out) (HE2.out.ext (X12.out.trans (HX.out.trans X13.out)))
                      (fun p hp => by
                        rcases List.mem_cons.1 hp with rfl | hp
                        · exact HO2.out.ext X13.out
                        · rw [List.mem_singleton] at hp; subst hp; exact O13.out.base hq.sz)
                      (fun p hp => by
                        rcases List.mem_cons.1 hp with rfl | hp
                        · exact HOB.out
                        · rw [List.mem_singleton] at hp; subst hp
                          exact fun e => by have h1 := (O13.out.lt _ e).1; have h2 := HX.out.sz; have h3 := X12.out.sz; omega))
                  clear hq
                  have hOL2l : OL2.length ≤ 20 := HOL2.out.2
                  clear HO HE1b HE1 HO1
                  go_loopw [20, 103] (fun ov i wr => plRel2 w10 OL2 (fun x => decide (x ∈ ST)) [(.slice aST ST.length cST, ST), (.slice a13 OL2.length c13, OL2)] ov i wr) (fun _ i _ => OL2.length - (intOf i).toNat)
                  case atStart => exact ⟨0, Nat.zero_le _, rfl, HFL⟩
                  case round =>
                    obtain ⟨wj, rfl⟩ : ∃ x : World, x = wr := ⟨_, rfl⟩
                    obtain ⟨j, hj, rfl, HF⟩ := hrel
                    by_cases hlt2 : j < OL2.length
                    · skip
                      obtain ⟨b, o, e, e1⟩ := (HF.out.n (.slice a13 OL2.length c13, OL2) (by simp)).row.at j hlt2
                      cases e
                      have HTK := Lib.hid (show (OL2.take (j + 1)).filter (fun x => decide (x ∈ ST)) = (OL2.take j).filter (fun x => decide (x ∈ ST)) ++ (if OL2[j] ∈ ST then [OL2[j]] else []) by
                        rw [List.take_succ_eq_append_getElem hlt2, List.filter_append]
                        by_cases hx : OL2[j] ∈ ST <;> simp [hx])
                      have hfl : ((OL2.take j).filter fun x => decide (x ∈ ST)).length ≤ 20 := by
                        have := List.length_filter_le (fun x => decide (x ∈ ST)) (OL2.take j)
                        rw [List.length_take] at this; omega
                      generalize OL2[j] = x at *
                      generalize (OL2.take j).filter (fun x => decide (x ∈ ST)) = out at *
                      obtain ⟨ao, co, rfl, hco, hco2⟩ := HF.out.i.row.form
                      have HSr := Lib.hid (HF.out.n (.slice aST ST.length cST, ST) (by simp)).row
                      by_cases hxr : x ∈ ST
                      · have HH1 := Lib.hid (lhas_bool HSr.out (show decide (x ∈ ST) = true from decide_eq_true hxr))
                        rw [if_pos hxr] at HTK
                        clear hxr
                        go_wp2_with (first
                          | (go_at_call 15; refine HH1.out.mono ?_; rintro e w' ⟨rfl, rfl⟩)
                          | (refine wpList_append_str _ rfl (.tmp 110) (.tmp 112) 23 rfl Try.underlying23 w10.heap.size _ _ rfl rfl out [x] (HF.out.i.ext ((Ext.refl _).alloc _)) (SRow.one _ _) (by simp; omega) (by have := HF.out.x.sz; simp; omega) ?_; intro v9 w9 o9 g9 n9; have F9 := Lib.hid (HF.out.push ((Ext.refl _).alloc _) o9 g9 n9); clear o9 g9 n9))
                        go_roundw
                        case rel => exact ⟨j + 1, hlt2, by go_num, Lib.hid (HTK.out ▸ F9.out)⟩
                        case measure => simp [intOf]; omega
                      · have HH1 := Lib.hid (lhas_bool HSr.out (show decide (x ∈ ST) = false from decide_eq_false hxr))
                        rw [if_neg hxr, List.append_nil] at HTK
                        clear hxr
                        go_wp2_with (go_at_call 15; refine HH1.out.mono ?_; rintro e w' ⟨rfl, rfl⟩)
                        go_roundw
                        case rel => exact ⟨j + 1, hlt2, by go_num, Lib.hid (HTK.out ▸ HF.out)⟩
                        case measure => simp [intOf]; omega
                    · have HF2 := Lib.hid (show Flock w10 wj u20 SA [(.slice aST ST.length cST, ST), (.slice a13 OL2.length c13, OL2)] by
                        have := HF.out; rw [List.take_of_length_le (by omega), ← HSA2.out] at this; exact this)
                      obtain ⟨aSA, cSA, rfl, -⟩ := HF2.out.i.row.form
                      have XJ := Lib.hid (show Ext w10 wj from HF2.out.x)
                      have HSr := Lib.hid (show OwnS wj w10.heap.size (.slice aST ST.length cST) ST from HF2.out.n (.slice aST ST.length cST, ST) (by simp))
                      have HSs := Lib.hid (show OwnS wj w10.heap.size (.slice aSA SA.length cSA) SA from HF2.out.i)
                      obtain ⟨W14, hW14⟩ : ∃ W14 : World, W14 = wj.alloc (.cells #[] 9) := ⟨_, rfl⟩
                      have XW14 := Lib.hid (show Ext wj W14 by rw [hW14]; exact (Ext.refl wj).alloc _)
                      have hs14 : wj.heap.size + 1 ≤ W14.heap.size := by rw [hW14]; simp
                      have HE4 := Lib.hid (show OwnS W14 wj.heap.size (.slice (some ⟨wj.heap.size, 0, none⟩) 0 0) [] by rw [hW14]; exact OwnS.empty wj wj.heap.size (Nat.le_refl _))
                      have XA := Lib.hid (X7.out.trans (X8.out.trans (X9.out.trans (X10.out.trans (XJ.out.trans XW14.out)))))
                      have HNM := Lib.hid (named_any (HR.out.ext XA.out) (by omega))
                      go_upto_region 26 with fail
                      rw [← hW14]
                      clear hW14 HF HF2 HO2 HO3 HFL
                      have HVB := Lib.hid (U9.out.ext (X10.out.trans (XJ.out.trans XW14.out)))
                      have HVJ0 := Lib.hid (U9.out.ext (X10.out.trans XJ.out))
                      have XAJ := Lib.hid (X7.out.trans (X8.out.trans (X9.out.trans (X10.out.trans XJ.out))))
                      obtain ⟨ab9, cb9, rfl, -, -, -⟩ := U9.out
                      go_wp2_with fail
                      refine HNM.out.mono ?_
                      rintro e w15 ⟨v15, rfl, u15⟩
                      have U15 := Lib.hid u15
                      obtain ⟨a15, c15, rfl, -, -⟩ := u15.shape
                      clear u15
                      rw [List.length_map] at U15 ⊢
                      have hml : (run.map nameU).length = run.length := List.length_map _
                      have HNN := Lib.hid (show lgone vs run (namesOf (run.map nameU ++ vs)) = sortS (goneP vs run) from lgone_eq)
                      have hvl := HSV.out.len
                      generalize run.map nameU = nus at *
                      go_wp2_with (refine wpList_push_units rfl (.tmp 117) (.tmp 118) rfl U15.out U15.out.x.sz HVB.out Z9.out rfl rfl (by omega) ?_; intro v16 w16 u16; have U16 := Lib.hid u16; (obtain ⟨a16, c16, rfl, -, -⟩ := u16.shape); clear u16)
                      have hnvl : (nus ++ vs).length ≤ 100 := by rw [List.length_append]; omega
                      have hrn := RNames_any U16.out.units.1 (by omega)
                      rw [List.length_append, hml] at hrn
                      have HRN := Lib.hid hrn
                      have hNLl : (namesOf (nus ++ vs)).length ≤ 100 := by unfold namesOf; rw [(sortS_perm _).length_eq, List.length_map]; exact hnvl
                      have XU16 := Lib.hid (show Ext W14 w16 from U16.out.x)
                      clear hrn hnvl U16
                      generalize namesOf (nus ++ vs) = NL at *
                      refine HRN.out.mono ?_
                      rintro e w17 ⟨v17, rfl, o17, x17⟩
                      have X17 := Lib.hid x17
                      have O17 := Lib.hid o17
                      obtain ⟨a17, c17, rfl, -⟩ := o17.row.form
                      have XB := Lib.hid (show Ext W14 w17 from XU16.out.trans x17)
                      have HFL3 := Lib.hid (show Flock wj w17 (.slice (some ⟨wj.heap.size, 0, none⟩) 0 0) [] [(.slice a17 NL.length c17, NL)] from
                        Flock.empty (XW14.out.trans XB.out) (HE4.out.ext XB.out)
                          (fun p hp => by
                            rw [List.mem_singleton] at hp; subst hp; exact o17.base (Nat.le_trans XW14.out.sz XU16.out.sz))
                          (fun p hp => by
                            rw [List.mem_singleton] at hp; subst hp
                            exact fun e => by have h1 := (o17.lt _ e).1; have h2 := XU16.out.sz; omega))
                      clear x17 o17 HRN HNM HE4 HNW1 HNW2 HSM1 HSM2
                      have HVJ := Lib.hid (show UnitsIn wj (.slice ab9 vs.length cb9) vs from HVJ0.out)
                      have HRJ := Lib.hid (show SRow wj (.slice ar run.length cr) run from HR.out.ext XAJ.out)
                      go_upto_region 27 with fail
                      go_loopw [25, 122] (fun ov i wr => plRel3 wj vs run NL (.slice a17 NL.length c17) ov i wr) (fun _ i _ => NL.length - (intOf i).toNat)
                      case atStart => exact ⟨0, Nat.zero_le _, rfl, HFL3⟩
                      case round =>
                        obtain ⟨wg, rfl⟩ : ∃ x : World, x = wr := ⟨_, rfl⟩
                        obtain ⟨m, hm, rfl, HF3⟩ := hrel
                        by_cases hlt3 : m < NL.length
                        · obtain ⟨b, o, e, e1⟩ := (HF3.out.n (.slice a17 NL.length c17, NL) (by simp)).row.at m hlt3
                          cases e
                          have HTK := Lib.hid (show lgone vs run (NL.take (m + 1)) = gstep vs run (lgone vs run (NL.take m)) NL[m] by
                            rw [List.take_succ_eq_append_getElem hlt3]; unfold lgone; rw [List.foldl_append]; rfl)
                          have hgl : (lgone vs run (NL.take m)).length ≤ 100 := by
                            have := lgone_len vs run (NL.take m)
                            rw [List.length_take] at this; omega
                          generalize NL[m] = x at *
                          generalize lgone vs run (NL.take m) = out at *
                          obtain ⟨ao, co, rfl, hco, hco2⟩ := HF3.out.i.row.form
                          cases hd1 : decide (x ∈ run) with
                          | false =>
                            have HH1 := Lib.hid (lhas_bool (HRJ.out.ext HF3.out.x) hd1)
                            have HT2 := Lib.hid (show gstep vs run out x = out by unfold gstep; rw [hd1]; rfl)
                            clear hd1
                            go_wp2_with (go_at_call_of 15 (Value.slice ar run.length cr); refine HH1.out.mono ?_; rintro e w' ⟨rfl, rfl⟩)
                            go_roundw
                            case rel => exact ⟨m + 1, hlt3, by go_num, Lib.hid (by rw [HTK.out, HT2.out]; exact HF3.out)⟩
                            case measure => simp [intOf]; omega
                          | true =>
                            have HH1 := Lib.hid (lhas_bool (HRJ.out.ext HF3.out.x) hd1)
                            have HH2 := Lib.hid (Find_any (HVJ.out.ext HF3.out.x) x)
                            cases hf : findP vs x with
                            | some z =>
                              have HT2 := Lib.hid (show gstep vs run out x = out by
                                unfold gstep there; obtain ⟨hz, -, hfz⟩ := findP_some hf; rw [hfz, hd1]; rfl)
                              rw [hf] at HH2
                              have HH3 : Hid (Calls Try.prog 18 #[.slice ab9 vs.length cb9, .string (ba x)] wg fun e w' => e = .returned (.int .i64 (z : Int)) ∧ wg = w') := HH2
                              clear hd1 hf HH2
                              go_wp2_with (first
                                | (go_at_call_of 15 (Value.slice ar run.length cr); refine HH1.out.mono ?_; rintro e w' ⟨rfl, rfl⟩)
                                | (go_at_call 18; refine HH3.out.mono ?_; rintro e w' ⟨rfl, rfl⟩))
                              go_roundw
                              case rel => exact ⟨m + 1, hlt3, by go_num, Lib.hid (by rw [HTK.out, HT2.out]; exact HF3.out)⟩
                              case measure => simp [intOf]; omega
                            | none =>
                              rw [hf] at HH2
                              have HH3 : Hid (Calls Try.prog 18 #[.slice ab9 vs.length cb9, .string (ba x)] wg fun e w' => e = .returned (.int .i64 (-1)) ∧ wg = w') := HH2
                              have hth : there vs x = false := by unfold there; rw [findP_none hf]; rfl
                              cases hd3 : decide (x ∈ out) with
                              | true =>
                                have HT2 := Lib.hid (show gstep vs run out x = out by unfold gstep; rw [hd1, hth, hd3]; rfl)
                                have HH4 := Lib.hid (lhas_bool HF3.out.i.row hd3)
                                clear hd1 hf HH2 hth hd3
                                go_wp2_with (first
                                  | (go_at_call_of 15 (Value.slice ar run.length cr); refine HH1.out.mono ?_; rintro e w' ⟨rfl, rfl⟩)
                                  | (go_at_call 18; refine HH3.out.mono ?_; rintro e w' ⟨rfl, rfl⟩)
                                  | (go_at_call_of 15 (Value.slice ao out.length co); refine HH4.out.mono ?_; rintro e w' ⟨rfl, rfl⟩))
                                go_roundw
                                case rel => exact ⟨m + 1, hlt3, by go_num, Lib.hid (by rw [HTK.out, HT2.out]; exact HF3.out)⟩
                                case measure => simp [intOf]; omega
                              | false =>
                                have HT2 := Lib.hid (show gstep vs run out x = out ++ [x] by unfold gstep; rw [hd1, hth, hd3]; rfl)
                                have HH4 := Lib.hid (lhas_bool HF3.out.i.row hd3)
                                clear hd1 hf HH2 hth hd3
                                go_wp2_with (first
                                  | (go_at_call_of 15 (Value.slice ar run.length cr); refine HH1.out.mono ?_; rintro e w' ⟨rfl, rfl⟩)
                                  | (go_at_call 18; refine HH3.out.mono ?_; rintro e w' ⟨rfl, rfl⟩)
                                  | (go_at_call_of 15 (Value.slice ao out.length co); refine HH4.out.mono ?_; rintro e w' ⟨rfl, rfl⟩)
                                  | (refine wpList_append_str _ rfl (.tmp 141) (.tmp 143) 23 rfl Try.underlying23 wj.heap.size _ _ rfl rfl out [x] (HF3.out.i.ext ((Ext.refl _).alloc _)) (SRow.one _ _) (by simp; omega) (by have := HF3.out.x.sz; simp; omega) ?_; intro v9 w9 o9 g9 n9; have F9 := Lib.hid (HF3.out.push ((Ext.refl _).alloc _) o9 g9 n9); clear o9 g9 n9))
                                go_roundw
                                case rel => exact ⟨m + 1, hlt3, by go_num, Lib.hid (by rw [HTK.out, HT2.out]; exact F9.out)⟩
                                case measure => simp [intOf]; omega
                        · have HF4 := Lib.hid (show Flock wj wg u25 (lgone vs run NL) [(.slice a17 NL.length c17, NL)] by
                            have := HF3.out; rw [List.take_of_length_le (by omega)] at this; exact this)
                          obtain ⟨ag, cg, rfl, -⟩ := HF4.out.i.row.form
                          have XG := Lib.hid (show Ext W6 wg from X8.out.trans (X9.out.trans (X10.out.trans (XJ.out.trans HF4.out.x))))
                          have hb6 := XG.out.get BP.out
                          have kc0 : wg.cell? ⟨w6.heap.size, 0, none⟩ = some (.slice as6 ST.length cs6) := by rw [cell_blk hb6]; rfl
                          have kc1 : wg.cell? ⟨w6.heap.size, 1, none⟩ = some (.slice at6 SA.length ct6) := by rw [cell_blk hb6]; rfl
                          have XT := Lib.hid (X7.out.trans XG.out)
                          have HL1 := Lib.hid (lsame_true (O6.out.row.ext (XW6.out.trans XG.out)) (HSr.out.row.ext HF4.out.x))
                          have HL2 := Lib.hid (lsame_true (P6.out.row.ext (XW6.out.trans XG.out)) (HSs.out.row.ext HF4.out.x))
                          have HGO := Lib.hid (show Calls Try.prog 20 #[.pointer (some ⟨g2, 0, none⟩), .slice ar run.length cr] wg (fun e w' => ∃ v, e = .returned v ∧ OwnS w' wg.heap.size v (sortS (goneP vs run)) ∧ Ext wg w') from Gone_any (G2.out.ext (X6.out.trans (XW6.out.trans XG.out))) HSV.out (HR.out.ext XT.out) hrs (by omega))
                          have HGR := Lib.hid (show SRow wg (.slice ag (lgone vs run NL).length cg) (lgone vs run NL) from HF4.out.i.row)
                          rw [HNN.out] at HGR ⊢
                          clear hb6 HF4
                          generalize sortS (goneP vs run) = GL at *
                          go_wp2_with (first
                            | (go_at_call_of 19 (Value.slice as6 ST.length cs6); refine HL1.out.mono ?_; rintro e w' ⟨rfl, rfl⟩)
                            | (go_at_call_of 19 (Value.slice at6 SA.length ct6); refine HL2.out.mono ?_; rintro e w' ⟨rfl, rfl⟩)
                            | (go_at_call 20; refine HGO.out.mono ?_; rintro e w20 ⟨v20, rfl, o20, x20⟩; have X20 := Lib.hid x20; have HL3 := Lib.hid (lsame_true o20.row (HGR.out.ext x20)); (obtain ⟨a20, c20, rfl, -⟩ := o20.row.form); clear x20 o20)
                            | (go_at_call_of 19 (Value.slice a20 GL.length c20); refine HL3.out.mono ?_; rintro e w' ⟨rfl, rfl⟩))
                          go_ret
                          exact ⟨rfl, XT.out.trans X20.out⟩
end Go.Proofs.Ytobdjfibaemmhaa
