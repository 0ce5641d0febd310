/- GraphAdds: the walk. -/
import Derived.Test.YtobdjfibaemmhaaGr
import Derived.Test.YtobdjfibaemmhaaGs
namespace Go.Proofs.Ytobdjfibaemmhaa
open Go.RowKit Go.Maps Go.Lib

def lists5 (u : Un) : List (List Str) := [u.after, u.before, u.requires, u.partOf, [u.name]]
theorem namesM_eq (u : Un) : namesM u = (lists5 u).any fun l => decide ([109] ∈ l) := by
  unfold namesM lists5
  simp only [List.any_cons, List.any_nil, Bool.or_false, Bool.or_assoc]
  congr 4
  rw [Bool.eq_iff_iff]
  simp [eq_comm]
def addsRel1 (w : World) (us : List Un) (i : Value) (wr : World) : Prop := ∃ k : Nat, k ≤ us.length ∧ i = .int .i64 k ∧ Hid (Ext w wr) ∧ Hid (∀ u ∈ us.take k, namesM u = false)
def addsRel2 (w : World) (ls : List (List Str)) (i : Value) (wr : World) : Prop := ∃ k : Nat, k ≤ 5 ∧ i = .int .i64 k ∧ Hid (w = wr) ∧ Hid (∀ l ∈ ls.take k, [109] ∉ l)
def addsRel3 (w : World) (us : List Un) (bv i : Value) (wr : World) : Prop := ∃ (k : Nat), k ≤ us.length ∧ i = .int .i64 k ∧ Hid (Ext w wr) ∧ Hid (UnitsIn wr bv (us.take k).reverse) ∧ Hid (NilOk bv)
theorem rows5 {w W : World} {v : Value} {u : Un} (h : UnitIs w v u) (x : Ext w W) {p0 p1 p2 p3 p4 p5 : Option Addr} {q0 q1 q2 q3 q4 q5 r0 r1 r2 r3 r4 r5 : Nat} (e : v = .agg #[.string (ba u.name), .slice p0 q0 r0, .slice p1 q1 r1, .slice p2 q2 r2, .slice p3 q3 r3, .slice p4 q4 r4, .slice p5 q5 r5, .int .i64 u.retry])
    {b : Nat} {t : TypeId} {v6 : Value} (hb : W.heap[b]? = some (.cells #[.slice p1 q1 r1, .slice p2 q2 r2, .slice p3 q3 r3, .slice p5 q5 r5, v6] t (0, 0))) (h6 : SRow W v6 [u.name]) : SRows W (.slice (some ⟨b, 0, none⟩) 5 5) (lists5 u) := by
  obtain ⟨a0, n0, c0, a1, n1, c1, a2, n2, c2, a3, n3, c3, a4, n4, c4, a5, n5, c5, e2, g0, g1, g2, g3, g4, g5⟩ := h.shape
  rw [e] at e2
  cases e2
  refine ⟨_, _, rfl, by simp [lists5], fun i hi => ?_⟩
  match i, hi with
  | 0, _ => exact ⟨_, _, _, rfl, by rw [Nat.zero_add, cell_blk hb]; rfl, g1.ext x⟩
  | 1, _ => exact ⟨_, _, _, rfl, by rw [Nat.zero_add, cell_blk hb]; rfl, g2.ext x⟩
  | 2, _ => exact ⟨_, _, _, rfl, by rw [Nat.zero_add, cell_blk hb]; rfl, g3.ext x⟩
  | 3, _ => exact ⟨_, _, _, rfl, by rw [Nat.zero_add, cell_blk hb]; rfl, g5.ext x⟩
  | 4, _ => exact ⟨_, _, _, rfl, by rw [Nat.zero_add, cell_blk hb]; rfl, h6⟩
theorem small_more {us : List Un} (h : SmallU us) (hl : us.length < 16) : SmallU (um :: us) := by
  refine ⟨by simp; omega, fun u hu => ?_, fun u hu l hl' => ?_⟩
  · rcases List.mem_cons.1 hu with rfl | hu
    · decide
    · exact h.name u hu
  · rcases List.mem_cons.1 hu with rfl | hu
    · simp only [listsOf, um, List.mem_cons, List.not_mem_nil, or_false, or_self] at hl'
      subst hl'
      exact ⟨by simp, fun s hs => by cases hs⟩
    · exact h.lists u hu l hl'
theorem small_rev {us : List Un} (h : SmallU us) : SmallU us.reverse :=
  ⟨by simp; exact h.len, fun u hu => h.name u (by simpa using hu), fun u hu => h.lists u (by simpa using hu)⟩
theorem um_is (w : World) : UnitIs w (.agg #[.string ⟨#[109]⟩, .slice none 0 0, .slice none 0 0, .slice none 0 0, .slice none 0 0, .slice none 0 0, .slice none 0 0, .int .i64 0]) um :=
  unit_lit (u := um) _ _ _ _ _ _ (SRow.nil w) (SRow.nil w) (SRow.nil w) (SRow.nil w) (SRow.nil w) (SRow.nil w)
theorem names_call {w : World} {g ub nu bb nb : Nat} {ov : Value} {us : List Un} {bh : Beh} {order : List Str} (h : GraphAt w g ub nu bb nb ov us bh order) (hd : (us.map Un.name).Nodup) (hl : us.length ≤ 20) :
    Calls Try.prog 21 #[.pointer (some ⟨g, 0, none⟩)] w fun e w' => ∃ v, e = .returned v ∧ OwnS w' w.heap.size v (namesOf us) ∧ Ext w w' := Names_any h.cells h.units hd hl
theorem order_call {w : World} {g ub nu bb nb : Nat} {ov nv : Value} {us : List Un} {bh : Beh} {names o : List Str} (h : GraphAt w g ub nu bb nb ov us bh (orderOf us).1) (hn : SRow w nv names) (hs : SmallU us) (hd : (us.map Un.name).Nodup) (ho : (orderOf us).1.filter (fun x => decide (x ∈ names)) = o) :
    Calls Try.prog 28 #[.pointer (some ⟨g, 0, none⟩), nv] w fun e w' => ∃ v, e = .returned v ∧ OwnS w' w.heap.size v o ∧ Ext w w' := by
  subst ho
  have := order_short hs hd
  exact Order_any h hn this.1 (by omega)
theorem order_self {us : List Un} (hd : (us.map Un.name).Nodup) : (orderOf us).1.filter (fun x => decide (x ∈ namesOf us)) = (orderOf us).1 :=
  List.filter_eq_self.2 fun x hx => by rw [decide_eq_true_iff]; exact sortS_mem.2 (order_mem hd hx)
structure NewC (w : World) (us : List Un) (c : Int) (po : Option Addr) (w' : World) : Prop where
  x : Ext w w'
  ok : c = 0 → newErr us = none ∧ ∃ g ub nu bb nb ov, po = some ⟨g, 0, none⟩ ∧ GraphAt w' g ub nu bb nb ov us (behP us) (orderOf us).1
  no : c ≠ 0 → po = none
theorem new_c {w w' : World} {us : List Un} {e : Ending} {c : Int} (h : newPost w us e w') (hc : codeOf us = c) : ∃ po s, e = .returned (.tuple #[.pointer po, .int .i64 c, .string s]) ∧ NewC w us c po w' := by
  cases hn : newErr us with
  | none =>
    obtain ⟨x, g, ub, nu, bb, nb, ov, rfl, hg⟩ := new_ok h hn
    rw [code_none hn] at hc
    subst hc
    exact ⟨_, _, rfl, x, fun _ => ⟨hn, g, ub, nu, bb, nb, ov, rfl, hg⟩, fun h => absurd rfl h⟩
  | some cn =>
    obtain ⟨c', n⟩ := cn
    obtain ⟨x, rfl⟩ := new_no h hn
    rw [code_some hn] at hc
    subst hc
    have := err_range hn
    exact ⟨_, _, rfl, x, fun h => by omega, fun _ => rfl⟩
set_option maxRecDepth 100000 in
set_option maxHeartbeats 8000000 in
theorem adds_any {w : World} {v : Value} {us : List Un} (hu : UnitsIn w v us) (hnz : NilOk v) (n : Int) : Calls Try.prog 6 #[v, .int .i64 n] w fun e w' => e = .returned (.bool true) ∧ Ext w w' := by
  have HA := Lib.hid (alive14 w)
  have HU := Lib.hid hu
  have HNZ := Lib.hid hnz
  have HSM := Lib.hid (fun W (x : Ext w W) => Small_any (HU.out.ext x))
  have HNW := Lib.hid (show ∀ W (u : Value) (l : List Un), UnitsIn W u l → SmallU l → Calls Try.prog 10 #[u] W (newPost W l) from fun W u l h hs => New_any h hs)
  have HH := Lib.hid (show ∀ (W : World) (v : Value) (l : List Str) (s : Str), SRow W v l → Calls Try.prog 26 #[v, .string (ba s)] W fun e w' => e = .returned (.bool (decide (s ∈ l))) ∧ W = w' from fun W v l s h => has_any h s)
  obtain ⟨av, cv, rfl, hcap, hcap2, -⟩ := hu
  clear hnz
  cases hsm : smallB us with
  | false =>
    have HN := Lib.hid (smallN_no hsm)
    clear hsm
    go_enter Try.func6, Try.ntmps6
    go_wp2_with (first
      | (go_at_call 23; refine HA.out.mono ?_; rintro e w1 ⟨rfl, x1⟩; have X1 := Lib.hid x1; clear x1)
      | (go_at_call 9; refine (HSM.out _ X1.out).mono ?_; rintro e w2 ⟨rfl, x2⟩; rw [HN.out]; have X2 := Lib.hid x2; clear x2))
    go_ret
    exact ⟨rfl, X1.out.trans X2.out⟩
  | true =>
    have HN := Lib.hid (smallN_yes hsm)
    have HSU := Lib.hid (smallB_u hsm)
    clear hsm
    by_cases hl : 16 ≤ us.length
    · go_enter Try.func6, Try.ntmps6
      go_wp2_with (first
        | (go_at_call 23; refine HA.out.mono ?_; rintro e w1 ⟨rfl, x1⟩; have X1 := Lib.hid x1; clear x1)
        | (go_at_call 9; refine (HSM.out _ X1.out).mono ?_; rintro e w2 ⟨rfl, x2⟩; rw [HN.out]; have X2 := Lib.hid x2; clear x2))
      go_ret
      exact ⟨rfl, X1.out.trans X2.out⟩
    · have hl15 : us.length ≤ 15 := by omega
      go_enter Try.func6, Try.ntmps6
      go_wp2_with (first
        | (go_at_call 23; refine HA.out.mono ?_; rintro e w1 ⟨rfl, x1⟩; have X1 := Lib.hid x1; clear x1)
        | (go_at_call 9; refine (HSM.out _ X1.out).mono ?_; rintro e w2 ⟨rfl, x2⟩; rw [HN.out]; have X2 := Lib.hid (X1.out.trans x2); clear x2))
      go_loopw [34] (fun i wr => addsRel1 w2 us i wr) (fun i _ => us.length - (intOf i).toNat)
      case atStart => exact ⟨0, Nat.zero_le _, rfl, Ext.refl w2, Lib.hid (by simp)⟩
      case round =>
        obtain ⟨wl, rfl⟩ : ∃ x : World, x = wr := ⟨_, rfl⟩
        obtain ⟨k, hk, rfl, HX, HK⟩ := hrel
        by_cases hlt : k < us.length
        · obtain ⟨b, o, R, rfl, hui, hrg⟩ := (HU.out.ext (X2.out.trans HX.out)).at k hlt
          obtain ⟨a0, n0, c0, a1, n1, c1, a2, n2, c2, a3, n3, c3, a4, n4, c4, a5, n5, c5, e, -⟩ := hui.shape
          cases e
          have HTK := Lib.hid (List.take_succ_eq_append_getElem hlt)
          have HU2 := Lib.hid hui
          clear hui
          generalize us[k] = u at *
          go_upto_region 9 with (refine wpList_load_mid rfl 45 (.tmp 36) rfl b (o + k * 8) rfl _ _ hrg Try.underlying45 rfl rfl ?_)
          obtain ⟨W7, hW⟩ : ∃ W7 : World, W7 = ((wl.alloc (.cells #[Value.string (ba u.name), Value.slice a0 n0 c0, Value.slice a1 n1 c1, Value.slice a2 n2 c2, Value.slice a3 n3 c3, Value.slice a4 n4 c4, Value.slice a5 n5 c5, Value.int IntKind.i64 u.retry] 45)).alloc (.cells #[Value.string (ba u.name)] 9)).alloc (.cells #[Value.slice a1 n1 c1, Value.slice a2 n2 c2, Value.slice a3 n3 c3, Value.slice a5 n5 c5, Value.slice (some { block := wl.heap.size + 1, off := 0 }) 1 1] 23) := ⟨_, rfl⟩
          have xW : Ext wl W7 := by rw [hW]; exact (((Ext.refl wl).alloc _).alloc _).alloc _
          have hs6 : SRow W7 (.slice (some ⟨wl.heap.size + 1, 0, none⟩) 1 1) [u.name] := by
            rw [hW]
            have := SRow.one (wl.alloc (.cells #[Value.string (ba u.name), Value.slice a0 n0 c0, Value.slice a1 n1 c1, Value.slice a2 n2 c2, Value.slice a3 n3 c3, Value.slice a4 n4 c4, Value.slice a5 n5 c5, Value.int IntKind.i64 u.retry] 45)) u.name
            rw [World.size_alloc] at this
            exact this.alloc _
          have RS := Lib.hid (rows5 HU2.out xW rfl (by rw [hW]; exact three_c wl _ _ _) hs6)
          have XW := Lib.hid xW
          rw [← hW]
          clear hW xW hs6
          go_loopw [51] (fun i wr2 => addsRel2 W7 (lists5 u) i wr2) (fun i _ => 5 - (intOf i).toNat)
          case atStart => exact ⟨0, Nat.zero_le _, rfl, rfl, Lib.hid (by simp)⟩
          case round =>
            obtain ⟨j, hj, rfl, HW, HJ⟩ := hrel
            obtain rfl := HW.out
            by_cases hlt2 : j < 5
            · have hjl : j < (lists5 u).length := by simp [lists5]; exact hlt2
              obtain ⟨b9, o9, a9, c9, e9, f9, g9⟩ := RS.out.at j hjl
              cases e9
              rw [Nat.zero_add] at f9
              have HML := Lib.hid (List.getElem_mem hjl)
              have HTJ := Lib.hid (List.take_succ_eq_append_getElem hjl)
              generalize (lists5 u)[j] = l at *
              have HHl := HH.out W7 _ _ [109] g9
              have hlm : l.length ≤ 9223372036854775807 := by obtain ⟨_, _, e, h1, h2⟩ := g9.form; cases e; omega
              clear g9
              by_cases hin : [109] ∈ l
              · have hd : decide ([109] ∈ l) = true := by simpa using hin
                rw [hd] at HHl
                have HHl := Lib.hid HHl
                clear hin hd
                go_wp2_with (go_at_call 26; refine HHl.out.mono ?_; rintro e w' ⟨rfl, rfl⟩)
                go_ret
                exact ⟨rfl, ((X2.out.trans HX.out).trans XW.out)⟩
              · have hd : decide ([109] ∈ l) = false := by simpa using hin
                rw [hd] at HHl
                have HHl := Lib.hid HHl
                have HIN := Lib.hid hin
                clear hin hd
                go_wp2_with (go_at_call 26; refine HHl.out.mono ?_; rintro e w' ⟨rfl, rfl⟩)
                go_roundw
                case rel => exact ⟨j + 1, by omega, by go_num, rfl, Lib.hid (fun y hy => by
                  rw [HTJ.out] at hy
                  rcases List.mem_append.1 hy with hy | hy
                  · exact HJ.out y hy
                  · rw [List.mem_singleton] at hy; rw [hy]; exact HIN.out)⟩
                case measure => simp [intOf]; omega
            · go_wp2_with fail
              go_roundw
              case rel => exact ⟨k + 1, by omega, by go_num, Lib.hid (HX.out.trans XW.out), Lib.hid (fun y hy => by
                rw [HTK.out] at hy
                rcases List.mem_append.1 hy with hy | hy
                · exact HK.out y hy
                · rw [List.mem_singleton] at hy
                  rw [hy, namesM_eq, List.any_eq_false]
                  have h1 := HJ.out
                  rw [List.take_of_length_le (by simp [lists5]; omega)] at h1
                  exact fun l hl => by simpa using h1 l hl)⟩
              case measure => simp [intOf]; omega
        · have HNM := Lib.hid (show ∀ u ∈ us, namesM u = false from by
            have := HK.out
            rw [List.take_of_length_le (by omega)] at this
            exact this)
          have X0 := Lib.hid (X2.out.trans HX.out)
          obtain ⟨c, hcd⟩ : ∃ c, codeOf us = c := ⟨_, rfl⟩
          have HC1 := Lib.hid hcd
          have HC2 := Lib.hid ((code_more HNM.out (by omega)).trans hcd)
          have HC3 := Lib.hid ((code_perm (List.reverse_perm us)).trans hcd)
          clear hcd
          have HSM2 := Lib.hid (small_more HSU.out (by omega))
          have HSR := Lib.hid (small_rev HSU.out)
          go_wp2_with fail
          refine (HNW.out _ _ us (HU.out.ext X0.out) HSU.out).mono ?_
          intro e w3 h3
          obtain ⟨po, s, rfl, n1⟩ := new_c h3 HC1.out
          have N1 := Lib.hid n1
          have X3 := Lib.hid (X0.out.trans n1.x)
          clear h3 n1
          go_wp2_with (first
            | (refine wpList_cons_units _ rfl (.tmp 66) (.tmp 67) rfl _ um _ us rfl rfl (um_is _) (HU.out.ext X3.out) HNZ.out (by omega) ?_; intro v4 w4 u4 _ x4; have U4 := Lib.hid u4; have X4 := Lib.hid x4; clear u4 x4)
            | (go_at_call 10; refine (HNW.out _ _ (um :: us) U4.out HSM2.out).mono ?_; intro e w5 h5; (obtain ⟨po2, s2, rfl, n2⟩ := new_c h5 HC2.out); have N2 := Lib.hid n2; have X5 := Lib.hid (X4.out.trans n2.x); clear h5 n2))
          have X5a := Lib.hid (X3.out.trans X5.out)
          obtain ⟨W6, hW6⟩ : ∃ W6 : World, W6 = w5.alloc (.cells #[] 45) := ⟨_, rfl⟩
          have X6 := Lib.hid (show Ext w5 W6 by rw [hW6]; exact (Ext.refl w5).alloc _)
          rw [← hW6]
          clear hW6
          go_loopw [16, 78] (fun bv i wr => addsRel3 W6 us bv i wr) (fun _ i _ => us.length - (intOf i).toNat)
          case atStart => exact ⟨0, Nat.zero_le _, rfl, Ext.refl W6, Lib.hid ⟨_, _, rfl, by simp, by simp, fun i hi => absurd hi (by simp)⟩, Lib.hid (fun n c e => by cases e)⟩
          case round =>
            obtain ⟨wq, rfl⟩ : ∃ x : World, x = wr := ⟨_, rfl⟩
            obtain ⟨j, hj, rfl, HX7, HB, HNB⟩ := hrel
            have X7 := Lib.hid (X5a.out.trans (X6.out.trans HX7.out))
            by_cases hlt7 : j < us.length
            · obtain ⟨b, o, R, rfl, hui, hrg⟩ := (HU.out.ext X7.out).at j hlt7
              obtain ⟨a0, n0, c0, a1, n1, c1, a2, n2, c2, a3, n3, c3, a4, n4, c4, a5, n5, c5, e, -⟩ := hui.shape
              cases e
              have HTK := Lib.hid (List.take_succ_eq_append_getElem hlt7)
              have HU2 := Lib.hid hui
              clear hui
              generalize us[j] = u at *
              have hbl : (us.take j).reverse.length ≤ 1000 := by rw [List.length_reverse, List.length_take]; omega
              go_upto_region 22 with (refine wpList_load_mid rfl 45 (.tmp 80) rfl b (o + j * 8) rfl _ _ hrg Try.underlying45 rfl rfl ?_)
              obtain ⟨W8, hW8⟩ : ∃ W8 : World, W8 = wq.alloc (.cells #[Value.string (ba u.name), Value.slice a0 n0 c0, Value.slice a1 n1 c1, Value.slice a2 n2 c2, Value.slice a3 n3 c3, Value.slice a4 n4 c4, Value.slice a5 n5 c5, Value.int IntKind.i64 u.retry] 45) := ⟨_, rfl⟩
              have X8 := Lib.hid (show Ext wq W8 by rw [hW8]; exact (Ext.refl wq).alloc _)
              have k8 := cells8 (show W8.heap[wq.heap.size]? = some _ by rw [hW8]; exact heap_alloc_new _ _)
              obtain ⟨k0, k1, k2, k3, k4, k5, k6, k7⟩ := k8
              rw [← hW8]
              clear hW8 hrg
              go_wp2_with (refine wpList_cons_units _ rfl (.tmp 83) (.tmp 84) rfl _ u _ _ rfl rfl (HU2.out.ext X8.out) (HB.out.ext X8.out) HNB.out hbl ?_; intro v9 w9 u9 z9 x9; have U9 := Lib.hid u9; have Z9 := Lib.hid z9; have X9 := Lib.hid (X8.out.trans x9); clear u9 z9 x9)
              go_roundw
              case rel => exact ⟨j + 1, by omega, by go_num, Lib.hid (HX7.out.trans X9.out), Lib.hid (by rw [HTK.out, List.reverse_append]; exact U9.out), Z9⟩
              case measure => simp [intOf]; omega
            · have hB := HB.out
              rw [List.take_of_length_le (by omega)] at hB
              have HB2 := Lib.hid hB
              clear hB
              go_upto_region 25 with (go_at_call 10; refine (HNW.out _ _ us.reverse HB2.out HSR.out).mono ?_; intro e w10 h10; (obtain ⟨po3, s3, rfl, n3⟩ := new_c h10 HC3.out); have N3 := Lib.hid n3; have X10 := Lib.hid (X7.out.trans n3.x); clear h10 n3)
              by_cases hc : c = 0
              · subst hc
                obtain ⟨hne1, g, ub, nu, bb, nb, ov, rfl, hg⟩ := N1.out.ok rfl
                obtain ⟨hne2, g2, ub2, nu2, bb2, nb2, ov2, rfl, hg2⟩ := N2.out.ok rfl
                obtain ⟨hne3, g3, ub3, nu3, bb3, nb3, ov3, rfl, hg3⟩ := N3.out.ok rfl
                have HQ := Lib.hid (newErr_none hne1)
                have XA := Lib.hid (show Ext w3 w10 from X5.out.trans (X6.out.trans (HX7.out.trans N3.out.x)))
                have XB := Lib.hid (show Ext w5 w10 from X6.out.trans (HX7.out.trans N3.out.x))
                have HNg := Lib.hid (fun W (x : Ext w10 W) => names_call (hg.ext (XA.out.trans x)) HQ.out.2.1 (by omega))
                have HNh := Lib.hid (fun W (x : Ext w10 W) => names_call (hg2.ext (XB.out.trans x)) (newErr_none hne2).2.1 (by rw [List.length_cons]; omega))
                have HOg := Lib.hid (fun W nv (x : Ext w10 W) (hn : SRow W nv (namesOf us)) => order_call (o := (orderOf us).1) (hg.ext (XA.out.trans x)) hn HSU.out HQ.out.2.1 (order_self HQ.out.2.1))
                have HOh := Lib.hid (fun W nv (x : Ext w10 W) (hn : SRow W nv (namesOf us)) => order_call (o := (orderOf us).1) (hg2.ext (XB.out.trans x)) hn HSM2.out (newErr_none hne2).2.1 (order_names HNM.out HQ.out.2.1))
                have HOk := Lib.hid (fun W nv (x : Ext w10 W) (hn : SRow W nv (namesOf us)) => order_call (o := (orderOf us).1) (hg3.ext x) hn HSR.out (newErr_none hne3).2.1 (by rw [order_perm (List.reverse_perm us) (newErr_none hne3).2.1]; exact order_self HQ.out.2.1))
                have hnl1 : (namesOf us).length = us.length := by unfold namesOf; rw [(sortS_perm _).length_eq, List.length_map]
                have hnl2 : (namesOf (um :: us)).length = us.length + 1 := by unfold namesOf; rw [(sortS_perm _).length_eq, List.length_map, List.length_cons]
                have HL := Lib.hid (And.intro hnl1 hnl2)
                clear hne1 hne2 hne3 hg hg2 hg3 hnl1 hnl2
                go_wp2_with fail
                refine (HNg.out _ (Ext.refl _)).mono ?_
                rintro e y1 ⟨u1, rfl, o1, z1⟩
                have Z1 := Lib.hid z1
                have O1 := Lib.hid o1
                obtain ⟨_, _, rfl, -⟩ := o1.row.form
                clear z1 o1
                go_wp2_with fail
                refine (HOg.out _ _ Z1.out O1.out.row).mono ?_
                rintro e y2 ⟨u2, rfl, o2, z2⟩
                have Z2 := Lib.hid (Z1.out.trans z2)
                have O2 := Lib.hid o2
                obtain ⟨_, _, rfl, -⟩ := o2.row.form
                clear z2 o2
                go_wp2_with fail
                refine (HNg.out _ Z2.out).mono ?_
                rintro e y3 ⟨u3, rfl, o3, z3⟩
                have Z3 := Lib.hid (Z2.out.trans z3)
                have O3 := Lib.hid o3
                have O2b := Lib.hid (O2.out.ext z3)
                obtain ⟨_, _, rfl, -⟩ := o3.row.form
                clear z3 o3
                go_wp2_with fail
                refine (HOh.out _ _ Z3.out O3.out.row).mono ?_
                rintro e y4 ⟨u4, rfl, o4, z4⟩
                have Z4 := Lib.hid (Z3.out.trans z4)
                have O4 := Lib.hid o4
                have O2c := Lib.hid (O2b.out.ext z4)
                obtain ⟨_, _, rfl, -⟩ := o4.row.form
                clear z4 o4
                go_wp2_with fail
                refine (same_true O2c.out.row O4.out.row).mono ?_
                rintro e w' ⟨rfl, rfl⟩
                go_wp2_with fail
                refine (HNg.out _ Z4.out).mono ?_
                rintro e y5 ⟨u5, rfl, o5, z5⟩
                have Z5 := Lib.hid (Z4.out.trans z5)
                have O5 := Lib.hid o5
                obtain ⟨_, _, rfl, -⟩ := o5.row.form
                clear z5 o5
                go_wp2_with fail
                refine (HOg.out _ _ Z5.out O5.out.row).mono ?_
                rintro e y6 ⟨u6, rfl, o6, z6⟩
                have Z6 := Lib.hid (Z5.out.trans z6)
                have O6 := Lib.hid o6
                obtain ⟨_, _, rfl, -⟩ := o6.row.form
                clear z6 o6
                go_wp2_with fail
                refine (HNg.out _ Z6.out).mono ?_
                rintro e y7 ⟨u7, rfl, o7, z7⟩
                have Z7 := Lib.hid (Z6.out.trans z7)
                have O7 := Lib.hid o7
                have O6b := Lib.hid (O6.out.ext z7)
                obtain ⟨_, _, rfl, -⟩ := o7.row.form
                clear z7 o7
                go_wp2_with fail
                refine (HOk.out _ _ Z7.out O7.out.row).mono ?_
                rintro e y8 ⟨u8, rfl, o8, z8⟩
                have Z8 := Lib.hid (Z7.out.trans z8)
                have O8 := Lib.hid o8
                have O6c := Lib.hid (O6b.out.ext z8)
                obtain ⟨_, _, rfl, -⟩ := o8.row.form
                clear z8 o8
                go_wp2_with fail
                refine (same_true O6c.out.row O8.out.row).mono ?_
                rintro e w' ⟨rfl, rfl⟩
                go_wp2_with fail
                refine (HNh.out _ Z8.out).mono ?_
                rintro e y9 ⟨u9, rfl, o9, z9⟩
                have Z9 := Lib.hid (Z8.out.trans z9)
                obtain ⟨_, _, rfl, -⟩ := o9.row.form
                rw [HL.out.2]
                clear z9 o9
                go_wp2_with fail
                refine (HNg.out _ Z9.out).mono ?_
                rintro e y10 ⟨u10, rfl, o10, z10⟩
                have Z10 := Lib.hid (Z9.out.trans z10)
                obtain ⟨_, _, rfl, -⟩ := o10.row.form
                rw [HL.out.1]
                clear z10 o10
                go_wp2_with fail
                go_ret
                exact ⟨rfl, X10.out.trans Z10.out⟩
              · obtain rfl := N1.out.no hc
                obtain rfl := N2.out.no hc
                obtain rfl := N3.out.no hc
                have hc1 : (c == 0) = false := by simpa using hc
                have hc2 : (c != 0) = true := by simpa using hc
                go_wp2_with fail
                go_ret
                exact ⟨rfl, X10.out⟩
theorem graphAdds_w {w : World} {v : Value} {us : List Un} {n : Int} (hu : UnitsIn w v us ∧ NilOk v) (_ : (Lit.int .i64 n).wf = true) : Calls Try.prog 6 #[v, .int .i64 n] w fun e w' => e = .returned (.bool true) ∧ Below w.heap.size w w' := adds_any hu.1 hu.2 n
end Go.Proofs.Ytobdjfibaemmhaa
