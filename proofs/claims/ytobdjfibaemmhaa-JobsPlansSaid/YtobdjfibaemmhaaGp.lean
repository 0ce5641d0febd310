/- GraphLeans: the walk. -/
import Derived.Test.YtobdjfibaemmhaaGo
namespace Go.Proofs.Ytobdjfibaemmhaa
open Go.RowKit Go.Maps Go.Lib

theorem lean_iff {us : List Un} {l : List Str} {u : Un} (hd : (us.map Un.name).Nodup) (hu : u ∈ us) : LeanIn us l u.name ↔ u.name ∈ l ∨ ∃ x ∈ u.requires ++ u.partOf, LeanIn us l x := by
  have hf := findU_mem hd hu
  constructor
  · intro h
    cases h with
    | base h _ => exact .inl h
    | step h hu' hx =>
      rw [hf] at hu'
      cases hu'
      exact .inr ⟨_, hx, h⟩
  · rintro (h | ⟨x, hx, h⟩)
    · exact .base h (there_iff.2 (List.mem_map_of_mem hu))
    · exact .step h hf hx
theorem LeanIn.idem {us : List Un} {l m : List Str} (h : ∀ x, x ∈ m ↔ LeanIn us l x) (x : Str) : LeanIn us m x ↔ LeanIn us l x := by
  constructor
  · intro k
    induction k with
    | base hx _ => exact (h _).1 hx
    | step _ hu hx ih => exact .step ih hu hx
  · intro k
    exact .base ((h x).2 k) k.there
theorem PullIn.idem {us : List Un} {l m : List Str} (h : ∀ x, x ∈ m ↔ PullIn us l x) (x : Str) : PullIn us m x ↔ PullIn us l x := by
  constructor
  · intro k
    induction k with
    | base hx _ => exact (h _).1 hx
    | step _ hu hx ht ih => exact .step ih hu hx ht
  · intro k
    exact .base ((h x).2 k) k.there
theorem LeanIn.congr {us : List Un} {l m : List Str} (h : ∀ x, x ∈ l ↔ x ∈ m) (x : Str) : LeanIn us l x ↔ LeanIn us m x :=
  ⟨fun k => k.mono fun y hy => (h y).1 hy, fun k => k.mono fun y hy => (h y).2 hy⟩
theorem PullIn.mono {us : List Un} {l m : List Str} (h : ∀ x ∈ l, x ∈ m) {x : Str} (k : PullIn us l x) : PullIn us m x := by
  induction k with
  | base hx ht => exact .base (h _ hx) ht
  | step _ hu hx ht ih => exact .step ih hu hx ht
theorem PullIn.congr {us : List Un} {l m : List Str} (h : ∀ x, x ∈ l ↔ x ∈ m) (x : Str) : PullIn us l x ↔ PullIn us m x :=
  ⟨fun k => k.mono fun y hy => (h y).1 hy, fun k => k.mono fun y hy => (h y).2 hy⟩
theorem OwnS.empty (w : World) (base : Nat) (hb : base ≤ w.heap.size) : OwnS (w.alloc (.cells #[] 9)) base (.slice (some ⟨w.heap.size, 0, none⟩) 0 0) [] :=
  World.ownsRow_lit w #[] 0 hb (by decide) rfl
def leansRel1 (w : World) (us : List Un) (i : Value) (wr : World) : Prop := ∃ k : Nat, k ≤ us.length ∧ i = .int .i64 k ∧ Hid (Ext w wr)
def leansRel2 (w : World) (b0 : Bool) (L l : List Str) (v i : Value) (wr : World) : Prop := ∃ k : Nat, k ≤ l.length ∧ i = .int .i64 k ∧ v = .bool (b0 || (l.take k).any fun x => decide (x ∈ L)) ∧ Hid (w = wr)
def leansRel3 (w : World) (l : List Str) (i : Value) (wr : World) : Prop := ∃ k : Nat, k ≤ l.length ∧ i = .int .i64 k ∧ Hid (w = wr)
theorem UnitsIn.ext {w W : World} {v : Value} {us : List Un} (h : UnitsIn w v us) (x : Ext w W) : UnitsIn W v us := by
  obtain ⟨a, c, rfl, h1, h2, h3⟩ := h
  refine ⟨a, c, rfl, h1, h2, fun i hi => ?_⟩
  obtain ⟨b, o, R, rfl, h4, h5⟩ := h3 i hi
  exact ⟨b, o, R, rfl, h4.ext x, range_ext h5 x⟩
def newNoE (w : World) (c : Int) (n : ByteArray) (e : Ending) (w' : World) : Prop := Ext w w' ∧ e = .returned (.tuple #[.pointer none, .int .i64 c, .string n])
theorem newErr_ne {us : List Un} {c : Int} {n : Str} (h : newErr us = some (c, n)) : (c == 0) = false ∧ (c != 0) = true ∧ ¬ c = 0 ∧ 0 ≤ c ∧ c ≤ 22 := by
  have : c = 22 ∨ c = 9 ∨ c = 16 ∨ c = 19 := by
    unfold newErr at h
    split at h
    · simp at h; omega
    · split at h
      · simp at h; omega
      · split at h
        · simp at h; omega
        · split at h
          · cases h
          · simp at h; omega
  rcases this with rfl | rfl | rfl | rfl <;> decide
theorem same_true {w : World} {v u : Value} {xs : List Str} (hv : SRow w v xs) (hu : SRow w u xs) : Calls Try.prog 27 #[v, u] w fun e w' => e = .returned (.bool true) ∧ w = w' := by
  have := same_any hv hu
  rw [beq_self_eq_true] at this
  exact this
theorem order_mem {us : List Un} (hd : (us.map Un.name).Nodup) {x : Str} (h : x ∈ (orderOf us).1) : x ∈ us.map Un.name := by
  have hn : ([] ++ namesOf us).Nodup := by rw [List.nil_append]; exact sortS_nodup hd
  have hs := (sortP_spec (behP us) us.length (namesOf us) [] (by unfold namesOf; rw [(sortS_perm _).length_eq, List.length_map]; exact Nat.le_refl _) ⟨List.nodup_nil, fun s n t e => by simp at e⟩ hn).2.1
  have : x ∈ (orderOf us).1 ++ (orderOf us).2 := by simp [h]
  have := hs.mem_iff.1 this
  rw [List.nil_append] at this
  exact sortS_mem.1 this
theorem order_len {us : List Un} (hd : (us.map Un.name).Nodup) : (orderOf us).1.length ≤ us.length := by
  have hn : ([] ++ namesOf us).Nodup := by rw [List.nil_append]; exact sortS_nodup hd
  have hs := (sortP_spec (behP us) us.length (namesOf us) [] (by unfold namesOf; rw [(sortS_perm _).length_eq, List.length_map]; exact Nat.le_refl _) ⟨List.nodup_nil, fun s n t e => by simp at e⟩ hn).2.1
  have h1 := hs.length_eq
  unfold orderOf
  unfold namesOf at h1 ⊢
  rw [List.length_append, List.nil_append, (sortS_perm _).length_eq, List.length_map] at h1
  omega
theorem order_short {us : List Un} (hs : SmallU us) (hd : (us.map Un.name).Nodup) : ShortAll (orderOf us).1 ∧ (orderOf us).1.length ≤ 20 := by
  refine ⟨fun x hx => ?_, Nat.le_trans (order_len hd) hs.len⟩
  obtain ⟨u, hu, rfl⟩ := List.mem_map.1 (order_mem hd hx)
  have := hs.name u hu
  unfold maxLen
  omega
set_option maxRecDepth 100000 in
set_option maxHeartbeats 8000000 in
theorem leans_any {w : World} {v sv : Value} {us : List Un} {l : List Str} (hu : UnitsIn w v us) (hs : SRow w sv l) (hsl : ShortAll l) : Calls Try.prog 5 #[v, sv] w fun e w' => e = .returned (.bool true) ∧ Ext w w' := by
  have HA := Lib.hid (alive14 w)
  have HU := Lib.hid hu
  have HS := Lib.hid hs
  have HSM := Lib.hid (fun W (x : Ext w W) => Small_any (HU.out.ext x))
  have HNW := Lib.hid (fun W (x : Ext w W) (h : SmallU us) => New_any (HU.out.ext x) h)
  obtain ⟨a1, c1, rfl, hlc, hlc2⟩ := hs.form
  obtain ⟨av, cv, rfl, hcap, hcap2, -⟩ := hu
  clear hs
  cases hsm : smallB us with
  | false =>
    have HN := Lib.hid (smallN_no hsm)
    clear hsm
    go_enter Try.func5, Try.ntmps5
    go_wp2_with (first
      | (go_at_call 23; refine HA.out.mono ?_; rintro e w1 ⟨rfl, x1⟩; have X1 := Lib.hid x1; clear x1)
      | (go_at_call 9; refine (HSM.out _ X1.out).mono ?_; rintro e w2 ⟨rfl, x2⟩; rw [HN.out]; have X2 := Lib.hid x2; clear x2))
    go_ret
    exact ⟨rfl, X1.out.trans X2.out⟩
  | true =>
    have HN := Lib.hid (smallN_yes hsm)
    have HSU := Lib.hid (smallB_u hsm)
    clear hsm
    by_cases hl : 20 < l.length
    · go_enter Try.func5, Try.ntmps5
      go_wp2_with (first
        | (go_at_call 23; refine HA.out.mono ?_; rintro e w1 ⟨rfl, x1⟩; have X1 := Lib.hid x1; clear x1)
        | (go_at_call 9; refine (HSM.out _ X1.out).mono ?_; rintro e w2 ⟨rfl, x2⟩; rw [HN.out]; have X2 := Lib.hid x2; clear x2))
      go_ret
      exact ⟨rfl, X1.out.trans X2.out⟩
    · cases hne : newErr us with
      | some cn =>
        obtain ⟨c, n⟩ := cn
        have HE := Lib.hid hne
        obtain ⟨hc1, hc2, hc3, hc4, hc5⟩ := newErr_ne hne
        clear hne
        go_enter Try.func5, Try.ntmps5
        go_wp2_with (first
          | (go_at_call 23; refine HA.out.mono ?_; rintro e w1 ⟨rfl, x1⟩; have X1 := Lib.hid x1; clear x1)
          | (go_at_call 9; refine (HSM.out _ X1.out).mono ?_; rintro e w2 ⟨rfl, x2⟩; rw [HN.out]; have X2 := Lib.hid (X1.out.trans x2); clear x2)
          | (go_at_call 10; refine (HNW.out _ X2.out HSU.out).mono ?_; intro e w3 h3; (obtain ⟨x3, rfl⟩ := new_no h3 HE.out); have X3 := Lib.hid (X2.out.trans x3); clear x3 h3))
        go_ret
        exact ⟨rfl, X3.out⟩
      | none =>
        have HE := Lib.hid hne
        have HQ := Lib.hid (newErr_none hne)
        clear hne
        go_enter Try.func5, Try.ntmps5
        go_upto_region 9 with (first
          | (go_at_call 23; refine HA.out.mono ?_; rintro e w1 ⟨rfl, x1⟩; have X1 := Lib.hid x1; clear x1)
          | (go_at_call 9; refine (HSM.out _ X1.out).mono ?_; rintro e w2 ⟨rfl, x2⟩; rw [HN.out]; have X2 := Lib.hid (X1.out.trans x2); clear x2)
          | (go_at_call 10; refine (HNW.out _ X2.out HSU.out).mono ?_; intro e w3 h3; (obtain ⟨x3, g, ub, nu, bb, nb, ov, rfl, hg3⟩ := new_ok h3 HE.out); have X3 := Lib.hid (X2.out.trans x3); have G3 := Lib.hid hg3; clear x3 h3 hg3)
          | (go_at_call 24; refine (Lean_any G3.out.cells G3.out.units HSU.out (HS.out.ext X3.out) (by omega) hsl).mono ?_; rintro e w4 ⟨v4, L, rfl, o4, x4, l4⟩; have X4 := Lib.hid x4; have O4 := Lib.hid o4; have L4 := Lib.hid l4; clear x4 o4 l4; (obtain ⟨a4, c4, rfl, -⟩ := O4.out.row.form))
          | (go_at_call 25; refine (Pull_any (G3.out.ext X4.out).cells (G3.out.ext X4.out).units HSU.out (HS.out.ext (X3.out.trans X4.out)) (by omega) hsl).mono ?_; rintro e w5 ⟨v5, P, rfl, o5, x5, l5⟩; have X5 := Lib.hid (X4.out.trans x5); have O5 := Lib.hid o5; have L5 := Lib.hid l5; have O45 := Lib.hid (O4.out.ext x5); clear x5 o5 l5; (obtain ⟨a5, c5, rfl, -⟩ := O5.out.row.form)))
        have XG := Lib.hid (X3.out.trans X5.out)
        have HLL := Lib.hid (show ∀ x, x ∈ L ↔ LeanIn us l x from L4.out.2.2)
        have HPP := Lib.hid (show ∀ x, x ∈ P ↔ PullIn us l x from L5.out.2.2)
        have HH := Lib.hid (show ∀ (W : World) (v : Value) (l : List Str) (s : Str), SRow W v l → Calls Try.prog 26 #[v, .string (ba s)] W fun e w' => e = .returned (.bool (decide (s ∈ l))) ∧ W = w' from fun W v l s h => has_any h s)
        have hus := HSU.out.len
        go_wp2_with fail
        go_loopw [44] (fun i wr => leansRel1 w5 us i wr) (fun i _ => us.length - (intOf i).toNat)
        case atStart => exact ⟨0, Nat.zero_le _, rfl, Ext.refl w5⟩
        case round =>
          obtain ⟨wl, rfl⟩ : ∃ x : World, x = wr := ⟨_, rfl⟩
          obtain ⟨k, hk, rfl, HX⟩ := hrel
          by_cases hlt : k < us.length
          · skip
            obtain ⟨b, o, R, rfl, hui, hrg⟩ := (HU.out.ext (XG.out.trans HX.out)).at k hlt
            have hui2 := hui
            obtain ⟨a0, n0, c0, a1', n1, c1', a2, n2, c2, a3, n3, c3, a4', n4, c4', a5', n5, c5', e, -, -, -, sr, -, sp⟩ := hui.shape
            cases e
            have SR := Lib.hid sr
            have SP := Lib.hid sp
            have hmu := List.getElem_mem hlt
            have hlr := (HSU.out.lists us[k] hmu us[k].requires (by simp [listsOf])).1
            have hlp := (HSU.out.lists us[k] hmu us[k].partOf (by simp [listsOf])).1
            have HMU := Lib.hid hmu
            clear hui hui2 sr sp hmu
            generalize us[k] = u at *
            go_upto_region 12 with (refine wpList_load_mid rfl 45 (.tmp 46) rfl b (o + k * 8) rfl _ _ hrg Try.underlying45 rfl rfl ?_)
            obtain ⟨W, hW⟩ : ∃ W : World, W = wl.alloc (.cells #[Value.string (ba u.name), Value.slice a0 n0 c0, Value.slice a1' n1 c1', Value.slice a2 n2 c2, Value.slice a3 n3 c3, Value.slice a4' n4 c4', Value.slice a5' n5 c5', Value.int IntKind.i64 u.retry] 45) := ⟨_, rfl⟩
            have xW : Ext wl W := by rw [hW]; exact (Ext.refl wl).alloc _
            have bW : W.heap[wl.heap.size]? = some (.cells #[Value.string (ba u.name), Value.slice a0 n0 c0, Value.slice a1' n1 c1', Value.slice a2 n2 c2, Value.slice a3 n3 c3, Value.slice a4' n4 c4', Value.slice a5' n5 c5', Value.int IntKind.i64 u.retry] 45 (0, 0)) := by rw [hW]; exact heap_alloc_new _ _
            rw [← hW]
            have kc0 : W.cell? ⟨wl.heap.size, 0, none⟩ = some (.string (ba u.name)) := by rw [cell_blk bW]; rfl
            have kc4 : W.cell? ⟨wl.heap.size, 4, none⟩ = some (.slice a3 n3 c3) := by rw [cell_blk bW]; rfl
            have kc6 : W.cell? ⟨wl.heap.size, 6, none⟩ = some (.slice a5' n5 c5') := by rw [cell_blk bW]; rfl
            have XW := Lib.hid xW
            have KC := Lib.hid (And.intro kc0 (And.intro kc4 kc6))
            have HH1 := Lib.hid (HH.out W _ _ u.name (HS.out.ext ((XG.out.trans HX.out).trans xW)))
            clear hW bW hrg xW kc4 kc6
            go_upto_region 13 with (go_at_call 26; refine HH1.out.mono ?_; rintro e w' ⟨rfl, rfl⟩)
            have hrq : u.requires.length = n3 := by have := SR.out.form; obtain ⟨_, _, e, -⟩ := this; cases e; rfl
            have hpq : u.partOf.length = n5 := by have := SP.out.form; obtain ⟨_, _, e, -⟩ := this; cases e; rfl
            have KX := Lib.hid (show ∀ V, Ext W V → V.cell? ⟨wl.heap.size, 4, none⟩ = some (.slice a3 n3 c3) ∧ V.cell? ⟨wl.heap.size, 6, none⟩ = some (.slice a5' n5 c5') from fun V x => ⟨x.cell KC.out.2.1, x.cell KC.out.2.2⟩)
            have HRQ := Lib.hid (And.intro hrq hpq)
            clear hrq hpq
            go_cut [58, 59, 60] from 52 to 61 (fun p q r wc => ∃ a c, p = .slice a (u.requires ++ u.partOf).length c ∧ q = .int .i64 (u.requires ++ u.partOf).length ∧ r = .int .i64 0 ∧ Hid (OwnS wc W.heap.size (.slice a (u.requires ++ u.partOf).length c) (u.requires ++ u.partOf)) ∧ Hid (Ext W wc))
            case first =>
              go_region_held3 (fun V => V.cell? ⟨wl.heap.size, 4, none⟩ = some (.slice a3 n3 c3) ∧ V.cell? ⟨wl.heap.size, 6, none⟩ = some (.slice a5' n5 c5'))
                (first
                  | exact KX.out _ (Ext.refl W).drew
                  | exact KX.out _ ((Ext.refl W).alloc _).drew
                  | exact KX.out _ X6.out
                  | exact KX.out _ X7.out)
                (first
                  | (refine step_append_str rfl (.tmp 52) (.tmp 54) 23 rfl Try.underlying23 W.heap.size _ _ rfl rfl [] u.requires ((OwnS.empty W W.heap.size (Nat.le_refl _)).ext (Ext.refl _).drew) (SR.out.ext (XW.out.trans ((Ext.refl W).alloc _).drew)) (by simp; omega) (by simp) ?_; intro v6 w6 o6 g6 n6; have X6 := Lib.hid (((Ext.refl W).alloc (.cells #[] 9)).drew.grow g6 fun q hq => by cases hq; exact Nat.le_refl _); rw [List.nil_append] at o6; have O6 := Lib.hid o6; (obtain ⟨a6, c6, rfl, -⟩ := o6.row.form); clear o6 g6 n6)
                  | (refine step_append_str rfl (.tmp 55) (.tmp 57) 23 rfl Try.underlying23 W.heap.size _ _ rfl rfl u.requires u.partOf O6.out (SP.out.ext (XW.out.trans X6.out)) (by omega) (by have := X6.out.sz; omega) ?_; intro v7 w7 o7 g7 n7; have X7 := Lib.hid (X6.out.grow g7 fun q hq => (O6.out.lt q hq).1); have O7 := Lib.hid o7; (obtain ⟨a7, c7, rfl, -⟩ := o7.row.form); clear o7 g7 n7))
              all_goals
                go_wp2_with fail
                go_meet
                have hO := O7.out
                rw [List.length_append] at hO ⊢
                exact ⟨_, _, rfl, rfl, rfl, Lib.hid hO, X7⟩
            case rest =>
            obtain ⟨a7, c7, rfl, rfl, rfl, O7, X7⟩ := hcut
            obtain ⟨W8, rfl⟩ : ∃ x : World, x = wc := ⟨_, rfl⟩
            have HON := Lib.hid (show (decide (u.name ∈ l) || (u.requires ++ u.partOf).any fun x => decide (x ∈ L)) = decide (u.name ∈ L) from by
              rw [Bool.eq_iff_iff, Bool.or_eq_true, decide_eq_true_iff, decide_eq_true_iff, HLL.out, lean_iff HQ.out.2.1 HMU.out, List.any_eq_true]
              simp only [decide_eq_true_eq, HLL.out])
            have hl2 : (u.requires ++ u.partOf).length ≤ 20 := by rw [List.length_append]; omega
            have HO4 := Lib.hid (O45.out.ext (HX.out.trans (XW.out.trans X7.out)))
            have kc8 := X7.out.cell KC.out.1
            have XT := Lib.hid (HX.out.trans (XW.out.trans X7.out))
            have HREQ := Lib.hid (show ∀ x ∈ u.requires, there us x = true from fun x hx => needs_none HQ.out.2.2.1 HQ.out.2.1 HMU.out x (by simp [hx]))
            generalize u.requires ++ u.partOf = l2 at *
            generalize decide (u.name ∈ l) = b0 at *
            go_wp2_with fail
            go_loopw [12, 60] (fun t i wr2 => leansRel2 W8 b0 L l2 t i wr2) (fun _ i _ => l2.length - (intOf i).toNat)
            case atStart => exact ⟨0, Nat.zero_le _, rfl, by simp, rfl⟩
            case round =>
              obtain ⟨j, hj, rfl, rfl, HW⟩ := hrel
              obtain rfl := HW.out
              by_cases hlt2 : j < l2.length
              · obtain ⟨b9, o9, rfl, e9⟩ := O7.out.row.at j hlt2
                have HTJ := Lib.hid (List.take_succ_eq_append_getElem hlt2)
                generalize l2[j] = x at *
                have HHx := Lib.hid (HH.out W8 _ _ x HO4.out.row)
                generalize hbt : (b0 || (l2.take j).any fun x => decide (x ∈ L)) = bt at *
                have HBT := Lib.hid hbt
                clear hbt
                cases bt with
                | true =>
                  go_wp2_with fail
                  go_roundw
                  case rel => exact ⟨j + 1, by omega, by go_num, by rw [HTJ.out, List.any_append, ← Bool.or_assoc, HBT.out]; rfl, rfl⟩
                  case measure => simp [intOf]; omega
                | false =>
                  go_wp2_with (go_at_call 26; refine HHx.out.mono ?_; rintro e w' ⟨rfl, rfl⟩)
                  go_roundw
                  case rel => exact ⟨j + 1, by omega, by go_num, by rw [HTJ.out, List.any_append, ← Bool.or_assoc, HBT.out]; simp, rfl⟩
                  case measure => simp [intOf]; omega
              · rw [List.take_of_length_le (by omega), HON.out]
                have HHx := Lib.hid (HH.out W8 _ _ u.name HO4.out.row)
                generalize decide (u.name ∈ L) = bl at *
                go_upto_region 20 with (go_at_call 26; refine HHx.out.mono ?_; rintro e w' ⟨rfl, rfl⟩)
                obtain ⟨hq1, -⟩ := HRQ.out
                subst hq1
                have kd8 := X7.out.cell KC.out.2.1
                have HP4 := Lib.hid (O5.out.ext XT.out)
                have SR8 := Lib.hid (SR.out.ext (XW.out.trans X7.out))
                have HHp := Lib.hid (HH.out W8 _ _ u.name HP4.out.row)
                have hfu := Lib.hid (findU_mem HQ.out.2.1 HMU.out)
                go_wp2_with fail
                go_loopw [80] (fun i wr3 => leansRel3 W8 u.requires i wr3) (fun i _ => u.requires.length - (intOf i).toNat)
                case atStart => exact ⟨0, Nat.zero_le _, rfl, rfl⟩
                case round =>
                  obtain ⟨m, hm, rfl, HW3⟩ := hrel
                  obtain rfl := HW3.out
                  by_cases hlt3 : m < u.requires.length
                  · obtain ⟨b9, o9, rfl, e9⟩ := SR8.out.at m hlt3
                    have HMX := Lib.hid (List.getElem_mem hlt3)
                    generalize u.requires[m] = x at *
                    have HHx := Lib.hid (HH.out W8 _ _ x HP4.out.row)
                    by_cases hin : u.name ∈ P
                    · have hx : x ∈ P := (HPP.out x).2 (.step ((HPP.out _).1 hin) hfu.out HMX.out (HREQ.out x HMX.out))
                      have hd1 : decide (u.name ∈ P) = true := by simpa using hin
                      have hd2 : decide (x ∈ P) = true := by simpa using hx
                      rw [hd1] at HHp
                      rw [hd2] at HHx
                      clear hin hx hd1 hd2
                      go_wp2_with (first
                        | ((with_reducible refine HHp.out.mono ?_); rintro e w' ⟨rfl, rfl⟩)
                        | ((with_reducible refine HHx.out.mono ?_); rintro e w' ⟨rfl, rfl⟩))
                      go_roundw
                      case rel => exact ⟨m + 1, by omega, by go_num, rfl⟩
                      case measure => simp [intOf]; omega
                    · have hd1 : decide (u.name ∈ P) = false := by simpa using hin
                      rw [hd1] at HHp
                      clear hin hd1
                      go_wp2_with ((with_reducible refine HHp.out.mono ?_); rintro e w' ⟨rfl, rfl⟩)
                      go_roundw
                      case rel => exact ⟨m + 1, by omega, by go_num, rfl⟩
                      case measure => simp [intOf]; omega
                  · go_wp2_with fail
                    go_roundw
                    case rel => exact ⟨k + 1, by omega, by go_num, XT⟩
                    case measure => simp [intOf]; omega
          · have XN := Lib.hid (XG.out.trans HX.out)
            have HSW := Lib.hid (HS.out.ext XN.out)
            go_upto_region 27 with fail
            obtain ⟨l2, hl2⟩ : ∃ l2, l2 = l ++ l := ⟨_, rfl⟩
            have HL2 := Lib.hid hl2
            clear hl2
            go_upto_region 28 with (first
              | (refine wpList_append_str _ rfl (.tmp 96) (.tmp 97) 23 rfl Try.underlying23 wl.heap.size _ _ rfl rfl [] l (OwnS.empty wl wl.heap.size (Nat.le_refl _)) (HSW.out.ext ((Ext.refl wl).alloc _)) (by simp; omega) (by simp) ?_; intro v6 w6 o6 g6 n6; have X6 := Lib.hid (((Ext.refl wl).alloc (.cells #[] 9)).grow g6 fun q hq => by cases hq; exact Nat.le_refl _); rw [List.nil_append] at o6; have O6 := Lib.hid o6; (obtain ⟨a6, c6, rfl, -⟩ := o6.row.form); clear o6 g6 n6)
              | (refine wpList_append_str _ rfl (.tmp 98) (.tmp 99) 23 rfl Try.underlying23 wl.heap.size _ _ rfl rfl l l O6.out (HSW.out.ext X6.out) (by omega) (by have := X6.out.sz; omega) ?_; intro v7 w7 o7 g7 n7; rw [← HL2.out] at o7; have X7 := Lib.hid (X6.out.grow g7 fun q hq => (O6.out.lt q hq).1); have O7 := Lib.hid o7; (obtain ⟨a7, c7, rfl, -⟩ := o7.row.form); clear o7 g7 n7))
            have hl2 := HL2.out
            have hl2n : l2.length ≤ 40 := by rw [hl2, List.length_append]; omega
            have HSL2 := Lib.hid (show ShortAll l2 from fun x hx => by rw [hl2] at hx; rcases List.mem_append.1 hx with hx | hx <;> exact hsl x hx)
            have hmm : ∀ x, x ∈ l2 ↔ x ∈ l := fun x => by rw [hl2]; simp
            have HM := Lib.hid hmm
            have XW7 := Lib.hid (X5.out.trans (HX.out.trans X7.out))
            have G7 := Lib.hid (G3.out.ext XW7.out)
            have OL := Lib.hid (O45.out.ext (HX.out.trans X7.out))
            have OP := Lib.hid (O5.out.ext (HX.out.trans X7.out))
            have SL := Lib.hid (HSW.out.ext X7.out)
            have hLs : ShortAll L := fun x hx => by
              have := ((HLL.out x).1 hx).there
              obtain ⟨u, hu, rfl⟩ := List.mem_map.1 (there_iff.1 this)
              have := HSU.out.name u hu
              unfold maxLen
              omega
            have hPs : ShortAll P := fun x hx => by
              have := ((HPP.out x).1 hx).there
              obtain ⟨u, hu, rfl⟩ := List.mem_map.1 (there_iff.1 this)
              have := HSU.out.name u hu
              unfold maxLen
              omega
            have hLl : L.length ≤ us.length := there_len L4.out.1 fun x hx => ((HLL.out x).1 hx).there
            have hPl : P.length ≤ us.length := there_len L5.out.1 fun x hx => ((HPP.out x).1 hx).there
            have HLP := Lib.hid (And.intro hLs hPs)
            have HOS := Lib.hid (order_short HSU.out HQ.out.2.1)
            clear hl2 hmm hLs hPs
            go_wp2_with fail
            refine (Lean_any G7.out.cells G7.out.units HSU.out O7.out.row (by omega) HSL2.out).mono ?_
            rintro e w8 ⟨v8, L8, rfl, o8, x8, l8⟩
            obtain rfl := (l8.congr (LeanIn.congr HM.out)).unique L4.out
            have O8 := Lib.hid o8
            have X8 := Lib.hid x8
            obtain ⟨a8, c8, rfl, -⟩ := o8.row.form
            clear o8 x8 l8
            go_wp2_with fail
            refine (same_true O8.out.row (OL.out.ext X8.out).row).mono ?_
            rintro e w' ⟨rfl, rfl⟩
            have G8 := Lib.hid (G7.out.ext X8.out)
            go_wp2_with fail
            refine (Pull_any G8.out.cells G8.out.units HSU.out (O7.out.ext X8.out).row (by omega) HSL2.out).mono ?_
            rintro e w9 ⟨v9, P9, rfl, o9, x9, l9⟩
            obtain rfl := (l9.congr (PullIn.congr HM.out)).unique L5.out
            have O9 := Lib.hid o9
            have X9 := Lib.hid (X8.out.trans x9)
            obtain ⟨a9, c9, rfl, -⟩ := o9.row.form
            clear o9 x9 l9
            go_wp2_with fail
            refine (same_true O9.out.row (OP.out.ext X9.out).row).mono ?_
            rintro e w' ⟨rfl, rfl⟩
            have G9 := Lib.hid (G7.out.ext X9.out)
            go_wp2_with fail
            refine (Lean_any G9.out.cells G9.out.units HSU.out (OL.out.ext X9.out).row (by omega) HLP.out.1).mono ?_
            rintro e w10 ⟨v10, L10, rfl, o10, x10, l10⟩
            obtain rfl := (l10.congr (LeanIn.idem HLL.out)).unique L4.out
            have O10 := Lib.hid o10
            have X10 := Lib.hid (X9.out.trans x10)
            obtain ⟨a10, c10, rfl, -⟩ := o10.row.form
            clear o10 x10 l10
            go_wp2_with fail
            refine (same_true O10.out.row (OL.out.ext X10.out).row).mono ?_
            rintro e w' ⟨rfl, rfl⟩
            have G10 := Lib.hid (G7.out.ext X10.out)
            go_wp2_with fail
            refine (Pull_any G10.out.cells G10.out.units HSU.out (OP.out.ext X10.out).row (by omega) HLP.out.2).mono ?_
            rintro e w11 ⟨v11, P11, rfl, o11, x11, l11⟩
            obtain rfl := (l11.congr (PullIn.idem HPP.out)).unique L5.out
            have O11 := Lib.hid o11
            have X11 := Lib.hid (X10.out.trans x11)
            obtain ⟨a11, c11, rfl, -⟩ := o11.row.form
            clear o11 x11 l11
            go_wp2_with fail
            refine (same_true O11.out.row (OP.out.ext X11.out).row).mono ?_
            rintro e w' ⟨rfl, rfl⟩
            have G11 := Lib.hid (G7.out.ext X11.out)
            go_wp2_with fail
            refine (Order_any G11.out (O7.out.ext X11.out).row HOS.out.1 (by have := HOS.out.2; omega)).mono ?_
            rintro e w12 ⟨v12, rfl, o12, x12⟩
            rw [show (orderOf us).1.filter (· ∈ l2) = (orderOf us).1.filter (· ∈ l) from List.filter_congr fun x _ => by rw [decide_eq_decide]; exact HM.out x] at o12
            have O12 := Lib.hid o12
            have X12 := Lib.hid (X11.out.trans x12)
            obtain ⟨a12, c12, rfl, -⟩ := o12.row.form
            clear o12 x12
            have G12 := Lib.hid (G7.out.ext X12.out)
            go_wp2_with fail
            refine (Order_any G12.out (SL.out.ext X12.out) HOS.out.1 (by have := HOS.out.2; omega)).mono ?_
            rintro e w13 ⟨v13, rfl, o13, x13⟩
            have O13 := Lib.hid o13
            have X13 := Lib.hid (X12.out.trans x13)
            have O12b := Lib.hid (O12.out.ext x13)
            obtain ⟨a13, c13, rfl, -⟩ := o13.row.form
            clear o13 x13
            go_wp2_with fail
            refine (same_true O12b.out.row O13.out.row).mono ?_
            rintro e w' ⟨rfl, rfl⟩
            go_wp2_with fail
            go_ret
            exact ⟨rfl, (XN.out.trans X7.out).trans X13.out⟩
theorem graphLeans_w {w : World} {v sv : Value} {us : List Un} {l : List Str} (hu : UnitsIn w v us) (hs : SRow w sv l ∧ ShortAll l ∧ l.length ≤ 140737488355328) : Calls Try.prog 5 #[v, sv] w fun e w' => e = .returned (.bool true) ∧ Below w.heap.size w w' := leans_any hu hs.1 hs.2.1
end Go.Proofs.Ytobdjfibaemmhaa
