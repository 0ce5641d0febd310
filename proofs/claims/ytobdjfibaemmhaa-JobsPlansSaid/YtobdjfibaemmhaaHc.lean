/- Units as the document has them: Plain, plain, named; rows of units that the call owns. -/
import Derived.Test.YtobdjfibaemmhaaGs
namespace Go.Proofs.Ytobdjfibaemmhaa
open Go.RowKit Go.Maps Go.Lib

theorem Try.info67 : (Try.prog.info? 67).map (fun i => (i.zero, i.size, i.bytes)) = some (some zero45, 8, 168) := by kernel_rfl
/-- Units that the call itself holds, from block base on; what their rows are was there in world w0. -/
structure UOwn (w0 : World) (base : Nat) (v : Value) (us : List Un) (w : World) : Prop where
  x : Ext w0 w
  hb : w0.heap.size ≤ base
  own : ∃ Rs : List (List Value), Rs.length = us.length ∧ (∀ R ∈ Rs, R.length = 8) ∧ w.ownsRow base 67 8 v us.length Rs.flatten ∧ ∀ i, (h : i < us.length) → (h2 : i < Rs.length) → UnitIs w0 (.agg (Rs[i]).toArray) us[i]
theorem UOwn.ext {w0 w w' : World} {base : Nat} {v : Value} {us : List Un} (h : UOwn w0 base v us w) (x : Ext w w') : UOwn w0 base v us w' := by
  obtain ⟨Rs, h1, h2, h3, h4⟩ := h.own
  exact ⟨h.x.trans x, h.hb, Rs, h1, h2, x.own h3, h4⟩
theorem UOwn.units {w0 w : World} {base : Nat} {v : Value} {us : List Un} (h : UOwn w0 base v us w) : UnitsIn w v us ∧ NilOk v := by
  obtain ⟨Rs, h1, h2, h3, h4⟩ := h.own
  rcases h3.2 with ⟨rfl, h0⟩ | ⟨g, cap, cur, rfl, hb, hg, hn, hm, hs, ht⟩
  · obtain rfl := List.eq_nil_of_length_eq_zero h0
    exact ⟨⟨none, 0, rfl, by simp, by simp, fun i hi => absurd hi (by simp)⟩, fun n c e => by cases e; rfl⟩
  · exact ⟨unitsIn_block hg h1 h2 ht rfl hn (by unfold maxLen at hm; omega) fun i hi => (h4 i hi (by omega)).ext h.x, fun n c e => by cases e⟩
theorem UOwn.shape {w0 w : World} {base : Nat} {v : Value} {us : List Un} (h : UOwn w0 base v us w) : ∃ a c, v = .slice a us.length c ∧ us.length ≤ c ∧ c ≤ 9223372036854775807 := by
  obtain ⟨a, c, e, h1, h2, -⟩ := h.units.1
  exact ⟨a, c, e, h1, h2⟩
theorem UOwn.start (w0 w : World) (x : Ext w0 w) : UOwn w0 w.heap.size (.slice (some ⟨w.heap.size, 0, none⟩) 0 0) [] (w.alloc (.cells #[] 67)) :=
  ⟨x.alloc _, x.sz, [], rfl, fun R h => (by cases h), World.ownsRow_lit w #[] 0 (Nat.le_refl _) (by decide) rfl, fun i hi => absurd hi (by simp)⟩
theorem run_append_rows {w0 w : World} {base : Nat} {v u : Value} {us vs : List Un} (h : UOwn w0 base v us w) (Rs2 : List (List Value)) (hl2 : Rs2.length = vs.length) (h82 : ∀ R ∈ Rs2, R.length = 8) (hui : ∀ i, (hi : i < vs.length) → (h2 : i < Rs2.length) → UnitIs w0 (.agg (Rs2[i]).toArray) vs[i])
    (hsrc : Src w u vs.length Rs2.flatten) (hfl : Rs2.flatten.length = vs.length * 8) (hlen : us.length + vs.length ≤ 1000) (hbase : base ≤ w.heap.size) (ty : TypeId) :
    ∃ v' w', (Builtin.append_ #[33, 33] ty #[v, u]).run Try.prog w = .ok v' w' ∧ UOwn w0 base v' (us ++ vs) w' := by
  obtain ⟨Rs, h1, h2, h3, h4⟩ := h.own
  obtain ⟨i0, hi, hz0, hz1, hz2⟩ := info_parts Try.info67
  have hone : ∀ u ∈ Rs2.flatten, u.oneCell' = true := fun u hu => by
    obtain ⟨R2, g1, g2⟩ := List.mem_flatten.1 hu
    obtain ⟨i, hi, rfl⟩ := List.getElem_of_mem g1
    obtain ⟨R', e, -, g4⟩ := (hui i (by omega) hi).cells
    cases e
    rw [Array.all_eq_true_iff_forall_mem] at g4
    exact g4 u (by simpa using g2)
  obtain ⟨v', w', hrun, ho, hg, -⟩ := run_append_src (P := Try.prog) w base 33 ty 67 i0 _ 8 168 Try.underlying33 hi hz0 hz1 hz2 zc45 (by decide) v us.length Rs.flatten h3 u vs.length Rs2.flatten hfl hsrc hone (by unfold maxLen; omega) (by omega) hbase
  refine ⟨v', w', hrun, h.x.grow hg fun k hk => Nat.le_trans h.hb (World.ownsRow.lt h3 k hk).1, h.hb, Rs ++ Rs2, by simp [h1, hl2], fun R hR => ?_, ?_, fun i hi h2' => ?_⟩
  · rcases List.mem_append.1 hR with hR | hR
    · exact h2 R hR
    · exact h82 R hR
  · rw [List.flatten_append, List.length_append]; exact ho
  · by_cases hlt : i < us.length
    · have e1 : (Rs ++ Rs2)[i] = Rs[i]'(by omega) := List.getElem_append_left (by omega)
      have e2 : (us ++ vs)[i] = us[i] := List.getElem_append_left hlt
      rw [e1, e2]
      exact h4 i hlt (by omega)
    · have e1 : (Rs ++ Rs2)[i] = Rs2[i - us.length]'(by simp at hi; omega) := by rw [List.getElem_append_right (by omega)]; simp only [h1]
      have e2 : (us ++ vs)[i] = vs[i - us.length]'(by simp at hi; omega) := List.getElem_append_right (by omega)
      rw [e1, e2]
      exact hui _ _ _
theorem wpList_push_unit {w0 w : World} {ops : Array Oper} {rest : List Oper} {o : Oper} {a : Act} {Q : Exit → Act → World → Prop}
    (hg : o.guard = none) (s x : Operand) (hop : o.op = Op.call { callee := Callee.builtin Builtin.append, args := #[s, x], argTypes := #[33, 33] })
    {base : Nat} {v : Value} {us : List Un} (h : UOwn w0 base v us w) (hbase : base ≤ w.heap.size) (R : Array Value) (u : Un) (hu : UnitIs w0 (.agg R) u) (hs : a.eval s = v) (hx : a.eval x = .slice (some ⟨w.heap.size, 0, none⟩) 1 1) (hlen : us.length + 1 ≤ 1000)
    (hK : ∀ v' w', UOwn w0 base v' (us ++ [u]) w' → wpList Try.prog ops Q rest (a.put o.dst v') w') :
    wpList Try.prog ops Q (o :: rest) a (w.alloc (.cells R 67)) := by
  refine wpList_plain hg fun K hK' => ?_
  obtain ⟨R', e, hR8, -⟩ := hu.cells
  cases e
  obtain ⟨v', w', hrun, r1⟩ := run_append_rows (h.ext ((Ext.refl w).alloc (.cells R 67))) [R.toList] (vs := [u]) rfl (by simpa using hR8) (fun i hi h2 => by
    match i, hi with
    | 0, _ => simpa using hu) (u := .slice (some ⟨w.heap.size, 0, none⟩) 1 1) ⟨_, _, rfl, (fun h => by cases h), fun ad e j y hj => by
      cases e
      rw [Addr.add_lit, Nat.zero_add, cell_blk (heap_alloc_new w _), ← Array.getElem?_toList]
      simpa using hj⟩ (by simpa using hR8) (by simpa using hlen) (by simp; omega) o.type
  unfold Oper.wp
  simp [execOp, hop, resolve, invoke, builtin, hs, hx, hrun, Result.andThen]
  exact hK' _ _ (hK _ _ r1)
theorem wpList_push_units {w0 w : World} {ops : Array Oper} {rest : List Oper} {o : Oper} {a : Act} {Q : Exit → Act → World → Prop}
    (hg : o.guard = none) (s x : Operand) (hop : o.op = Op.call { callee := Callee.builtin Builtin.append, args := #[s, x], argTypes := #[33, 33] })
    {base : Nat} {v u : Value} {us vs : List Un} (h : UOwn w0 base v us w) (hbase : base ≤ w.heap.size) (hu : UnitsIn w0 u vs) (hnz : NilOk u) (hs : a.eval s = v) (hx : a.eval x = u) (hlen : us.length + vs.length ≤ 1000)
    (hK : ∀ v' w', UOwn w0 base v' (us ++ vs) w' → wpList Try.prog ops Q rest (a.put o.dst v') w') :
    wpList Try.prog ops Q (o :: rest) a w := by
  refine wpList_plain hg fun K hK' => ?_
  obtain ⟨a', cap, Rs, rfl, hRl, h8, hui, hcells⟩ := hu.rows
  have hfl : Rs.flatten.length = vs.length * 8 := by
    rw [List.length_flatten, ← hRl]
    have : ∀ (l : List (List Value)), (∀ R ∈ l, R.length = 8) → (l.map List.length).sum = l.length * 8 := by
      intro l
      induction l with
      | nil => intro _; rfl
      | cons R r ih => intro h; rw [List.map_cons, List.sum_cons, ih (fun R hR => h R (by simp [hR])), h R (by simp), List.length_cons]; omega
    exact this Rs fun R hR => (h8 R hR).1
  have hsrc : Src w (.slice a' vs.length cap) vs.length Rs.flatten := by
    refine ⟨a', cap, rfl, fun ha => ?_, fun ad ha j y hj => ?_⟩
    · subst ha
      refine ⟨hnz _ _ rfl, ?_⟩
      cases hn : vs.length with
      | zero => rfl
      | succ n =>
        obtain ⟨b, o, e, -⟩ := hcells 0 (by omega)
        cases e
    · have hj' := (List.getElem?_eq_some_iff.1 hj).1
      obtain ⟨b, o, e, hc⟩ := hcells 0 (by omega)
      rw [ha] at e
      cases e
      rw [Addr.add_lit]
      refine h.x.cell ?_
      rw [hc j hj', hj]
  obtain ⟨v', w', hrun, r1⟩ := run_append_rows h Rs hRl (fun R hR => (h8 R hR).1) hui hsrc hfl hlen hbase o.type
  unfold Oper.wp
  simp [execOp, hop, resolve, invoke, builtin, hs, hx, hrun, Result.andThen]
  exact hK' _ _ (hK _ _ r1)
theorem Try.results38 : Try.f38.results = #[.cell 2 67] := by kernel_rfl
set_option maxRecDepth 100000 in
set_option maxHeartbeats 2000000 in
theorem Plain_any {w : World} {R : Array Value} {u : Un} (h : UnitIs w (.agg R) u) : Calls Try.prog 38 #[.agg R] w fun e w' => e = .returned (.agg R) ∧ Ext w w' := by
  obtain ⟨a0, n0, c0, a1, n1, c1, a2, n2, c2, a3, n3, c3, a4, n4, c4, a5, n5, c5, e, -⟩ := h.shape
  cases e
  clear h
  go_enter Try.func38, Try.ntmps38
  go_wp2_with fail
  refine bodyPost_ret (v := .agg #[.string (ba u.name), .slice a0 n0 c0, .slice a1 n1 c1, .slice a2 n2 c2, .slice a3 n3 c3, .slice a4 n4 c4, .slice a5 n5 c5, .int .i64 u.retry]) (by simp [results, Try.results38, go_sem]) rfl ⟨rfl, ((Ext.refl w).alloc _).alloc _⟩
def nameU (n : Str) : Un := ⟨n, [], [], [], [], [], [], 0⟩
def plainRel (w : World) (us : List Un) (bv i : Value) (wr : World) : Prop := ∃ k : Nat, k ≤ us.length ∧ i = .int .i64 k ∧ Hid (UOwn w w.heap.size bv (us.take k) wr)
def plainPost (w : World) (us : List Un) (e : Ending) (w' : World) : Prop := ∃ v, e = .returned v ∧ UnitsIn w' v us ∧ NilOk v ∧ Ext w w'
set_option maxRecDepth 100000 in
set_option maxHeartbeats 4000000 in
theorem plain_any {w : World} {v : Value} {us : List Un} (h : UnitsIn w v us) (hl : us.length ≤ 20) : Calls Try.prog 12 #[v] w (plainPost w us) := by
  have HU := Lib.hid h
  have HS := Lib.hid (UOwn.start w w (Ext.refl w))
  obtain ⟨av, cv, rfl, hcap, hcap2, -⟩ := h
  go_enter Try.func12, Try.ntmps12
  go_wp2_with fail
  go_loopw [3, 9] (fun bv i wr => plainRel w us bv i wr) (fun _ i _ => us.length - (intOf i).toNat)
  case atStart => exact ⟨0, Nat.zero_le _, rfl, HS⟩
  case round =>
    obtain ⟨wq, rfl⟩ : ∃ x : World, x = wr := ⟨_, rfl⟩
    obtain ⟨k, hk, rfl, HO⟩ := hrel
    by_cases hlt : k < us.length
    · obtain ⟨b, o, R, rfl, hui, hrg⟩ := HU.out.at k hlt
      have hrg2 := range_ext hrg HO.out.x
      obtain ⟨a0, n0, c0, a1, n1, c1, a2, n2, c2, a3, n3, c3, a4, n4, c4, a5, n5, c5, e, -⟩ := hui.shape
      cases e
      have HTK := Lib.hid (List.take_succ_eq_append_getElem hlt)
      have HU2 := Lib.hid hui
      have htl : (us.take k).length = k := by rw [List.length_take]; omega
      clear hui hrg
      generalize us[k] = u at *
      go_upto_region 5 with (refine wpList_load_mid rfl 45 (.tmp 11) rfl b (o + k * 8) rfl _ _ hrg2 Try.underlying45 rfl rfl ?_)
      obtain ⟨W8, hW8⟩ : ∃ W8 : World, W8 = wq.alloc (.cells #[Value.string (ba u.name), Value.slice a0 n0 c0, Value.slice a1 n1 c1, Value.slice a2 n2 c2, Value.slice a3 n3 c3, Value.slice a4 n4 c4, Value.slice a5 n5 c5, Value.int IntKind.i64 u.retry] 45) := ⟨_, rfl⟩
      have X8 := Lib.hid (show Ext wq W8 by rw [hW8]; exact (Ext.refl wq).alloc _)
      obtain ⟨k0, k1, k2, k3, k4, k5, k6, k7⟩ := cells8 (show W8.heap[wq.heap.size]? = some _ by rw [hW8]; exact heap_alloc_new _ _)
      have HP := Lib.hid (Plain_any (HU2.out.ext (HO.out.x.trans X8.out)))
      obtain ⟨ab, cb, rfl, hcb, hcb2⟩ := HO.out.shape
      rw [htl] at hcb HO
      rw [htl]
      have HTL := Lib.hid htl
      rw [← hW8]
      clear hW8 hrg2 htl
      go_wp2_with (first
        | (go_at_call 38; refine HP.out.mono ?_; rintro e w5 ⟨rfl, x5⟩; have X5 := Lib.hid (X8.out.trans x5); clear x5)
        | (refine wpList_push_unit rfl (.tmp 13) (.tmp 16) rfl (HO.out.ext X5.out) (by have := X5.out.sz; have := HO.out.x.sz; omega) _ u HU2.out rfl rfl (by rw [HTL.out]; omega) ?_; intro v9 w9 u9; have U9 := Lib.hid u9; clear u9))
      go_roundw
      case rel => exact ⟨k + 1, by omega, by go_num, by rw [HTK.out]; exact U9⟩
      case measure => simp [intOf]; omega
    · obtain ⟨ab, cb, rfl, hcb, hcb2⟩ := HO.out.shape
      have hO := HO.out
      rw [List.take_of_length_le (by omega)] at hO
      have HO2 := Lib.hid hO
      clear hO
      go_wp2_with fail
      go_ret
      rw [List.take_of_length_le (by omega)]
      exact ⟨_, rfl, HO2.out.units.1, HO2.out.units.2, HO2.out.x⟩
def namedRel (w : World) (l : List Str) (bv i : Value) (wr : World) : Prop := ∃ k : Nat, k ≤ l.length ∧ i = .int .i64 k ∧ Hid (UOwn w w.heap.size bv ((l.take k).map nameU) wr)
def namedPost (w : World) (us : List Un) (e : Ending) (w' : World) : Prop := ∃ v, e = .returned v ∧ UOwn w w.heap.size v us w'
theorem nameU_is (w : World) (n : Str) : UnitIs w (.agg #[.string (ba n), .slice none 0 0, .slice none 0 0, .slice none 0 0, .slice none 0 0, .slice none 0 0, .slice none 0 0, .int .i64 0]) (nameU n) :=
  unit_lit (u := nameU n) _ _ _ _ _ _ (SRow.nil w) (SRow.nil w) (SRow.nil w) (SRow.nil w) (SRow.nil w) (SRow.nil w)
set_option maxRecDepth 100000 in
set_option maxHeartbeats 4000000 in
theorem named_any {w : World} {v : Value} {l : List Str} (h : SRow w v l) (hl : l.length ≤ 20) : Calls Try.prog 17 #[v] w (namedPost w (l.map nameU)) := by
  have HU := Lib.hid h
  have HS := Lib.hid (UOwn.start w w (Ext.refl w))
  obtain ⟨av, cv, rfl, hcap, hcap2⟩ := h.form
  clear h
  go_enter Try.func17, Try.ntmps17
  go_wp2_with fail
  go_loopw [3, 9] (fun bv i wr => namedRel w l bv i wr) (fun _ i _ => l.length - (intOf i).toNat)
  case atStart => exact ⟨0, Nat.zero_le _, rfl, HS⟩
  case round =>
    obtain ⟨wq, rfl⟩ : ∃ x : World, x = wr := ⟨_, rfl⟩
    obtain ⟨k, hk, rfl, HO⟩ := hrel
    have htl : ((l.take k).map nameU).length = k := by rw [List.length_map, List.length_take]; omega
    obtain ⟨ab, cb, rfl, hcb, hcb2⟩ := HO.out.shape
    rw [htl] at hcb HO
    rw [htl]
    have HTL := Lib.hid htl
    clear htl
    by_cases hlt : k < l.length
    · obtain ⟨b, o, rfl, e1⟩ := (HU.out.ext HO.out.x).at k hlt
      have HTK := Lib.hid (List.take_succ_eq_append_getElem hlt)
      generalize l[k] = n at *
      go_wp2_with (refine wpList_push_unit rfl (.tmp 13) (.tmp 16) rfl HO.out (by have := HO.out.x.sz; omega) _ (nameU n) (nameU_is w n) rfl rfl (by rw [HTL.out]; omega) ?_; intro v9 w9 u9; have U9 := Lib.hid u9; clear u9)
      go_roundw
      case rel => exact ⟨k + 1, by omega, by go_num, by rw [HTK.out, List.map_append]; exact U9⟩
      case measure => simp [intOf]; omega
    · have hkl : k = l.length := by omega
      subst hkl
      have hO := HO.out
      rw [List.take_length] at hO
      have HO2 := Lib.hid hO
      clear hO
      go_wp2_with fail
      go_ret
      exact ⟨_, rfl, HO2.out⟩
end Go.Proofs.Ytobdjfibaemmhaa
