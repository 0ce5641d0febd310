/- A disk's Read. -/
import Derived.Test.YtgkoblgpadpcjaaDiskX
namespace Go.Proofs.Ytgkoblgpadpcjaa
open Go.RowKit

theorem wpList_alloc_z {P : Program} {ops : Array Oper} {rest : List Oper} {o : Oper} {a : Act} {w : World} {Q : Exit → Act → World → Prop} (hg : o.guard = none) (t : TypeId) (ho : o.op = .alloc t) (cs : Array Value)
    (hz : (P.info? t).map (fun i => i.zero) = some (some (.agg cs))) (h : wpList P ops Q rest (a.put o.dst (.pointer (some ⟨w.heap.size, 0, none⟩))) (w.alloc (.cells cs t))) : wpList P ops Q (o :: rest) a w := by
  refine wpList_plain hg fun K hK => ?_
  cases hi : P.info? t with
  | none => simp [hi] at hz
  | some i =>
    have hz' : i.zero = some (.agg cs) := by simpa [hi] using hz
    unfold Oper.wp
    simp [execOp, ho, Instr.alloc, zeroValue, typeInfo, hi, hz', newVar, Value.cells, Result.andThen]
    exact hK _ _ h
theorem wpList_build_z {P : Program} {ops : Array Oper} {rest : List Oper} {o : Oper} {a : Act} {w : World} {Q : Exit → Act → World → Prop} (hg : o.guard = none) (t : TypeId) (ho : o.op = .build t #[]) (cs : Array Value)
    (hb : P.built t [] = some cs) (h : wpList P ops Q rest (a.put o.dst (.agg cs)) w) : wpList P ops Q (o :: rest) a w := by
  refine wpList_build hg t #[] ho (by simp [hb]) ?_
  simpa [hb] using h
theorem Try.z63 : (Try.prog.info? 63).map (fun i => i.zero) = some (some (.agg (byteVals zero64).toArray)) := by kernel_rfl
theorem Try.b63 : Try.prog.built 63 [] = some (byteVals zero64).toArray := by kernel_rfl
theorem zero64_len : zero64.length = 64 := rfl
theorem Try.results43 : Try.f43.results = #[.cell 4 63, .tmp 5] := by kernel_rfl
theorem res43 (tmps : Array Value) (w : World) (B : Nat) (cs : Array Value) (e : Value) (hp : tmps.getD 4 undef = .pointer (some ⟨B, 0, none⟩)) (h5 : tmps.getD 5 undef = e) (hg : w.heap[B]? = some (.cells cs 63 (0, 0))) (hcs : cs.size = 64) :
    (results Try.f43 tmps).run Try.prog w = .ok (.tuple #[.agg cs, e]) w := by
  have hp' : tmps[4]?.getD undef = .pointer (some ⟨B, 0, none⟩) := by simpa using hp
  have h5' : tmps[5]?.getD undef = e := by simpa using h5
  simp [results, Try.results43, hp', h5', asAddr, run_loadVar_row w B 63 63 cs (0, 0) _ hg Try.underlying63 rfl (by rw [hcs]; exact Try.info63)]
/-- What the walks are told of a sector of noughts. -/
def ZFacts (Z : Array Value) : Prop := (Try.prog.info? 63).map (fun i => i.zero) = some (some (.agg Z)) ∧ Try.prog.built 63 [] = some Z ∧ (Try.prog.info? 63).map (·.size) = some Z.size ∧ Z.all (·.oneCell') = true ∧ Z.size = 64
theorem zfacts : ZFacts (byteVals zero64).toArray := ⟨Try.z63, Try.b63, by show _ = some 64; exact Try.info63, all_oneCell_toArray (byteVals_oneCell zero64), rfl⟩
theorem lastAt_append (a : Nat) (x : List (Nat × List UInt8)) : ∀ y, lastAt a (y ++ x) = match lastAt a x with | some s => some s | none => lastAt a y
  | [] => by cases h : lastAt a x <;> simp [h, lastAt]
  | c :: r => by
    rw [List.cons_append, lastAt, lastAt_append a x r]
    cases h : lastAt a x with
    | some s => rfl
    | none => simp [lastAt]
theorem lastAt_drop (a : Nat) (l : List (Nat × List UInt8)) (k : Nat) (h : k < l.length) (hn : lastAt a (l.drop (k + 1)) = none) : lastAt a (l.drop k) = if l[k].1 = a then some l[k].2 else none := by
  rw [List.drop_eq_getElem_cons h, lastAt, hn]
theorem lastAt_some (a : Nat) (l : List (Nat × List UInt8)) (k : Nat) (s : List UInt8) (h : lastAt a (l.drop k) = some s) : lastAt a l = some s := by
  conv => lhs; rw [← List.take_append_drop k l]
  rw [lastAt_append, h]
def readPost (w : World) (D : Dk) (at_ : Int) (e : Ending) (w' : World) : Prop :=
  e = .returned (.tuple #[.agg (byteVals (D.read at_).1).toArray, .int .i64 ((D.read at_).2 : Nat)]) ∧ Ext w w'

set_option maxRecDepth 100000 in
set_option maxHeartbeats 2000000 in
theorem DRead_any (base g kb : Nat) (D : Dk) (at_ : Int) (w : World) (h : Disk base w g kb D) :
    Calls Try.prog 43 #[.pointer (some ⟨g, 0, none⟩), .int .i64 at_] w (readPost w D at_) := by
  obtain ⟨cv, h⟩ := h
  have hm := h.wf.most
  obtain ⟨Z, hZ⟩ : ∃ Z, Z = (byteVals zero64).toArray := ⟨_, rfl⟩
  have HI : Hid (ZFacts Z) := by rw [hZ]; exact zfacts
  have HZ := Lib.hid hZ
  clear hZ
  have hx := h.ext ((Ext.refl w).alloc (.cells Z 63))
  obtain ⟨c0, c1, c2, c3, c4, c5, hf⟩ := hx.open
  have X := Lib.hid ((Ext.refl w).alloc (.cells Z 63))
  by_cases hd : D.down = true
  · have HS := Lib.hid (show D.read at_ = (zero64, 3) by unfold Dk.read; rw [if_pos hd])
    clear h hx hf
    go_enter Try.func43, Try.ntmps43
    go_wp2_with (first
      | (refine wpList_alloc_z rfl 63 rfl Z HI.out.1 ?_)
      | (refine wpList_build_z rfl 63 rfl Z HI.out.2.1 ?_)
      | (refine wpList_store_new rfl 63 (.tmp 4) (.tmp 12) rfl w 63 _ Z rfl rfl HI.out.2.2.1 rfl HI.out.2.2.2.1 ?_))
    refine bodyPost_ret (res43 _ _ w.heap.size Z _ rfl rfl (heap_alloc_new w _) HI.out.2.2.2.2) rfl ?_
    unfold readPost
    rw [HS.out, ← HZ.out]
    exact ⟨rfl, X.out⟩
  · have hdf : D.down = false := by simpa using hd
    by_cases h12 : at_ < 0 ∨ (D.kept.length : Int) ≤ at_
    · have HS := Lib.hid (show D.read at_ = (zero64, 2) by unfold Dk.read; rw [if_neg hd, if_pos h12])
      clear h hx hf hd
      by_cases h1 : at_ < 0
      · clear h12
        go_enter Try.func43, Try.ntmps43
        go_wp2_with (first
          | (refine wpList_alloc_z rfl 63 rfl Z HI.out.1 ?_)
          | (refine wpList_build_z rfl 63 rfl Z HI.out.2.1 ?_)
          | (refine wpList_store_new rfl 63 (.tmp 4) (.tmp 25) rfl w 63 _ Z rfl rfl HI.out.2.2.1 rfl HI.out.2.2.2.1 ?_))
        refine bodyPost_ret (res43 _ _ w.heap.size Z _ rfl rfl (heap_alloc_new w _) HI.out.2.2.2.2) rfl ?_
        unfold readPost
        rw [HS.out, ← HZ.out]
        exact ⟨rfl, X.out⟩
      · have h2 : (D.kept.length : Int) ≤ at_ := by omega
        clear h12
        go_enter Try.func43, Try.ntmps43
        go_wp2_with (first
          | (refine wpList_alloc_z rfl 63 rfl Z HI.out.1 ?_)
          | (refine wpList_build_z rfl 63 rfl Z HI.out.2.1 ?_)
          | (refine wpList_store_new rfl 63 (.tmp 4) (.tmp 25) rfl w 63 _ Z rfl rfl HI.out.2.2.1 rfl HI.out.2.2.2.1 ?_))
        refine bodyPost_ret (res43 _ _ w.heap.size Z _ rfl rfl (heap_alloc_new w _) HI.out.2.2.2.2) rfl ?_
        unfold readPost
        rw [HS.out, ← HZ.out]
        exact ⟨rfl, X.out⟩
    · obtain ⟨a, rfl⟩ : ∃ a : Nat, at_ = (a : Int) := ⟨at_.toNat, by omega⟩
      have ha : a < D.kept.length := by omega
      have HS := Lib.hid (show D.read (a : Int) = match lastAt a D.cache with | some s => (s, 0) | none => (D.kept.getD a [], 0) by unfold Dk.read; rw [if_neg hd, if_neg h12]; rfl)
      obtain ⟨ca, cap, rfl, hc1, hc2, hw⟩ := hx.writes
      have HX := Lib.hid hx
      have HW := Lib.hid hw
      have h2 : ¬ (D.kept.length : Int) ≤ (a : Int) := by omega
      have hsm : D.cache.length ≤ 9223372036854775807 := by omega
      have hkr := Lib.hid (hx.range a ha)
      have hk64 : D.kept[a].length = 64 := hx.wf.kept _ (List.getElem_mem ha)
      have hi64 := Lib.hid (show (Try.prog.info? 63).map (·.size) = some (byteVals D.kept[a]).length by rw [byteVals_length, hk64]; exact Try.info63)
      clear h hx hf hd h12 hw
      go_enter Try.func43, Try.ntmps43
      go_wp2_with (first
        | (refine wpList_alloc_z rfl 63 rfl Z HI.out.1 ?_)
        | (refine wpList_build_z rfl 63 rfl Z HI.out.2.1 ?_))
      go_loop [6] (fun i => ∃ j : Nat, j ≤ D.cache.length ∧ i = .int .i64 ((j : Int) - 1) ∧ Hid (lastAt a (D.cache.drop j) = none)) (fun i => (intOf i + 1).toNat)
      case atStart => exact ⟨D.cache.length, Nat.le_refl _, rfl, by show _ = _; rw [List.drop_length]; rfl⟩
      case round =>
        obtain ⟨j, hj, rfl, hl⟩ := hrel
        cases j with
        | zero =>
          have HS2 := Lib.hid (show D.read (a : Int) = (D.kept[a], 0) by
            have := HS.out
            rw [show lastAt a D.cache = none from hl.out] at this
            rw [this]; simp [List.getD, ha])
          have HX2 := Lib.hid ((Ext.refl w).alloc (.cells (byteVals D.kept[a]).toArray 63))
          have hZs := Lib.hid (show Z.size = (byteVals D.kept[a]).toArray.size by rw [HI.out.2.2.2.2]; simp [byteVals_length, hk64])
          have h1 := Lib.hid (all_oneCell_toArray (byteVals_oneCell D.kept[a]))
          have hs64 := Lib.hid (show (byteVals D.kept[a]).toArray.size = 64 by simp [byteVals_length, hk64])
          go_wp2_with (first
            | (refine wpList_load_mid rfl 63 (.tmp 59) rfl kb (a * 64) rfl (byteVals D.kept[a]) _ hkr.out Try.underlying63 rfl hi64.out ?_)
            | (refine wpList_store_new rfl 63 (.tmp 4) (.tmp 60) rfl w 63 Z _ rfl rfl hi64.out hZs.out h1.out ?_))
          refine bodyPost_ret (res43 _ _ w.heap.size _ _ rfl rfl (heap_alloc_new w _) hs64.out) rfl ?_
          unfold readPost
          rw [HS2.out]
          exact ⟨rfl, HX2.out⟩
        | succ k =>
          have hk : k < D.cache.length := by omega
          obtain ⟨cb, hca, hr, hr1, hr2⟩ := HW.out k hk
          subst hca
          have hld := lastAt_drop a D.cache k hk hl.out
          have hls := fun s => lastAt_some a D.cache k s
          have hc64 := (HX.out.wf.cache _ (List.getElem_mem hk)).2
          have hik : ((k + 1 : Nat) : Int) - 1 = (k : Int) := by omega
          rw [hik]
          generalize D.cache[k] = c at *
          obtain ⟨cx, s⟩ := c
          simp only at hld hr1 hr2 hc64
          have HR2 := Lib.hid hr2
          clear hr hr2 hik
          by_cases heq : cx = a
          · subst heq
            rw [if_pos rfl] at hld
            have HS2 := Lib.hid (show D.read (cx : Int) = (s, 0) by
              have := HS.out
              rw [hls s hld] at this
              exact this)
            have hs6 := Lib.hid (show (Try.prog.info? 63).map (·.size) = some (byteVals s).length by rw [byteVals_length, hc64]; exact Try.info63)
            have HX2 := Lib.hid ((Ext.refl w).alloc (.cells (byteVals s).toArray 63))
            have hZs := Lib.hid (show Z.size = (byteVals s).toArray.size by rw [HI.out.2.2.2.2]; simp [byteVals_length, hc64])
            have h1 := Lib.hid (all_oneCell_toArray (byteVals_oneCell s))
            have hs64 := Lib.hid (show (byteVals s).toArray.size = 64 by simp [byteVals_length, hc64])
            clear hls hld hl
            go_wp2_with (first
              | (refine wpList_load_mid rfl 63 (.tmp 52) rfl cb (k * 65 + 1) rfl (byteVals s) _ HR2.out Try.underlying63 rfl hs6.out ?_)
              | (refine wpList_store_new rfl 63 (.tmp 4) (.tmp 53) rfl w 63 Z _ rfl rfl hs6.out hZs.out h1.out ?_))
            refine bodyPost_ret (res43 _ _ w.heap.size _ _ rfl rfl (heap_alloc_new w _) hs64.out) rfl ?_
            unfold readPost
            rw [HS2.out]
            exact ⟨rfl, HX2.out⟩
          · rw [if_neg heq] at hld
            have hq : ((cx : Int) == (a : Int)) = false := by rw [beq_eq_false_iff_ne]; omega
            have HLD := Lib.hid hld
            clear hls hld hl heq
            go_wp2_with fail
            go_round
            case rel => exact ⟨k, by omega, by go_num, HLD⟩
            case measure => simp [intOf]
end Go.Proofs.Ytgkoblgpadpcjaa
