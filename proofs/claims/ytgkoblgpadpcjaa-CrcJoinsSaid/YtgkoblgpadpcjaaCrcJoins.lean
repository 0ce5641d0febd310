/- CrcJoins: of bytes of one length the sums of two, and of these two turned alike, differ alike: whatever bytes come in, the call returns true, and they read as before. Conditions: none. -/
import Derived.Test.YtgkoblgpadpcjaaSums
import Derived.ProofKit
import Derived.OpenShut
import Derived.ShutString
import Derived.ChangeOld
import Derived.Test.YtgkoblgpadpcjaaKit2
namespace Go.Proofs.Ytgkoblgpadpcjaa.crcJoins
open Go.ChangeShapes Go.WideShapes Go.ChangeAt Go.RowKit
open Go.ChangeMaps (open_string shut_string)
set_option linter.unusedVariables false

theorem own : ownKnob Try.prog.godebug = none := by kernel_rfl
theorem laidOut : laidOutB Try.prog = true := by kernel_rfl

theorem min_four (la lb lc : Nat) : ∃ n : Nat, n ≤ la ∧ n ≤ lb ∧ n ≤ lc ∧ n ≤ 200 ∧ ∀ (ts : Array TypeId) (t : TypeId) (w : World),
    (Builtin.min_ ts t #[.int .i64 la, .int .i64 lb, .int .i64 lc, .int .i64 200]).run Try.prog w = .ok (.int .i64 n) w := by
  refine ⟨min (min (min la lb) lc) 200, by omega, by omega, by omega, by omega, fun ts t w => ?_⟩
  have e : (.int .i64 ((min (min (min la lb) lc) 200 : Nat) : Int) : Value) = .int .i64 (if (200 : Int) < (if (lc : Int) < (if (lb : Int) < la then (lb : Int) else la) then (lc : Int) else (if (lb : Int) < la then (lb : Int) else la)) then 200 else (if (lc : Int) < (if (lb : Int) < la then (lb : Int) else la) then (lc : Int) else (if (lb : Int) < la then (lb : Int) else la))) := by
    congr 1; omega
  rw [e]
  simp [Builtin.min_, Builtin.min2]

set_option maxRecDepth 100000 in
set_option maxHeartbeats 2000000 in
theorem walk' (la lb lc : List UInt8) (va vb vc : Value) (w : World) (ha : Bytes w va la) (hb : Bytes w vb lb) (hc : Bytes w vc lc) :
    Calls Try.prog 5 #[va, vb, vc] w fun e w' => e = .returned (.bool true) ∧ Below w.heap.size w w' := by
  have ha0 := Lib.hid ha
  have hb0 := Lib.hid hb
  have hc0 := Lib.hid hc
  obtain ⟨a, capa, rfl, hla, hma, _, _⟩ := ha
  obtain ⟨b, capb, rfl, hlb, hmb, _, _⟩ := hb
  obtain ⟨c, capc, rfl, hlc, hmc, _, _⟩ := hc
  obtain ⟨n, hna, hnb, hnc, hn2, hmin⟩ := min_four la.length lb.length lc.length
  go_enter Try.func5, Try.ntmps5
  go_wp2_with fail
  refine (alive_any _).mono ?_
  rintro e w1 ⟨rfl, bel1⟩
  have hsz := bel1.size
  have A1 := Lib.hid (ha0.out.below bel1 (Nat.le_refl _))
  have B1 := Lib.hid (hb0.out.below bel1 (Nat.le_refl _))
  have C1 := Lib.hid (hc0.out.below bel1 (Nat.le_refl _))
  have Bel1 := Lib.hid bel1
  clear bel1
  go_wp2_with fail
  have SA := Lib.hid (fun (W : World) (h : Below w1.heap.size w1 W) => (A1.out.below h (Nat.le_refl _)).take n hna)
  have SB := Lib.hid (fun (W : World) (h : Below w1.heap.size w1 W) => (B1.out.below h (Nat.le_refl _)).take n hnb)
  go_cut [8, 9] from 21 (fun x y wc => Two w1 wc x y (la.take n) (lb.take n))
  case first =>
    have hnca : n ≤ capa := by omega
    have hncb : n ≤ capb := by omega
    have Hla : Hid ((la.take n).length = (lb.take n).length) := by show _ = _; simp; omega
    go_region_law (first
      | (refine step_append_empty_bytes rfl (.tmp 21) (.tmp 24) 22 rfl Try.underlying22 _ _ rfl rfl (la.take n) (SA.out _ (by first | exact ((Below.refl _ _).alloc (Nat.le_refl _) _).drew | exact (((Below.refl _ _).alloc (Nat.le_refl _) _).alloc (by simp) _).drew)) (by simp; omega) ?_; intro v1 w2 f1; have b1 : Below w1.heap.size w1 w2 := below_then f1 (by first | exact ((Below.refl _ _).alloc (Nat.le_refl _) _).drew | exact (((Below.refl _ _).alloc (Nat.le_refl _) _).alloc (by simp) _).drew) (by simp <;> omega))
      | (refine step_append_empty_bytes rfl (.tmp 26) (.tmp 29) 22 rfl Try.underlying22 _ _ rfl rfl (lb.take n) (SB.out _ (by first | exact b1 | exact b1.alloc b1.size _)) (by simp; omega) ?_; intro v2 w3 f2))
    all_goals
      have R : Two w1 w3 v1 v2 (la.take n) (lb.take n) := two_of Hla.out (by first | exact ((Below.refl _ _).alloc (Nat.le_refl _) _).drew | exact (((Below.refl _ _).alloc (Nat.le_refl _) _).alloc (by simp) _).drew) f1 (by first | exact Below.refl _ _ | exact (Below.refl _ _).alloc (Nat.le_refl _) _) f2
      clear f1 f2 b1
      go_wp2
      go_meet
      exact R
  case rest =>
    obtain ⟨xs, hxs, hxl⟩ : ∃ xs, xs = la.take n ∧ xs.length = n := ⟨_, rfl, by simp; omega⟩
    obtain ⟨ys, hys, hyl⟩ : ∃ ys, ys = lb.take n ∧ ys.length = n := ⟨_, rfl, by simp; omega⟩
    rw [← hxs, ← hys] at hcut
    clear hxs hys SA SB A1 B1
    have Cut := Lib.hid hcut
    obtain ⟨⟨ax, cx, rfl, -, -, -, -⟩, ⟨ay, cy, rfl, -, -, -, -⟩, -, -⟩ := hcut
    have hx1 : n ≤ xs.length := by omega
    have hx2 : xs.length ≤ n := by omega
    have hy1 : n ≤ ys.length := by omega
    have hy2 : ys.length ≤ n := by omega
    clear hxl hyl
    have R1 := Lib.hid (RowsOf.new1 wc wc.heap.size rfl _ _ Cut.out.1)
    have R2 := Lib.hid (RowsOf.new1 (wc.alloc (.cells #[.slice ax xs.length cx] 22)) (wc.heap.size + 1) (by simp) _ _ (Cut.out.2.1.alloc _))
    have hxor := xor_u32 (crcOf xs) (crcOf ys) (crcOf_lt _) (crcOf_lt _)
    go_wp2_with fail
    refine (crc_of _ _ _ _ _ (by simp) R1.out).mono ?_
    rintro e w' ⟨rfl, rfl⟩
    go_wp2_with fail
    refine (crc_of _ _ _ _ _ (by simp) R2.out).mono ?_
    rintro e w' ⟨rfl, rfl⟩
    have T0 : Two w1 ((wc.alloc (.cells #[.slice ax xs.length cx] 22)).alloc (.cells #[.slice ay ys.length cy] 22)) (.slice ax xs.length cx) (.slice ay ys.length cy) (turnTo xs 0 lc 0) (turnTo ys 0 lc 0) := (Cut.out.alloc _).alloc _
    have HT0 := Lib.hid T0
    clear T0 R1 R2 Cut
    have hT0 := HT0.out.2.2.2.size
    go_wp2_with fail
    go_loopw [39] (fun i wr => ∃ k : Nat, k ≤ n ∧ i = .int .i64 k ∧ Two w1 wr (.slice ax xs.length cx) (.slice ay ys.length cy) (turnTo xs 0 lc k) (turnTo ys 0 lc k)) (fun i _ => n - (intOf i).toNat)
    case atStart => exact ⟨0, Nat.zero_le _, rfl, HT0.out⟩
    case round =>
      obtain ⟨k, hk, rfl, T⟩ := hrel
      clear HT0
      have lx := turnTo_length xs 0 lc k
      have ly := turnTo_length ys 0 lc k
      clear lx ly
      by_cases hlt : k < n
      · obtain ⟨gx, gy, bc, oc, p, q, r, p', q', rfl, rfl, rfl, cX, fX, cC, e1, cY, fY, cC1, e2, T2⟩ := joins_step T C1.out (by omega) (by omega) (by omega) (by omega)
        have TT2 := Lib.hid T2
        clear T T2
        go_wp2_with fail
        go_region
        go_wp2_with fail
        generalize (wr.setCell ⟨gx, k, none⟩ (.int .u8 p')).drew = w5 at *
        go_region
        go_wp2_with fail
        go_roundw
        case rel => exact ⟨k + 1, by omega, by go_num, TT2.out⟩
        case measure => simp [intOf]; omega
      · have hkn : k = n := by omega
        subst hkn
        have hfin := crc_joins xs ys lc k (by omega) (by omega) (by omega)
        clear hxor
        have hxor := xor_u32 (crcOf (turnTo xs 0 lc k)) (crcOf (turnTo ys 0 lc k)) (crcOf_lt _) (crcOf_lt _)
        rw [hfin] at hxor
        have R3 := Lib.hid (RowsOf.new1 wr wr.heap.size rfl _ _ T.1)
        have R4 := Lib.hid (RowsOf.new1 (wr.alloc (.cells #[.slice ax xs.length cx] 22)) (wr.heap.size + 1) (by simp) _ _ (T.2.1.alloc _))
        have Bel := Lib.hid (((Bel1.out.trans (T.2.2.2.mono hsz)).alloc (by have := T.2.2.2.size; omega) (.cells #[.slice ax xs.length cx] 22)).alloc (by have := T.2.2.2.size; simp; omega) (.cells #[.slice ay ys.length cy] 22))
        clear hfin T
        go_wp2_with fail
        refine (crc_of _ _ _ _ _ (by simp) R3.out).mono ?_
        rintro e w' ⟨rfl, rfl⟩
        go_wp2_with fail
        refine (crc_of _ _ _ _ _ (by simp) R4.out).mono ?_
        rintro e w' ⟨rfl, rfl⟩
        simp only [List.flatten_cons, List.flatten_nil, List.append_nil]
        go_wp2
        go_ret
        exact ⟨rfl, Bel.out⟩

theorem walk (a0 : Option Addr) (len0 cap0 : Nat) (z0 : List Int) (a1 : Option Addr) (len1 cap1 : Nat) (z1 : List Int) (a2 : Option Addr) (len2 cap2 : Nat) (z2 : List Int) (w : World) (w0 : IsRow .u8 w a0 len0 cap0 z0) (w1 : IsRow .u8 w a1 len1 cap1 z1) (w2 : IsRow .u8 w a2 len2 cap2 z2) :
    Calls Try.prog 5 #[.slice a0 len0 cap0, .slice a1 len1 cap1, .slice a2 len2 cap2] w fun e w' => e = .returned (.bool true) ∧ Below w.heap.size w w' := by
  obtain ⟨l, _, hb⟩ := w0.bytes
  obtain ⟨m, _, hb'⟩ := w1.bytes
  obtain ⟨n, _, hb''⟩ := w2.bytes
  exact walk' l m n _ _ _ w hb hb' hb''

set_option maxRecDepth 100000 in
theorem lifted (os : Os) (started : os.Started) (H : Type) (enc : TypeId × Value → H) :
    ReturnsInHanded {} Try.checked os 5 .any (Rows.crcJoinsSpec.pre6 enc Try.prog Try.f5 Rows.crcJoinsRow.domain false) (Rows.crcJoinsSpec.post enc Try.prog Try.f5 false true false false) := by
  refine returnsInHanded_of_change (C := Try.checked) own started (by kernel_rfl) Try.func5
    (ChangeSpec.witness6 (enc := enc) (C := Try.checked) false ⟨#[], #[.slice none 0 0, .slice none 0 0, .slice none 0 0], []⟩ 8 (by kernel_rfl) (by kernel_rfl) (by kernel_rfl) (by kernel_rfl)) ?_
  intro W base args ds gs before hval0 hW hcnd _
  have hval : ∀ (j : Nat) t v, Try.f5.params[j]? = some t → args[j]? = some v → Value.okWide Try.prog W .any base t v := hval0
  have hW' := hW
  obtain ⟨p, q, hA0, hV, rfl, hfz, hnd⟩ := hW
  have hA : DataW.TrodAll enc Try.prog W 0 (fun _ => true) true Try.f5.params.toList args.toList ds p := hA0
  rw [Try.params5] at hA hval
  obtain ⟨v0, vs0, d0, ds0, p0, q0, hargs, rfl, rfl, h0, r0⟩ := trodAll_cons hA
  obtain ⟨v1, vs1, d1, ds1, p1, q1, rfl, rfl, rfl, h1, r1⟩ := trodAll_cons r0
  obtain ⟨v2, vs2, d2, ds2, p2, q2, rfl, rfl, rfl, h2, r2⟩ := trodAll_cons r1
  obtain ⟨rfl, rfl, rfl⟩ := trodAll_nil r2
  obtain rfl : args = #[v0, v1, v2] := by cases args; simp_all
  obtain ⟨rfl, rfl⟩ := trodVars_none hV
  obtain ⟨a0, len0, cap0, rfl⟩ := okWide_slice Try.underlying22 (hval 0 22 v0 rfl rfl)
  have k0 := h0
  have lt0 : ∀ x ∈ p0, x.block < W.heap.size := by obtain ⟨m, hm⟩ := k0; exact DataW.trod_lt m _ _ _ hm
  obtain ⟨z0, w0⟩ : ∃ zs, IsRow .u8 W a0 len0 cap0 zs := by
    obtain ⟨fuel, hf⟩ := h0
    rcases open_ints Try.underlying22 Try.underlying5 (by kernel_rfl) hf with ⟨hcs, _⟩ | ⟨x, l, c, zs, hcs, _, hl, hm, hz, _, hcell, hwz⟩
    · simp [Value.cells] at hcs
      obtain ⟨rfl, rfl, rfl⟩ := hcs
      exact ⟨[], .inl ⟨rfl, rfl, rfl, rfl⟩⟩
    · simp [Value.cells] at hcs
      obtain ⟨rfl, rfl, rfl⟩ := hcs
      exact ⟨zs, .inr ⟨_, rfl, hl, hm, by simpa using hz, hcell, hwz⟩⟩
  obtain ⟨a1, len1, cap1, rfl⟩ := okWide_slice Try.underlying22 (hval 1 22 v1 rfl rfl)
  have k1 := h1
  have lt1 : ∀ x ∈ p1, x.block < W.heap.size := by obtain ⟨m, hm⟩ := k1; exact DataW.trod_lt m _ _ _ hm
  obtain ⟨z1, w1⟩ : ∃ zs, IsRow .u8 W a1 len1 cap1 zs := by
    obtain ⟨fuel, hf⟩ := h1
    rcases open_ints Try.underlying22 Try.underlying5 (by kernel_rfl) hf with ⟨hcs, _⟩ | ⟨x, l, c, zs, hcs, _, hl, hm, hz, _, hcell, hwz⟩
    · simp [Value.cells] at hcs
      obtain ⟨rfl, rfl, rfl⟩ := hcs
      exact ⟨[], .inl ⟨rfl, rfl, rfl, rfl⟩⟩
    · simp [Value.cells] at hcs
      obtain ⟨rfl, rfl, rfl⟩ := hcs
      exact ⟨zs, .inr ⟨_, rfl, hl, hm, by simpa using hz, hcell, hwz⟩⟩
  obtain ⟨a2, len2, cap2, rfl⟩ := okWide_slice Try.underlying22 (hval 2 22 v2 rfl rfl)
  have k2 := h2
  have lt2 : ∀ x ∈ p2, x.block < W.heap.size := by obtain ⟨m, hm⟩ := k2; exact DataW.trod_lt m _ _ _ hm
  obtain ⟨z2, w2⟩ : ∃ zs, IsRow .u8 W a2 len2 cap2 zs := by
    obtain ⟨fuel, hf⟩ := h2
    rcases open_ints Try.underlying22 Try.underlying5 (by kernel_rfl) hf with ⟨hcs, _⟩ | ⟨x, l, c, zs, hcs, _, hl, hm, hz, _, hcell, hwz⟩
    · simp [Value.cells] at hcs
      obtain ⟨rfl, rfl, rfl⟩ := hcs
      exact ⟨[], .inl ⟨rfl, rfl, rfl, rfl⟩⟩
    · simp [Value.cells] at hcs
      obtain ⟨rfl, rfl, rfl⟩ := hcs
      exact ⟨zs, .inr ⟨_, rfl, hl, hm, by simpa using hz, hcell, hwz⟩⟩
  clear hA0 hval0
  refine (walk a0 len0 cap0 z0 a1 len1 cap1 z1 a2 len2 cap2 z2 W w0 w1 w2).mono fun e W' ⟨he, bel⟩ => ?_
  subst he
  exact ⟨_, rfl, _, _, _, [], _, [], hW', trodAll_mk1 (shut_bool Try.underlying4 _), (trodAll_cons_mk (Below.trod laidOut (by kernel_rfl) (of_decide_eq_true (by kernel_rfl)) k0 bel lt0) (trodAll_cons_mk (Below.trod laidOut (by kernel_rfl) (of_decide_eq_true (by kernel_rfl)) k1 bel lt1) (trodAll_cons_mk (Below.trod laidOut (by kernel_rfl) (of_decide_eq_true (by kernel_rfl)) k2 bel lt2) trodAll_mk0))), rfl, bel.frame _, fun h => by cases h⟩

theorem over : Rows.crcJoinsRow.holds Try.pinned (OpenSpec.ofChange Rows.crcJoinsSpec) :=
  OpenClaim.holds_of_wide 5 Try.f5 rfl rfl rfl rfl rfl rfl rfl ⟨rfl, rfl, rfl, rfl, rfl⟩ rfl rfl rfl rfl rfl (by kernel_rfl) Try.func5 (by kernel_rfl)
    (of_decide_eq_true (by kernel_rfl)) (by unfold Func.isWrapper; first | (rw [if_pos (by decide +kernel)]; kernel_rfl) | (rw [if_neg (by decide +kernel)]; exact ⟨rfl, rfl⟩))
    (fun os started H enc _ => lifted os started H enc)

theorem proved : Rows.CrcJoinsSaid := over
#print axioms proved
end Go.Proofs.Ytgkoblgpadpcjaa.crcJoins
