/- DiskPlans: the walk. -/
import Derived.Test.YtgkoblgpadpcjaaDiskV
import Derived.Deep.CutRange
namespace Go.Proofs.Ytgkoblgpadpcjaa.diskPlans
open Go.RowKit

/-- A disk of four sectors with power, which goes at the f-th step (below 1: at none). -/
structure Up (D : Dk) (f : Int) (c : Nat) : Prop where
  down : D.down = false
  len : D.kept.length = 4
  fate : D.fate = f
  steps : D.steps ≤ c
  cache : D.cache.length ≤ c
theorem write_in {D : Dk} {f : Int} {c : Nat} (h : Up D f c) (a : Nat) (ha : a < 4) (s : List UInt8) : D.write (a : Int) s = if (Dk.step { D with cache := D.cache ++ [(a, s)] }).2 then ((Dk.step { D with cache := D.cache ++ [(a, s)] }).1, 0) else ((Dk.step { D with cache := D.cache ++ [(a, s)] }).1, 3) := by
  unfold Dk.write
  rw [if_neg (by rw [h.down]; decide), if_neg (by rw [h.len]; omega)]
  rfl
theorem up_none {D : Dk} {f : Int} {c : Nat} (h : Up D f c) (a : Nat) (ha : a < 4) (s : List UInt8) (hf : f < 1) : (D.write (a : Int) s).2 = 0 ∧ Up (D.write (a : Int) s).1 f (c + 1) := by
  have hs : Dk.step { D with cache := D.cache ++ [(a, s)] } = ({ D with cache := D.cache ++ [(a, s)], steps := D.steps + 1 }, true) := by
    unfold Dk.step
    rw [if_neg (by show ¬ 0 < D.fate; rw [h.fate]; omega)]
  rw [write_in h a ha s, hs]
  exact ⟨rfl, h.down, h.len, h.fate, Nat.succ_le_succ h.steps, by show (D.cache ++ [(a, s)]).length ≤ c + 1; rw [List.length_append]; exact Nat.succ_le_succ h.cache⟩
theorem up_more {D : Dk} {f : Int} {c : Nat} (h : Up D f c) (a : Nat) (ha : a < 4) (s : List UInt8) (hf : 1 < f) : (D.write (a : Int) s).2 = 0 ∧ Up (D.write (a : Int) s).1 (f - 1) (c + 1) := by
  have hs : Dk.step { D with cache := D.cache ++ [(a, s)] } = ({ D with cache := D.cache ++ [(a, s)], steps := D.steps + 1, fate := D.fate - 1 }, true) := by
    unfold Dk.step
    rw [if_pos (by show 0 < D.fate; rw [h.fate]; omega), if_neg (by show ¬ D.fate = 1; rw [h.fate]; omega)]
  rw [write_in h a ha s, hs]
  exact ⟨rfl, h.down, h.len, by show D.fate - 1 = f - 1; rw [h.fate], Nat.succ_le_succ h.steps, by show (D.cache ++ [(a, s)]).length ≤ c + 1; rw [List.length_append]; exact Nat.succ_le_succ h.cache⟩
theorem up_last {D : Dk} {c : Nat} (h : Up D 1 c) (a : Nat) (ha : a < 4) (s : List UInt8) : (D.write (a : Int) s).2 = 3 ∧ (D.write (a : Int) s).1.down = true := by
  have hs : (Dk.step { D with cache := D.cache ++ [(a, s)] }).2 = false ∧ (Dk.step { D with cache := D.cache ++ [(a, s)] }).1.down = true := by
    unfold Dk.step
    rw [if_pos (by show 0 < D.fate; rw [h.fate]; omega), if_pos (by show D.fate = 1; rw [h.fate])]
    exact ⟨rfl, rfl⟩
  rw [write_in h a ha s, if_neg (by rw [hs.1]; decide)]
  exact ⟨rfl, hs.2⟩
theorem Up.mono {D : Dk} {f : Int} {c c' : Nat} (h : Up D f c) (hc : c ≤ c') : Up D f c' := ⟨h.down, h.len, h.fate, Nat.le_trans h.steps hc, Nat.le_trans h.cache hc⟩
theorem up_new (f : Int) (k : Nat) : Up { Dk.new 4 with fate := f, keeps := k } f 0 := ⟨rfl, rfl, rfl, Nat.le_refl _, Nat.le_refl _⟩
theorem up_plan {D : Dk} {f : Int} {c : Nat} (h : Up D f c) (f' : Int) (k : Nat) : Up { D with fate := f', keeps := k } f' c := ⟨h.down, h.len, rfl, h.steps, h.cache⟩

/-- Behind the first part: the disk, and in how many steps the power goes. -/
def Mid (base g kb : Nat) (w0 : World) (s : Value) (wc : World) : Prop :=
  ∃ (M f : Int) (D : Dk), s = .int .i64 M ∧ 0 ≤ M ∧ M ≤ 9223372036854775807 ∧ DOnly base g kb w0 wc ∧ Disk base wc g kb D ∧ Up D f 20 ∧ (M < 1 → f < 1) ∧ (1 ≤ M → f = M)
/-- The first loop: so many writes were done. -/
def Pre (base g kb : Nat) (n N : Int) (w0 : World) (i : Value) (wr : World) : Prop :=
  ∃ (j : Nat) (D : Dk), i = .int .i64 j ∧ j ≤ 7 ∧ (j = 0 ∨ (j : Int) ≤ N - 1) ∧ Hid (DOnly base g kb w0 wr) ∧ Hid (Disk base wr g kb D) ∧ Hid (Up D (n - j) j)
/-- The second loop: the k-th write is next. -/
def Lp (base g kb : Nat) (M f : Int) (w0 : World) (i : Value) (wr : World) : Prop :=
  ∃ (k : Nat) (D : Dk), i = .int .i64 k ∧ 1 ≤ k ∧ k ≤ 41 ∧ Hid (DOnly base g kb w0 wr) ∧ Hid (Disk base wr g kb D) ∧ (M < 1 → Hid (Up D f (20 + k))) ∧ (1 ≤ M → (k : Int) ≤ M ∧ Hid (Up D (M - k + 1) (20 + k)))
theorem u8_small (k : Nat) (h : k ≤ 40) : ((UInt8.ofNat k).toNat : Int) = (k : Int) := by simp; omega
set_option maxRecDepth 100000 in
set_option maxHeartbeats 4000000 in
theorem walk_main (n again : Int) (keeps : Nat) (w : World) (hn : -9223372036854775808 ≤ n ∧ n ≤ 9223372036854775807) (ha : -9223372036854775808 ≤ again ∧ again ≤ 9223372036854775807) (hk : keeps < 18446744073709551616) :
    Calls Try.prog 12 #[.int .i64 n, .int .i64 again, .int .u64 keeps] w fun e w' => e = .returned (.bool true) ∧ Below w.heap.size w w' := by
  have HN := Lib.hid hn
  have HKP := Lib.hid hk
  go_enter Try.func12, Try.ntmps12
  go_wp2_with fail
  refine (diskAlive_any _).mono ?_
  rintro e w1 ⟨rfl, x1⟩
  have X1 := Lib.hid x1
  clear x1
  go_wp2_with fail
  refine (New_any 4 _).mono ?_
  rintro e w2 ⟨g, kb, rfl, hg, hkb, x2, d2⟩
  have X2 := Lib.hid (X1.out.trans x2)
  have D2 := Lib.hid d2
  have HG := Lib.hid hg
  have HK := Lib.hid hkb
  have HBS := Lib.hid x2.size
  clear x2 d2 hg hkb
  go_wp2_with fail
  refine (Plan_any w1.heap.size g kb _ n keeps _ D2.out HKP.out HN.out.2).mono ?_
  rintro e w3 ⟨⟨v3, rfl⟩, o3, d3⟩
  have O3 := Lib.hid o3
  have D3 := Lib.hid d3
  clear o3 d3
  go_upto_if 21 with (fail)
  obtain ⟨N, hN⟩ : ∃ N : Int, N = if 0 < n then n else 0 := ⟨_, rfl⟩
  rw [← hN]
  have hN0 : 0 ≤ N := by rw [hN]; split <;> omega
  have hN1 : N ≤ 9223372036854775807 := by rw [hN]; split <;> omega
  have HN2 := Lib.hid (show (N < 1 → n < 1) ∧ (1 ≤ N → n = N) by rw [hN]; split <;> constructor <;> omega)
  clear hN hn hk
  go_cut [0] from 21 to 43 (fun s wc => Mid w1.heap.size g kb w2 s wc)
  case first =>
    by_cases hq : (bits BinOp.and IntKind.i64 again 1 == 1) = true
    · rw [hq]
      obtain ⟨q2, hq2, e2⟩ := and_i64_mask (again / 2) 7 (by decide)
      obtain ⟨q3, hq3, e3⟩ := and_i64_mask (again / 16) 15 (by decide)
      have e2' : bits BinOp.and IntKind.i64 (again / 2) 7 = (q2 : Int) := e2
      have e3' : bits BinOp.and IntKind.i64 (again / 16) 15 = (q3 : Int) := e3
      clear e2 e3
      by_cases hmin : (q2 : Int) < N - 1
      · go_wp2_with fail
        go_loopw [28] (fun i wr => Pre w1.heap.size g kb n N w2 i wr) (fun i _ => 8 - (intOf i).toNat)
        case atStart => exact ⟨0, _, rfl, by omega, .inl rfl, O3, D3, by have := up_new n keeps; simpa [Hid] using this⟩
        case round =>
          obtain ⟨j, D, rfl, hj7, hjN, ho, hd, hu⟩ := hrel
          by_cases hlt : (j : Int) < (q2 : Int)
          · have hup := up_more hu.out 0 (by omega) (sec1 1) (by have := HN2.out.2 (by omega); omega)
            have hw0 := Lib.hid (show (D.write 0 (sec1 1)).2 = 0 from hup.1)
            have hu1 := Lib.hid (show Up (D.write 0 (sec1 1)).1 (n - (j : Int) - 1) (j + 1) from hup.2)
            have hst := Lib.hid (Nat.le_trans hu.out.steps (show j ≤ 1000000000 by omega))
            have hca := Lib.hid (Nat.le_trans hu.out.cache (show j ≤ 1000000000 by omega))
            clear hup
            go_wp2_with (refine wpList_sec1 rfl _ rfl 1 rfl ?_)
            refine (Write_any w1.heap.size g kb D 0 (sec1 1) _ hd.out hst.out hca.out rfl (Nat.le_trans HBS.out ho.out.size)).mono ?_
            rw [hw0.out]
            rintro e w4 ⟨rfl, o4, d4⟩
            have O4 := Lib.hid (ho.out.trans o4)
            have D4 := Lib.hid d4
            clear o4 d4 ho hd hu
            go_wp2_with fail
            go_roundw
            case rel => exact ⟨j + 1, _, by go_num, by omega, .inr (by omega), O4, D4, by have := hu1.out; rw [show n - (j : Int) - 1 = n - ((j + 1 : Nat) : Int) by omega] at this; exact this⟩
            case measure => simp [intOf]; omega
          · have hdn := hu.out.down
            go_wp2_with fail
            refine (Down_any w1.heap.size g kb D _ hd.out).mono ?_
            rw [hdn]
            rintro e w5 ⟨rfl, rfl⟩
            go_wp2_with fail
            refine (Plan_any w1.heap.size g kb D (1 + (q3 : Int)) keeps _ hd.out HKP.out (by omega)).mono ?_
            rintro e w6 ⟨⟨v6, rfl⟩, o6, d6⟩
            have O6 := Lib.hid (ho.out.trans o6)
            have D6 := Lib.hid d6
            clear o6 d6
            go_wp2_with fail
            go_meet
            exact ⟨1 + (q3 : Int), _, _, rfl, by omega, by omega, O6.out, D6.out, (up_plan hu.out _ _).mono (by omega), by omega, fun _ => rfl⟩
      · go_wp2_with fail
        go_loopw [28] (fun i wr => Pre w1.heap.size g kb n N w2 i wr) (fun i _ => 8 - (intOf i).toNat)
        case atStart => exact ⟨0, _, rfl, by omega, .inl rfl, O3, D3, by have := up_new n keeps; simpa [Hid] using this⟩
        case round =>
          obtain ⟨j, D, rfl, hj7, hjN, ho, hd, hu⟩ := hrel
          by_cases hlt : (j : Int) < N - 1
          · have hup := up_more hu.out 0 (by omega) (sec1 1) (by have := HN2.out.2 (by omega); omega)
            have hw0 := Lib.hid (show (D.write 0 (sec1 1)).2 = 0 from hup.1)
            have hu1 := Lib.hid (show Up (D.write 0 (sec1 1)).1 (n - (j : Int) - 1) (j + 1) from hup.2)
            have hst := Lib.hid (Nat.le_trans hu.out.steps (show j ≤ 1000000000 by omega))
            have hca := Lib.hid (Nat.le_trans hu.out.cache (show j ≤ 1000000000 by omega))
            clear hup
            go_wp2_with (refine wpList_sec1 rfl _ rfl 1 rfl ?_)
            refine (Write_any w1.heap.size g kb D 0 (sec1 1) _ hd.out hst.out hca.out rfl (Nat.le_trans HBS.out ho.out.size)).mono ?_
            rw [hw0.out]
            rintro e w4 ⟨rfl, o4, d4⟩
            have O4 := Lib.hid (ho.out.trans o4)
            have D4 := Lib.hid d4
            clear o4 d4 ho hd hu
            go_wp2_with fail
            go_roundw
            case rel => exact ⟨j + 1, _, by go_num, by omega, .inr (by omega), O4, D4, by have := hu1.out; rw [show n - (j : Int) - 1 = n - ((j + 1 : Nat) : Int) by omega] at this; exact this⟩
            case measure => simp [intOf]; omega
          · have hdn := hu.out.down
            go_wp2_with fail
            refine (Down_any w1.heap.size g kb D _ hd.out).mono ?_
            rw [hdn]
            rintro e w5 ⟨rfl, rfl⟩
            go_wp2_with fail
            refine (Plan_any w1.heap.size g kb D (1 + (q3 : Int)) keeps _ hd.out HKP.out (by omega)).mono ?_
            rintro e w6 ⟨⟨v6, rfl⟩, o6, d6⟩
            have O6 := Lib.hid (ho.out.trans o6)
            have D6 := Lib.hid d6
            clear o6 d6
            go_wp2_with fail
            go_meet
            exact ⟨1 + (q3 : Int), _, _, rfl, by omega, by omega, O6.out, D6.out, (up_plan hu.out _ _).mono (by omega), by omega, fun _ => rfl⟩
    · have hqf : (bits BinOp.and IntKind.i64 again 1 == 1) = false := by simpa using hq
      go_wp2_with fail
      go_meet
      exact ⟨N, n, _, rfl, hN0, hN1, O3.out, D3.out, (up_new n keeps).mono (by decide), HN2.out⟩
  case rest =>
  obtain ⟨M, f, D, rfl, hM0, hM1, om, dm, um, hf0, hf1⟩ := hcut
  have OM := Lib.hid om
  have DM := Lib.hid dm
  have UM := Lib.hid um
  have HF1 := Lib.hid hf1
  have HF0 := Lib.hid hf0
  clear om dm um hf0 hf1
  go_wp2_with fail
  go_loopw [8] (fun i wr => Lp w1.heap.size g kb M f w2 i wr) (fun i _ => 42 - (intOf i).toNat)
  case atStart =>
    refine ⟨1, D, rfl, by decide, by decide, OM, DM, fun _ => UM.out.mono (by decide), fun h => ⟨h, ?_⟩⟩
    have := UM.out.mono (show 20 ≤ 21 by decide)
    rw [HF1.out h] at this
    show Up _ _ _
    rwa [show M - ((1 : Nat) : Int) + 1 = M by omega]
  case round =>
    obtain ⟨k, D, rfl, hk1, hk41, ho, hd, hu0, hu1⟩ := hrel
    by_cases hk40 : k ≤ 40
    · obtain ⟨q, hq3, eq⟩ := and_i64_mask (k : Int) 3 (by decide)
      have eq' : bits BinOp.and IntKind.i64 (k : Int) 3 = (q : Int) := eq
      have h8 := Lib.hid (u8_small k hk40)
      clear eq
      by_cases hM : M < 1
      · have hu := hu0 hM
        have hup := up_none hu.out q (by omega) (sec1 (UInt8.ofNat k)) (HF0.out hM)
        have hw0 := Lib.hid hup.1
        have hu2 := Lib.hid hup.2
        have hst := Lib.hid (Nat.le_trans hu.out.steps (show 20 + k ≤ 1000000000 by omega))
        have hca := Lib.hid (Nat.le_trans hu.out.cache (show 20 + k ≤ 1000000000 by omega))
        clear hup hu0 hu1
        go_wp2_with (refine wpList_sec1 rfl _ rfl (UInt8.ofNat k) (by rw [h8.out]; rfl) ?_)
        refine (Write_any w1.heap.size g kb D (q : Int) (sec1 (UInt8.ofNat k)) _ hd.out hst.out hca.out rfl (Nat.le_trans HBS.out ho.out.size)).mono ?_
        rw [hw0.out]
        rintro e w4 ⟨rfl, o4, d4⟩
        have O4 := Lib.hid (ho.out.trans o4)
        have D4 := Lib.hid d4
        clear o4 d4 ho hd hu
        go_wp2_with fail
        refine (Down_any w1.heap.size g kb _ _ D4.out).mono ?_
        rw [hu2.out.down]
        rintro e w5 ⟨rfl, rfl⟩
        go_wp2_with fail
        refine (Down_any w1.heap.size g kb _ _ D4.out).mono ?_
        rw [hu2.out.down]
        rintro e w6 ⟨rfl, rfl⟩
        go_wp2_with fail
        go_roundw
        case rel => exact ⟨k + 1, _, by go_num, by omega, by omega, O4, D4, fun _ => hu2.out.mono (by omega), fun h => absurd h (by omega)⟩
        case measure => simp [intOf]; omega
      · by_cases hkM : (k : Int) < M
        · have hu := (hu1 (by omega)).2
          have hup := up_more hu.out q (by omega) (sec1 (UInt8.ofNat k)) (by omega)
          have hw0 := Lib.hid hup.1
          have hu2 := Lib.hid hup.2
          have hst := Lib.hid (Nat.le_trans hu.out.steps (show 20 + k ≤ 1000000000 by omega))
          have hca := Lib.hid (Nat.le_trans hu.out.cache (show 20 + k ≤ 1000000000 by omega))
          clear hup hu0 hu1
          go_wp2_with (refine wpList_sec1 rfl _ rfl (UInt8.ofNat k) (by rw [h8.out]; rfl) ?_)
          refine (Write_any w1.heap.size g kb D (q : Int) (sec1 (UInt8.ofNat k)) _ hd.out hst.out hca.out rfl (Nat.le_trans HBS.out ho.out.size)).mono ?_
          rw [hw0.out]
          rintro e w4 ⟨rfl, o4, d4⟩
          have O4 := Lib.hid (ho.out.trans o4)
          have D4 := Lib.hid d4
          clear o4 d4 ho hd hu
          go_wp2_with fail
          refine (Down_any w1.heap.size g kb _ _ D4.out).mono ?_
          rw [hu2.out.down]
          rintro e w5 ⟨rfl, rfl⟩
          go_wp2_with fail
          refine (Down_any w1.heap.size g kb _ _ D4.out).mono ?_
          rw [hu2.out.down]
          rintro e w6 ⟨rfl, rfl⟩
          go_wp2_with fail
          go_roundw
          case rel => exact ⟨k + 1, _, by go_num, by omega, by omega, O4, D4, fun h => absurd h (by omega), fun _ => ⟨by omega, by have := hu2.out.mono (show 20 + k + 1 ≤ 20 + (k + 1) by omega); show Up _ _ _; rwa [show M - (k : Int) + 1 - 1 = M - ((k + 1 : Nat) : Int) + 1 by omega] at this⟩⟩
          case measure => simp [intOf]; omega
        · have hkM2 : (k : Int) = M := by have := (hu1 (by omega)).1; omega
          have hu := (hu1 (by omega)).2
          have hone : M - (k : Int) + 1 = 1 := by omega
          rw [hone] at hu
          have hup := up_last hu.out q (by omega) (sec1 (UInt8.ofNat k))
          have hnk : ¬ M < 1 := by omega
          have hMk : ¬ (k : Int) < M := by omega
          have hMk2 : M ≤ (k : Int) := by omega
          have hw0 := Lib.hid hup.1
          have hu2 := Lib.hid hup.2
          have hst := Lib.hid (Nat.le_trans hu.out.steps (show 20 + k ≤ 1000000000 by omega))
          have hca := Lib.hid (Nat.le_trans hu.out.cache (show 20 + k ≤ 1000000000 by omega))
          clear hup hu0 hu1 hone hkM2
          go_wp2_with (refine wpList_sec1 rfl _ rfl (UInt8.ofNat k) (by rw [h8.out]; rfl) ?_)
          refine (Write_any w1.heap.size g kb D (q : Int) (sec1 (UInt8.ofNat k)) _ hd.out hst.out hca.out rfl (Nat.le_trans HBS.out ho.out.size)).mono ?_
          rw [hw0.out]
          rintro e w4 ⟨rfl, o4, d4⟩
          have O4 := Lib.hid (ho.out.trans o4)
          have D4 := Lib.hid d4
          clear o4 d4 ho hd hu
          go_wp2_with fail
          refine (Down_any w1.heap.size g kb _ _ D4.out).mono ?_
          rw [hu2.out]
          rintro e w5 ⟨rfl, rfl⟩
          go_wp2_with fail
          refine (Down_any w1.heap.size g kb _ _ D4.out).mono ?_
          rw [hu2.out]
          rintro e w6 ⟨rfl, rfl⟩
          go_wp2_with fail
          go_ret
          exact ⟨rfl, (show Below w.heap.size w w2 from X2.out).trans ((O4.out.below HG.out HK.out HBS.out).mono X1.out.size)⟩
    · have hkk : k = 41 := by omega
      subst hkk
      go_wp2_with fail
      go_ret
      exact ⟨rfl, (show Below w.heap.size w w2 from X2.out).trans ((ho.out.below HG.out HK.out HBS.out).mono X1.out.size)⟩
end Go.Proofs.Ytgkoblgpadpcjaa.diskPlans
