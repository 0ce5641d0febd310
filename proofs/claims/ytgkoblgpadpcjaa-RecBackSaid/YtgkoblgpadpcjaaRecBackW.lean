/- RecBack: the walk. -/
import Derived.Test.YtgkoblgpadpcjaaRecBackU
namespace Go.Proofs.Ytgkoblgpadpcjaa.recBack
open Go.RowKit Go.Proofs.Ytgkoblgpadpcjaa.recApart

set_option maxRecDepth 100000 in
set_option maxHeartbeats 2000000 in
theorem walk_main (f : Nat) (ll : List Pc) (v : Value) (w : World) (hp : PcsAt w f v ll) :
    Calls Try.prog 7 #[v] w fun e w' => e = .returned (.bool true) ∧ Below w.heap.size w w' := by
  have HP := Lib.hid hp
  obtain ⟨a, cap, rfl, hl, -⟩ := hp
  go_enter Try.func7, Try.ntmps7
  go_wp2_with fail
  refine (recAlive_any _).mono ?_
  rintro e w1 ⟨rfl, l1⟩
  have L1 := Lib.hid (show Ext w w1 from l1)
  clear l1
  go_wp2_with fail
  refine (size_any w f ll _ 1000 _ HP.out (by omega) L1.out).mono ?_
  rintro e w2 ⟨n, rfl, x2, hn, hs⟩
  have X2 := Lib.hid (L1.out.trans x2)
  have HS0 := Lib.hid hs
  clear x2 hs
  by_cases h1 : 1000 < n
  · go_wp2_with fail
    go_ret
    exact ⟨rfl, X2.out⟩
  · have HS := Lib.hid (fun d => Nat.le_trans (HS0.out (by omega) d) (show n ≤ 1000 by omega))
    have hl1 := Nat.le_trans (len_sum 4 ll) (HS.out (4 + 1))
    clear HS0
    have AS : Hid (Acc w.heap.size ((w2.alloc (.cells #[] 32)).alloc (.cells #[] 5)) (.slice (some ⟨w2.heap.size, 0, none⟩) 0 0) (.slice (some ⟨w2.heap.size + 1, 0, none⟩) 0 0) ((ll.take 0).map (pk 4))) := by
      have := Acc.start w2 w.heap.size X2.out.size
      show Acc _ _ _ _ _
      simpa using this
    go_wp2_with fail
    go_loopw [3, 4, 22] (fun pv av i wr => ∃ k : Nat, k ≤ ll.length ∧ i = .int .i64 k ∧ Ext w wr ∧ Hid (Acc w.heap.size wr pv av ((ll.take k).map (pk 4)))) (fun _ _ i _ => ll.length - (intOf i).toNat)
    case atStart => exact ⟨0, Nat.zero_le _, rfl, (X2.out.alloc _).alloc _, AS.out⟩
    case round =>
      obtain ⟨k, hk, rfl, xr, acc⟩ := hrel
      have XR := Lib.hid xr
      clear xr
      by_cases hlt : k < ll.length
      · obtain ⟨bb, o, d0, d1, d2, d3, rfl, e0, e1, e2, e3, hp⟩ := HP.out.at XR.out k hlt
        have HPK := Lib.hid hp
        obtain ⟨kd, nn, b, l2, hpe⟩ : ∃ kd nn b l2, ll[k] = .mk kd nn b l2 := by cases hq : ll[k]; exact ⟨_, _, _, _, rfl⟩
        rw [hpe] at hp
        obtain ⟨f', hf, rfl, rfl, hnn, hb, hbl, hps⟩ := hp.open
        obtain ⟨ab, cb, rfl, -⟩ := hb
        obtain ⟨al, cl, rfl, -⟩ := hps
        have HWK := Lib.hid (Nat.le_trans (wt_at (4 + 1) ll k hlt) (HS.out (4 + 1)))
        have HT := Lib.hid (map_take_succ (pk 4) ll k hlt)
        have HF := Lib.hid (flat_take 4 ll k)
        have HK := Lib.hid (pk_len 4 ll[k])
        clear hp hpe hf
        go_wp2_with fail
        refine (part_any w 4 (Nat.le_refl _) f ll[k] _ _ _ _ 0 _ HPK.out (by decide) (XR.out.alloc _) HWK.out).mono ?_
        rintro e w3 ⟨a1, n1, k1, a2, n2, k2, rfl, f1, f2⟩
        have F1 := Lib.hid f1.2
        have F2 := Lib.hid f2.2
        have XC := Lib.hid ((XR.out.alloc (.cells #[.int .i64 kd, .int .u32 nn, .slice ab b.length cb, .slice al l2.length cl] 46)).trans f1.1)
        have AC := Lib.hid ((acc.out.ext ((Ext.refl wr).alloc (.cells #[.int .i64 kd, .int .u32 nn, .slice ab b.length cb, .slice al l2.length cl] 46))).ext f1.1)
        have AV := Lib.hid (acc.out.ext ((Ext.refl wr).alloc (.cells #[.int .i64 kd, .int .u32 nn, .slice ab b.length cb, .slice al l2.length cl] 46))).avlt
        have SC := Lib.hid f1.1.size
        have SW := Lib.hid (XR.out.alloc (.cells #[.int .i64 kd, .int .u32 nn, .slice ab b.length cb, .slice al l2.length cl] 46)).size
        clear f1 f2 acc
        go_wp2_with (first
          | (at_builtin; refine wpList_push1 rfl (.tmp 31) (.tmp 33) rfl w.heap.size _ _ _ _ _ _ (pk 4 ll[k]) AC.out (by simp; omega) rfl SW.out SC.out AV.out F1.out F2.out rfl rfl ?_; intro pv' w4 ac1 hb4 hs4; have AC1 := Lib.hid ac1; have HB4 := Lib.hid (hb4 _ XC.out); have HS4 := Lib.hid hs4; clear ac1 hb4 hs4)
          | (at_builtin; refine wpList_push2 rfl (.tmp 35) (.tmp 36) rfl w.heap.size _ _ _ _ _ (pk 4 ll[k]) AC1.out (by have := HF.out; have := HK.out; have := HS.out (4 + 1); have := HWK.out; omega) HS4.out rfl rfl ?_; intro av' w5 ac2 hb5; rw [← HT.out] at ac2; have AC2 := Lib.hid ac2; have HB5 := Lib.hid (hb5 _ HB4.out); clear ac2 hb5))
        go_roundw
        case rel => exact ⟨k + 1, by omega, by go_num, HB5.out, AC2⟩
        case measure => simp [intOf]; omega
      · have hkl : k = ll.length := by omega
        subst hkl
        rw [List.take_length] at acc
        obtain ⟨p1, m1, p2, p3, m, p4, rfl, rfl, hm⟩ := acc.out.shape
        have hm4 : m ≤ 4000 := by have := flat_take 4 ll ll.length; rw [List.take_length] at this; have := HS.out (4 + 1); omega
        have Hm := Lib.hid hm
        have HR := Lib.hid (acc.out.rows (by simp; omega))
        have HB := Lib.hid acc.out.bytes
        obtain ⟨L, hL⟩ : ∃ L, L = (ll.map (pk 4)).flatten := ⟨_, rfl⟩
        have HL := Lib.hid hL
        rw [← hL] at HB
        clear hm acc AS hL
        go_wp2_with fail
        refine (Pack_any (ll.map (pk 4)) _ _ HR.out (by have := Hm.out; omega)).mono ?_
        rintro e w3 ⟨v3, rfl, f3⟩
        rw [← HL.out] at f3
        have F3 := Lib.hid f3
        have X3 := Lib.hid (XR.out.trans f3.1)
        have B3 := Lib.hid (HB.out.ext f3.1)
        clear f3
        go_wp2_with fail
        refine (same_true L _ _ _ F3.out.bytes B3.out).mono ?_
        rintro e w4 ⟨rfl, rfl⟩
        go_wp2_with fail
        refine (Read_any L _ _ F3.out.bytes (by have := Hm.out; rw [← HL.out] at this; omega)).mono ?_
        rintro e w5 ⟨g, rfl, h5, x5, r5⟩
        have X5 := Lib.hid (X3.out.trans x5)
        have R5 : Hid (ReaderAt w5 g (left 4 ll 0) false) := by rw [HL.out] at r5; exact r5
        have HG := Lib.hid (Nat.le_trans X3.out.size h5)
        clear h5 x5 r5
        go_wp2_with fail
        go_loopw [49] (fun i wr => ∃ k : Nat, k ≤ ll.length ∧ i = .int .i64 k ∧ Hid (Ext w wr) ∧ Hid (ReaderAt wr g (left 4 ll k) false)) (fun i _ => ll.length - (intOf i).toNat)
        case atStart => exact ⟨0, Nat.zero_le _, rfl, X5, R5⟩
        case round =>
          obtain ⟨k, hk, rfl, XR, LR⟩ := hrel
          by_cases hlt : k < ll.length
          · obtain ⟨bb, o, d0, d1, d2, d3, rfl, e0, e1, e2, e3, hp⟩ := HP.out.at XR.out k hlt
            have HPK := Lib.hid hp
            obtain ⟨kd, nn, b, l2, hpe⟩ : ∃ kd nn b l2, ll[k] = .mk kd nn b l2 := by cases hq : ll[k]; exact ⟨_, _, _, _, rfl⟩
            rw [hpe] at hp
            obtain ⟨f', hf, rfl, rfl, hnn, hb, hbl, hps⟩ := hp.open
            obtain ⟨ab, cb, rfl, -⟩ := hb
            obtain ⟨al, cl, rfl, -⟩ := hps
            have HWK := Lib.hid (Nat.le_trans (wt_at (4 + 1) ll k hlt) (HS.out (4 + 1)))
            have HLK := Lib.hid (Nat.le_trans (left_len 4 ll (k + 1)) (Nat.mul_le_mul_left 4 (HS.out (4 + 1))))
            have LR' := Lib.hid LR.out
            rw [left_cons 4 ll k hlt] at LR'
            clear hp hpe hf LR
            go_wp2_with fail
            refine (takes_any w 4 (Nat.le_refl _) f ll[k] _ _ _ _ 0 g (left 4 ll (k + 1)) _ HPK.out (by decide) (XR.out.alloc _) HWK.out HG.out (LR'.out.ext ((Ext.refl _).alloc _)) (by have := HLK.out; omega)).mono ?_
            rintro e w6 ⟨rfl, o6, r6⟩
            have X6 := Lib.hid (Ext.trans' (XR.out.alloc _) o6 HG.out)
            have R6 := Lib.hid r6
            clear o6 r6 LR' XR
            go_wp2_with fail
            go_roundw
            case rel => exact ⟨k + 1, by omega, by go_num, X6, R6⟩
            case measure => simp [intOf]; omega
          · have hkl : k = ll.length := by omega
            subst hkl
            rw [left_end] at LR
            go_wp2_with fail
            refine (done_true g _ LR.out).mono ?_
            rintro e w6 ⟨rfl, rfl⟩
            go_wp2_with fail
            refine (Err_any g [] false _ LR.out).mono ?_
            rintro e w7 ⟨rfl, rfl⟩
            rw [show errNo ([] : List UInt8) false = 0 from rfl]
            go_wp2_with fail
            go_ret
            exact ⟨rfl, XR.out⟩
end Go.Proofs.Ytgkoblgpadpcjaa.recBack
