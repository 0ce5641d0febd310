/- The sum of rows of bytes: the Go text computes the plain function. -/
import Derived.Test.YtgkoblgpadpcjaaCrcMath
import Derived.WalkKit
import Derived.Lib.Hide
import Derived.Outline
import Derived.Test.YtgkoblgpadpcjaaKit
namespace Go.Proofs.Ytgkoblgpadpcjaa
open Go.RowKit

theorem crc_of (ls : List (List UInt8)) (b o cap : Nat) (w : World) (hl : ls.length ≤ 9223372036854775807) (hr : RowsOf w b o ls) :
    Calls Try.prog 18 #[.slice (some ⟨b, o, none⟩) ls.length cap] w fun e w' => e = .returned (.int .u32 (crcOf ls.flatten : Nat)) ∧ w = w' := by
  go_enter Try.func18, Try.ntmps18
  go_wp2
  go_loop [3, 10] (fun c i => ∃ k : Nat, k ≤ ls.length ∧ i = .int .i64 k ∧ c = .int .u32 (crcRun 4294967295 (ls.take k).flatten : Nat)) (fun _ i => ls.length - (intOf i).toNat)
  case atStart => exact ⟨0, Nat.zero_le _, rfl, rfl⟩
  case round =>
    obtain ⟨k, hk, rfl, rfl⟩ := hrel
    have hclt := crcRun_lt (ls.take k).flatten 4294967295 (by omega)
    by_cases hlt : k < ls.length
    · have hsucc := Lib.hid (crcRun_rows_succ 4294967295 ls k hlt)
      generalize crcRun 4294967295 (ls.take k).flatten = c0 at *
      obtain ⟨v, hv, hb⟩ := hr k hlt
      obtain ⟨a, cap', rfl, hlc', hlm', _, hc⟩ := hb
      have hlen : ls[k].length ≤ 9223372036854775807 := by omega
      clear hlc' hlm'
      · generalize ls[k] = l at *
        go_wp2
        go_loop [3, 16] (fun c i => ∃ j : Nat, j ≤ l.length ∧ i = .int .i64 j ∧ c = .int .u32 (crcRun c0 (l.take j) : Nat)) (fun _ i => l.length - (intOf i).toNat)
        case atStart => exact ⟨0, Nat.zero_le _, rfl, rfl⟩
        case round =>
          obtain ⟨j, hj, rfl, rfl⟩ := hrel
          have hclt1 := crcRun_lt (l.take j) c0 hclt
          by_cases hltj : j < l.length
          · have hsucc1 := Lib.hid (crcRun_take_succ c0 l j hltj)
            obtain ⟨b', o', rfl, hcell⟩ := hc j hltj
            have hb8 : l[j].toNat < 256 := l[j].toNat_lt
            clear hc hr
            generalize crcRun c0 (l.take j) = c1 at *
            generalize l[j].toNat = x at *
            have hxor := xor_u32 c1 x hclt1 (by omega)
            have hclt2 := xor_lt c1 x hclt1 (by omega)
            generalize c1 ^^^ x = c2 at *
            go_wp2
            go_loop [3, 24] (fun c i => ∃ m : Nat, m ≤ 8 ∧ i = .int .i64 m ∧ c = .int .u32 (bitsN m c2 : Nat)) (fun _ i => 8 - (intOf i).toNat)
            case atStart => exact ⟨0, Nat.zero_le _, rfl, rfl⟩
            case round =>
              obtain ⟨m, hm, rfl, rfl⟩ := hrel
              have hclt3 := bitsN_lt m c2 hclt2
              by_cases hm8 : m < 8
              · have hs3 : bitsN (m + 1) c2 = bitStep (bitsN m c2) := rfl
                have Hs3 := Lib.hid hs3
                clear hs3
                generalize bitsN m c2 = c3 at *
                rcases Nat.mod_two_eq_zero_or_one c3 with hodd | hodd
                · have hand := and_one_even c3 hclt3 hodd
                  have Hodd := Lib.hid hodd; clear hodd
                  go_wp2
                  go_round
                  case rel => exact ⟨m + 1, by omega, by go_num, by rw [Hs3.out, bitStep_even _ Hodd.out]; go_num⟩
                  case measure => simp [intOf]; omega
                · have hand := and_one_odd c3 hclt3 hodd
                  have hx3 := xor_poly c3 hclt3
                  have Hodd := Lib.hid hodd; clear hodd
                  go_wp2
                  go_round
                  case rel => exact ⟨m + 1, by omega, by go_num, by rw [Hs3.out, bitStep_odd _ Hodd.out]⟩
                  case measure => simp [intOf]; omega
              · have hm8' : m = 8 := by omega
                subst hm8'
                go_wp2
                go_round
                case rel => exact ⟨j + 1, by omega, by go_num, by rw [hsucc1.out]⟩
                case measure => simp [intOf]; omega
          · have hjl : j = l.length := by omega
            subst hjl
            have htk : l.take l.length = l := List.take_length
            have Htk := Lib.hid htk; clear htk
            go_wp2
            go_round
            case rel => exact ⟨k + 1, by omega, by go_num, by rw [hsucc.out, Htk.out]⟩
            case measure => simp [intOf]; omega
    · have hkl : k = ls.length := by omega
      subst hkl
      have htk : ls.take ls.length = ls := List.take_length
      rw [htk] at hclt
      go_wp2
      go_ret
      exact ⟨by rw [not_u32 _ hclt]; rfl, rfl⟩
end Go.Proofs.Ytgkoblgpadpcjaa
