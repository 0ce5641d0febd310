/- The document's sum: the Go text computes a plain function on numbers. -/
import Derived.Test.YtgkoblgpadpcjaaCrc
import Derived.Test.YtgkoblgpadpcjaaRefCrcMath
namespace Go.Proofs.Ytgkoblgpadpcjaa
open Go.RowKit

theorem Try.info3 : (Try.prog.info? 3).map (fun i => (i.zero, i.size, i.bytes)) = some (some (.int .i64 0), 1, 8) := by kernel_rfl

set_option maxRecDepth 100000 in
set_option maxHeartbeats 2000000 in
theorem ref_of (l : List UInt8) (v : Value) (w : World) (hl : l.length ≤ 300) (hb : Bytes w v l) :
    Calls Try.prog 19 #[v] w fun e w' => e = .returned (.int .u32 (refSum l : Nat)) ∧ Below w.heap.size w w' := by
  obtain ⟨i0, hi, hz0, hz1, hz2⟩ := info_parts Try.info3
  obtain ⟨a, cap', rfl, hlc', _, _, hc⟩ := hb
  have hlen : l.length ≤ 9223372036854775807 := by omega
  clear hlc'
  have hown0 : (w.alloc (.cells #[] 3)).ownsRow w.heap.size 3 1 (.slice (some ⟨w.heap.size, 0, none⟩) 0 0) 0 [] := World.ownsRow_lit w #[] 0 (Nat.le_refl _) (by decide) rfl
  have hB0 : Below w.heap.size w (w.alloc (.cells #[] 3)) := (Below.refl _ _).alloc (Nat.le_refl _) _
  go_enter Try.func19, Try.ntmps19
  go_wp2
  go_loopw [3, 4] (fun v i wr => ∃ k : Nat, k ≤ l.length ∧ i = .int .i64 k ∧ wr.ownsRow w.heap.size 3 1 v (8 * k) (bitVals (mnum l) (8 * k)) ∧ Below w.heap.size w wr) (fun _ i _ => l.length - (intOf i).toNat)
  case atStart => exact ⟨0, Nat.zero_le _, rfl, hown0, hB0⟩
  case round =>
    obtain ⟨k, hk, rfl, hown, hbel⟩ := hrel
    clear hown0 hB0
    by_cases hlt : k < l.length
    · have hbits := Lib.hid (mnum_bit l k hlt)
      obtain ⟨b', o', rfl, hcell⟩ := hc k hlt
      have hb8 : l[k].toNat < 256 := l[k].toNat_lt
      have hbk := hbel.cell (World.block_lt_of_cell? w _ hcell)
      rw [hcell] at hbk
      have Hcell := Lib.hid hcell
      generalize l[k].toNat = x at *
      clear hcell hc
      go_wp2
      go_loopw [3, 5] (fun v i wr => ∃ j : Nat, j ≤ 8 ∧ i = .int .i64 j ∧ wr.ownsRow w.heap.size 3 1 v (8 * k + j) (bitVals (mnum l) (8 * k + j)) ∧ Below w.heap.size w wr) (fun _ i _ => 8 - (intOf i).toNat)
      case atStart => exact ⟨0, Nat.zero_le _, rfl, hown, hbel⟩
      case round =>
        obtain ⟨j, hj, rfl, hown1, hbel1⟩ := hrel
        clear hown hbel hbk
        by_cases hltj : j < 8
        · have hcell1 := hbel1.cell (World.block_lt_of_cell? w _ Hcell.out)
          rw [Hcell.out] at hcell1
          have hsz := hbel1.size
          have hv : ((x : Int) / 2 ^ j).tmod 2 = (bit (mnum l) (8 * k + j) : Nat) := by rw [hbits.out j hltj]; exact shr_mod x j
          go_wp2_with (at_builtin; refine wpList_append_one _ rfl _ _ 103 rfl w.heap.size 3 i0 _ 8 Try.underlying103 hi hz0 hz1 hz2 rfl _ _ _ rfl hown1 _ rfl rfl (by unfold maxLen; omega) (by omega) hsz ?_)
          · intro v' w' hown' hgrow
            have hbel2 := below_append_one hbel1 hsz (Nat.le_refl _) hown1 hgrow
            rw [bitVals_succ] at hown'
            clear hgrow hown1 hcell1 hbel1 hv
            go_wp2
            go_roundw
            case rel => exact ⟨j + 1, by omega, by go_num, hown', hbel2⟩
            case measure => simp [intOf]; omega
        · have hj8 : j = 8 := by omega
          subst hj8
          go_wp2
          go_roundw
          case rel => exact ⟨k + 1, by omega, by go_num, hown1, hbel1⟩
          case measure => simp [intOf]; omega
    · have hkl : k = l.length := by omega
      subst hkl
      clear hc
      obtain ⟨wo, rfl⟩ : ∃ wo : World, wo = wr := ⟨_, rfl⟩
      go_wp2
      go_loopw [3, 6] (fun v i wr => ∃ j : Nat, j ≤ 32 ∧ i = .int .i64 j ∧ wr.ownsRow w.heap.size 3 1 v (8 * l.length + j) (bitVals (mnum l) (8 * l.length + j)) ∧ Below w.heap.size w wr) (fun _ i _ => 32 - (intOf i).toNat)
      case atStart => exact ⟨0, Nat.zero_le _, rfl, hown, hbel⟩
      case round =>
        obtain ⟨j, hj, rfl, hown1, hbel1⟩ := hrel
        clear hown hbel
        by_cases hltj : j < 32
        · have hsz := hbel1.size
          have hz := Lib.hid (mnum_bit_hi l (8 * l.length + j) (by omega))
          go_wp2_with (at_builtin; refine wpList_append_one _ rfl _ _ 103 rfl w.heap.size 3 i0 _ 8 Try.underlying103 hi hz0 hz1 hz2 rfl _ _ _ rfl hown1 _ rfl rfl (by unfold maxLen; omega) (by omega) hsz ?_)
          · intro v' w' hown' hgrow
            have hbel2 := below_append_one hbel1 hsz (Nat.le_refl _) hown1 hgrow
            have hown2 : w'.ownsRow w.heap.size 3 1 v' (8 * l.length + (j + 1)) (bitVals (mnum l) (8 * l.length + (j + 1))) := by
              have := hown'
              rw [show (Value.int .i64 0) = .int .i64 (bit (mnum l) (8 * l.length + j) : Nat) by rw [hz.out]; rfl, bitVals_succ] at this
              exact this
            clear hgrow hown1 hown' hbel1 
            go_wp2
            go_roundw
            case rel => exact ⟨j + 1, by omega, by go_num, hown2, hbel2⟩
            case measure => simp [intOf]; omega
        · have hj32 : j = 32 := by omega
          subst hj32
          obtain ⟨g, cap, rfl, hbg, hgs⟩ := owns_some hown1 (by omega)
          have hrow := BitRow.of_owns hown1
          clear hown1
          have hmb : 8 * l.length ≤ 2400 := by omega
          generalize hm : 8 * l.length = m at *
          have Hm := Lib.hid hm
          clear hm
          obtain ⟨wo1, rfl⟩ : ∃ wo : World, wo = wr := ⟨_, rfl⟩
          go_wp2
          go_loopw [7] (fun i wr => ∃ j : Nat, j ≤ 32 ∧ i = .int .i64 j ∧ BitRow wr g (flipN (mnum l) j) (m + 32) ∧ g < wr.heap.size ∧ Below w.heap.size w wr) (fun i _ => 32 - (intOf i).toNat)
          case atStart => exact ⟨0, Nat.zero_le _, rfl, by rw [flipN_zero]; exact hrow, hgs, hbel1⟩
          case round =>
            obtain ⟨j, hj, rfl, hrow1, hgs1, hbel2⟩ := hrel
            clear hrow hgs hbel1
            by_cases hltj : j < 32
            · have hcl := hrow1.cell j (by omega)
              have hfz := hrow1.frozen j
              have hle := bit_le (flipN (mnum l) j) j
              have hnew := hrow1.set j (by omega) (flipN (mnum l) (j + 1)) (.int .i64 (1 - (bit (flipN (mnum l) j) j : Nat))) (by rw [flipN_bit]; go_num) (fun i hi => flipN_other _ _ _ hi)
              have hbel3 : Below w.heap.size w (wr.setCell ⟨g, j, none⟩ (.int .i64 (1 - (bit (flipN (mnum l) j) j : Nat)))) := hbel2.setCell hbg _
              go_wp2
              go_roundw
              case rel => exact ⟨j + 1, by omega, by go_num, hnew, by simpa [World.setCell] using hgs1, hbel3⟩
              case measure => simp [intOf]; omega
            · have hj32 : j = 32 := by omega
              subst hj32
              obtain ⟨wo2, rfl⟩ : ∃ wo : World, wo = wr := ⟨_, rfl⟩
              have hp := BitRow.poly wo2
              have hrow2 := hrow1.alloc hgs1 (.cells polyCells 3)
              have hbel3 : Below w.heap.size w (wo2.alloc (.cells polyCells 3)) := hbel2.alloc hbel2.size _
              have hsz0 := hbel2.size
              unfold polyCells at hp hrow2 hbel3
              generalize hF : flipN (mnum l) 32 = F at *
              have HF := Lib.hid hF
              clear hF hrow1 hbel2
              go_wp2
              go_loopw [9] (fun i wr => ∃ k : Nat, k ≤ m ∧ i = .int .i64 k ∧ BitRow wr g (redN F k) (m + 32) ∧ BitRow wr wo2.heap.size poly33 33 ∧ wo2.heap.size < wr.heap.size ∧ Below w.heap.size w wr) (fun i _ => m - (intOf i).toNat)
              case atStart => exact ⟨0, Nat.zero_le _, rfl, hrow2, hp, by simp, hbel3⟩
              case round =>
                obtain ⟨k, hk, rfl, hrow3, hp1, hps, hbel4⟩ := hrel
                clear hrow2 hp hbel3
                obtain ⟨wo3, rfl⟩ : ∃ wo : World, wo = wr := ⟨_, rfl⟩
                by_cases hltk : k < m
                · have hcl := hrow3.cell k (by omega)
                  have hred : Hid (redN F (k + 1) = if bit (redN F k) k = 1 then redN F k ^^^ (poly33 * 2 ^ k) else redN F k) := rfl
                  rcases Nat.le_one_iff_eq_zero_or_eq_one.1 (bit_le (redN F k) k) with hz | hz
                  · rw [hz] at hcl
                    have Hz := Lib.hid hz
                    clear hz
                    generalize redN F k = R at *
                    go_wp2
                    go_roundw
                    case rel => exact ⟨k + 1, by omega, by go_num, by rw [hred.out, Hz.out]; exact hrow3, hp1, hps, hbel4⟩
                    case measure => simp [intOf]; omega
                  · rw [hz] at hcl
                    have Hz := Lib.hid hz
                    clear hz
                    generalize redN F k = R at *
                    go_wp2
                    go_loopw [10] (fun i wr => ∃ j : Nat, j ≤ 33 ∧ i = .int .i64 j ∧ BitRow wr g (addN R k j) (m + 32) ∧ BitRow wr wo2.heap.size poly33 33 ∧ wo2.heap.size < wr.heap.size ∧ Below w.heap.size w wr) (fun i _ => 33 - (intOf i).toNat)
                    case atStart => exact ⟨0, Nat.zero_le _, rfl, by rw [addN_zero]; exact hrow3, hp1, hps, hbel4⟩
                    case round =>
                      obtain ⟨j, hj, rfl, hrow4, hp2, hps2, hbel5⟩ := hrel
                      clear hrow3 hp1 hps hbel4 hcl
                      by_cases hltj : j < 33
                      · have hc1 := hrow4.cell (k + j) (by omega)
                        have hf1 := hrow4.frozen (k + j)
                        have hc2 := hp2.cell j hltj
                        have hv : Hid ((((bit (addN R k j) (k + j) : Nat) : Int) + (bit poly33 j : Nat)) % 2 = (bit (addN R k (j + 1)) (k + j) : Nat)) := by show _ = _; rw [addN_bit]; omega
                        have hle1 := bit_le (addN R k j) (k + j)
                        have hle2 := bit_le poly33 j
                        have hnew := fun u hu => hrow4.set (k + j) (by omega) (addN R k (j + 1)) u hu (fun i hi => addN_other _ _ _ _ hi)
                        have hp3 := fun u => hp2.other ⟨g, k + j, none⟩ (by simp; omega) u
                        have hbel6 := fun u => hbel5.setCell (p := ⟨g, k + j, none⟩) hbg u
                        have Hnew := Lib.hid hnew
                        have Hp3 := Lib.hid hp3
                        have Hbel6 := Lib.hid hbel6
                        clear hnew hp3 hbel6 hrow4 hp2 hbel5
                        generalize bit (addN R k j) (k + j) = x at *
                        generalize bit poly33 j = y at *
                        go_wp2
                        go_region
                        go_wp2
                        go_roundw
                        case rel => exact ⟨j + 1, by omega, by go_num, (Hnew.out _ (by rw [← hv.out])).drew, (Hp3.out _).drew, by simpa [World.setCell] using hps2, (Hbel6.out _).drew⟩
                        case measure => simp [intOf]; omega
                      · have hj33 : j = 33 := by omega
                        subst hj33
                        go_wp2
                        go_roundw
                        case rel => exact ⟨k + 1, by omega, by go_num, by rw [hred.out, if_pos Hz.out, ← addN_end]; exact hrow4, hp2, hps2, hbel5⟩
                        case measure => simp [intOf]; omega
                · have hkm : k = m := by omega
                  subst hkm
                  go_wp2
                  go_loopw [11, 12] (fun c i wr => ∃ j : Nat, j ≤ 32 ∧ i = .int .i64 j ∧ c = .int .u32 (outN (redN F k) k j : Nat) ∧ BitRow wr g (redN F k) (k + 32) ∧ Below w.heap.size w wr) (fun _ i _ => 32 - (intOf i).toNat)
                  case atStart => exact ⟨0, Nat.zero_le _, rfl, rfl, hrow3, hbel4⟩
                  case round =>
                    obtain ⟨j, hj, rfl, rfl, hrow4, hbel5⟩ := hrel
                    clear hrow3 hbel4 hp1
                    by_cases hltj : j < 32
                    · have hc1 := hrow4.cell (k + j) (by omega)
                      have hlt1 := outN_lt (redN F k) k j
                      have hle1 := bit_le (redN F k) (k + j)
                      have Hs := Lib.hid (outN_step (redN F k) k j hltj)
                      go_wp2
                      go_roundw
                      case rel => exact ⟨j + 1, by omega, by go_num, by rw [← Hs.out], hrow4, hbel5⟩
                      case measure => simp [intOf]; omega
                    · have hj32 : j = 32 := by omega
                      subst hj32
                      go_wp2
                      go_ret
                      exact ⟨ret_int (by rw [refSum, Hm.out, HF.out]), hbel5⟩
end Go.Proofs.Ytgkoblgpadpcjaa
