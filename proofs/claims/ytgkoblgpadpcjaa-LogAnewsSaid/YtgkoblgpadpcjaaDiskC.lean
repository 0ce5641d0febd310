/- A disk without power: the loop over its writes. -/
import Derived.Test.YtgkoblgpadpcjaaDiskF
namespace Go.Proofs.Ytgkoblgpadpcjaa
open Go.RowKit

theorem Try.info63 : (Try.prog.info? 63).map (·.size) = some 64 := by kernel_rfl
theorem Try.info113 : (Try.prog.info? 113).map (·.size) = some 65 := by kernel_rfl
theorem zc113 : Try.zeroCells113.size = 65 := by kernel_rfl
theorem setRow_new (w : World) (old cs : Array Value) (t : TypeId) : (w.alloc (.cells old t)).setRow w.heap.size cs = w.alloc (.cells cs t) := by
  unfold World.setRow World.alloc
  congr 1
  apply Array.ext_getElem?
  intro i
  rw [Array.getElem?_modify, Array.getElem?_push, Array.getElem?_push]
  by_cases h : i = w.heap.size
  · subst h; simp
  · rw [if_neg (Ne.symm h), if_neg h]
    simp [h]
theorem wpList_store_new {P : Program} {ops : Array Oper} {rest : List Oper} {o : Oper} {a : Act} {Q : Exit → Act → World → Prop} (hgd : o.guard = none) (ty : TypeId) (x y : Operand) (ho : o.op = .store ty x y)
    (W : World) (t : TypeId) (old cells : Array Value) (hx : a.eval x = .pointer (some ⟨W.heap.size, 0, none⟩)) (hy : a.eval y = .agg cells)
    (hi : (P.info? ty).map (·.size) = some cells.size) (hold : old.size = cells.size) (h1 : cells.all (·.oneCell') = true)
    (h : wpList P ops Q rest (a.put o.dst undef) (W.alloc (.cells cells t))) : wpList P ops Q (o :: rest) a (W.alloc (.cells old t)) := by
  refine wpList_store_row hgd ty x y ho W.heap.size cells hx hy t old (heap_alloc_new W _) hi hold h1 ?_
  rw [setRow_new]
  exact h

theorem bit_walk (keeps k : Nat) (h : keeps < 18446744073709551616) : (bits BinOp.and IntKind.u64 ((keeps : Int) / 2 ^ (k % 64)) 1 == 1) = bitOf keeps k := by
  have e : ((keeps : Int) / 2 ^ (k % 64)) = ((keeps / 2 ^ (k % 64) : Nat) : Int) := by simp
  rw [e]
  have hlt : keeps / 2 ^ (k % 64) < 18446744073709551616 := Nat.lt_of_le_of_lt (Nat.div_le_self _ _) h
  show (IntKind.u64.wrap (((BitVec.ofInt 64 ((keeps / 2 ^ (k % 64) : Nat) : Int)) &&& BitVec.ofInt 64 1).toNat : Int) == 1) = _
  rw [BitVec.toNat_and, ofInt_u64 _ hlt, show (BitVec.ofInt 64 1).toNat = 1 from rfl, Nat.and_one_is_mod, IntWalk.u64_in _ (by omega)]
  unfold bitOf
  rw [Nat.testBit_eq_decide_div_mod_eq]
  by_cases h1 : keeps / 2 ^ (k % 64) % 2 = 1
  · rw [h1]; rfl
  · rw [show keeps / 2 ^ (k % 64) % 2 = 0 by omega]; rfl

theorem cell_setCells_ne (w : World) (b o : Nat) (vs : List Value) (a : Addr) (h : a.block ≠ b) : (w.setCells b o vs).cell? a = w.cell? a :=
  World.cell?_of_block ((setCells_keep b vs o w).2.2.2.2 a.block h)
/-- What the store's region asks of the world. -/
def Sk (g kb B n ca : Nat) (sv : List UInt8) (W : World) : Prop :=
  W.cell? ⟨g, 0, none⟩ = some (.slice (some ⟨kb, 0, none⟩) n n) ∧ W.cell? ⟨B, 0, none⟩ = some (.int .i64 ca) ∧ W.rangeAt B 1 (byteVals sv) ∧ W.there kb (ca * 64) 64
theorem Sk.store {g kb B n ca : Nat} {sv : List UInt8} {W : World} (h : Sk g kb B n ca sv W) (hg : g ≠ kb) (hB : B ≠ kb) : Sk g kb B n ca sv (W.drew.setCells kb (ca * 64) (byteVals sv)) := by
  obtain ⟨h0, h1, h2, h3⟩ := h
  refine ⟨?_, ?_, fun j v hj => ?_, ?_⟩
  · rw [cell_setCells_ne _ _ _ _ _ hg]; exact h0
  · rw [cell_setCells_ne _ _ _ _ _ hB]; exact h1
  · rw [cell_setCells_ne _ _ _ _ _ hB]; exact h2 j v hj
  · exact World.there_setCells (w := W.drew) h3 _ _ _
theorem wvals_range (w : World) (ca : Nat) (sv : List UInt8) : (w.alloc (.cells (wvals (ca, sv)).toArray 113)).rangeAt w.heap.size 1 (byteVals sv) := by
  intro j v hj
  rw [cell_new0, List.getElem?_toArray, Nat.add_comm]
  simpa [wvals] using hj
theorem wvals_first (w : World) (ca : Nat) (sv : List UInt8) : (w.alloc (.cells (wvals (ca, sv)).toArray 113)).cell? ⟨w.heap.size, 0, none⟩ = some (.int .i64 ca) := by
  rw [cell_new0]; rfl

set_option maxRecDepth 100000 in
set_option maxHeartbeats 2000000 in
theorem Crash_any (base g kb : Nat) (D : Dk) (keeps : Nat) (w : World) (h : Disk base w g kb D) (hk : keeps < 18446744073709551616) (hb : base ≤ w.heap.size) :
    Calls Try.prog 44 #[.pointer (some ⟨g, 0, none⟩), .int .u64 keeps] w fun e w' => (∃ v, e = .returned v) ∧ DOnly base g kb w w' ∧ Disk base w' g kb (D.crash keeps) := by
  obtain ⟨cv, h⟩ := h
  obtain ⟨c0, c1, c2, c3, c4, c5, hf⟩ := h.open
  obtain ⟨a, cap, rfl, hc1, hc2, hw⟩ := h.writes
  have H := Lib.hid h
  have hk0 := Lib.hid hk
  have hsm : D.cache.length ≤ 9223372036854775807 := by omega
  clear h hf hw hk
  go_enter Try.func44, Try.ntmps44
  go_wp2_with fail
  go_loopw [11] (fun i wr => ∃ k : Nat, k ≤ D.cache.length ∧ i = .int .i64 k ∧ Hid (DOnly base g kb w wr) ∧ Hid (DiskAt base wr g kb (.slice a D.cache.length cap) { D with kept := lay (bitOf keeps) (D.cache.take k) 0 D.kept })) (fun i _ => D.cache.length - (intOf i).toNat)
  case atStart => exact ⟨0, Nat.zero_le _, rfl, DOnly.refl _ _ _ _, H.out⟩
  case round =>
    obtain ⟨k, hk, rfl, ho, hd⟩ := hrel
    obtain ⟨d0, d1, d2, d3, d4, d5, df⟩ := hd.out.open
    by_cases hlt : k < D.cache.length
    · obtain ⟨a', cap', e1, -, -, hw⟩ := hd.out.writes
      obtain ⟨cb, ha, hr, hr1, hr2⟩ := hw k hlt
      simp only [Value.slice.injEq] at e1
      obtain ⟨rfl, -, rfl⟩ := e1
      subst ha
      have hwf := hd.out.wf
      have hcl := hwf.cache _ (List.getElem_mem hlt)
      have HLS := Lib.hid (lay_take_succ (bitOf keeps) D.cache 0 k D.kept hlt)
      have HD := Lib.hid (hd.out.ext ((Ext.refl _).alloc (.cells (wvals D.cache[k]).toArray 113)))
      have HO := Lib.hid (ho.out.ext ((Ext.refl _).alloc (.cells (wvals D.cache[k]).toArray 113)))
      generalize D.cache[k] = c at *
      obtain ⟨ca, sv⟩ := c
      obtain ⟨hca, hsv⟩ := hcl
      have HR := Lib.hid hr
      have hlw : (wvals (ca, sv)).length = 65 := wvals_len hsv
      have hl65 := Lib.hid (show (Try.prog.info? 113).map (·.size) = some (wvals (ca, sv)).length by rw [hlw]; exact Try.info113)
      have h1w := Lib.hid (wvals_one (ca, sv))
      have HLW := Lib.hid hlw
      have hbw := bit_walk keeps k hk0.out
      clear df hw hr hr2 hlw hwf
      by_cases hbit : bitOf keeps k = true
      · rw [hbit] at hbw
        rw [Nat.zero_add, if_pos hbit] at HLS
        go_upto_region 4 with (first
          | (refine wpList_load_mid rfl 113 (.tmp 14) rfl cb (k * 65) rfl (wvals (ca, sv)) _ HR.out Try.underlying113 rfl hl65.out ?_)
          | (refine wpList_store_new rfl 113 (.tmp 5) (.tmp 15) rfl wr 113 _ _ rfl rfl hl65.out (by rw [zc113]; simp [HLW.out]) (all_oneCell_toArray h1w.out) ?_))
        generalize lay (bitOf keeps) (List.take k D.cache) 0 D.kept = kl at *
        have e0 := HD.out.open.1
        have e1 := wvals_first wr ca sv
        have e2 := wvals_range wr ca sv
        have e3 := HD.out.there ca hca
        have hbl : (byteVals sv).length = 64 := by rw [byteVals_length]; exact hsv
        have hu := Try.underlying63
        have hi : (Try.prog.info? 63).map (·.size) = some (byteVals sv).length := by rw [hbl]; exact Try.info63
        have h1b := byteVals_oneCell sv
        have hb0 : (0 : Int) ≤ (ca : Int) := by omega
        have hb1 : (ca : Int) < (kl.length : Int) := by simp at hca; omega
        have hkl4 : kl.length ≤ 4096 := HD.out.wf.most
        simp only at e0
        generalize hWE : wr.alloc (.cells (wvals (ca, sv)).toArray 113) = W5 at *
        have HWE := Lib.hid hWE
        have hca0 : ca < kl.length := hca
        clear hWE d0 d1 d2 d3 d4 d5 c0 c1 c2 c3 c4 c5 hr1 hbw hca
        have KS := Lib.hid (Sk.store (g := g) (kb := kb) (B := wr.heap.size) (n := kl.length) ⟨e0, e1, e2, e3⟩ HD.out.ne (by have := hd.out.lt kb (.inr (.inl rfl)); omega))
        have HK := Lib.hid (HD.out.drew.store ca sv hca0 hsv)
        have HOK := Lib.hid (HO.out.drew.setK (ca * 64) (byteVals sv))
        go_region_held3 (fun W => W.cell? ⟨g, 0, none⟩ = some (.slice (some ⟨kb, 0, none⟩) kl.length kl.length) ∧ W.cell? ⟨wr.heap.size, 0, none⟩ = some (.int .i64 ca) ∧ W.rangeAt wr.heap.size 1 (byteVals sv) ∧ W.there kb (ca * 64) 64)
          (first | exact KS.out | go_keep_ranges) (fail)
        all_goals go_wp2_with fail
        all_goals go_roundw
        case rel => exact ⟨k + 1, by omega, by go_num, HOK, by rw [HLS.out]; exact HK⟩
        case measure => simp [intOf]; omega
      · have hbit' : bitOf keeps k = false := by simpa using hbit
        rw [hbit'] at hbw
        rw [Nat.zero_add, if_neg hbit] at HLS
        go_wp2_with (first
          | (refine wpList_load_mid rfl 113 (.tmp 14) rfl cb (k * 65) rfl (wvals (ca, sv)) _ HR.out Try.underlying113 rfl hl65.out ?_)
          | (refine wpList_store_new rfl 113 (.tmp 5) (.tmp 15) rfl wr 113 _ _ rfl rfl hl65.out (by rw [zc113]; simp [HLW.out]) (all_oneCell_toArray h1w.out) ?_))
        go_roundw
        case rel => exact ⟨k + 1, by omega, by go_num, HO, by rw [HLS.out]; exact HD⟩
        case measure => simp [intOf]; omega
    · have df1 := df 1
      have df2 := df 2
      have df3 := df 3
      have hkl : k = D.cache.length := by omega
      subst hkl
      rw [List.take_length] at hd
      have R := Lib.hid (((hd.out.wipe).put 2 (.bool true) { D with kept := lay (bitOf keeps) D.cache 0 D.kept, cache := [], down := true } rfl rfl rfl ((hd.out.wipe).wf.on true)).put 3 (.int .i64 (-1)) (D.crash keeps) rfl rfl rfl (H.out.wf.crash keeps))
      have O := Lib.hid (((ho.out.setG 1 (.slice none 0 0)).setG 2 (.bool true)).setG 3 (.int .i64 (-1)))
      clear df hd
      go_wp2_with fail
      go_end0
      exact ⟨⟨_, rfl⟩, O.out, _, R.out⟩
end Go.Proofs.Ytgkoblgpadpcjaa
