/- DiskPower: the walk. -/
import Derived.Test.YtgkoblgpadpcjaaDiskO
import Derived.Deep.CutRange
import Derived.Deep.RegionHeld3
namespace Go.Proofs.Ytgkoblgpadpcjaa.diskPower
open Go.RowKit

/-- A disk with power, on which nothing is planned. -/
structure Calm (D : Dk) (n c : Nat) : Prop where
  down : D.down = false
  len : D.kept.length = n
  fate : D.fate < 1
  steps : D.steps ≤ c
  cache : D.cache.length ≤ c
theorem calm_write {D : Dk} {n c : Nat} (h : Calm D n c) (a : Int) (s : List UInt8) : Calm (D.write a s).1 n (c + 1) := by
  unfold Dk.write
  rw [if_neg (by rw [h.down]; decide)]
  split
  · exact ⟨h.down, h.len, h.fate, Nat.le_succ_of_le h.steps, Nat.le_succ_of_le h.cache⟩
  · have hs : Dk.step { D with cache := D.cache ++ [(a.toNat, s)] } = ({ D with cache := D.cache ++ [(a.toNat, s)], steps := D.steps + 1 }, true) := by
      unfold Dk.step
      rw [if_neg (by show ¬ 0 < D.fate; have := h.fate; omega)]
    rw [hs]
    exact ⟨h.down, h.len, h.fate, Nat.succ_le_succ h.steps, by show (D.cache ++ [(a.toNat, s)]).length ≤ c + 1; rw [List.length_append]; exact Nat.succ_le_succ h.cache⟩
theorem calm_new (q : Int) : Calm (Dk.new q) (Dk.new q).kept.length 0 := ⟨rfl, rfl, by show (-1 : Int) < 1; decide, Nat.le_refl _, Nat.le_refl _⟩
theorem down_write {C : Dk} (h : C.down = true) (a : Int) (s : List UInt8) : C.write a s = (C, 3) := by unfold Dk.write; rw [if_pos h]
theorem down_flush {C : Dk} (h : C.down = true) : C.flush = (C, 3) := by unfold Dk.flush; rw [if_pos h]
theorem down_read {C : Dk} (h : C.down = true) (a : Int) : C.read a = (zero64, 3) := by unfold Dk.read; rw [if_pos h]
theorem read_kept {C : Dk} (h : C.down = false) (hc : C.cache = []) (k : Nat) (hk : k < C.kept.length) : C.read (k : Int) = (C.kept[k], 0) := by
  unfold Dk.read
  rw [if_neg (by rw [h]; decide), if_neg (by omega), hc]
  simp [lastAt, List.getD, hk]
/-- The disk when the power is back. -/
def C2 (D : Dk) (keeps : Nat) : Dk := { D.crash keeps with down := false }
def C4 (D : Dk) (keeps k2 : Nat) : Dk := { (C2 D keeps).crash k2 with down := false }
theorem c4_kept (D : Dk) (keeps k2 : Nat) : (C4 D keeps k2).kept = (C2 D keeps).kept := rfl

theorem ext_only {base g kb : Nat} {w w2 wr : World} (x : Ext w w2) (hs : w.heap.size ≤ base) (hb : base ≤ w2.heap.size) (hg : base ≤ g) (hk : base ≤ kb) (o : DOnly base g kb w2 wr) : Ext w wr :=
  Below.trans x ((o.below hg hk hb).mono hs)
def R1 (base g kb m len : Nat) (w0 : World) (i : Value) (wr : World) : Prop :=
  ∃ (k : Nat) (D : Dk), i = .int .i64 k ∧ k ≤ len ∧ Hid (DOnly base g kb w0 wr) ∧ Hid (Disk base wr g kb D) ∧ Hid (Calm D m k)
theorem Disk.setRow {base g kb b o : Nat} {w : World} {D : Dk} {L : List (List UInt8)} {vs : List Value} (h : Disk base w g kb D) (r : SecRow w b L) (hb : b ≠ kb) : Disk base (w.setCells b o vs) g kb D := by
  obtain ⟨cv, h⟩ := h
  obtain ⟨-, -, -, -, h5⟩ := setCells_keep b vs o w
  refine ⟨cv, h.same fun k hk => h5 k ?_⟩
  rintro rfl
  rcases hk with rfl | rfl | hk
  · have := r.1.symm.trans h.blk
    simp at this
  · exact hb rfl
  · rcases h.cache.2 with ⟨rfl, _⟩ | ⟨q, cap, cur, rfl, _, hh, -⟩
    · simp [Value.ownBlock] at hk
    · simp only [Value.ownBlock, Option.some.injEq] at hk
      subst hk
      have := r.1.symm.trans hh
      simp at this
theorem below_setCells {B b o : Nat} {a w : World} {vs : List Value} (h : Below B a w) (hb : B ≤ b) : Below B a (w.setCells b o vs) := by
  obtain ⟨h1, h2, h3, h4, h5⟩ := setCells_keep b vs o w
  exact h.trans ⟨h1, h2, h3, by rw [h4]; exact Nat.le_refl _, fun k hk => h5 k (by omega)⟩
theorem fill_step (L : List (List UInt8)) (m k : Nat) (hL : L.length = m) (hk : k < m) : (L.take k ++ List.replicate (m - k) zero64).set k (L[k]'(by omega)) = L.take (k + 1) ++ List.replicate (m - (k + 1)) zero64 := by
  rw [List.set_append_right _ _ (by simp; omega)]
  have e : m - k = (m - (k + 1)) + 1 := by omega
  rw [show k - (L.take k).length = 0 by simp; omega, e, List.replicate_succ, List.set_cons_zero, List.take_succ_eq_append_getElem (by omega), List.append_assoc]
  rfl
theorem Disk.drewD {base g kb : Nat} {w : World} {D : Dk} (h : Disk base w g kb D) : Disk base w.drew g kb D := by
  obtain ⟨cv, h⟩ := h; exact ⟨cv, h.drew⟩
theorem xor_max (k : Nat) : ∃ k2 : Nat, k2 < 18446744073709551616 ∧ bits BinOp.xor IntKind.u64 IntKind.u64.max (k : Int) = (k2 : Int) := by
  refine ⟨(BitVec.ofInt 64 IntKind.u64.max ^^^ BitVec.ofInt 64 (k : Int)).toNat, (BitVec.ofInt 64 IntKind.u64.max ^^^ BitVec.ofInt 64 (k : Int)).isLt, ?_⟩
  have := (BitVec.ofInt 64 IntKind.u64.max ^^^ BitVec.ofInt 64 (k : Int)).isLt
  show IntKind.u64.wrap ((BitVec.ofInt 64 IntKind.u64.max ^^^ BitVec.ofInt 64 (k : Int)).toNat : Int) = _
  exact IntWalk.u64_in _ (by omega)
theorem crash_kept {E : Dk} (h : E.cache = []) (k : Nat) : (E.crash k).kept = E.kept := by
  show lay _ E.cache 0 E.kept = E.kept
  rw [h]; rfl
def R3 (base B g kb wb m : Nat) (E : Dk) (w : World) (i : Value) (wr : World) : Prop :=
  ∃ (k : Nat), i = .int .i64 k ∧ k ≤ m ∧ Hid (Below B w wr) ∧ Hid (Disk base wr g kb E) ∧ Hid (SecRow wr wb (E.kept.take k ++ List.replicate (m - k) zero64))
def R4 (base B g kb wb m : Nat) (G : Dk) (L : List (List UInt8)) (w : World) (i : Value) (wr : World) : Prop :=
  ∃ (k : Nat), i = .int .i64 k ∧ k ≤ m ∧ Hid (Below B w wr) ∧ Hid (Disk base wr g kb G) ∧ Hid (SecRow wr wb L)
def R2 (base g kb len : Nat) (C : Dk) (w0 : World) (i : Value) (wr : World) : Prop :=
  ∃ (k : Nat), i = .int .i64 k ∧ k ≤ len ∧ Hid (DOnly base g kb w0 wr) ∧ Hid (Disk base wr g kb C)
set_option maxRecDepth 100000 in
set_option maxHeartbeats 4000000 in
theorem walk_main (n : Int) (ops : List Opv) (ov : Value) (keeps : Nat) (w : World) (hops : OpsAt w ov ops) (hl : ops.length ≤ 60) (hk : keeps < 18446744073709551616) :
    Calls Try.prog 10 #[.int .i64 n, ov, .int .u64 keeps] w fun e w' => e = .returned (.bool true) ∧ Below w.heap.size w w' := by
  have HOPS := Lib.hid hops
  have HKP := Lib.hid hk
  obtain ⟨oa, ocap, rfl, -, -⟩ := hops
  obtain ⟨q, hq31, eq⟩ := and_i64_mask n 31 (by decide)
  have eq' : bits BinOp.and IntKind.i64 n 31 = (q : Int) := eq
  clear eq
  obtain ⟨Z, hZ⟩ : ∃ Z, Z = (byteVals zero64).toArray := ⟨_, rfl⟩
  have HI : Hid (ZFacts Z) := by rw [hZ]; exact zfacts
  have HZ := Lib.hid hZ
  clear hZ
  go_enter Try.func10, Try.ntmps10
  go_wp2_with fail
  refine (diskAlive_any _).mono ?_
  rintro e w1 ⟨rfl, x1⟩
  have X1 := Lib.hid x1
  clear x1
  go_wp2_with fail
  refine (New_any (q : Int) _).mono ?_
  rintro e w2 ⟨g, kb, rfl, hg, hkb, x2, d2⟩
  have X2 := Lib.hid (X1.out.trans x2)
  have D2 := Lib.hid d2
  have HG := Lib.hid hg
  have HK := Lib.hid hkb
  have HBS := Lib.hid x2.size
  obtain ⟨m, hm⟩ : ∃ m, m = (Dk.new (q : Int)).kept.length := ⟨_, rfl⟩
  have HM := Lib.hid hm
  have hm4 : m ≤ 4096 := by rw [hm]; exact (wf_new (q : Int)).most
  have HC0 : Hid (Calm (Dk.new (q : Int)) m 0) := by rw [hm]; exact calm_new _
  clear x2 d2 hg hkb hm
  go_wp2_with fail
  go_loopw [30] (fun i wr => R1 w1.heap.size g kb m ops.length w2 i wr) (fun i _ => ops.length - (intOf i).toNat)
  case atStart => exact ⟨0, _, rfl, Nat.zero_le _, DOnly.refl _ _ _ _, D2, HC0⟩
  case round =>
    obtain ⟨k, D, rfl, hk, ho, hd, hc⟩ := hrel
    by_cases hlt : k < ops.length
    · obtain ⟨bb, o, rfl, e0, e1, e2, e3, hfit⟩ := HOPS.out.at (ext_only X2.out X1.out.size HBS.out HG.out HK.out ho.out) k hlt
      generalize ops[k] = op at *
      obtain ⟨okd, opl, oby, okp⟩ := op
      simp only at e0 e1 e2 e3
      have hst := Lib.hid (Nat.le_trans hc.out.steps (show k ≤ 1000000000 by omega))
      have hca := Lib.hid (Nat.le_trans hc.out.cache (show k ≤ 1000000000 by omega))
      have hd' := Lib.hid (hd.out.ext ((Ext.refl wr).alloc (.cells #[.int .i64 okd, .int .i64 opl, .int .u8 oby.toNat, .int .u64 okp] 60)))
      have ho' := Lib.hid (ho.out.ext ((Ext.refl wr).alloc (.cells #[.int .i64 okd, .int .i64 opl, .int .u8 oby.toNat, .int .u64 okp] 60)))
      go_wp2_with (refine wpList_sec1 rfl _ rfl oby rfl ?_)
      refine (Write_any w1.heap.size g kb D opl (sec1 oby) _ hd'.out hst.out hca.out rfl (Nat.le_trans HBS.out ho'.out.size)).mono ?_
      rintro e w4 ⟨rfl, o4, d4⟩
      have O4 := Lib.hid (ho'.out.trans o4)
      have D4 := Lib.hid d4
      have C4 := Lib.hid (calm_write hc.out opl (sec1 oby))
      clear o4 d4 ho hd hc ho' hd'
      go_wp2_with fail
      go_roundw
      case rel => exact ⟨k + 1, _, by go_num, by omega, O4, D4, C4⟩
      case measure => simp [intOf]; omega
    · go_wp2_with fail
      refine (Crash_any w1.heap.size g kb D keeps _ hd.out HKP.out (Nat.le_trans HBS.out ho.out.size)).mono ?_
      rintro e w5 ⟨⟨v5, rfl⟩, o5, d5⟩
      have O5 := Lib.hid (ho.out.trans o5)
      have D5 := Lib.hid d5
      obtain ⟨C, hC⟩ : ∃ C, C = D.crash keeps := ⟨_, rfl⟩
      have hCd := Lib.hid (show C.down = true by rw [hC]; rfl)
      have hCc := Lib.hid (show C.cache = [] by rw [hC]; rfl)
      have hCl : Hid (C.kept.length = m) := by show _ = _; rw [hC]; show (lay _ _ _ _).length = m; rw [lay_length]; exact hc.out.len
      have hCs := Lib.hid (show C.steps ≤ 1000000000 by rw [hC]; exact Nat.le_trans hc.out.steps (by omega))
      rw [← hC] at D5
      clear o5 d5 ho hd hc hC
      go_wp2_with fail
      refine (Steps_any w1.heap.size g kb C _ D5.out).mono ?_
      rintro e w6 ⟨rfl, rfl⟩
      go_wp2_with fail
      go_loopw [49] (fun i wr => R2 w1.heap.size g kb ops.length C w2 i wr) (fun i _ => ops.length - (intOf i).toNat)
      case atStart => exact ⟨0, rfl, Nat.zero_le _, O5, D5⟩
      case round =>
        obtain ⟨k, rfl, hk, ho, hd⟩ := hrel
        by_cases hlt : k < ops.length
        · obtain ⟨bb, o, rfl, e0, e1, e2, e3, hfit⟩ := HOPS.out.at (ext_only X2.out X1.out.size HBS.out HG.out HK.out ho.out) k hlt
          generalize ops[k] = op at *
          obtain ⟨okd, opl, oby, okp⟩ := op
          simp only at e0 e1 e2 e3
          have HA := Lib.hid ((Ext.refl wr).alloc (.cells #[.int .i64 okd, .int .i64 opl, .int .u8 oby.toNat, .int .u64 okp] 60))
          have HC1 : Hid ((wr.alloc (.cells #[.int .i64 okd, .int .i64 opl, .int .u8 oby.toNat, .int .u64 okp] 60)).cell? ⟨wr.heap.size, 1, none⟩ = some (.int .i64 opl)) := cell_new0 wr _ 60 1
          go_wp2_with fail
          refine (DRead_any w1.heap.size g kb C opl _ (hd.out.ext HA.out)).mono ?_
          unfold readPost
          rw [down_read hCd.out]
          rintro e w7 ⟨rfl, x7⟩
          dsimp only
          have X7 := Lib.hid (x7.trans ((Ext.refl w7).alloc (.cells (byteVals zero64).toArray 63)))
          have hcl := X7.out.cell HC1.out
          have O7 := Lib.hid (ho.out.ext (HA.out.trans X7.out))
          have D7 := Lib.hid (hd.out.ext (HA.out.trans X7.out))
          clear x7 ho hd e0 e1 e2 e3 HC1
          go_wp2_with (first
            | (refine wpList_alloc_z rfl 63 rfl Z HI.out.1 ?_)
            | (refine wpList_build_z rfl 63 rfl (byteVals zero64).toArray Try.b63 ?_)
            | (refine wpList_store_new rfl 63 (.tmp 13) (.tmp 58) rfl w7 63 Z (byteVals zero64).toArray rfl rfl (size63 _ rfl) (zsize Z HI.out _ rfl) (all_oneCell_toArray (byteVals_oneCell _)) ?_))
          refine (Write_any w1.heap.size g kb C opl zero64 _ D7.out hCs.out (by rw [hCc.out]; decide) rfl (Nat.le_trans HBS.out O7.out.size)).mono ?_
          rw [down_write hCd.out]
          rintro e w8 ⟨rfl, o8, d8⟩
          dsimp only
          have O8 := Lib.hid (O7.out.trans o8)
          have D8 : Hid (Disk w1.heap.size w8 g kb C) := d8
          clear o8 d8 D7
          go_wp2_with fail
          refine (Flush_any w1.heap.size g kb C _ D8.out hCs.out (Nat.le_trans HBS.out O8.out.size)).mono ?_
          rw [down_flush hCd.out]
          rintro e w9 ⟨rfl, o9, d9⟩
          dsimp only
          have O9 := Lib.hid (O8.out.trans o9)
          have D9 : Hid (Disk w1.heap.size w9 g kb C) := d9
          clear o9 d9 D8
          go_wp2_with fail
          refine (Down_any w1.heap.size g kb C _ D9.out).mono ?_
          rw [hCd.out]
          rintro e w10 ⟨rfl, rfl⟩
          go_wp2_with fail
          go_roundw
          case rel => exact ⟨k + 1, by go_num, by omega, O9, D9⟩
          case measure => simp [intOf]; omega
        · go_wp2_with fail
          refine (On_any w1.heap.size g kb C _ hd.out).mono ?_
          rintro e w8 ⟨⟨v8, rfl⟩, o8, d8⟩
          have O8 := Lib.hid (ho.out.trans o8)
          have D8 := Lib.hid d8
          obtain ⟨E, hE⟩ : ∃ E : Dk, E = { C with down := false } := ⟨_, rfl⟩
          have hEd := Lib.hid (show E.down = false by rw [hE])
          have hEc := Lib.hid (show E.cache = [] by rw [hE]; exact hCc.out)
          have hEl := Lib.hid (show E.kept.length = m by rw [hE]; exact hCl.out)
          have hEs := Lib.hid (show E.steps = C.steps by rw [hE])
          rw [← hE] at D8
          clear o8 d8 ho hd hE
          go_wp2_with fail
          refine (Len_any w1.heap.size g kb E _ D8.out).mono ?_
          rw [hEl.out]
          rintro e w9 ⟨rfl, rfl⟩
          have O8a := Lib.hid ((show Below w.heap.size w w8 from ext_only X2.out X1.out.size HBS.out HG.out HK.out O8.out).alloc (ext_only X2.out X1.out.size HBS.out HG.out HK.out O8.out).size (.cells (flatK (List.replicate m zero64)).toArray 63))
          have D8a := Lib.hid (D8.out.ext ((Ext.refl w8).alloc (.cells (flatK (List.replicate m zero64)).toArray 63)))
          have HR := Lib.hid (SecRow.new w8 m)
          have HL8 := Lib.hid D8.out.lt
          have HWB := Lib.hid (ext_only X2.out X1.out.size HBS.out HG.out HK.out O8.out).size
          clear D8
          go_wp2_with (refine wpList_make_sectors rfl (.tmp 84) (.tmp 84) rfl m hm4 rfl rfl ?_)
          go_loopw [88] (fun i wr => R3 w1.heap.size w.heap.size g kb w8.heap.size m E w i wr) (fun i _ => m - (intOf i).toNat)
          case atStart => exact ⟨0, rfl, Nat.zero_le _, O8a, D8a, by have := HR.out; simpa [Hid] using this⟩
          case round =>
            obtain ⟨k, rfl, hk, hb, hd, hr⟩ := hrel
            by_cases hlt : k < m
            · have hke := hEl.out
              have hrd := Lib.hid (read_kept hEd.out hEc.out k (by omega))
              have hk64 := Lib.hid (hd.out.wf.kept _ (List.getElem_mem (show k < E.kept.length by omega)))
              have hfs := Lib.hid (fill_step E.kept m k hke hlt)
              generalize E.kept[k]'(by omega) = sv at *
              clear hke
              go_wp2_with fail
              refine (DRead_any w1.heap.size g kb E (k : Int) _ hd.out).mono ?_
              unfold readPost
              rw [hrd.out]
              rintro e w10 ⟨rfl, x10⟩
              dsimp only
              have B10 := Lib.hid (below_setCells (o := k * 64) (vs := byteVals sv) ((hb.out).trans (Below.mono x10 hb.out.size)) HWB.out)
              have R10 := Lib.hid (hr.out.ext x10)
              have D10 := Lib.hid (Disk.setRow (o := k * 64) (vs := byteVals sv) (hd.out.ext x10) R10.out (by have := HL8.out; omega))
              have S10 := Lib.hid (R10.out.store k sv (by have := hEl.out; simp; omega) hk64.out)
              have T10 := Lib.hid (R10.out.there k (by have := hEl.out; simp; omega))
              rw [hfs.out] at S10
              have hbv := Lib.hid (show (byteVals sv).toArray.size = 64 by rw [List.size_toArray, byteVals_length, hk64.out])
              clear x10 hb hd hr R10
              go_wp2_with (refine wpList_store_mid rfl 63 (.tmp 99) (.tmp 97) rfl w8.heap.size (k * 64) (byteVals sv).toArray rfl rfl (by rw [hbv.out]; exact T10.out) (by rw [hbv.out]; exact Try.info63) (all_oneCell_toArray (byteVals_oneCell _)) ?_)
              go_roundw
              case rel => exact ⟨k + 1, by go_num, by omega, B10, D10, S10⟩
              case measure => simp [intOf]; omega
            · have hkm : k = m := by omega
              subst hkm
              have HRE : Hid (SecRow wr w8.heap.size E.kept) := by
                have := hr.out
                rw [List.take_of_length_le (by have := hEl.out; omega), Nat.sub_self, List.replicate_zero, List.append_nil] at this
                exact this
              clear hr HR O8a D8a
              obtain ⟨k2, hk2, ex⟩ := xor_max keeps
              have HK2 := Lib.hid hk2
              clear hk2
              go_wp2_with fail
              refine (Crash_any w1.heap.size g kb E k2 _ hd.out HK2.out (by have := hb.out.size; have := HL8.out; have := hd.out.lt; have := HG.out; omega)).mono ?_
              rintro e w11 ⟨⟨v11, rfl⟩, o11, d11⟩
              have B11 := Lib.hid (hb.out.trans ((o11.below HG.out HK.out (by have := hd.out.lt; have := HG.out; omega)).mono X1.out.size))
              have R11 := Lib.hid (HRE.out.only o11 (by have := HL8.out; omega) (by have := HL8.out; omega))
              have D11 := Lib.hid d11
              clear o11 d11 hb hd HRE
              go_wp2_with fail
              refine (On_any w1.heap.size g kb _ _ D11.out).mono ?_
              rintro e w12 ⟨⟨v12, rfl⟩, o12, d12⟩
              have B12 := Lib.hid (B11.out.trans ((o12.below HG.out HK.out (by have := D11.out.lt; have := HG.out; omega)).mono X1.out.size))
              have R12 := Lib.hid (R11.out.only o12 (by have := HL8.out; omega) (by have := HL8.out; omega))
              have D12 := Lib.hid d12
              obtain ⟨G, hG⟩ : ∃ G : Dk, G = { E.crash k2 with down := false } := ⟨_, rfl⟩
              have hGd := Lib.hid (show G.down = false by rw [hG])
              have hGc := Lib.hid (show G.cache = [] by rw [hG]; rfl)
              have hGk := Lib.hid (show G.kept = E.kept by rw [hG]; exact crash_kept hEc.out k2)
              have hGs := Lib.hid (show G.steps = C.steps by rw [hG]; exact hEs.out)
              rw [← hG] at D12
              clear o12 d12 B11 R11 D11 hG
              go_wp2_with fail
              go_loopw [109] (fun i wr => R4 w1.heap.size w.heap.size g kb w8.heap.size k G E.kept w i wr) (fun i _ => k - (intOf i).toNat)
              case atStart => exact ⟨0, rfl, Nat.zero_le _, B12, D12, R12⟩
              case round =>
                obtain ⟨j, rfl, hj, hb, hd, hr⟩ := hrel
                by_cases hlt : j < k
                · have hke := hEl.out
                  have hke2 := hGk.out
                  have hrd := Lib.hid (show G.read (j : Int) = (E.kept[j], 0) by
                    rw [read_kept hGd.out hGc.out j (by rw [hke2]; omega)]
                    congr 1
                    simp only [hke2])
                  have hk64 := Lib.hid (hr.out.2 _ (List.getElem_mem (show j < E.kept.length by omega)))
                  have hrg := Lib.hid (hr.out.range j (by omega))
                  generalize E.kept[j]'(by omega) = sv at *
                  clear hke hke2
                  go_wp2_with fail
                  refine (DRead_any w1.heap.size g kb G (j : Int) _ hd.out).mono ?_
                  unfold readPost
                  rw [hrd.out]
                  rintro e w13 ⟨rfl, x13⟩
                  dsimp only
                  have X13 := Lib.hid (x13.trans ((Ext.refl w13).alloc (.cells (byteVals sv).toArray 63)))
                  have B13 := Lib.hid (hb.out.trans (Below.mono X13.out hb.out.size))
                  have R13 := Lib.hid (hr.out.ext X13.out)
                  have D13 := Lib.hid (hd.out.ext X13.out)
                  have HS := Lib.hid hk64.out
                  have HE2 := Lib.hid (range_keep hrg.out ((X13.out.block w8.heap.size (Array.getElem?_eq_some_iff.1 hr.out.1).1)))
                  clear x13
                  go_upto_region 33 with (first
                    | (refine wpList_alloc_z rfl 63 rfl Z HI.out.1 ?_)
                    | (refine wpList_store_new rfl 63 (.tmp 18) (.tmp 116) rfl w13 63 Z (byteVals sv).toArray rfl rfl (size63 _ HS.out) (zsize Z HI.out _ HS.out) (all_oneCell_toArray (byteVals_oneCell _)) ?_))
                  have e1 : (w13.alloc (.cells (byteVals sv).toArray 63)).rangeAt w13.heap.size 0 (byteVals sv) := by
                    intro i v hi
                    rw [cell_new0, List.getElem?_toArray, Nat.zero_add]
                    exact hi
                  have e2 := HE2.out
                  have hu := Try.underlying63
                  have hi : (Try.prog.info? 63).map (·.size) = some (byteVals sv).length := by rw [byteVals_length, hk64.out]; exact Try.info63
                  have hj0 : (0 : Int) ≤ (j : Int) := by omega
                  have hj1 : (j : Int) < (k : Int) := by omega
                  have heq : ∀ W, (Op.equalIn 10000 63 (.agg (byteVals sv).toArray) (.agg (byteVals sv).toArray)).run Try.prog W = .ok true W := fun W => by
                    rw [sec_eq sv sv hk64.out hk64.out W]; simp
                  generalize w13.alloc (.cells (byteVals sv).toArray 63) = W14 at *
                  refine wp_region_noPanic ?_
                  refine wp_region_held_drew (S := fun W => W.rangeAt w13.heap.size 0 (byteVals sv) ∧ W.rangeAt w8.heap.size (j * 64) (byteVals sv)) (by kernel_rfl) ⟨e1, e2⟩ (fun hHeld => ?_)
                  refine wpAnyH_take (i := 0) (v := .int .i64 0) rfl (by kernel_rfl) (by kernel_rfl) (by kernel_rfl) (fun _ _ _ h => h) (Or.inl ⟨by rfl, ?_⟩) (by assumption) ?_
                  · intro w hSw; go_simp
                  try simp only [List.getElem_toArray, List.getElem_cons_zero, List.getElem_cons_succ, Act.put, List.setIfInBounds_toArray, List.set_cons_zero, List.set_cons_succ]
                  refine wpAnyH_take (i := 1) (v := .bool false) rfl (by kernel_rfl) (by kernel_rfl) (by kernel_rfl) (fun _ _ _ h => h) (Or.inl ⟨by rfl, ?_⟩) (by assumption) ?_
                  · intro w hSw; go_simp
                  try simp only [List.getElem_toArray, List.getElem_cons_zero, List.getElem_cons_succ, Act.put, List.setIfInBounds_toArray, List.set_cons_zero, List.set_cons_succ]
                  refine wpAnyH_take (i := 2) (v := .bool false) rfl (by kernel_rfl) (by kernel_rfl) (by kernel_rfl) (fun _ _ _ h => h) (Or.inl ⟨by rfl, ?_⟩) (by assumption) ?_
                  · intro w hSw; go_simp
                  try simp only [List.getElem_toArray, List.getElem_cons_zero, List.getElem_cons_succ, Act.put, List.setIfInBounds_toArray, List.set_cons_zero, List.set_cons_succ]
                  refine wpAnyH_take (i := 3) (v := .agg (byteVals sv).toArray) rfl (by kernel_rfl) (by kernel_rfl) (by kernel_rfl) (fun _ _ _ h => h) (yieldsIf_load_mid (by rfl) 63 (.tmp 18) rfl w13.heap.size (0) rfl (byteVals sv) _ (fun _ h => h.1) hu rfl hi) (by assumption) ?_
                  try simp only [List.getElem_toArray, List.getElem_cons_zero, List.getElem_cons_succ, Act.put, List.setIfInBounds_toArray, List.set_cons_zero, List.set_cons_succ]
                  refine wpAnyH_take (i := 4) (v := .slice (some ⟨w8.heap.size, 0, none⟩) k k) rfl (by kernel_rfl) (by kernel_rfl) (by kernel_rfl) (fun _ _ _ h => h) (Or.inl ⟨by rfl, ?_⟩) (by assumption) ?_
                  · intro w hSw; go_simp
                  try simp only [List.getElem_toArray, List.getElem_cons_zero, List.getElem_cons_succ, Act.put, List.setIfInBounds_toArray, List.set_cons_zero, List.set_cons_succ]
                  refine wpAnyH_take (i := 5) (v := .int .i64 (j : Int)) rfl (by kernel_rfl) (by kernel_rfl) (by kernel_rfl) (fun _ _ _ h => h) (Or.inl ⟨by rfl, ?_⟩) (by assumption) ?_
                  · intro w hSw; go_simp
                  try simp only [List.getElem_toArray, List.getElem_cons_zero, List.getElem_cons_succ, Act.put, List.setIfInBounds_toArray, List.set_cons_zero, List.set_cons_succ]
                  refine wpAnyH_take (i := 6) (v := .pointer (some ⟨w8.heap.size, j * 64, none⟩)) rfl (by kernel_rfl) (by kernel_rfl) (by kernel_rfl) (fun _ _ _ h => h) (Or.inl ⟨by rfl, ?_⟩) (by assumption) ?_
                  · intro w hSw; go_simp
                  try simp only [List.getElem_toArray, List.getElem_cons_zero, List.getElem_cons_succ, Act.put, List.setIfInBounds_toArray, List.set_cons_zero, List.set_cons_succ]
                  refine wpAnyH_take (i := 7) (v := .agg (byteVals sv).toArray) rfl (by kernel_rfl) (by kernel_rfl) (by kernel_rfl) (fun _ _ _ h => h) (yieldsIf_load_mid (by rfl) 63 (.tmp 124) rfl w8.heap.size (j * 64) rfl (byteVals sv) _ (fun _ h => h.2) hu rfl hi) (by assumption) ?_
                  try simp only [List.getElem_toArray, List.getElem_cons_zero, List.getElem_cons_succ, Act.put, List.setIfInBounds_toArray, List.set_cons_zero, List.set_cons_succ]
                  refine wpAnyH_take (i := 8) (v := .bool false) rfl (by kernel_rfl) (by kernel_rfl) (by kernel_rfl) (fun _ _ _ h => h) (Or.inl ⟨by rfl, ?_⟩) (by assumption) ?_
                  · intro w hSw; go_simp
                  try simp only [List.getElem_toArray, List.getElem_cons_zero, List.getElem_cons_succ, Act.put, List.setIfInBounds_toArray, List.set_cons_zero, List.set_cons_succ]
                  refine wpAnyH_take (i := 9) (v := .bool false) rfl (by kernel_rfl) (by kernel_rfl) (by kernel_rfl) (fun _ _ _ h => h) (Or.inl ⟨by rfl, ?_⟩) (by assumption) ?_
                  · intro w hSw; go_simp
                  try simp only [List.getElem_toArray, List.getElem_cons_zero, List.getElem_cons_succ, Act.put, List.setIfInBounds_toArray, List.set_cons_zero, List.set_cons_succ]
                  refine wpAnyH_done (by kernel_rfl) ?_ _
                  refine NoPanic.normal ?_
                  go_wp2_with fail
                  go_roundw
                  case rel => exact ⟨j + 1, by go_num, by omega, Below.drew B13.out, Disk.drewD D13.out, R13.out⟩
                  case measure => simp [intOf]; omega
                · go_wp2_with fail
                  refine (Steps_any w1.heap.size g kb G _ hd.out).mono ?_
                  rw [hGs.out]
                  rintro e w13 ⟨rfl, rfl⟩
                  go_wp2_with fail
                  go_ret
                  exact ⟨rfl, hb.out⟩
end Go.Proofs.Ytgkoblgpadpcjaa.diskPower
