/- DiskKeeps: the walk. -/
import Derived.Test.YtgkoblgpadpcjaaDiskKeepsL
import Derived.Carry
namespace Go.Proofs.Ytgkoblgpadpcjaa.diskKeeps
open Go.RowKit Go.Proofs.Ytgkoblgpadpcjaa.diskPower

theorem wpList_makeMap {ops : Array Oper} {rest : List Oper} {o : Oper} {a : Act} {w : World} {Q : Exit → Act → World → Prop} (hw : Region.wanted o (yielded ops a.tmps) = true) (t : TypeId) (ho : o.op = .makeMap t none)
    (h : wpList Try.prog ops Q rest (a.put o.dst (.map (some w.heap.size))) (w.alloc (.map #[] 0))) : wpList Try.prog ops Q (o :: rest) a w := by
  refine wpList_value hw _ ?_ h
  simp [execOp, ho, Instr.makeMap]
theorem row_range {w : World} {b : Nat} {l : List Value} {t : TypeId} (h : w.heap[b]? = some (.cells l.toArray t (0, 0))) : w.rangeAt b 0 l := fun i v hi => by
  rw [Nat.zero_add]; exact block_cell h i v hi
theorem wpList_load_sec {ops : Array Oper} {rest : List Oper} {o : Oper} {a : Act} {w : World} {Q : Exit → Act → World → Prop} (hw : Region.wanted o (yielded ops a.tmps) = true) (x : Operand) (ho : o.op = .load 63 x)
    (b : Nat) (hx : a.eval x = .pointer (some ⟨b, 0, none⟩)) (s : List UInt8) (hs : s.length = 64) (hb : w.heap[b]? = some (.cells (byteVals s).toArray 63 (0, 0)))
    (h : wpList Try.prog ops Q rest (a.put o.dst (.agg (byteVals s).toArray)) w) : wpList Try.prog ops Q (o :: rest) a w := by
  refine wpList_value hw _ ?_ h
  have hi : (Try.prog.info? 63).map (·.size) = some (byteVals s).length := by rw [byteVals_length, hs]; exact Try.info63
  unfold execOp
  simp only [ho, hx, Instr.loadAt, Instr.sureAddr, Sem.run_bind, Sem.run_pure, Result.andThen_ok, run_loadVar_mid w b 0 63 (byteVals s) _ (row_range hb) Try.underlying63 rfl hi]
theorem calm_mono {D : Dk} {m c e : Nat} (h : diskPower.Calm D m c) (hce : c ≤ e) : diskPower.Calm D m e := ⟨h.down, h.len, h.fate, Nat.le_trans h.steps hce, Nat.le_trans h.cache hce⟩
theorem held_start {F : Dk} {m : Nat} (hl : F.kept.length = m) (hc : F.cache = []) : Held ((F.kept.take m).map fun s => [s]) F := by
  rw [List.take_of_length_le (by omega)]
  refine ⟨by simp, fun i h h' => by simp, fun c h => by rw [hc] at h; cases h⟩
theorem maps_start {B : Nat} {w : World} (h : B ≤ w.heap.size) (K : List (List UInt8)) : MapsAt B (w.alloc (.map #[] 0)) w.heap.size [] ((K.take 0).map fun s => [s]) :=
  ⟨heap_alloc_new w _, rfl, by simp, .nil, fun i h => absurd h (by simp), by simp, ⟨h, by simp⟩⟩
theorem maps_grow (K : List (List UInt8)) (k : Nat) (h : k < K.length) : ((K.take (k + 1)).map fun s => [s]) = ((K.take k).map fun s => [s]) ++ [[K[k]]] := by
  rw [List.take_succ_eq_append_getElem h, List.map_append]; rfl
def R2 (base B g kb ob m : Nat) (F : Dk) (w : World) (i : Value) (wr : World) : Prop :=
  ∃ (k : Nat) (ibs : List Nat), i = .int .i64 k ∧ k ≤ m ∧ ibs.length = k ∧ Hid (Below B w wr) ∧ Hid (Disk base wr g kb F) ∧ Hid (MapsAt B wr ob ibs ((F.kept.take k).map fun s => [s]))
def R3 (base B g kb ob m len : Nat) (w : World) (i : Value) (wr : World) : Prop :=
  ∃ (k : Nat) (ibs : List Nat) (M : List (List (List UInt8))) (D : Dk), i = .int .i64 k ∧ k ≤ len ∧ Hid (Below B w wr) ∧ Hid (Disk base wr g kb D) ∧ Hid (MapsAt B wr ob ibs M) ∧ Hid (diskPower.Calm D m (62 + k)) ∧ Hid (Held M D)
def R4 (base B g kb ob m : Nat) (E : Dk) (ibs : List Nat) (M : List (List (List UInt8))) (w : World) (i : Value) (wr : World) : Prop :=
  ∃ (k : Nat), i = .int .i64 k ∧ k ≤ m ∧ Hid (Below B w wr) ∧ Hid (Disk base wr g kb E) ∧ Hid (MapsAt B wr ob ibs M)

set_option maxRecDepth 100000 in
set_option maxHeartbeats 4000000 in
theorem walk_main (n : Int) (bef beh : List Opv) (bv hv : Value) (keeps : Nat) (w : World) (hbef : OpsAt w bv bef) (hbeh : OpsAt w hv beh) (hl : bef.length ≤ 60) (hl2 : beh.length ≤ 60) (hk : keeps < 18446744073709551616) :
    Calls Try.prog 9 #[.int .i64 n, bv, hv, .int .u64 keeps] w fun e w' => e = .returned (.bool true) ∧ Below w.heap.size w w' := by
  have HOPS := Lib.hid hbef
  have HBEH := Lib.hid hbeh
  have HKP := Lib.hid hk
  obtain ⟨oa, ocap, rfl, -, -⟩ := hbef
  obtain ⟨ha, hcap, rfl, -, -⟩ := hbeh
  obtain ⟨q, hq31, eq⟩ := and_i64_mask n 31 (by decide)
  have eq' : bits BinOp.and IntKind.i64 n 31 = (q : Int) := eq
  clear eq
  obtain ⟨Z, hZ⟩ : ∃ Z, Z = (byteVals zero64).toArray := ⟨_, rfl⟩
  have HI : Hid (ZFacts Z) := by rw [hZ]; exact zfacts
  have HZ := Lib.hid hZ
  clear hZ
  go_enter Try.func9, Try.ntmps9
  go_wp2_with fail
  refine (diskAlive_any _).mono ?_
  rintro e w1 ⟨rfl, x1⟩
  have X1 := Lib.hid x1
  clear x1
  go_wp2_with fail
  refine (New_any (q : Int) _).mono ?_
  rintro e w2 ⟨g, kb, rfl, hg, hkb, x2, d2⟩
  have X2 := Lib.hid (X1.out.trans x2)
  have D2 := Lib.hid d2
  have HG := Lib.hid hg
  have HK := Lib.hid hkb
  have HBS := Lib.hid x2.size
  obtain ⟨m, hm⟩ : ∃ m, m = (Dk.new (q : Int)).kept.length := ⟨_, rfl⟩
  have HM := Lib.hid hm
  have hm4 : m ≤ 4096 := by rw [hm]; exact (wf_new (q : Int)).most
  have HC0 : Hid (diskPower.Calm (Dk.new (q : Int)) m 0) := by rw [hm]; exact calm_new _
  clear x2 d2 hg hkb hm
  go_wp2_with fail
  go_loopw [36] (fun i wr => R1 w1.heap.size g kb m bef.length w2 i wr) (fun i _ => bef.length - (intOf i).toNat)
  case atStart => exact ⟨0, _, rfl, Nat.zero_le _, DOnly.refl _ _ _ _, D2, HC0⟩
  case round =>
    obtain ⟨k, D, rfl, hk, ho, hd, hc⟩ := hrel
    by_cases hlt : k < bef.length
    · obtain ⟨bb, o, rfl, e0, e1, e2, e3, hfit⟩ := HOPS.out.at (ext_only X2.out X1.out.size HBS.out HG.out HK.out ho.out) k hlt
      generalize bef[k] = op at *
      obtain ⟨okd, opl, oby, okp⟩ := op
      simp only at e0 e1 e2 e3
      have hst := Lib.hid (Nat.le_trans hc.out.steps (show k ≤ 1000000000 by omega))
      have hca := Lib.hid (Nat.le_trans hc.out.cache (show k ≤ 1000000000 by omega))
      have hd' := Lib.hid (hd.out.ext ((Ext.refl wr).alloc (.cells #[.int .i64 okd, .int .i64 opl, .int .u8 oby.toNat, .int .u64 okp] 60)))
      have ho' := Lib.hid (ho.out.ext ((Ext.refl wr).alloc (.cells #[.int .i64 okd, .int .i64 opl, .int .u8 oby.toNat, .int .u64 okp] 60)))
      go_wp2_with (refine wpList_sec1 rfl _ rfl oby rfl ?_)
      refine (Write_any w1.heap.size g kb D opl (sec1 oby) _ hd'.out hst.out hca.out rfl (Nat.le_trans HBS.out ho'.out.size)).mono ?_
      rintro e w4 ⟨rfl, o4, d4⟩
      have O4 := Lib.hid (ho'.out.trans o4)
      have D4 := Lib.hid d4
      have C4 := Lib.hid (calm_write hc.out opl (sec1 oby))
      clear o4 d4 ho hd hc ho' hd'
      go_wp2_with fail
      go_roundw
      case rel => exact ⟨k + 1, _, by go_num, by omega, O4, D4, C4⟩
      case measure => simp [intOf]; omega
    · have hst := Lib.hid (Nat.le_trans hc.out.steps (show k ≤ 1000000000 by omega))
      have hcf := Lib.hid (calm_flush hc.out)
      go_wp2_with fail
      refine (Flush_any w1.heap.size g kb D _ hd.out hst.out (Nat.le_trans HBS.out ho.out.size)).mono ?_
      rw [hcf.out.1]
      rintro e w3 ⟨rfl, o3, d3⟩
      have B3 := Lib.hid (ext_only X2.out X1.out.size HBS.out HG.out HK.out (ho.out.trans o3))
      have D3 := Lib.hid d3
      have HB3 := Lib.hid (Nat.le_trans HBS.out (ho.out.trans o3).size)
      obtain ⟨F, hF⟩ : ∃ F : Dk, F = D.flush.1 := ⟨_, rfl⟩
      have C3 : Hid (diskPower.Calm F m (k + 1)) := by rw [hF]; exact hcf.out.2.1
      have hFc := Lib.hid (show F.cache = [] by rw [hF]; exact hcf.out.2.2)
      have hFl := Lib.hid (show F.kept.length = m from C3.out.len)
      have hFd := Lib.hid (show F.down = false from C3.out.down)
      rw [← hF] at D3
      clear o3 d3 ho hd hc hcf hst hF D2 HC0
      go_wp2_with (refine wpList_makeMap rfl _ rfl ?_)
      refine (Len_any w1.heap.size g kb F _ (D3.out.ext ((Ext.refl w3).alloc (.map #[] 0)))).mono ?_
      rw [hFl.out]
      rintro e w4 ⟨rfl, rfl⟩
      go_wp2_with fail
      have HWB := Lib.hid B3.out.size
      go_loopw [54] (fun i wr => R2 w1.heap.size w.heap.size g kb w3.heap.size m F w i wr) (fun i _ => m - (intOf i).toNat)
      case atStart => exact ⟨0, [], rfl, Nat.zero_le _, rfl, B3.out.alloc (.map #[] 0), D3.out.ext ((Ext.refl w3).alloc (.map #[] 0)), maps_start HWB.out _⟩
      case round =>
        obtain ⟨k, ibs, rfl, hk, hib, hb, hd, hm⟩ := hrel
        subst hib
        by_cases hlt : ibs.length < m
        · have hke := hFl.out
          have hrd := Lib.hid (read_kept hFd.out hFc.out ibs.length (by omega))
          have hk64 := Lib.hid (hd.out.wf.kept _ (List.getElem_mem (show ibs.length < F.kept.length by omega)))
          have hgr := Lib.hid (maps_grow F.kept ibs.length (by omega))
          generalize F.kept[ibs.length]'(by omega) = sv at *
          clear hke
          go_wp2_with fail
          refine (DRead_any w1.heap.size g kb F (ibs.length : Int) _ hd.out).mono ?_
          unfold readPost
          rw [hrd.out]
          rintro e w10 ⟨rfl, x10⟩
          dsimp only
          have X10 := Lib.hid (x10.trans ((Ext.refl w10).alloc (.cells (byteVals sv).toArray 63)))
          have B10 := Lib.hid (hb.out.trans (Below.mono X10.out hb.out.size))
          have D10 := Lib.hid (hd.out.ext X10.out)
          have M10 := Lib.hid (hm.out.ext X10.out)
          have HS := Lib.hid hk64.out
          have H10 := Lib.hid (heap_alloc_new w10 (.cells (byteVals sv).toArray 63))
          clear x10 hb hd hm X10
          go_upto_region 18 with (first
            | (refine wpList_alloc_z rfl 63 rfl Z HI.out.1 ?_)
            | (refine wpList_store_new rfl 63 (.tmp 14) (.tmp 61) rfl w10 63 Z (byteVals sv).toArray rfl rfl (size63 _ HS.out) (zsize Z HI.out _ HS.out) (all_oneCell_toArray (byteVals_oneCell _)) ?_))
          generalize w10.alloc (.cells (byteVals sv).toArray 63) = W11 at *
          have HOB : Hid ((setMap (W11.alloc (.map #[] 0)) W11.heap.size (.map (secEntries (addSec sv []) 0).toArray (addSec sv []).length)).heap[w3.heap.size]? = some (.map (outer ibs 0).toArray ibs.length)) := by
            have hlt3 : w3.heap.size < W11.heap.size := (Array.getElem?_eq_some_iff.1 M10.out.obj).1
            exact (setMap_other (by omega)).trans ((heap_alloc_old _ _ (by omega)).trans M10.out.obj)
          have M12 := Lib.hid (M10.out.push B10.out.size sv HS.out)
          have D12 := Lib.hid (Disk.setMap (Disk.setMap (D10.out.ext ((Ext.refl W11).alloc (.map #[] 0))) (heap_alloc_new W11 _) (.map (secEntries (addSec sv []) 0).toArray (addSec sv []).length)) HOB.out (.map (outer (ibs ++ [W11.heap.size]) 0).toArray (ibs ++ [W11.heap.size]).length))
          have B12 := Lib.hid (below_setMap (o := .map (outer (ibs ++ [W11.heap.size]) 0).toArray (ibs ++ [W11.heap.size]).length) (below_setMap (o := .map (secEntries (addSec sv []) 0).toArray (addSec sv []).length) (B10.out.alloc B10.out.size (.map #[] 0)) B10.out.size) HWB.out)
          have H11 := Lib.hid (((Ext.refl W11).alloc (.map #[] 0)).keep H10.out)
          go_wp2_with (first
            | (refine wpList_makeMap rfl _ rfl ?_)
            | (refine wpList_load_sec rfl _ rfl w10.heap.size rfl sv HS.out H11.out ?_)
            | (refine wpList_update_sec rfl _ _ _ (Or.inr rfl) W11.heap.size [] (fun t ht => by cases ht) sv HS.out rfl rfl rfl (heap_alloc_new W11 _) ?_)
            | (refine wpList_update_outer rfl _ _ _ rfl w3.heap.size W11.heap.size ibs rfl rfl rfl HOB.out ?_))
          go_roundw
          case rel => exact ⟨ibs.length + 1, ibs ++ [W11.heap.size], by go_num, by omega, by simp, by have := B12.out; simpa only [Hid, List.length_append, List.length_cons, List.length_nil, Nat.zero_add] using this, by have := D12.out; simpa only [Hid, List.length_append, List.length_cons, List.length_nil, Nat.zero_add] using this, by have := M12.out; rw [← hgr.out] at this; simpa only [Hid, List.length_append, List.length_cons, List.length_nil, Nat.zero_add] using this⟩
          case measure => simp [intOf]; omega
        · have hkm : ibs.length = m := by omega
          have HLD := Lib.hid (held_start hFl.out hFc.out)
          have HCF : Hid (diskPower.Calm F m (62 + 0)) := calm_mono C3.out (by omega)
          rw [hkm] at hm
          generalize ((F.kept.take m).map fun s => [s]) = M0 at *
          go_wp2_with fail
          go_loopw [71] (fun i wr => R3 w1.heap.size w.heap.size g kb w3.heap.size m beh.length w i wr) (fun i _ => beh.length - (intOf i).toNat)
          case atStart => exact ⟨0, ibs, M0, F, rfl, Nat.zero_le _, hb, hd, hm, HCF, HLD⟩
          clear hb hd hm HCF HLD hFc hFl hFd C3 D3 hkm hk
          case round =>
            obtain ⟨k, ibs, M, D, rfl, hk, hb, hd, hm, hc, hh⟩ := hrel
            by_cases hlt : k < beh.length
            · obtain ⟨bb, o, rfl, e0, e1, e2, e3, hfit⟩ := HBEH.out.at hb.out k hlt
              generalize beh[k] = op at *
              obtain ⟨okd, opl, oby, okp⟩ := op
              simp only at e0 e1 e2 e3
              have hst := Lib.hid (Nat.le_trans hc.out.steps (show 62 + k ≤ 1000000000 by omega))
              have hca := Lib.hid (Nat.le_trans hc.out.cache (show 62 + k ≤ 1000000000 by omega))
              have HA := Lib.hid ((Ext.refl wr).alloc (.cells #[.int .i64 okd, .int .i64 opl, .int .u8 oby.toNat, .int .u64 okp] 60))
              have hd' := Lib.hid (hd.out.ext HA.out)
              have hm' := Lib.hid (hm.out.ext HA.out)
              have hb' := Lib.hid (hb.out.trans (HA.out.mono hb.out.size))
              have HN := Lib.hid (heap_alloc_new wr (.cells #[.int .i64 okd, .int .i64 opl, .int .u8 oby.toNat, .int .u64 okp] 60))
              have HLT := Lib.hid hd.out.lt
              have HML := Lib.hid (hh.out.1.trans hc.out.len)
              go_wp2_with (refine wpList_sec2 rfl _ _ rfl oby 1 rfl rfl ?_)
              refine (Write_any w1.heap.size g kb D opl (sec2 oby 1) _ hd'.out hst.out hca.out rfl (Nat.le_trans HB3.out (by have := (Array.getElem?_eq_some_iff.1 hm'.out.obj).1; omega))).mono ?_
              rcases calm_cases hc.out opl (sec2 oby 1) with ⟨p, rfl, hp, hwr⟩ | hwr
              · have HCW := Lib.hid (calm_write hc.out (p : Int) (sec2 oby 1))
                rw [hwr] at HCW ⊢
                rintro e w4 ⟨rfl, o4, d4⟩
                dsimp only at d4 ⊢
                have B4 := Lib.hid (hb'.out.trans ((o4.below HG.out HK.out (by have := (Array.getElem?_eq_some_iff.1 hm'.out.obj).1; have := HB3.out; omega)).mono X1.out.size))
                have M4 := Lib.hid (hm'.out.only hd'.out o4)
                have D4 := Lib.hid d4
                have HPM := Lib.hid (show p < M.length by have := HML.out; omega)
                have HPI := Lib.hid (show p < ibs.length by have := HPM.out; have := hm.out.len; omega)
                have HX := Lib.hid (M4.out.inner p HPM.out HPI.out)
                have HSS := Lib.hid (M4.out.secs _ (List.getElem_mem HPM.out))
                have H4 := Lib.hid (o4.keep HN.out (by decide) (by have := HLT.out; omega) (by have := HLT.out; omega))
                have q1 := block_cell H4.out 1 (.int .i64 (p : Int)) rfl
                have q2 := block_cell H4.out 2 (.int .u8 oby.toNat) rfl
                have M5 := Lib.hid (M4.out.add p HPM.out (sec2 oby 1) rfl)
                have D5 := Lib.hid (Disk.setMap D4.out HX.out (.map (secEntries (addSec (sec2 oby 1) (M[p]'HPM.out)) 0).toArray (addSec (sec2 oby 1) (M[p]'HPM.out)).length))
                have B5 := Lib.hid (below_setMap (o := .map (secEntries (addSec (sec2 oby 1) (M[p]'HPM.out)) 0).toArray (addSec (sec2 oby 1) (M[p]'HPM.out)).length) B4.out (M4.out.base.2 _ (List.getElem_mem HPI.out)))
                have HH := Lib.hid (hh.out.write p (D.steps + 1) HPM.out (sec2 oby 1))
                clear o4 d4 hb hd hm hc hb' hd' hm' HN HA hst hca hh hwr B4
                go_wp2_with (first
                  | (refine wpList_sec2 rfl _ _ rfl oby 1 rfl rfl ?_)
                  | (refine wpList_lookup_outer rfl _ _ rfl w3.heap.size ibs.length p ibs HPI.out rfl rfl M4.out.obj ?_)
                  | (refine wpList_update_sec rfl _ _ _ (Or.inl rfl) (ibs[p]'HPI.out) (M[p]'HPM.out) HSS.out (sec2 oby 1) rfl rfl rfl rfl HX.out ?_))
                go_roundw
                case rel => exact ⟨k + 1, ibs, _, _, by go_num, by omega, B5, D5, M5, HCW, HH⟩
                case measure => simp [intOf]; omega
              · rw [hwr]
                rintro e w4 ⟨rfl, o4, d4⟩
                dsimp only at d4 ⊢
                have B4 := Lib.hid (hb'.out.trans ((o4.below HG.out HK.out (by have := (Array.getElem?_eq_some_iff.1 hm'.out.obj).1; have := HB3.out; omega)).mono X1.out.size))
                have M4 := Lib.hid (hm'.out.only hd'.out o4)
                have D4 := Lib.hid d4
                have C4 := Lib.hid (calm_mono hc.out (show 62 + k ≤ 62 + (k + 1) by omega))
                clear o4 d4 hb hd hm hc hb' hd' hm' HN HA hst hca
                go_wp2_with fail
                go_roundw
                case rel => exact ⟨k + 1, ibs, M, D, by go_num, by omega, B4, D4, M4, C4, hh⟩
                case measure => simp [intOf]; omega
            · have HCL := Lib.hid (hh.out.crash keeps)
              have HLN := Lib.hid (show (D.crash keeps).kept.length = m by show (lay _ _ _ _).length = m; rw [lay_length]; exact hc.out.len)
              have HML := Lib.hid (hh.out.1.trans hc.out.len)
              go_wp2_with fail
              refine (Crash_any w1.heap.size g kb D keeps _ hd.out HKP.out (by have := (Array.getElem?_eq_some_iff.1 hm.out.obj).1; have := HB3.out; omega)).mono ?_
              rintro e w5 ⟨⟨v5, rfl⟩, o5, d5⟩
              have B5 := Lib.hid (hb.out.trans ((o5.below HG.out HK.out (by have := (Array.getElem?_eq_some_iff.1 hm.out.obj).1; have := HB3.out; omega)).mono X1.out.size))
              have M5 := Lib.hid (hm.out.only hd.out o5)
              have D5 := Lib.hid d5
              clear o5 d5 hb hd hm hc hh
              go_wp2_with fail
              refine (On_any w1.heap.size g kb _ _ D5.out).mono ?_
              rintro e w6 ⟨⟨v6, rfl⟩, o6, d6⟩
              have B6 := Lib.hid (B5.out.trans ((o6.below HG.out HK.out (by have := (Array.getElem?_eq_some_iff.1 M5.out.obj).1; have := HB3.out; omega)).mono X1.out.size))
              have M6 := Lib.hid (M5.out.only D5.out o6)
              have D6 := Lib.hid d6
              obtain ⟨E, hE⟩ : ∃ E : Dk, E = { D.crash keeps with down := false } := ⟨_, rfl⟩
              have hEd := Lib.hid (show E.down = false by rw [hE])
              have hEc := Lib.hid (show E.cache = [] by rw [hE]; rfl)
              have hEl : Hid (E.kept.length = m) := by rw [hE]; exact HLN
              have hEm : Hid (∀ i (h : i < E.kept.length) (h' : i < M.length), E.kept[i] ∈ M[i]) := by rw [hE]; exact HCL
              rw [← hE] at D6
              clear o6 d6 B5 M5 D5 hE HCL HLN
              go_wp2_with fail
              refine (Len_any w1.heap.size g kb E _ D6.out).mono ?_
              rw [hEl.out]
              rintro e w7 ⟨rfl, rfl⟩
              go_wp2_with fail
              go_loopw [98] (fun i wr => R4 w1.heap.size w.heap.size g kb w3.heap.size m E ibs M w i wr) (fun i _ => m - (intOf i).toNat)
              case atStart => exact ⟨0, rfl, Nat.zero_le _, B6, D6, M6⟩
              clear B6 D6 M6
              case round =>
                obtain ⟨j, rfl, hj, hb, hd, hm⟩ := hrel
                by_cases hlt : j < m
                · have hke := hEl.out
                  have hrd := Lib.hid (read_kept hEd.out hEc.out j (by omega))
                  have hk64 := Lib.hid (hd.out.wf.kept _ (List.getElem_mem (show j < E.kept.length by omega)))
                  have HPM := Lib.hid (show j < M.length by have := HML.out; omega)
                  have HPI := Lib.hid (show j < ibs.length by have := HPM.out; have := hm.out.len; omega)
                  have hmem := Lib.hid (hEm.out j (by omega) HPM.out)
                  generalize E.kept[j]'(by omega) = sv at *
                  clear hke
                  obtain ⟨t, ht⟩ := secIdx_mem sv _ 0 hmem.out
                  have HT := Lib.hid ht
                  clear ht
                  go_wp2_with fail
                  refine (DRead_any w1.heap.size g kb E (j : Int) _ hd.out).mono ?_
                  unfold readPost
                  rw [hrd.out]
                  rintro e w13 ⟨rfl, x13⟩
                  dsimp only
                  have X13 := Lib.hid (x13.trans ((Ext.refl w13).alloc (.cells (byteVals sv).toArray 63)))
                  have B13 := Lib.hid (hb.out.trans (Below.mono X13.out hb.out.size))
                  have D13 := Lib.hid (hd.out.ext X13.out)
                  have M13 := Lib.hid (hm.out.ext X13.out)
                  have HS := Lib.hid hk64.out
                  have H13 := Lib.hid (heap_alloc_new w13 (.cells (byteVals sv).toArray 63))
                  have HX := Lib.hid (M13.out.inner j HPM.out HPI.out)
                  have HSS := Lib.hid (M13.out.secs _ (List.getElem_mem HPM.out))
                  clear x13 hb hd hm X13
                  go_upto_region 32 with (first
                    | (refine wpList_alloc_z rfl 63 rfl Z HI.out.1 ?_)
                    | (refine wpList_store_new rfl 63 (.tmp 19) (.tmp 105) rfl w13 63 Z (byteVals sv).toArray rfl rfl (size63 _ HS.out) (zsize Z HI.out _ HS.out) (all_oneCell_toArray (byteVals_oneCell _)) ?_))
                  generalize w13.alloc (.cells (byteVals sv).toArray 63) = W14 at *
                  go_upto_region 33 with (first
                    | (refine wpList_lookup_outer rfl _ _ rfl w3.heap.size ibs.length j ibs HPI.out rfl rfl M13.out.obj ?_)
                    | (refine wpList_load_sec rfl _ rfl w13.heap.size rfl sv HS.out H13.out ?_)
                    | (refine wpList_lookup_sec rfl _ _ rfl (ibs[j]'HPI.out) (M[j]'HPM.out).length t (M[j]'HPM.out) HSS.out sv HS.out HT.out rfl rfl HX.out ?_))
                  go_roundw
                  case rel => exact ⟨j + 1, by go_num, by omega, B13, D13, M13⟩
                  case measure => simp [intOf]; omega
                · go_wp2_with fail
                  go_ret
                  exact ⟨rfl, hb.out⟩
end Go.Proofs.Ytgkoblgpadpcjaa.diskKeeps
