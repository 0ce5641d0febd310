/- LogAgain: the walk. -/
import Derived.Test.YtgkoblgpadpcjaaLogTornL
namespace Go.Proofs.Ytgkoblgpadpcjaa.logAgain
open Go.RowKit

/-- A row of rows of bytes of the call's own, whatever the bytes are. -/
def RowV (B : Nat) (w : World) (v : Value) (vs : List Value) (n : Nat) : Prop :=
  w.ownsRow B 22 1 v n vs ∧ ∀ (i : Nat) (u : Value), vs[i]? = some u → ∃ l, OwnBytes w B u l
theorem RowV.of {B : Nat} {w : World} {v : Value} {ls : List (List UInt8)} (h : RecRow B w v ls) : ∃ vs, RowV B w v vs ls.length := by
  obtain ⟨vs, h1, h2⟩ := h
  refine ⟨vs, h1, fun i u hu => ?_⟩
  have hl := h1.1
  have hi := (List.getElem?_eq_some_iff.1 hu).1
  obtain ⟨x, hx, ho⟩ := h2 i (by omega)
  rw [hu] at hx
  obtain rfl := Option.some.inj hx
  exact ⟨_, ho⟩
theorem RowV.at {B : Nat} {w : World} {a : Option Addr} {m c n : Nat} {vs : List Value} (h : RowV B w (.slice a m c) vs n) (k : Nat) (hk : k < n) :
    ∃ q au bl cu, a = some ⟨q, 0, none⟩ ∧ vs[k]? = some (.slice au bl cu) ∧ w.cell? ⟨q, k, none⟩ = some (.slice au bl cu) ∧ bl ≤ 9223372036854775807 := by
  obtain ⟨h1, h2⟩ := h
  have hl := h1.1
  have hv : vs[k]? = some (vs[k]'(by omega)) := List.getElem?_eq_getElem (by omega)
  obtain ⟨l, ho⟩ := h2 k _ hv
  have h1' := h1
  rcases h1.2 with ⟨e, h0⟩ | ⟨q, cap, cur, e, _⟩
  · omega
  · simp only [Value.slice.injEq] at e
    obtain ⟨rfl, -, rfl⟩ := e
    have hc := h1'.cells (g := q) rfl k _ hv
    rw [Addr.add_lit, Nat.zero_add] at hc
    obtain ⟨au, cu, hu, hu1, hu2, -⟩ := ho.bytes
    rw [hu] at hv hc
    exact ⟨q, au, l.length, cu, rfl, hv, hc, by omega⟩
theorem RowV.set {B : Nat} {w : World} {v : Value} {vs : List Value} {n g i : Nat} (h : RowV B w v vs n) {u : Value} {l : List UInt8} (ho : OwnBytes w B u l) (hg : u.ownBlock = some g) (b : UInt8) : RowV B (w.setCell ⟨g, i, none⟩ (.int .u8 b.toNat)) v vs n := by
  obtain ⟨h1, h2⟩ := h
  refine ⟨row_same h1 fun k hk => Below.heap_setCell w _ _ k ?_, fun j x hx => ?_⟩
  · intro e
    rcases own_apart (by decide) h1 ho with h9 | h9
    · rw [h9] at hk; cases hk
    · exact h9 (by rw [← hk, hg, e])
  · obtain ⟨m, hm⟩ := h2 j x hx
    by_cases hxg : x.ownBlock = some g
    · rcases hm.2 with ⟨rfl, h0⟩ | ⟨q, cap, cur, rfl, _⟩
      · cases hxg
      · simp only [Value.ownBlock, Option.some.injEq] at hxg
        subst hxg
        exact ⟨_, hm.set rfl i b _ rfl⟩
    · exact ⟨m, hm.other ⟨g, i, none⟩ hxg _⟩
theorem RowV.byte {B : Nat} {w : World} {v : Value} {vs : List Value} {n k j bl cu : Nat} {au : Option Addr} (h : RowV B w v vs n) (hv : vs[k]? = some (.slice au bl cu)) (hj : j < bl) :
    ∃ (gb : Nat) (x : UInt8), au = some ⟨gb, 0, none⟩ ∧ w.cell? ⟨gb, j, none⟩ = some (.int .u8 x.toNat) ∧ w.frozen? ⟨gb, j, none⟩ = false ∧ B ≤ gb ∧ ∀ b : UInt8, RowV B (w.setCell ⟨gb, j, none⟩ (.int .u8 b.toNat)) v vs n := by
  obtain ⟨l, ho⟩ := h.2 k _ hv
  have hl : bl = l.length := by
    obtain ⟨a', c', e, -⟩ := ho.bytes
    simp only [Value.slice.injEq] at e
    exact e.2.1
  subst hl
  have ho' := ho
  rcases ho.2 with ⟨e, h0⟩ | ⟨gb, cap, cur, e, hb, _⟩
  · omega
  · simp only [Value.slice.injEq] at e
    obtain ⟨rfl, -, rfl⟩ := e
    exact ⟨gb, l[j], rfl, ho'.cell rfl j hj, ho'.frozen rfl j, hb, fun b => h.set ho' rfl b⟩
theorem add_u8 (x : UInt8) : IntKind.u8.wrap ((x.toNat : Int) + 1) = ((x + 1).toNat : Int) := by
  have h : IntKind.u8.wrap ((x.toNat : Int) + 1) = ((x.toNat : Int) + 1) % 256 := by simp [IntKind.wrap, IntKind.bits, IntKind.signed]
  rw [h, UInt8.toNat_add]
  show _ = (((x.toNat + 1) % 256 : Nat) : Int)
  omega
def R1 (base g kb l n : Nat) (w : World) (ops : List Opl) (i : Value) (wr : World) : Prop :=
  ∃ (k : Nat) (rs : List (List UInt8)) (D : Dk) (L : Lg) (lv : Value), i = .int .i64 k ∧ k ≤ ops.length ∧ Hid (Below w.heap.size w wr) ∧ Hid (LogAt base wr g kb l lv D L) ∧ Hid (Lv D L rs) ∧ D.fate < 1 ∧ Hid (D.kept.length = n) ∧ D.steps ≤ 10 + 70 * k ∧ rs.length ≤ k ∧ Hid (L.epoch = 1) ∧ Hid (∀ b ∈ rs, b.length ≤ 300) ∧ Hid (base_lt base lv)
def R2 (wA : World) (v : Value) (vs : List Value) (n : Nat) (i : Value) (wr : World) : Prop := ∃ k : Nat, i = .int .i64 k ∧ k ≤ n ∧ Hid (Ext wA wr) ∧ Hid (RowV wA.heap.size wr v vs n)
set_option maxRecDepth 100000 in
theorem walk_long (a0 : Int) (ops : List Opl) (ov : Value) (w : World) (hops : ListAt 4 (CellOp w) ov ops) (hl : 60 < ops.length) :
    Calls Try.prog 14 #[.int .i64 a0, ov] w fun e w' => e = .returned (.bool true) ∧ Below w.heap.size w w' := by
  obtain ⟨ra, rc, rfl, -, -⟩ := hops
  obtain ⟨q, hq, eq⟩ := and_i64_mask a0 127 (by decide)
  have eq' : bits BinOp.and IntKind.i64 a0 127 = (q : Int) := eq
  clear eq
  have hq60 : ((60 : Int) < (ops.length : Int)) := by omega
  go_enter Try.func14, Try.ntmps14
  go_wp2_with fail
  refine (logAlive_any _).mono ?_
  rintro e w1 ⟨rfl, x1⟩
  have X1 := Lib.hid x1
  clear x1
  go_wp2_with fail
  go_ret
  exact ⟨rfl, X1.out⟩
set_option maxRecDepth 100000 in
set_option maxHeartbeats 4000000 in
theorem walk_main (a0 : Int) (ops : List Opl) (ov : Value) (w : World) (hops : ListAt 4 (CellOp w) ov ops) (hl : ops.length ≤ 60) :
    Calls Try.prog 14 #[.int .i64 a0, ov] w fun e w' => e = .returned (.bool true) ∧ Below w.heap.size w w' := by
  have HOPS := Lib.hid hops
  obtain ⟨ra, rc, rfl, -, -⟩ := hops
  obtain ⟨q, hq, eq⟩ := and_i64_mask a0 127 (by decide)
  have eq' : bits BinOp.and IntKind.i64 a0 127 = (q : Int) := eq
  clear eq
  obtain ⟨n, hn⟩ : ∃ n, n = 6 + q := ⟨_, rfl⟩
  have hnq : IntKind.i64.wrap (6 + (q : Int)) = (n : Int) := by rw [IntWalk.i64_in _ (by omega)]; omega
  have hnq2 : (6 + (q : Int)) = (n : Int) := by omega
  have hn6 : 6 ≤ n := by omega
  have hn133 : n ≤ 133 := by omega
  clear hn hq
  go_enter Try.func14, Try.ntmps14
  go_wp2_with fail
  refine (logAlive_any _).mono ?_
  rintro e w1 ⟨rfl, x1⟩
  have X1 := Lib.hid x1
  clear x1
  go_wp2_with fail
  refine (New_any (n : Int) _).mono ?_
  rintro e w2 ⟨g, kb, rfl, hg, hkb, x2, d2⟩
  have X2 := Lib.hid (X1.out.trans x2)
  have D2 := Lib.hid d2
  have HG := Lib.hid hg
  have HK := Lib.hid hkb
  have HBS := Lib.hid x2.size
  obtain ⟨E, hE, st, tl, hfa, hkl, hsteps, -⟩ := open_new n hn6 (by omega)
  have HO := Lib.hid hE
  have S0 := Lib.hid st
  have T0 := Lib.hid tl
  have HKL := Lib.hid hkl
  clear x2 d2 hg hkb hE st tl hkl hnq hnq2
  go_wp2_with fail
  refine (Open_any w1.heap.size g kb (Dk.new (n : Int)) _ D2.out (by show (0 : Nat) ≤ _; decide) (by show (0 : Nat) ≤ _; decide) HBS.out).mono ?_
  intro e w3 hp
  obtain ⟨o3, l, lv, rfl, hl3, a3, hlv⟩ := open_some HO.out hp
  have BB3 := Lib.hid (Below.trans (show Below w.heap.size w w2 from X2.out) ((o3.below HG.out HK.out HBS.out).mono X1.out.size))
  have HLB := Lib.hid a3.hl
  have LV3 := Lib.hid (show base_lt w1.heap.size lv from fun q hq => Nat.le_trans HBS.out (hlv q hq))
  have LA3 := Lib.hid a3
  clear hp o3 a3 hl3 hlv D2
  go_wp2_with fail
  go_loopw [42] (fun i wr => R1 w1.heap.size g kb l n w ops i wr) (fun i _ => ops.length - (intOf i).toNat)
  case atStart => exact ⟨0, [], E, _, lv, rfl, Nat.zero_le _, BB3, LA3, Lib.hid ⟨S0.out, rfl, rfl, rfl, T0.out⟩, hfa, HKL, by omega, Nat.le_refl _, rfl, Lib.hid (fun b hb => by cases hb), LV3⟩
  case round =>
    obtain ⟨k, rs, D, L, lvk, rfl, hk, hbb, hla, hlvv, hfa2, hkl2, hst2, hrl, hep, hsm, hlb⟩ := hrel
    by_cases hlt : k < ops.length
    · obtain ⟨bb, o, rfl, e0, e1, ⟨u, e2, eb, hbl⟩, e3, -, -, -⟩ := HOPS.out.at k hlt
      generalize ops[k] = op at *
      obtain ⟨okd, opn, ob, okp⟩ := op
      simp only at e0 e1 e2 e3 eb hbl
      have EB := Lib.hid eb
      obtain ⟨au, cu, rfl, -⟩ := eb
      have f0 := (hbb.out.cell (World.block_lt_of_cell? w _ e0)).trans e0
      have f1 := (hbb.out.cell (World.block_lt_of_cell? w _ e1)).trans e1
      have f2 := (hbb.out.cell (World.block_lt_of_cell? w _ e2)).trans e2
      have f3 := (hbb.out.cell (World.block_lt_of_cell? w _ e3)).trans e3
      clear e0 e1 e2 e3
      have LA := Lib.hid (hla.out.ext ((Ext.refl wr).alloc (.cells #[.int .i64 okd, .int .i64 opn, .slice au ob.length cu, .int .u64 okp] 99)))
      have BBa := Lib.hid (Below.alloc hbb.out hbb.out.size (.cells #[.int .i64 okd, .int .i64 opn, .slice au ob.length cu, .int .u64 okp] 99))
      by_cases hb3 : ob.length ≤ 300
      · by_cases hk0 : okd = 0
        · subst hk0
          have hb3' : ((ob.length : Int) ≤ 300) := by omega
          have HBx := Lib.hid (show w1.heap.size ≤ (wr.alloc (.cells #[.int .i64 0, .int .i64 opn, .slice au ob.length cu, .int .u64 okp] 99)).heap.size from Nat.le_trans LA.out.hl (Nat.le_of_lt (Array.getElem?_eq_some_iff.1 LA.out.blk).1))
          have HBY := Lib.hid (show ∀ W, LOnly w1.heap.size g kb l none (wr.alloc (.cells #[.int .i64 0, .int .i64 opn, .slice au ob.length cu, .int .u64 okp] 99)) W → Bytes W (.slice au ob.length cu) ob from fun W ho => EB.out.below (Below.trans BBa.out ((ho.below HG.out HK.out HLB.out (by simp) HBx.out).mono X1.out.size)) (Nat.le_refl _))
          have HLL := Lib.hid (show L.list.length ≤ 1000000 by rw [hlvv.out.list]; omega)
          have HCC := Lib.hid (show D.cache.length ≤ 800000000 by rw [hlvv.out.st.calm.cache]; decide)
          have key : Hid (∃ D9 L9 e9, appendP D L ob = (D9, L9, e9) ∧ ∃ rs9, Lv D9 L9 rs9 ∧ D9.fate < 1 ∧ D9.kept.length = n ∧ D9.steps ≤ 10 + 70 * (k + 1) ∧ rs9.length ≤ k + 1 ∧ L9.epoch = 1 ∧ ∀ b ∈ rs9, b.length ≤ 300) := by
            by_cases hfit : roomL rs + sectorsOf ob.length ≤ halfOf D
            · rcases append_lv hlvv.out (b := ob) (by omega) hfit with ⟨g1, g2, g3, g4, g5, g6, g7, g8⟩ | ⟨_, _, _, g4, _⟩
              · exact ⟨(appendP D L ob).1, (appendP D L ob).2.1, (appendP D L ob).2.2, rfl, rs ++ [ob], g2, g3 hfa2, g5.trans hkl2.out, by omega, by rw [List.length_append, List.length_singleton]; omega, g6.trans hep.out, fun b hb => by
                  rcases List.mem_append.1 hb with h9 | h9
                  · exact hsm.out b h9
                  · rw [List.mem_singleton.1 h9]; exact hb3⟩
              · omega
            · have hx := append_full (D := D) (L := L) (b := ob) hlvv.out.dead (by omega) (by rw [hlvv.out.at_]; omega)
              exact ⟨_, _, _, hx, rs, hlvv.out, hfa2, hkl2.out, by omega, by omega, hep.out, hsm.out⟩
          go_wp2_with fail
          refine (Append_any w1.heap.size g kb l lvk D L _ ob _ LA.out HBY.out (by omega) HLL.out (by rw [hep.out]; decide) (by omega) HCC.out HBx.out).mono ?_
          unfold appPost
          obtain ⟨D9, L9, e9, hr9, rs9, k1, k2, k3, k4, k5, k6, k7⟩ := key.out
          rw [hr9]
          rintro e w9 ⟨rfl, lv9, o9, a9, n9⟩
          have LA9 : Hid (LogAt w1.heap.size w9 g kb l lv9 D9 L9) := a9
          have BB9 := Lib.hid (Below.trans BBa.out ((o9.below HG.out HK.out HLB.out hlb.out HBx.out).mono X1.out.size))
          have LB9 := Lib.hid (show base_lt w1.heap.size lv9 from fun q hq => n9.elim (fun e => hlb.out q (e ▸ hq)) (fun h => Nat.le_trans HBx.out (h q hq)))
          have K1 := Lib.hid k1
          have K3 := Lib.hid k3
          have K6 := Lib.hid k6
          have K7 := Lib.hid k7
          clear o9 a9 n9 hr9 key k1 k3 k6 k7
          go_wp2_with fail
          go_roundw
          case rel => exact ⟨k + 1, rs9, D9, L9, lv9, by go_num, by omega, BB9, LA9, K1, k2, K3, k4, k5, K6, K7, LB9⟩
          case measure => simp [intOf]; omega
        · have hb3' : ((ob.length : Int) ≤ 300) := by omega
          have hne : (okd == 0) = false := by rw [beq_eq_false_iff_ne]; exact hk0
          clear hk0
          go_wp2_with fail
          go_roundw
          case rel => exact ⟨k + 1, rs, D, L, lvk, by go_num, by omega, BBa, LA, hlvv, hfa2, hkl2, by omega, by omega, hep, hsm, hlb⟩
          case measure => simp [intOf]; omega
      · have hb3' : ¬ ((ob.length : Int) ≤ 300) := by omega
        go_wp2_with fail
        go_roundw
        case rel => exact ⟨k + 1, rs, D, L, lvk, by go_num, by omega, BBa, LA, hlvv, hfa2, hkl2, by omega, by omega, hep, hsm, hlb⟩
        case measure => simp [intOf]; omega
    · obtain ⟨rl, hrl2⟩ : ∃ rl, rl = rs.length := ⟨_, rfl⟩
      obtain ⟨sx, hsx⟩ : ∃ sx, sx = D.steps := ⟨_, rfl⟩
      obtain ⟨lf, hlf⟩ : ∃ lf, lf = halfOf D - roomL rs := ⟨_, rfl⟩
      have HRL := Lib.hid hrl2
      have HSX := Lib.hid hsx
      have HLF := Lib.hid hlf
      have hrl3 : rl ≤ 60 := by omega
      have hsx3 : sx ≤ 10000 := by omega
      have HLI := Lib.hid hlvv.out.list
      have HAT := Lib.hid hlvv.out.at_
      have HLL := Lib.hid (show rs.length ≤ 1000000 by omega)
      have HSM := Lib.hid (show ∀ b ∈ rs, b.length ≤ 16777216 from fun b hb => by have := hsm.out b hb; omega)
      have HCC := Lib.hid (show D.cache.length ≤ 800000000 by rw [hlvv.out.st.calm.cache]; decide)
      obtain ⟨T, hop, -⟩ := open_st hlvv.out.st
      have HOP := Lib.hid hop
      have hlf9 : lf ≤ 4096 := by have := hla.out.disk.wf.most; unfold halfOf at hlf; omega
      have HEQ := Lib.hid (show (rs == rs) = true by simp)
      clear hrl2 hsx hlf hop
      go_wp2_with fail
      refine (LogList_any w1.heap.size g kb l lvk D L _ hla.out (by rw [HLI.out]; exact HLL.out) (by rw [HLI.out]; exact HSM.out)).mono ?_
      unfold listPost
      rw [HLI.out]
      rintro e w4 ⟨v4, rfl, x4, r4⟩
      have R4 := Lib.hid r4
      have LA4 := Lib.hid (hla.out.ext x4)
      have BB4 := Lib.hid (Below.trans hbb.out (x4.mono hbb.out.size))
      obtain ⟨a4, c4, h4⟩ := r4.shape
      rw [← HRL.out] at h4
      subst h4
      clear r4 x4
      go_wp2_with fail
      refine (Steps_any w1.heap.size g kb D _ LA4.out.disk).mono ?_
      rw [← HSX.out]
      rintro e w4' ⟨rfl, rfl⟩
      have HB4 := Lib.hid (show w1.heap.size ≤ w4.heap.size from Nat.le_trans LA4.out.hl (Nat.le_of_lt (Array.getElem?_eq_some_iff.1 LA4.out.blk).1))
      go_wp2_with fail
      refine (Open_any w1.heap.size g kb D _ LA4.out.disk (by rw [← HSX.out]; omega) HCC.out HB4.out).mono ?_
      intro e w5 hp
      obtain ⟨o5, l2, lv2, rfl, hl2, a5, hlv2⟩ := open_some HOP.out hp
      have BB5 := Lib.hid (Below.trans BB4.out ((o5.below HG.out HK.out HB4.out).mono X1.out.size))
      have LA5 := Lib.hid (LA4.out.only o5 a5.disk rfl)
      have LM5 := Lib.hid a5
      have R5 := Lib.hid (R4.out.same2 (w' := w5) fun k cs t hbk ht hh => o5.block k (Array.getElem?_eq_some_iff.1 hh).1 (by have := hla.out.disk.lt; omega) (by have := hla.out.disk.lt; omega) (.inr fun cs' fz' e => by
        rw [hh] at e
        simp only [Option.some.injEq, Obj.cells.injEq] at e
        obtain ⟨-, e, -⟩ := e
        subst e
        rcases ht with ht | ht <;> exact absurd ht (by decide)))
      clear hp o5 a5 hl2 hlv2 R4 LA4 BB4
      go_wp2_with fail
      refine (Steps_any w1.heap.size g kb D _ LA5.out.disk).mono ?_
      rw [← HSX.out]
      rintro e w5' ⟨rfl, rfl⟩
      go_wp2_with fail
      refine (LogList_any w1.heap.size g kb l2 lv2 D _ _ LM5.out HLL.out HSM.out).mono ?_
      unfold listPost
      rintro e w6 ⟨v6, rfl, x6, r6⟩
      have R6 := Lib.hid (show RecRow w5.heap.size w6 v6 rs from r6)
      have R56 := Lib.hid (R5.out.ext x6)
      have LA6 := Lib.hid (LA5.out.ext x6)
      have LM6 := Lib.hid (LM5.out.ext x6)
      have BB6 := Lib.hid (Below.trans BB5.out (x6.mono BB5.out.size))
      obtain ⟨a6, c6, h6⟩ := R6.out.shape
      rw [← HRL.out] at h6
      subst h6
      clear r6 x6 R5 LA5 LM5 BB5
      go_wp2_with fail
      refine (logSame_any _ _ rs rs _ (R6.out.rows (by have := HLL.out; omega)) (R56.out.rows (by have := HLL.out; omega))).mono ?_
      rw [HEQ.out]
      rintro e w7 ⟨rfl, x7⟩
      have R7 := Lib.hid (R56.out.ext x7)
      have LA7 := Lib.hid (LA6.out.ext x7)
      have LM7 := Lib.hid (LM6.out.ext x7)
      have BB7 := Lib.hid (Below.trans BB6.out (x7.mono BB6.out.size))
      clear x7 R56 LA6 LM6 BB6 R6
      go_wp2_with fail
      refine (Left_any w1.heap.size g kb l2 lv2 D _ _ LM7.out).mono ?_
      have e7 : (halfOf D - (⟨L.epoch, T, L.half, roomL rs, rs, false⟩ : Lg).at_) = lf := HLF.out.symm
      rw [e7]
      clear e7
      rintro e w8 ⟨rfl, x8⟩
      have R8 := Lib.hid (R7.out.ext x8)
      have LA8 := Lib.hid (LA7.out.ext x8)
      have LM8 := Lib.hid (LM7.out.ext x8)
      have BB8 := Lib.hid (Below.trans BB7.out (x8.mono BB7.out.size))
      clear x8 R7 LA7 LM7 BB7
      go_wp2_with fail
      refine (Left_any w1.heap.size g kb l lvk D L _ LA8.out).mono ?_
      rw [HAT.out, ← HLF.out]
      rintro e wA ⟨rfl, x9⟩
      have R9 := Lib.hid (R8.out.ext x9)
      have LM9 := Lib.hid (LM8.out.ext x9)
      have BB9 := Lib.hid (Below.trans BB8.out (x9.mono BB8.out.size))
      clear x9 R8 LA8 LM8 BB8
      go_wp2_with fail
      refine (LogList_any w1.heap.size g kb l2 lv2 D _ _ LM9.out HLL.out HSM.out).mono ?_
      unfold listPost
      rintro e w10 ⟨v10, rfl, x10, r10⟩
      have r10 : RecRow wA.heap.size w10 v10 rs := r10
      obtain ⟨vs, rv10⟩ := RowV.of r10
      have RV10 := Lib.hid rv10
      have X10 := Lib.hid x10
      obtain ⟨a10, c10, h10⟩ := r10.shape
      rw [← HRL.out] at h10 RV10
      subst h10
      clear r10 x10 rv10
      go_wp2_with fail
      go_loopw [94] (fun i wr => R2 wA (.slice a10 rl c10) vs rl i wr) (fun i _ => rl - (intOf i).toNat)
      case atStart => exact ⟨0, rfl, Nat.zero_le _, X10, RV10⟩
      case round =>
        obtain ⟨k2, rfl, hk2, hx2, hrv⟩ := hrel
        by_cases hlt2 : k2 < rl
        · obtain ⟨q2, au, bl, cu, rfl, hv2, hc2, hbm⟩ := hrv.out.at k2 hlt2
          have HV2 := Lib.hid hv2
          clear hv2
          go_wp2_with fail
          go_loopw [100, 16] (fun j _ wr => R2 wA (.slice (some ⟨q2, 0, none⟩) rl c10) vs rl (.int .i64 k2) wr ∧ ∃ j' : Nat, j = .int .i64 j' ∧ j' ≤ bl) (fun j _ _ => bl - (intOf j).toNat)
          case atStart => exact ⟨⟨k2, rfl, hk2, hx2, hrv⟩, 0, rfl, Nat.zero_le _⟩
          case round =>
            obtain ⟨⟨k3, hk3, -, hx3, hrv3⟩, j, rfl, hj⟩ := hrel
            clear hk3
            by_cases hlt3 : j < bl
            · obtain ⟨gb, x, rfl, hcx, hfx, hgb, hset⟩ := hrv3.out.byte HV2.out hlt3
              obtain ⟨y, hy⟩ : ∃ y, y = x + 1 := ⟨_, rfl⟩
              have hadd : IntKind.u8.wrap ((x.toNat : Int) + 1) = (y.toNat : Int) := by rw [hy]; exact add_u8 x
              have RV4 := Lib.hid (hset y)
              have X4 := Lib.hid (hx3.out.setCell (p := ⟨gb, j, none⟩) hgb (.int .u8 y.toNat))
              clear hset hy
              go_wp2_with fail
              go_roundw
              case rel => exact ⟨⟨k2, rfl, hk2, X4, RV4⟩, j + 1, by go_num, by omega⟩
              case measure => simp [intOf]; omega
            · go_wp2_with fail
              go_roundw
              case rel => exact ⟨k2 + 1, by go_num, by omega, hx3, hrv3⟩
              case measure => simp [intOf]; omega
        · have LM11 := Lib.hid (LM9.out.ext hx2.out)
          have R11 := Lib.hid (R9.out.ext hx2.out)
          have BB11 := Lib.hid (Below.trans BB9.out (hx2.out.mono BB9.out.size))
          have HB11 := Lib.hid (show w1.heap.size ≤ wr.heap.size from Nat.le_trans LM11.out.hl (Nat.le_of_lt (Array.getElem?_eq_some_iff.1 LM11.out.blk).1))
          clear hrv hx2
          go_wp2_with fail
          refine (Open_any w1.heap.size g kb D _ LM11.out.disk (by rw [← HSX.out]; omega) HCC.out HB11.out).mono ?_
          intro e w12 hp
          obtain ⟨o12, l3, lv3, rfl, hl12, a12, hlv12⟩ := open_some HOP.out hp
          have BB12 := Lib.hid (Below.trans BB11.out ((o12.below HG.out HK.out HB11.out).mono X1.out.size))
          have LM12 := Lib.hid (LM11.out.only o12 a12.disk rfl)
          have LK12 := Lib.hid a12
          have R12 := Lib.hid (R11.out.same2 (w' := w12) fun k cs t hbk ht hh => o12.block k (Array.getElem?_eq_some_iff.1 hh).1 (by have := hla.out.disk.lt; omega) (by have := hla.out.disk.lt; omega) (.inr fun cs' fz' e => by
            rw [hh] at e
            simp only [Option.some.injEq, Obj.cells.injEq] at e
            obtain ⟨-, e, -⟩ := e
            subst e
            rcases ht with ht | ht <;> exact absurd ht (by decide)))
          clear hp o12 a12 hl12 hlv12 LM11 BB11 R11
          go_wp2_with fail
          refine (LogList_any w1.heap.size g kb l2 lv2 D _ _ LM12.out HLL.out HSM.out).mono ?_
          unfold listPost
          rintro e w13 ⟨v13, rfl, x13, r13⟩
          have R13a := Lib.hid (show RecRow w12.heap.size w13 v13 rs from r13)
          have R13 := Lib.hid (R12.out.ext x13)
          have LK13 := Lib.hid (LK12.out.ext x13)
          have BB13 := Lib.hid (Below.trans BB12.out (x13.mono BB12.out.size))
          obtain ⟨a13, c13, h13⟩ := R13a.out.shape
          rw [← HRL.out] at h13
          subst h13
          clear r13 x13 R12 LK12 LM12 BB12
          go_wp2_with fail
          refine (logSame_any _ _ rs rs _ (R13a.out.rows (by have := HLL.out; omega)) (R13.out.rows (by have := HLL.out; omega))).mono ?_
          rw [HEQ.out]
          rintro e w14 ⟨rfl, x14⟩
          have R14 := Lib.hid (R13.out.ext x14)
          have LK14 := Lib.hid (LK13.out.ext x14)
          have BB14 := Lib.hid (Below.trans BB13.out (x14.mono BB13.out.size))
          clear x14 R13 LK13 BB13 R13a
          go_wp2_with fail
          refine (LogList_any w1.heap.size g kb l3 lv3 D _ _ LK14.out HLL.out HSM.out).mono ?_
          unfold listPost
          rintro e w15 ⟨v15, rfl, x15, r15⟩
          have R15a := Lib.hid (show RecRow w14.heap.size w15 v15 rs from r15)
          have R15 := Lib.hid (R14.out.ext x15)
          have BB15 := Lib.hid (Below.trans BB14.out (x15.mono BB14.out.size))
          obtain ⟨a15, c15, h15⟩ := R15a.out.shape
          rw [← HRL.out] at h15
          subst h15
          clear r15 x15 R14 LK14 BB14
          go_wp2_with fail
          refine (logSame_any _ _ rs rs _ (R15a.out.rows (by have := HLL.out; omega)) (R15.out.rows (by have := HLL.out; omega))).mono ?_
          rw [HEQ.out]
          rintro e w16 ⟨rfl, x16⟩
          have BB16 := Lib.hid (Below.trans BB15.out (x16.mono BB15.out.size))
          clear x16
          go_wp2_with fail
          go_ret
          exact ⟨rfl, BB16.out⟩
end Go.Proofs.Ytgkoblgpadpcjaa.logAgain
