/- LogAnews: the walk. -/
import Derived.Test.YtgkoblgpadpcjaaLogBe
namespace Go.Proofs.Ytgkoblgpadpcjaa.logAnews
open Go.RowKit

section
variable {base g kb l b0 : Nat} {a b : World} {lv v : Value} {D : Dk} {L : Lg} {ls : List (List UInt8)}
/-- A row of records that is none of the log's own stands. -/
theorem RecRow.lonly3 {lb : Option Nat} (h : RecRow b0 a v ls) (la : LogAt base a g kb l lv D L) (o : LOnly base g kb l lb a b) (hb : lb = none ∨ lb = lv.ownBlock) (hn : v.ownBlock = none ∨ v.ownBlock ≠ lv.ownBlock) : RecRow b0 b v ls := by
  have key : ∀ (k : Nat) (cs : Array Value) (t : TypeId), (t = 22 ∨ t = 5) → a.heap[k]? = some (.cells cs t (0, 0)) → (t = 22 → lv.ownBlock ≠ some k) → b.heap[k]? = a.heap[k]? := by
    intro k cs t ht hc hne
    obtain ⟨cv, d⟩ := la.disk
    refine o.block k (Array.getElem?_eq_some_iff.1 hc).1 ?_ ?_ ?_ ?_ (.inr fun cs' fz' e => by rw [hc] at e; rcases ht with rfl | rfl <;> simp at e)
    · rintro rfl; have := hc.symm.trans d.blk; rcases ht with rfl | rfl <;> simp at this
    · rintro rfl; have := hc.symm.trans d.row; rcases ht with rfl | rfl <;> simp at this
    · rintro rfl; have := hc.symm.trans la.blk; rcases ht with rfl | rfl <;> simp at this
    · intro e
      rcases hb with hb | hb
      · rw [hb] at e; cases e
      · rw [hb] at e
        rcases ht with rfl | rfl
        · exact hne rfl e.symm
        · obtain ⟨vs, h1, -⟩ := la.rows
          rcases h1.2 with ⟨e2, _⟩ | ⟨q, cap, cur, e2, -, hh, -⟩
          · rw [e2] at e; cases e
          · rw [e2] at e
            simp only [Value.ownBlock, Option.some.injEq] at e
            subst e
            rw [hc] at hh
            simp at hh
  obtain ⟨vs, h1, h2⟩ := h
  refine ⟨vs, row_same h1 fun k hk => ?_, fun i hi => ?_⟩
  · rcases h1.2 with ⟨rfl, _⟩ | ⟨q, cap, cur, rfl, -, hh, -⟩
    · cases hk
    · simp only [Value.ownBlock, Option.some.injEq] at hk
      subst hk
      refine key _ _ _ (.inl rfl) hh fun _ e => ?_
      rcases hn with hn | hn
      · cases hn
      · exact hn e.symm
  · obtain ⟨u, hu, ho⟩ := h2 i hi
    refine ⟨u, hu, row_same ho fun k hk => ?_⟩
    rcases ho.2 with ⟨rfl, _⟩ | ⟨q, cap, cur, rfl, -, hh, -⟩
    · cases hk
    · simp only [Value.ownBlock, Option.some.injEq] at hk
      subst hk
      exact key _ _ _ (.inr rfl) hh (fun e => absurd e (by decide))
theorem RecRow.donly (h : RecRow b0 a v ls) (d : Disk base a g kb D) (o : DOnly base g kb a b) : RecRow b0 b v ls := by
  obtain ⟨cv, d⟩ := d
  refine h.same fun k cs t ht hc => o.block k (Array.getElem?_eq_some_iff.1 hc).1 ?_ ?_ (.inr fun cs' fz' e => by rw [hc] at e; rcases ht with rfl | rfl <;> simp at e)
  · rintro rfl; have := hc.symm.trans d.blk; rcases ht with rfl | rfl <;> simp at this
  · rintro rfl; have := hc.symm.trans d.row; rcases ht with rfl | rfl <;> simp at this
theorem RecRow.lt (h : RecRow b0 a v ls) : ∀ q, v.ownBlock = some q → q < a.heap.size := fun q hq => by
  obtain ⟨vs, h1, -⟩ := h
  exact (h1.lt q hq).2
end
/-- Rows that came in stand whatever a log does. -/
theorem stands_of {base g kb l : Nat} {w wX : World} {rv : Value} {ls : List (List UInt8)} (h : ListAt 1 (CellBytes w) rv ls) (x : ∀ W, LOnly base g kb l none wX W → Below w.heap.size w W) : Stands base g kb l wX rv ls := by
  obtain ⟨a, c, rfl, -, hc⟩ := h
  refine ⟨a, c, rfl, fun i hi => ?_⟩
  obtain ⟨bb, o, rfl, u, h1, h2, -⟩ := hc i hi
  rw [Nat.mul_one] at h1
  exact ⟨bb, o, u, rfl, fun W hW => ⟨((x W hW).cell (World.block_lt_of_cell? w _ h1)).trans h1, h2.below (x W hW) (Nat.le_refl _)⟩⟩
theorem rows_of {w wX : World} {rv : Value} {ls : List (List UInt8)} (h : ListAt 1 (CellBytes w) rv ls) (x : Below w.heap.size w wX) : Rows' wX rv ls := by
  obtain ⟨a, c, rfl, hl, hc⟩ := h
  refine ⟨a, c, rfl, by omega, fun i hi => ?_⟩
  obtain ⟨bb, o, rfl, u, h1, h2, -⟩ := hc i hi
  rw [Nat.mul_one] at h1
  exact ⟨bb, o, u, rfl, (x.cell (World.block_lt_of_cell? w _ h1)).trans h1, h2.below x (Nat.le_refl _)⟩
/-- What the disk holds between two times. -/
def Bt (D : Dk) (hs : List (List UInt8)) (k : Nat) : Prop := (D = Dk.new 80 ∧ hs = []) ∨ (Hs D hs (k + 1) ∧ D.kept.length = 80)
theorem Bt.open {D : Dk} {hs : List (List UInt8)} {k : Nat} (h : Bt D hs k) (hst : D.steps ≤ 100 * k) : ∃ D' L, openP D = (D', some L, 0) ∧ Nw D' L hs (k + 1) ∧ D'.kept.length = 80 ∧ D'.steps ≤ 100 * k + 10 := by
  rcases h with ⟨rfl, rfl⟩ | ⟨h, hl⟩
  · obtain ⟨D', L, h1, h2, h3, h4⟩ := open_new_nw 80 (by decide) (by decide)
    exact ⟨D', L, h1, ⟨h2.st, h2.stop, h2.list, h2.dead, h2.le, h2.most, by have := h2.top; omega⟩, h3, by omega⟩
  · obtain ⟨L, h1, h2⟩ := h.open
    exact ⟨D, L, h1, h2, hl, by omega⟩
theorem room100 (rows : List (List UInt8)) (hr : ∀ b ∈ rows, b.length ≤ 100) : roomL rows ≤ 2 * rows.length := by
  induction rows with
  | nil => simp [roomL]
  | cons b r ih =>
    have h1 := hr b (by simp)
    have h2 := ih fun c hc => hr c (by simp [hc])
    have h3 : sectorsOf b.length ≤ 2 := by unfold sectorsOf; omega
    simp only [roomL, List.length_cons]
    omega
theorem shr_cast (a b : Nat) : (a : Int) / 2 ^ b = ((a / 2 ^ b : Nat) : Int) := by simp
theorem shr_lt {a : Nat} (b : Nat) (h : a < 18446744073709551616) : a / 2 ^ b < 18446744073709551616 := Nat.lt_of_le_of_lt (Nat.div_le_self _ _) h
theorem rewrite_got {D : Dk} {L : Lg} {hs rows : List (List UInt8)} {k : Nat} (h : Nw D L hs (k + 1)) (hw : ∀ s ∈ D.kept, s.length = 64) (hk80 : D.kept.length = 80) (hb : ∀ b ∈ rows, b.length ≤ 100) (hr : rows.length ≤ 8) (hk : k ≤ 30) :
    ∃ got en, (rewriteP D L rows).2.2 = en ∧ Hs (rewriteP D L rows).1.lit got (k + 1 + 1) ∧ (rewriteP D L rows).1.cache = [] ∧ (got = rows ∧ (en = 0 ∨ en = 3) ∨ got = hs ∧ en = 3) ∧ (rewriteP D L rows).1.steps ≤ D.steps + 30 ∧ (rewriteP D L rows).1.kept.length = 80 := by
  have hrm := room100 rows hb
  have hh : halfOf D = 39 := by unfold halfOf; rw [hk80]
  obtain ⟨h1, h2, h3⟩ := rewrite_nw h hw (rows := rows) (fun b hb' => by have := hb b hb'; omega) (by omega) (by omega)
  rw [rputs_length] at h1
  rcases h3 with ⟨e, hs1, hc⟩ | ⟨e, ho, hs1 | hs1⟩
  · exact ⟨rows, 0, e, hs1, hc, .inl ⟨rfl, .inl rfl⟩, by omega, h2.trans hk80⟩
  · exact ⟨hs, 3, e, hs1, ho.cache, .inr ⟨rfl, rfl⟩, by omega, h2.trans hk80⟩
  · exact ⟨rows, 3, e, hs1, ho.cache, .inl ⟨rfl, .inr rfl⟩, by omega, h2.trans hk80⟩
def R1 (base g kb n : Nat) (w : World) (held i : Value) (wr : World) : Prop :=
  ∃ (k : Nat) (hs : List (List UInt8)) (D : Dk), i = .int .i64 k ∧ k ≤ n ∧ Hid (Below w.heap.size w wr) ∧ Hid (Disk base wr g kb D) ∧ Hid (Bt D hs k) ∧ Hid (D.steps ≤ 100 * k) ∧ hs.length ≤ 8 ∧ Hid (∀ b ∈ hs, b.length ≤ 100) ∧ Hid (RecRow base wr held hs) ∧ Hid (D.cache = []) ∧ Hid (base ≤ wr.heap.size)
def R2 (rows : List (List UInt8)) (j : Value) : Prop := ∃ m : Nat, j = .int .i64 m ∧ m ≤ rows.length ∧ Hid (∀ b ∈ rows.take m, b.length ≤ 100)
set_option maxRecDepth 100000 in
theorem walk_long (times : List (List (List UInt8))) (tv : Value) (steps : List Int) (sv : Value) (keeps : Nat) (w : World) (ht : ListAt 1 (CellRows w) tv times) (hs : ListAt 1 (CellInt w) sv steps) (hl : 30 < times.length) :
    Calls Try.prog 16 #[tv, sv, .int .u64 keeps] w fun e w' => e = .returned (.bool true) ∧ Below w.heap.size w w' := by
  obtain ⟨ra, rc, rfl, -, -⟩ := ht
  obtain ⟨sa, sc, rfl, -, -⟩ := hs
  have hq : ((30 : Int) < (times.length : Int)) := by omega
  go_enter Try.func16, Try.ntmps16
  go_wp2_with fail
  refine (logAlive_any _).mono ?_
  rintro e w1 ⟨rfl, x1⟩
  have X1 := Lib.hid x1
  clear x1
  go_wp2_with fail
  go_ret
  exact ⟨rfl, X1.out⟩
set_option maxRecDepth 100000 in
theorem walk_short (times : List (List (List UInt8))) (tv : Value) (steps : List Int) (sv : Value) (keeps : Nat) (w : World) (ht : ListAt 1 (CellRows w) tv times) (hs : ListAt 1 (CellInt w) sv steps) (hl : times.length ≤ 30) (hl2 : steps.length < times.length) :
    Calls Try.prog 16 #[tv, sv, .int .u64 keeps] w fun e w' => e = .returned (.bool true) ∧ Below w.heap.size w w' := by
  obtain ⟨ra, rc, rfl, -, -⟩ := ht
  obtain ⟨sa, sc, rfl, -, -⟩ := hs
  have hq : ¬ ((30 : Int) < (times.length : Int)) := by omega
  have hq2 : decide (steps.length < times.length) = true := by rw [decide_eq_true_iff]; exact hl2
  go_enter Try.func16, Try.ntmps16
  go_wp2_with fail
  refine (logAlive_any _).mono ?_
  rintro e w1 ⟨rfl, x1⟩
  have X1 := Lib.hid x1
  clear x1
  go_wp2_with fail
  go_ret
  exact ⟨rfl, X1.out⟩
set_option maxRecDepth 100000 in
set_option maxHeartbeats 4000000 in
theorem walk_main (times : List (List (List UInt8))) (tv : Value) (steps : List Int) (sv : Value) (keeps : Nat) (w : World) (ht : ListAt 1 (CellRows w) tv times) (hs : ListAt 1 (CellInt w) sv steps) (hl : times.length ≤ 30) (hl2 : times.length ≤ steps.length) (hk : keeps < 18446744073709551616) :
    Calls Try.prog 16 #[tv, sv, .int .u64 keeps] w fun e w' => e = .returned (.bool true) ∧ Below w.heap.size w w' := by
  have HT := Lib.hid ht
  have HS := Lib.hid hs
  have HKP := Lib.hid hk
  obtain ⟨ra, rc, rfl, -, -⟩ := ht
  obtain ⟨sa, sc, rfl, hsl, -⟩ := hs
  have hq : ¬ ((30 : Int) < (times.length : Int)) := by omega
  have hq2 : decide (steps.length < times.length) = false := by rw [decide_eq_false_iff_not]; omega
  obtain ⟨n, hn⟩ : ∃ n, n = times.length := ⟨_, rfl⟩
  have HN := Lib.hid hn
  rw [← hn] at hl hl2 hq hq2 ⊢
  clear hk hn
  go_enter Try.func16, Try.ntmps16
  go_wp2_with fail
  refine (logAlive_any _).mono ?_
  rintro e w1 ⟨rfl, x1⟩
  have X1 := Lib.hid x1
  clear x1
  go_wp2_with fail
  refine (New_any 80 _).mono ?_
  rintro e w2 ⟨g, kb, rfl, hg, hkb, x2, d2⟩
  have X2 := Lib.hid (X1.out.trans x2)
  have D2 := Lib.hid (d2.ext ((Ext.refl w2).alloc (.cells #[] 22)))
  have HG := Lib.hid hg
  have HK := Lib.hid hkb
  have HBS := Lib.hid x2.size
  have BB2 := Lib.hid (Below.alloc (show Below w.heap.size w w2 from X2.out) (show Below w.heap.size w w2 from X2.out).size (.cells #[] 22))
  have RR2 := Lib.hid (show RecRow w1.heap.size (w2.alloc (.cells #[] 22)) (.slice (some ⟨w2.heap.size, 0, none⟩) 0 0) [] from ⟨[], World.ownsRow_made w2 #[] 0 x2.size (by decide) rfl, fun i hi => absurd hi (by simp)⟩)
  have HB2 := Lib.hid (Nat.le_trans x2.size ((Ext.refl w2).alloc (.cells #[] 22)).size)
  clear x2 d2 hg hkb
  go_wp2_with fail
  go_loopw [8, 35] (fun held i wr => R1 w1.heap.size g kb n w held i wr) (fun _ i _ => n - (intOf i).toNat)
  case atStart => exact ⟨0, [], Dk.new 80, rfl, Nat.zero_le _, BB2, D2, Lib.hid (.inl ⟨rfl, rfl⟩), Lib.hid (Nat.le_refl _), Nat.zero_le _, Lib.hid (fun b hb => by cases hb), RR2, rfl, HB2⟩
  case round =>
    obtain ⟨k, hs, D, rfl, hk, hbb, hd, hbt, hst, hhl, hh1, hrr, hcc, hbx⟩ := hrel
    obtain ⟨ah, ch, hh9⟩ := hrr.out.shape
    obtain ⟨hl9, hh8⟩ : ∃ hl9, hl9 = hs.length := ⟨_, rfl⟩
    have HH8 := Lib.hid hh8
    rw [← hh8] at hh9
    subst hh9
    clear hh8
    by_cases hlt : k < n
    · obtain ⟨bb, o, rfl, u, e0, hrw⟩ := HT.out.at k (by rw [← HN.out]; exact hlt)
      generalize times[k]'(by rw [← HN.out]; exact hlt) = rows at *
      have HRW := Lib.hid hrw
      obtain ⟨rwa, rwc, rfl, hrl, -⟩ := hrw
      have e1 := (hbb.out.cell (World.block_lt_of_cell? w _ e0)).trans e0
      rw [Nat.mul_one] at e1
      clear e0
      by_cases hr8 : rows.length ≤ 8
      · have hr8' : ¬ ((8 : Int) < (rows.length : Int)) := by omega
        go_wp2_with fail
        go_loopw [45] (fun j wr' => R2 rows j ∧ wr' = wr) (fun j _ => rows.length - (intOf j).toNat)
        case atStart => exact ⟨⟨0, rfl, Nat.zero_le _, Lib.hid (by intro b hb; simp at hb)⟩, rfl⟩
        case round =>
          obtain ⟨⟨m, rfl, hm, hall⟩, rfl⟩ := hrel
          by_cases hmlt : m < rows.length
          · obtain ⟨rb, ro, rfl, ru, f0, fb, fl⟩ := HRW.out.at m hmlt
            have f1 := (hbb.out.cell (World.block_lt_of_cell? w _ f0)).trans f0
            rw [Nat.mul_one] at f1
            obtain ⟨rau, rcu, rfl, -⟩ := fb
            have HTK := Lib.hid (show rows.take (m + 1) = rows.take m ++ [rows[m]] by rw [List.take_succ_eq_append_getElem hmlt])
            generalize rows[m] = b at *
            clear f0
            by_cases hb1 : b.length ≤ 100
            · have hb1' : ¬ ((100 : Int) < (b.length : Int)) := by omega
              go_wp2_with fail
              go_roundw
              case rel => exact ⟨⟨m + 1, by go_num, by omega, Lib.hid (by
                intro c hc
                rw [HTK.out] at hc
                rcases List.mem_append.1 hc with h9 | h9
                · exact hall.out c h9
                · rw [List.mem_singleton.1 h9]; exact hb1)⟩, trivial⟩
              case measure => simp [intOf]; omega
            · have hb1' : ((100 : Int) < (b.length : Int)) := by omega
              go_wp2_with fail
              go_ret
              exact ⟨rfl, hbb.out⟩
          · have HALL := Lib.hid (show ∀ b ∈ rows, b.length ≤ 100 by
              have := hall.out
              rwa [List.take_of_length_le (by omega)] at this)
            obtain ⟨D', L, hop, nw, hkl, hst'⟩ := hbt.out.open hst.out
            have HOP := Lib.hid hop
            have NW := Lib.hid nw
            have HKL := Lib.hid hkl
            clear hall hop nw hkl
            go_wp2_with fail
            refine (Open_any w1.heap.size g kb D _ hd.out (by have := hst.out; omega) (by rw [hcc.out]; exact Nat.zero_le _) hbx.out).mono ?_
            intro e w3 hp
            obtain ⟨o3, l, lv, rfl, hl3, a3, hlv⟩ := open_some HOP.out hp
            have BB3 := Lib.hid (Below.trans hbb.out ((o3.below HG.out HK.out hbx.out).mono X1.out.size))
            have HLB := Lib.hid a3.hl
            have LV3 := Lib.hid (show base_lt w1.heap.size lv from fun q hq => Nat.le_trans hbx.out (hlv q hq))
            have LA3 := Lib.hid a3
            have RR3 := Lib.hid (RecRow.donly hrr.out hd.out o3)
            have AP3 := Lib.hid (show (Value.slice ah hl9 ch).ownBlock = none ∨ (Value.slice ah hl9 ch).ownBlock ≠ lv.ownBlock from by
              cases hq : (Value.slice ah hl9 ch).ownBlock with
              | none => exact .inl rfl
              | some q8 =>
                refine .inr fun e => ?_
                have h1 := hlv q8 e.symm
                have h2 := RecRow.lt hrr.out q8 hq
                omega)
            have HB3 := Lib.hid (Nat.le_trans hbx.out o3.size)
            have HLI := Lib.hid NW.out.list
            have HHS := Lib.hid (show ∀ b ∈ hs, b.length ≤ 16777216 from fun b hb => by have := hh1.out b hb; omega)
            have HEQ := Lib.hid (show (hs == hs) = true by simp)
            clear hp o3 a3 hl3 hlv
            go_wp2_with fail
            refine (LogList_any w1.heap.size g kb l lv D' L _ LA3.out (by rw [HLI.out]; omega) (by rw [HLI.out]; exact HHS.out)).mono ?_
            unfold listPost
            rw [HLI.out]
            rintro e w4 ⟨v4, rfl, x4, r4⟩
            have R4 := Lib.hid r4
            have RR4 := Lib.hid (RR3.out.ext x4)
            have LA4 := Lib.hid (LA3.out.ext x4)
            have BB4 := Lib.hid (Below.trans BB3.out (x4.mono BB3.out.size))
            have HB4 := Lib.hid (Nat.le_trans HB3.out x4.size)
            obtain ⟨a4, c4, h4⟩ := r4.shape
            rw [← HH8.out] at h4
            subst h4
            clear r4 x4 RR3 LA3 BB3 HB3
            go_wp2_with fail
            refine (logSame_any _ _ hs hs _ (R4.out.rows (by omega)) (RR4.out.rows (by omega))).mono ?_
            rw [HEQ.out]
            rintro e w5 ⟨rfl, x5⟩
            have RR5 := Lib.hid (RR4.out.ext x5)
            have LA5 := Lib.hid (LA4.out.ext x5)
            have BB5 := Lib.hid (Below.trans BB4.out (x5.mono BB4.out.size))
            have HB5 := Lib.hid (Nat.le_trans HB4.out x5.size)
            clear x5 RR4 LA4 BB4 HB4 R4
            obtain ⟨sb, so, rfl, g0, -, -⟩ := HS.out.at k (by omega)
            generalize steps[k]'(by omega) = sx at *
            have g1 := (BB5.out.cell (World.block_lt_of_cell? w _ g0)).trans g0
            rw [Nat.mul_one] at g1
            obtain ⟨q1, hq1, eq1⟩ := and_i64_mask sx 31 (by decide)
            have eq1' : bits BinOp.and IntKind.i64 sx 31 = (q1 : Int) := eq1
            obtain ⟨q2, hq2', eq2⟩ := and_i64_mask (k : Int) 31 (by decide)
            have eq2' : bits BinOp.and IntKind.i64 (k : Int) 31 = (q2 : Int) := eq2
            obtain ⟨p1, hp1⟩ : ∃ p1, p1 = 1 + q1 := ⟨_, rfl⟩
            have hp1b : p1 ≤ 32 := by omega
            have hwr : IntKind.i64.wrap (1 + (q1 : Int)) = (p1 : Int) := by rw [IntWalk.i64_in _ (by omega)]; omega
            have hks : k < steps.length := by omega
            obtain ⟨q3, hq3', eq3⟩ := and_i64_mask (k : Int) 15 (by decide)
            have EQ3 := Lib.hid (show bits BinOp.and IntKind.i64 (k : Int) 15 = (q3 : Int) from eq3)
            obtain ⟨k2, hk2⟩ : ∃ k2, k2 = keeps / 2 ^ q2 := ⟨_, rfl⟩
            obtain ⟨k3, hk3⟩ : ∃ k3, k3 = keeps / 2 ^ q3 := ⟨_, rfl⟩
            have hsh2 : (keeps : Int) / 2 ^ q2 = (k2 : Int) := by rw [hk2]; exact shr_cast _ _
            have HSH3 := Lib.hid (show (keeps : Int) / 2 ^ q3 = (k3 : Int) by rw [hk3]; exact shr_cast _ _)
            have HK2 := Lib.hid (show k2 < 18446744073709551616 by rw [hk2]; exact shr_lt _ HKP.out)
            have HK3 := Lib.hid (show k3 < 18446744073709551616 by rw [hk3]; exact shr_lt _ HKP.out)
            clear eq3 hk2 hk3
            clear g0 eq1 eq2 hp1
            go_upto_region 20 with (fail)
            go_still_tail 11, (by kernel_rfl)
            change wpList _ _ _ _ _ w5.drew
            have RR6 := Lib.hid (RR5.out.ext ((Ext.refl w5).drew))
            have LA6 := Lib.hid (LA5.out.ext ((Ext.refl w5).drew))
            have BB6 := Lib.hid (Below.drew BB5.out)
            have HB6 := Lib.hid (show w1.heap.size ≤ w5.drew.heap.size from HB5.out)
            generalize hw6 : w5.drew = w6 at *
            clear hw6
            clear RR5 LA5 BB5 HB5
            go_wp2_with fail
            refine (Plan_any w1.heap.size g kb D' (p1 : Int) k2 _ LA6.out.disk HK2.out (by omega)).mono ?_
            rintro e w7 ⟨⟨v7, rfl⟩, o7, d7⟩
            have LA7 := Lib.hid (LA6.out.only o7 d7 rfl)
            have RR7 := Lib.hid (RecRow.donly RR6.out LA6.out.disk o7)
            have BB7 := Lib.hid (Below.trans BB6.out ((o7.below HG.out HK.out HB6.out).mono X1.out.size))
            have HB7 := Lib.hid (Nat.le_trans HB6.out o7.size)
            have NW7 := Lib.hid (NW.out.planned (p1 : Int) k2)
            have HST := Lib.hid (stands_of (base := w1.heap.size) (g := g) (kb := kb) (l := l) (wX := w7) HRW.out (fun W hW => Below.trans BB7.out ((hW.below HG.out HK.out HLB.out (by simp) HB7.out).mono X1.out.size)))
            have hnw := NW7.out
            obtain ⟨got, en, hgen, hghs, hgc, hgor, hgst, hgk⟩ := rewrite_got hnw (fun s hs => d7.wf.kept s hs) HKL.out HALL.out hr8 (by omega)
            clear hnw
            have HGEN := Lib.hid hgen
            have HGHS := Lib.hid hghs
            have HGC := Lib.hid hgc
            have HGOR := Lib.hid hgor
            have HGST := Lib.hid hgst
            have HGK := Lib.hid hgk
            have HTOP := Lib.hid (show L.top < 4294967290 by have := NW.out.top; omega)
            have HCC7 := Lib.hid (show ({ D' with fate := (p1 : Int), keeps := k2 } : Dk).cache.length ≤ 800000000 by rw [NW7.out.st.calm.cache]; exact Nat.zero_le _)
            clear o7 d7 hgen hghs hgc hgor hgst hgk LA6 RR6 BB6 HB6 hwr hsh2 eq1' eq2'
            go_wp2_with fail
            refine (Rewrite_any w1.heap.size g kb l lv { D' with fate := (p1 : Int), keeps := k2 } L _ rows _ LA7.out HST.out (by omega) (fun b hb => by have := HALL.out b hb; omega) HTOP.out (by show D'.steps ≤ _; omega) HCC7.out HB7.out).mono ?_
            unfold rewPost
            rw [HGEN.out]
            rintro e w8 ⟨rfl, lv8, o8, a8, -⟩
            have RR8 := Lib.hid (RecRow.lonly3 RR7.out LA7.out o8 (.inl rfl) AP3.out)
            have BB8 := Lib.hid (Below.trans BB7.out ((o8.below HG.out HK.out HLB.out (by simp) HB7.out).mono X1.out.size))
            have HB8 := Lib.hid (Nat.le_trans HB7.out o8.size)
            obtain ⟨R, hR⟩ : ∃ R, R = (rewriteP { D' with fate := (p1 : Int), keeps := k2 } L rows).1 := ⟨_, rfl⟩
            have DA8 := Lib.hid a8.disk
            rw [← hR] at DA8 HGHS HGC HGST HGK
            have hRst : R.steps ≤ 100 * k + 40 := by have := HGST.out; have h9 : ({ D' with fate := (p1 : Int), keeps := k2 } : Dk).steps = D'.steps := rfl; omega
            have eq3' := EQ3.out
            have hsh3 := HSH3.out
            clear o8 a8 hR LA7 RR7 BB7 HB7
            go_wp2_with fail
            refine (Crash_any w1.heap.size g kb R k3 _ DA8.out HK3.out HB8.out).mono ?_
            rintro e w9 ⟨⟨v9, rfl⟩, o9, d9⟩
            have RR9 := Lib.hid (RecRow.donly RR8.out DA8.out o9)
            have BB9 := Lib.hid (Below.trans BB8.out ((o9.below HG.out HK.out HB8.out).mono X1.out.size))
            have HB9 := Lib.hid (Nat.le_trans HB8.out o9.size)
            have DA9 := Lib.hid d9
            clear o9 d9 RR8 BB8 HB8 DA8 eq3' hsh3
            go_wp2_with fail
            refine (On_any w1.heap.size g kb (R.crash k3) _ DA9.out).mono ?_
            rintro e w10 ⟨⟨v10, rfl⟩, o10, d10⟩
            have RR10 := Lib.hid (RecRow.donly RR9.out DA9.out o10)
            have BB10 := Lib.hid (Below.trans BB9.out ((o10.below HG.out HK.out HB9.out).mono X1.out.size))
            have HB10 := Lib.hid (Nat.le_trans HB9.out o10.size)
            obtain ⟨D10, hD10⟩ : ∃ D10 : Dk, D10 = { R.crash k3 with down := false } := ⟨_, rfl⟩
            have HS10 := Lib.hid (show Hs D10 got (k + 1 + 1) from HGHS.out.same (D' := D10) (by rw [hD10]; exact ⟨rfl, rfl⟩) (by rw [hD10]; exact crash_same HGC.out k3))
            have HK10 := Lib.hid (show D10.kept.length = 80 by rw [hD10]; show (R.crash k3).kept.length = 80; rw [crash_same HGC.out]; exact HGK.out)
            have hst10 : D10.steps ≤ 100 * k + 40 := by rw [hD10]; exact hRst
            have HC10 := Lib.hid (show D10.cache = [] by rw [hD10]; rfl)
            rw [← hD10] at d10
            have DA10 := Lib.hid d10
            obtain ⟨L10, hop10, nw10⟩ := HS10.out.open
            have HOP10 := Lib.hid hop10
            have HLI10 := Lib.hid nw10.list
            clear o10 d10 hD10 hop10 nw10 RR9 BB9 HB9 DA9
            go_wp2_with fail
            refine (Open_any w1.heap.size g kb D10 _ DA10.out (by omega) (by rw [HC10.out]; exact Nat.zero_le _) HB10.out).mono ?_
            intro e w11 hp
            obtain ⟨o11, l11, lv11, rfl, hl11, a11, hlv11⟩ := open_some HOP10.out hp
            have BB11 := Lib.hid (Below.trans BB10.out ((o11.below HG.out HK.out HB10.out).mono X1.out.size))
            have RR11 := Lib.hid (RecRow.donly RR10.out DA10.out o11)
            have LA11 := Lib.hid a11
            have HB11 := Lib.hid (Nat.le_trans HB10.out o11.size)
            have hgl : got.length ≤ 8 := by
              rcases HGOR.out with ⟨h9, -⟩ | ⟨h9, -⟩
              · rw [h9]; exact hr8
              · rw [h9]; exact hhl
            have HG1 := Lib.hid (show ∀ b ∈ got, b.length ≤ 100 by
              rcases HGOR.out with ⟨h9, -⟩ | ⟨h9, -⟩
              · rw [h9]; exact HALL.out
              · rw [h9]; exact hh1.out)
            clear hp o11 a11 hl11 hlv11 RR10 BB10 HB10 DA10
            go_wp2_with fail
            refine (LogList_any w1.heap.size g kb l11 lv11 D10 L10 _ LA11.out (by rw [HLI10.out]; omega) (by rw [HLI10.out]; intro b hb; have := HG1.out b hb; omega)).mono ?_
            unfold listPost
            rw [HLI10.out]
            rintro e w12 ⟨v12, rfl, x12, r12⟩
            have R12 := Lib.hid (r12.le HB11.out)
            have RR12 := Lib.hid (RR11.out.ext x12)
            have DA12 := Lib.hid (LA11.out.disk.ext x12)
            have BB12 := Lib.hid (Below.trans BB11.out (x12.mono BB11.out.size))
            have HB12 := Lib.hid (Nat.le_trans HB11.out x12.size)
            obtain ⟨a12, c12, h12⟩ := r12.shape
            obtain ⟨gl, hgl9⟩ : ∃ gl, gl = got.length := ⟨_, rfl⟩
            have HGL9 := Lib.hid hgl9
            rw [← hgl9] at h12
            subst h12
            clear r12 x12 hgl9 RR11 LA11 BB11 HB11
            have fin : ∀ (wZ : World), Ext w12 wZ → R1 w1.heap.size g kb n w (.slice a12 gl c12) (.int .i64 ((k + 1 : Nat) : Int)) wZ := fun wZ xz =>
              ⟨k + 1, got, D10, rfl, by omega, Lib.hid (Below.trans BB12.out (xz.mono BB12.out.size)), Lib.hid (DA12.out.ext xz), Lib.hid (.inr ⟨HS10.out, HK10.out⟩), Lib.hid (by omega), hgl, HG1, Lib.hid (R12.out.ext xz), HC10, Lib.hid (Nat.le_trans HB12.out xz.size)⟩
            have FIN := Lib.hid fin
            have RW12 := Lib.hid (rows_of HRW.out BB12.out)
            have RG12 := Lib.hid (R12.out.rows (by omega))
            have RH12 := Lib.hid (RR12.out.rows (by omega))
            clear fin
            have done : True := trivial
            clear done
            rcases HGOR.out with ⟨h9, h10⟩ | ⟨h9, h10⟩
            · have HTR := Lib.hid (show (got == rows) = true by rw [h9]; simp)
              clear h9
              rcases h10 with h10 | h10
              · subst h10
                go_wp2_with fail
                refine (logSame_any _ _ got rows _ RG12.out RW12.out).mono ?_
                rw [HTR.out]
                rintro e w13 ⟨rfl, x13⟩
                have X13 := Lib.hid x13
                clear x13
                go_wp2_with fail
                refine (logSame_any _ _ got rows _ (RG12.out.ext X13.out) (RW12.out.ext X13.out)).mono ?_
                rw [HTR.out]
                rintro e w14 ⟨rfl, x14⟩
                have X14 := Lib.hid (X13.out.trans x14)
                clear x14
                go_wp2_with fail
                go_roundw
                case rel => exact FIN.out _ X14.out
                case measure => simp [intOf]; omega
              · subst h10
                go_wp2_with fail
                refine (logSame_any _ _ got rows _ RG12.out RW12.out).mono ?_
                rw [HTR.out]
                rintro e w13 ⟨rfl, x13⟩
                have X13 := Lib.hid x13
                clear x13
                go_wp2_with fail
                go_roundw
                case rel => exact FIN.out _ X13.out
                case measure => simp [intOf]; omega
            · subst h10
              have HTR2 := Lib.hid (show (got == hs) = true by rw [h9]; simp)
              clear h9
              obtain ⟨q, hq9⟩ : ∃ q, q = (got == rows) := ⟨_, rfl⟩
              have HQ9 := Lib.hid hq9
              clear hq9
              go_wp2_with fail
              refine (logSame_any _ _ got rows _ RG12.out RW12.out).mono ?_
              rw [← HQ9.out]
              rintro e w13 ⟨rfl, x13⟩
              have X13 := Lib.hid x13
              clear x13
              cases q
              · go_wp2_with fail
                refine (logSame_any _ _ got hs _ (RG12.out.ext X13.out) (RH12.out.ext X13.out)).mono ?_
                rw [HTR2.out]
                rintro e w14 ⟨rfl, x14⟩
                have X14 := Lib.hid (X13.out.trans x14)
                clear x14
                go_wp2_with fail
                go_roundw
                case rel => exact FIN.out _ X14.out
                case measure => simp [intOf]; omega
              · go_wp2_with fail
                go_roundw
                case rel => exact FIN.out _ X13.out
                case measure => simp [intOf]; omega
      · have hr8' : ((8 : Int) < (rows.length : Int)) := by omega
        go_wp2_with fail
        go_roundw
        case rel => exact ⟨k + 1, hs, D, by go_num, by omega, hbb, hd, Lib.hid (by
          rcases hbt.out with h | ⟨h, h'⟩
          · exact .inl h
          · exact .inr ⟨⟨by obtain ⟨⟨h, E, k1, k2, k3⟩, k4⟩ := h; exact ⟨h, E, k1, k2, by omega⟩, fun i s hi hs hd => Nat.le_succ_of_le (h.most i s hi hs hd)⟩, h'⟩), Lib.hid (Nat.le_trans hst.out (by omega)), hhl, hh1, hrr, hcc, hbx⟩
        case measure => simp [intOf]; omega
    · go_wp2_with fail
      go_ret
      exact ⟨rfl, hbb.out⟩
end Go.Proofs.Ytgkoblgpadpcjaa.logAnews
