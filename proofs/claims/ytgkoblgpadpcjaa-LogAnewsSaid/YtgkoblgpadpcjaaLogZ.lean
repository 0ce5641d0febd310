/- The document's example of package log. -/
import Derived.Test.YtgkoblgpadpcjaaLogY
import Derived.Lib.SmallJoins
namespace Go.Proofs.Ytgkoblgpadpcjaa
open Go.RowKit
namespace logAl
def D0 : Dk := Dk.new 20
def D1 : Dk := (openP D0).1
def L1 : Lg := (openP D0).2.1.getD Lg.zero
def one : List UInt8 := [111, 110, 101]
def two : List UInt8 := [116, 119, 111]
def D2 : Dk := (appendP D1 L1 one).1
def L2 : Lg := (appendP D1 L1 one).2.1
def D3 : Dk := D2.crash 0
def D4 : Dk := (appendP D3 L2 two).1
def L4 : Lg := (appendP D3 L2 two).2.1
def D5 : Dk := { D4 with down := false }
def D6 : Dk := (openP D5).1
def L6 : Lg := (openP D5).2.1.getD Lg.zero
theorem o0 : openP D0 = (D1, some L1, 0) := by kernel_rfl
theorem p1 : (appendP D1 L1 one).2.2 = 0 := by kernel_rfl
theorem p2 : (appendP D3 L2 two).2.2 = 3 := by kernel_rfl
theorem o5 : openP D5 = (D6, some L6, 0) := by kernel_rfl
theorem l6 : L6.list = [one] := by kernel_rfl
theorem n1 : L1.list.length ≤ 1000 ∧ L1.epoch < 4294967296 ∧ D1.steps ≤ 1000 ∧ D1.cache.length ≤ 1000 := of_decide_eq_true (by kernel_rfl)
theorem n2 : L2.list.length ≤ 1000 ∧ L2.epoch < 4294967296 ∧ D3.steps ≤ 1000 ∧ D3.cache.length ≤ 1000 := of_decide_eq_true (by kernel_rfl)
theorem n5 : D5.steps ≤ 1000 ∧ D5.cache.length ≤ 1000 := of_decide_eq_true (by kernel_rfl)
theorem n6 : halfOf D6 - L6.at_ = 8 := by kernel_rfl
theorem k2 : D3.kept.length = D2.kept.length := by kernel_rfl
theorem n0 : D0.steps ≤ 1000 ∧ D0.cache.length ≤ 1000 := of_decide_eq_true (by kernel_rfl)
end logAl
/-- A row's block lies from a place on. -/
def base_lt (b : Nat) (v : Value) : Prop := ∀ q, v.ownBlock = some q → b ≤ q
theorem open_some {base g kb : Nat} {w w' : World} {D D' : Dk} {L : Lg} {n : Nat} {e : Ending} (h : openP D = (D', some L, n)) (p : openPost base g kb w (openP D) e w') :
    DOnly base g kb w w' ∧ ∃ l lv, e = .returned (.tuple #[.pointer (some ⟨l, 0, none⟩), .int .i64 (n : Nat)]) ∧ w.heap.size ≤ l ∧ LogAt base w' g kb l lv D' L ∧ ∀ q, lv.ownBlock = some q → w.heap.size ≤ q := by
  rw [h] at p; exact p
theorem open_none {base g kb : Nat} {w w' : World} {D D' : Dk} {n : Nat} {e : Ending} (h : openP D = (D', Option.none, n)) (p : openPost base g kb w (openP D) e w') :
    DOnly base g kb w w' ∧ e = .returned (.tuple #[.pointer Option.none, .int .i64 (n : Nat)]) ∧ Disk base w' g kb D' := by
  rw [h] at p; exact p
/-- A block of bytes of the statement's own stands whatever a log does. -/
theorem lit_stands {base g kb l : Nat} {w : World} {B : Nat} {X : List UInt8} {n c : Nat} {fz : Nat × Nat} (h : w.heap[B]? = some (.cells (byteVals X).toArray 5 fz)) (hn : n = X.length) (hc : n ≤ c) (hc2 : c ≤ 9223372036854775807) (hg : B ≠ g) (hk : B ≠ kb) (hl : B ≠ l) :
    ∀ W, LOnly base g kb l none w W → Bytes W (.slice (some ⟨B, 0, none⟩) n c) X := by
  subst hn
  intro W o
  have e := (o.block B (Array.getElem?_eq_some_iff.1 h).1 hg hk hl (by simp) (.inr fun cs fz e => by rw [h] at e; simp at e)).trans h
  refine ⟨some ⟨B, 0, none⟩, c, rfl, hc, hc2, (fun h => by cases h), fun i hi => ⟨B, 0, rfl, ?_⟩⟩
  rw [Nat.zero_add, cell_of_row W B i _ 5 fz e, List.getElem?_toArray, byteVals_get X i (by omega)]

open logAl in
set_option maxRecDepth 100000 in
set_option maxHeartbeats 4000000 in
theorem logAlive_any (w : World) : Calls Try.prog 54 #[] w fun e w' => e = .returned (.bool true) ∧ Ext w w' := by
  have kc := fun (w : World) (C : Array Value) (n c g : Nat) (hg : g = w.heap.size) => Joins.run_convert_bytes_const_at (P := Try.prog) w 22 5 C n c g hg Try.underlying22 Try.underlying5
  go_enter Try.func54, Try.ntmps54
  go_wp2_with fail
  refine (New_any 20 _).mono ?_
  rintro e w1 ⟨g, kb, rfl, hg, hk, x1, d1⟩
  have X1 := Lib.hid x1
  have DA0 : Hid (Disk w.heap.size w1 g kb D0) := d1
  have HG := Lib.hid hg
  have HK := Lib.hid hk
  clear x1 d1 hg hk
  go_wp2_with fail
  refine (Open_any w.heap.size g kb D0 _ DA0.out (by have := n0; omega) (by have := n0; omega) X1.out.size).mono ?_
  intro e w2 hp
  obtain ⟨o2, l, lv, rfl, hl, a2, hlv⟩ := open_some o0 hp
  have BB2 := Lib.hid (Below.trans (show Below w.heap.size w w1 from X1.out) (o2.below HG.out HK.out X1.out.size))
  have HLB := Lib.hid (a2.hl)
  have L2a := Lib.hid (show base_lt w.heap.size lv from fun q hq => by have := hlv q hq; have := X1.out.size; omega)
  have LA2 := Lib.hid (a2.ext ((Ext.refl w2).alloc (.cells (byteVals one).toArray 5 (3, 4))))
  have ST := Lib.hid (lit_stands (base := w.heap.size) (g := g) (kb := kb) (l := l) (X := one) (n := 3) (c := 3) (heap_alloc_new w2 (.cells (byteVals one).toArray 5 (3, 4))) rfl (by decide) (by decide) (by have := a2.disk.lt; omega) (by have := a2.disk.lt; omega) (by have := (Array.getElem?_eq_some_iff.1 a2.blk).1; omega))
  have BB2a := Lib.hid (Below.alloc BB2.out BB2.out.size (.cells (byteVals one).toArray 5 (3, 4)))
  clear hp o2 a2 hl hlv BB2 X1
  go_wp2_with fail
  refine (Append_any w.heap.size g kb l lv D1 L1 _ one _ LA2.out ST.out (by decide) (by have := n1; omega) n1.2.1 (by have := n1; omega) (by have := n1; omega) BB2a.out.size).mono ?_
  unfold appPost
  rw [p1]
  rintro e w3 ⟨rfl, lv3, o3, a3, n3⟩
  have BB3 := Lib.hid (Below.trans BB2a.out (o3.below HG.out HK.out HLB.out L2a.out BB2a.out.size))
  have LA3 : Hid (LogAt w.heap.size w3 g kb l lv3 D2 L2) := a3
  have n3b := Lib.hid (show base_lt w.heap.size lv3 from fun q hq => (n3.elim (fun e => L2a.out q (e ▸ hq)) (fun h => Nat.le_trans BB2a.out.size (h q hq))))
  clear o3 a3 n3 LA2 ST BB2a
  go_wp2_with fail
  refine (Crash_any w.heap.size g kb D2 0 _ LA3.out.disk (by decide) BB3.out.size).mono ?_
  rintro e w4 ⟨⟨v4, rfl⟩, o4, d4⟩
  have LA4 := Lib.hid (LA3.out.only o4 d4 k2)
  have BB4 := Lib.hid (Below.trans BB3.out (o4.below HG.out HK.out BB3.out.size))
  clear o4 d4 LA3 BB3
  have LA4a := Lib.hid (LA4.out.ext ((Ext.refl w4).alloc (.cells (byteVals two).toArray 5 (3, 4))))
  have ST := Lib.hid (lit_stands (base := w.heap.size) (g := g) (kb := kb) (l := l) (X := two) (n := 3) (c := 3) (heap_alloc_new w4 (.cells (byteVals two).toArray 5 (3, 4))) rfl (by decide) (by decide) (by have := LA4.out.disk.lt; omega) (by have := LA4.out.disk.lt; omega) (by have := (Array.getElem?_eq_some_iff.1 LA4.out.blk).1; omega))
  have BB4a := Lib.hid (Below.alloc BB4.out BB4.out.size (.cells (byteVals two).toArray 5 (3, 4)))
  clear LA4 BB4
  go_wp2_with fail
  refine (Append_any w.heap.size g kb l lv3 D3 L2 _ two _ LA4a.out ST.out (by decide) (by have := n2; omega) n2.2.1 (by have := n2; omega) (by have := n2; omega) BB4a.out.size).mono ?_
  unfold appPost
  rw [p2]
  rintro e w5 ⟨rfl, lv5, o5, a5, n5⟩
  have BB5 := Lib.hid (Below.trans BB4a.out (o5.below HG.out HK.out HLB.out (fun q hq => n3b.out q hq) BB4a.out.size))
  have LA5 : Hid (LogAt w.heap.size w5 g kb l lv5 D4 L4) := a5
  clear o5 a5 n5 LA4a ST BB4a
  go_wp2_with fail
  refine (On_any w.heap.size g kb D4 _ LA5.out.disk).mono ?_
  rintro e w6 ⟨⟨v6, rfl⟩, o6, d6⟩
  have DA6 : Hid (Disk w.heap.size w6 g kb D5) := d6
  have BB6 := Lib.hid (Below.trans BB5.out (o6.below HG.out HK.out BB5.out.size))
  clear o6 d6 LA5 BB5
  go_wp2_with fail
  refine (Open_any w.heap.size g kb D5 _ DA6.out (by have := n5; omega) (by have := n5; omega) BB6.out.size).mono ?_
  intro e w7 hp
  obtain ⟨o7, l7, lv7, rfl, hl7, a7, hlv7⟩ := open_some o5 hp
  have BB7 := Lib.hid (Below.trans BB6.out (o7.below HG.out HK.out BB6.out.size))
  have LA7 := Lib.hid a7
  clear hp o7 a7 hl7 hlv7 DA6 BB6
  go_wp2_with fail
  refine (LogList_any w.heap.size g kb l7 lv7 D6 L6 _ LA7.out (by rw [l6]; decide) (by rw [l6]; decide)).mono ?_
  unfold listPost
  rw [l6]
  rintro e w8 ⟨v8, rfl, x8, r8⟩
  have R8 := Lib.hid r8
  have LA8 := Lib.hid (LA7.out.ext x8)
  have BB8 := Lib.hid (Below.trans BB7.out (x8.mono BB7.out.size))
  obtain ⟨a8, c8, rfl⟩ := r8.shape
  obtain ⟨q8, au8, cu8, rfl, e8, b8⟩ := r8.at 0 (by decide)
  clear r8 x8 LA7 BB7
  have hcv := run_bs w8 _ _ b8
  have e9 : w8.cell? ⟨q8, 0, none⟩ = some (.slice au8 3 cu8) := e8
  have hcw : (convert 22 9 (.slice au8 3 cu8)).run Try.prog w8 = .ok (.string ⟨#[111, 110, 101]⟩) w8 := hcv
  clear b8 hcv e8
  go_wp2_with fail
  refine (Left_any w.heap.size g kb l7 lv7 D6 L6 _ LA8.out).mono ?_
  rw [n6]
  rintro e w9 ⟨rfl, x9⟩
  have BB9 := Lib.hid (Below.trans BB8.out (x9.mono BB8.out.size))
  clear x9 LA8 BB8
  go_wp2_with fail
  refine (Room_any 47 (by decide) _).mono ?_
  rintro e w10 ⟨rfl, rfl⟩
  go_wp2_with fail
  refine (Room_any 48 (by decide) _).mono ?_
  rintro e w11 ⟨rfl, rfl⟩
  go_wp2_with fail
  go_ret
  exact ⟨rfl, BB9.out⟩
end Go.Proofs.Ytgkoblgpadpcjaa
