/- RecBack: a reader takes a list, and whatever piece. -/
import Derived.Test.YtgkoblgpadpcjaaRecBackT
namespace Go.Proofs.Ytgkoblgpadpcjaa.recBack
open Go.RowKit Go.Proofs.Ytgkoblgpadpcjaa.recApart

/-- What is left of a list's bytes when k pieces were taken. -/
def left (d : Nat) (l : List Pc) (k : Nat) : List UInt8 := ((l.drop k).map (pk d)).flatten
theorem left_cons (d : Nat) (l : List Pc) (k : Nat) (h : k < l.length) : left d l k = pk d l[k] ++ left d l (k + 1) := by
  unfold left; rw [List.drop_eq_getElem_cons h, List.map_cons, List.flatten_cons]
theorem left_end (d : Nat) (l : List Pc) : left d l l.length = [] := by simp [left]
theorem left_len (d : Nat) (l : List Pc) (k : Nat) : (left d l k).length ≤ 4 * (l.map (wt (d + 1))).sum := by
  have h1 := flat_len (pk d) (wt (d + 1)) (l.drop k) (fun p _ => pk_len d p)
  have h2 : ((l.drop k).map (wt (d + 1))).sum ≤ (l.map (wt (d + 1))).sum := by
    conv => rhs; rw [← List.take_append_drop k l, List.map_append, List.sum_append]
    omega
  unfold left
  omega
theorem isEmpty_pk (d : Nat) (p : Pc) (r : List UInt8) : (pk d p ++ r).isEmpty = false := by
  have := pk_pos d p
  cases h : pk d p with
  | nil => rw [h] at this; simp at this
  | cons a l => rfl

theorem Ext.trans' {w0 w wr : World} {g : Nat} (h : Ext w0 w) (k : OnlyAt g w wr) (hg : w0.heap.size ≤ g) : Ext w0 wr :=
  Below.trans h (k.below hg h.size)
theorem more_true (g : Nat) (l : List UInt8) (w : World) (h : ReaderAt w g l false) (hl : l.isEmpty = false) : Calls Try.prog 37 #[.pointer (some ⟨g, 0, none⟩)] w fun e w' => e = .returned (.bool true) ∧ w = w' :=
  (More_any g l false w h).mono fun e w' ⟨h1, h2⟩ => ⟨by rw [h1, hl]; rfl, h2⟩
theorem done_true (g : Nat) (w : World) (h : ReaderAt w g [] false) : Calls Try.prog 30 #[.pointer (some ⟨g, 0, none⟩)] w fun e w' => e = .returned (.bool true) ∧ w = w' :=
  (Done_any g [] false w h).mono fun e w' ⟨h1, h2⟩ => ⟨h1, h2⟩
theorem good_true (g : Nat) (l : List UInt8) (w : World) (h : ReaderAt w g l false) : Calls Try.prog 36 #[.pointer (some ⟨g, 0, none⟩)] w fun e w' => e = .returned (.bool true) ∧ w = w' :=
  (Good_any g l false w h).mono fun e w' ⟨h1, h2⟩ => ⟨h1, h2⟩
/-- What takes says of a piece, so many lists deep. -/
def TakeAt (w0 : World) (d : Nat) : Prop := ∀ (f : Nat) (p : Pc) (c0 c1 c2 c3 : Value) (deep : Int) (g : Nat) (rest : List UInt8) (w : World), PcAt w0 f c0 c1 c2 c3 p → deep = 4 - (d : Int) → Ext w0 w → wt (d + 1) p ≤ 1000 → w0.heap.size ≤ g → ReaderAt w g (pk d p ++ rest) false → rest.length ≤ 1000000 →
  Calls Try.prog 33 #[.pointer (some ⟨g, 0, none⟩), .agg #[c0, c1, c2, c3], .int .i64 deep] w (takesPost g rest w)

set_option maxRecDepth 100000 in
set_option maxHeartbeats 2000000 in
theorem takes_list (w0 : World) (d : Nat) (IH0 : TakeAt w0 d) (f n g : Nat) (ll : List Pc) (rest : List UInt8) (c2 c3 : Value) (deep : Int) (w : World) (hp : PcsAt w0 f c3 ll) (hd3 : d ≤ 3) (hd : deep = 3 - (d : Int)) (hx : Ext w0 w) (hg : w0.heap.size ≤ g) (hw : (ll.map (wt (d + 1))).sum ≤ 1000)
    (hr : ReaderAt w g (le4 (left d ll 0).length ++ left d ll 0 ++ rest) false) (hrl : rest.length ≤ 1000000) :
    Calls Try.prog 33 #[.pointer (some ⟨g, 0, none⟩), .agg #[.int .i64 2, .int .u32 n, c2, c3], .int .i64 deep] w (takesPost g rest w) := by
  have HX := Lib.hid hx
  have HP := Lib.hid hp
  have IH := Lib.hid IH0
  have HW := Lib.hid hw
  have HD := Lib.hid hd
  have R0 := Lib.hid hr
  have HG := Lib.hid hg
  have hll := left_len d ll 0
  have HE := Lib.hid (rawRes_le4 (left d ll 0) rest false 16777216 (by omega) (by omega))
  have HLen : Hid ((le4 (left d ll 0).length ++ left d ll 0 ++ rest).length ≤ 16777216) := by
    show _ ≤ _
    simp only [List.length_append, le4_len]; omega
  have hd4 : deep < 4 := by omega
  obtain ⟨a, cap, rfl, hl, -⟩ := hp
  have X0 := Lib.hid ((Ext.refl w).alloc (.cells #[.int .i64 2, .int .u32 n, c2, .slice a ll.length cap] 46))
  have HGL := Lib.hid hr.lt
  have C3 : Hid (∀ W, OnlyAt g (w.alloc (.cells #[.int .i64 2, .int .u32 n, c2, .slice a ll.length cap] 46)) W → W.cell? ⟨w.heap.size, 3, none⟩ = some (.slice a ll.length cap)) :=
    fun W h => h.cell (cell_new0 w _ 46 3) (by have := hr.lt; simp; omega)
  clear IH0 hx hw hd hr hll hrl hg
  go_enter Try.func33, Try.ntmps33
  go_wp2_with fail
  refine (ListR_any g (le4 (left d ll 0).length ++ left d ll 0 ++ rest) false _ (R0.out.ext X0.out) HLen.out).mono ?_
  rw [HE.out]
  rintro e w3 ⟨g', rfl, hgg, o3, r3, l3⟩
  have O3 := Lib.hid ((X0.out.only g).trans o3)
  have hc3 := C3.out _ o3
  have R3 := Lib.hid r3
  have L3 := Lib.hid l3
  have HGG : Hid (w.heap.size < g') := by show _ < _; simp at hgg; omega
  clear o3 r3 l3 hgg C3
  go_wp2_with fail
  go_loopw [38] (fun i wr => ∃ k : Nat, k ≤ ll.length ∧ i = .int .i64 k ∧ Hid (OnlyAt g w wr) ∧ Hid (ReaderAt wr g rest false) ∧ Hid (ReaderAt wr g' (left d ll k) false)) (fun i _ => ll.length - (intOf i).toNat)
  case atStart => exact ⟨0, Nat.zero_le _, rfl, O3, R3, L3⟩
  case round =>
    obtain ⟨k, hk, rfl, OR, RR, LR⟩ := hrel
    by_cases hlt : k < ll.length
    · have XR := Lib.hid (show Ext w0 wr from Ext.trans' HX.out OR.out HG.out)
      obtain ⟨bb, o, d0, d1, d2, d3, rfl, e0, e1, e2, e3, hp⟩ := HP.out.at XR.out k hlt
      have HPK := Lib.hid hp
      obtain ⟨kd, nn, b, l2, hpe⟩ : ∃ kd nn b l2, ll[k] = .mk kd nn b l2 := by cases hq : ll[k]; exact ⟨_, _, _, _, rfl⟩
      rw [hpe] at hp
      obtain ⟨f', hf, rfl, rfl, hnn, hb, hbl, hps⟩ := hp.open
      obtain ⟨ab, cb, rfl, -⟩ := hb
      obtain ⟨al, cl, rfl, -⟩ := hps
      have HWK := Lib.hid (Nat.le_trans (wt_at (d + 1) ll k hlt) HW.out)
      have hdw : IntKind.i64.wrap (deep + 1) = deep + 1 := IntWalk.i64_in _ (by have := HD.out; omega)
      have HLK := Lib.hid (Nat.le_trans (left_len d ll (k + 1)) (Nat.mul_le_mul_left 4 HW.out))
      have LR' := Lib.hid LR.out
      rw [left_cons d ll k hlt] at LR'
      have HNE := Lib.hid (isEmpty_pk d ll[k] (left d ll (k + 1)))
      clear hp hpe hf LR
      go_wp2_with fail
      refine (more_true g' _ _ (LR'.out.ext ((Ext.refl _).alloc _)) HNE.out).mono ?_
      rintro e w4 ⟨rfl, rfl⟩
      go_wp2_with fail
      refine (IH.out f ll[k] _ _ _ _ (deep + 1) g' (left d ll (k + 1)) _ HPK.out (by have := HD.out; omega) (Ext.trans XR.out ((Ext.refl _).alloc _)) HWK.out (by have := HX.out.size; have := HGG.out; omega) (LR'.out.ext ((Ext.refl _).alloc _)) (by have := HLK.out; omega)).mono ?_
      rintro e w5 ⟨rfl, o5, r5⟩
      have O5 := Lib.hid (OnlyAt.new (OR.out.ext ((Ext.refl _).alloc _)) o5 (Nat.le_of_lt HGG.out))
      have L5 := Lib.hid r5
      have R5 := Lib.hid ((LR'.out.ext ((Ext.refl _).alloc _)).other (RR.out.ext ((Ext.refl _).alloc _)) (by have := HGL.out; have := HGG.out; omega) o5)
      clear o5 r5 RR OR LR' XR
      go_wp2_with fail
      go_roundw
      case rel => exact ⟨k + 1, by omega, by go_num, O5, R5, L5⟩
      case measure => simp [intOf]; omega
    · have hkl : k = ll.length := by omega
      subst hkl
      rw [left_end] at LR
      go_wp2_with fail
      refine (done_true g' _ LR.out).mono ?_
      rintro e w4 ⟨rfl, rfl⟩
      go_wp2_with fail
      refine (good_true g rest _ RR.out).mono ?_
      rintro e w5 ⟨rfl, rfl⟩
      go_wp2_with fail
      go_ret
      exact ⟨rfl, OR.out, RR.out⟩

theorem takes_any (w0 : World) : ∀ d, d ≤ 4 → TakeAt w0 d
  | 0, _ => fun f p c0 c1 c2 c3 deep g rest w hp hd hx hw hg hr hrl => by
    obtain ⟨k, n, b, l, rfl⟩ : ∃ k n b l, p = .mk k n b l := by cases p; exact ⟨_, _, _, _, rfl⟩
    obtain ⟨f', -, rfl, rfl, hn, hb, -, hl⟩ := hp.open
    unfold pk at hr
    by_cases hk : k = 1
    · subst hk
      rw [if_pos rfl] at hr
      have hb1 : b.length ≤ 1000 := by rw [wt] at hw; omega
      exact takes_raw g n b rest c2 c3 deep w (hb.ext hx) hb1 hr (by simp only [List.length_append, le4_len]; omega)
    · rw [if_neg hk] at hr
      exact takes_num g k n rest c2 c3 deep w hn hk (.inr (by omega)) hr
  | d + 1, h4 => fun f p c0 c1 c2 c3 deep g rest w hp hd hx hw hg hr hrl => by
    obtain ⟨k, n, b, l, rfl⟩ : ∃ k n b l, p = .mk k n b l := by cases p; exact ⟨_, _, _, _, rfl⟩
    obtain ⟨f', -, rfl, rfl, hn, hb, -, hl⟩ := hp.open
    rw [wt] at hw
    unfold pk at hr
    by_cases hk : k = 1
    · subst hk
      rw [if_pos rfl] at hr
      have hb1 : b.length ≤ 1000 := by omega
      exact takes_raw g n b rest c2 c3 deep w (hb.ext hx) hb1 hr (by simp only [List.length_append, le4_len]; omega)
    · rw [if_neg hk] at hr
      by_cases h2 : k = 2
      · subst h2
        rw [if_pos rfl] at hr
        exact takes_list w0 d (takes_any w0 d (by omega)) f' n g l rest c2 c3 deep w hl (by omega) (by omega) hx hg (by omega) hr hrl
      · rw [if_neg h2] at hr
        exact takes_num g k n rest c2 c3 deep w hn hk (.inl h2) hr
end Go.Proofs.Ytgkoblgpadpcjaa.recBack
