/- RecBack: the function part, whole. -/
import Derived.Test.YtgkoblgpadpcjaaRecBackA
namespace Go.Proofs.Ytgkoblgpadpcjaa.recBack
open Go.RowKit Go.Proofs.Ytgkoblgpadpcjaa.recApart

theorem map_take_succ {α β : Type} (g : α → β) (l : List α) (k : Nat) (h : k < l.length) : (l.take (k + 1)).map g = (l.take k).map g ++ [g l[k]] := by
  rw [List.take_succ_eq_append_getElem h, List.map_append]; rfl
theorem wt_at (d : Nat) (l : List Pc) (k : Nat) (h : k < l.length) : wt d l[k] ≤ (l.map (wt d)).sum := by
  induction l generalizing k with
  | nil => simp at h
  | cons p l ih =>
    cases k with
    | zero => simp
    | succ k => have := ih k (by simpa using h); simp only [List.getElem_cons_succ, List.map_cons, List.sum_cons]; omega
theorem sum_take (g : Pc → Nat) (l : List Pc) (k : Nat) : ((l.take k).map g).sum ≤ (l.map g).sum := by
  induction l generalizing k with
  | nil => simp
  | cons p l ih =>
    cases k with
    | zero => simp
    | succ k => have := ih k; simp only [List.take_succ_cons, List.map_cons, List.sum_cons]; omega
theorem len_sum (d : Nat) (l : List Pc) : l.length ≤ (l.map (wt (d + 1))).sum := by
  induction l with
  | nil => simp
  | cons p l ih =>
    have : 1 ≤ wt (d + 1) p := by cases p; rw [wt]; omega
    simp only [List.map_cons, List.sum_cons, List.length_cons]; omega
theorem flat_take (d : Nat) (l : List Pc) (k : Nat) : (((l.take k).map (pk d)).flatten).length ≤ 4 * (l.map (wt (d + 1))).sum :=
  Nat.le_trans (flat_len (pk d) (wt (d + 1)) _ (fun p _ => pk_len d p)) (Nat.mul_le_mul_left 4 (sum_take _ _ _))

/-- What part says of a piece, so many lists deep. -/
def PartAt (w0 : World) (d : Nat) : Prop := ∀ (f : Nat) (p : Pc) (c0 c1 c2 c3 : Value) (deep : Int) (w : World), PcAt w0 f c0 c1 c2 c3 p → deep = 4 - (d : Int) → Ext w0 w → wt (d + 1) p ≤ 1000 →
  Calls Try.prog 32 #[.agg #[c0, c1, c2, c3], .int .i64 deep] w (partPost w (pk d p))

set_option maxRecDepth 100000 in
set_option maxHeartbeats 2000000 in
theorem part_list (w0 : World) (d : Nat) (IH0 : PartAt w0 d) (f n : Nat) (ll : List Pc) (c2 c3 : Value) (deep : Int) (w : World) (hp : PcsAt w0 f c3 ll) (hd3 : d ≤ 3) (hd : deep = 3 - (d : Int)) (hx : Ext w0 w) (hw : (ll.map (wt (d + 1))).sum ≤ 1000) :
    Calls Try.prog 32 #[.agg #[.int .i64 2, .int .u32 n, c2, c3], .int .i64 deep] w (partPost w (le4 ((ll.map (pk d)).flatten).length ++ (ll.map (pk d)).flatten)) := by
  have HX := Lib.hid hx
  have HP := Lib.hid hp
  have IH := Lib.hid IH0
  have HW := Lib.hid hw
  have HD := Lib.hid hd
  have hd4 : deep < 4 := by omega
  have hl := Nat.le_trans (len_sum d ll) hw
  obtain ⟨a, cap, rfl, -, -⟩ := hp
  have X0 := Lib.hid ((Ext.refl w).alloc (.cells #[.int .i64 2, .int .u32 n, c2, .slice a ll.length cap] 46))
  have AS : Hid (Acc w.heap.size (((w.alloc (.cells #[.int .i64 2, .int .u32 n, c2, .slice a ll.length cap] 46)).alloc (.cells #[] 32)).alloc (.cells #[] 5)) (.slice (some ⟨w.heap.size + 1, 0, none⟩) 0 0) (.slice (some ⟨w.heap.size + 1 + 1, 0, none⟩) 0 0) ((ll.take 0).map (pk d))) := by
    have := Acc.start (w.alloc (.cells #[.int .i64 2, .int .u32 n, c2, .slice a ll.length cap] 46)) w.heap.size (by simp)
    show Acc _ _ _ _ _
    simpa using this
  clear IH0 hx hw hd
  generalize hL : (le4 ((ll.map (pk d)).flatten).length ++ (ll.map (pk d)).flatten) = L
  have HL := Lib.hid hL
  clear hL
  go_enter Try.func32, Try.ntmps32
  go_wp2_with fail
  go_loopw [7, 8, 42] (fun pv av i wr => ∃ k : Nat, k ≤ ll.length ∧ i = .int .i64 k ∧ Ext w wr ∧ Hid (Acc w.heap.size wr pv av ((ll.take k).map (pk d)))) (fun _ _ i _ => ll.length - (intOf i).toNat)
  case atStart => exact ⟨0, Nat.zero_le _, rfl, (X0.out.alloc _).alloc _, AS.out⟩
  case round =>
    obtain ⟨k, hk, rfl, xr, acc⟩ := hrel
    have XR := Lib.hid xr
    clear xr
    by_cases hlt : k < ll.length
    · obtain ⟨bb, o, d0, d1, d2, d3, rfl, e0, e1, e2, e3, hp⟩ := HP.out.at (HX.out.trans XR.out) k hlt
      have HPK := Lib.hid hp
      obtain ⟨kd, nn, b, l2, hpe⟩ : ∃ kd nn b l2, ll[k] = .mk kd nn b l2 := by cases hq : ll[k]; exact ⟨_, _, _, _, rfl⟩
      rw [hpe] at hp
      obtain ⟨f', hf, rfl, rfl, hnn, hb, hbl, hps⟩ := hp.open
      obtain ⟨ab, cb, rfl, -⟩ := hb
      obtain ⟨al, cl, rfl, -⟩ := hps
      have HWK := Lib.hid (Nat.le_trans (wt_at (d + 1) ll k hlt) HW.out)
      have HS := Lib.hid (map_take_succ (pk d) ll k hlt)
      have HF := Lib.hid (flat_take d ll k)
      have HK := Lib.hid (pk_len d ll[k])
      have hdw : IntKind.i64.wrap (deep + 1) = deep + 1 := IntWalk.i64_in _ (by have := HD.out; omega)
      clear hp hpe hf
      go_wp2_with fail
      refine (IH.out f ll[k] _ _ _ _ (deep + 1) _ HPK.out (by have := HD.out; omega) (HX.out.trans (XR.out.alloc _)) HWK.out).mono ?_
      rintro e w3 ⟨a1, n1, k1, a2, n2, k2, rfl, f1, f2⟩
      have F1 := Lib.hid f1.2
      have F2 := Lib.hid f2.2
      have XC := Lib.hid ((XR.out.alloc (.cells #[.int .i64 kd, .int .u32 nn, .slice ab b.length cb, .slice al l2.length cl] 46)).trans f1.1)
      have AC := Lib.hid ((acc.out.ext ((Ext.refl wr).alloc (.cells #[.int .i64 kd, .int .u32 nn, .slice ab b.length cb, .slice al l2.length cl] 46))).ext f1.1)
      have AV := Lib.hid (acc.out.ext ((Ext.refl wr).alloc (.cells #[.int .i64 kd, .int .u32 nn, .slice ab b.length cb, .slice al l2.length cl] 46))).avlt
      have SC := Lib.hid f1.1.size
      have SW := Lib.hid (XR.out.alloc (.cells #[.int .i64 kd, .int .u32 nn, .slice ab b.length cb, .slice al l2.length cl] 46)).size
      clear f1 f2 acc
      go_wp2_with (first
        | (at_builtin; refine wpList_push1 rfl (.tmp 53) (.tmp 55) rfl w.heap.size _ _ _ _ _ _ (pk d ll[k]) AC.out (by simp; omega) rfl SW.out SC.out AV.out F1.out F2.out rfl rfl ?_; intro pv' w4 ac1 hb4 hs4; have AC1 := Lib.hid ac1; have HB4 := Lib.hid (hb4 _ XC.out); have HS4 := Lib.hid hs4; clear ac1 hb4 hs4)
        | (at_builtin; refine wpList_push2 rfl (.tmp 57) (.tmp 58) rfl w.heap.size _ _ _ _ _ (pk d ll[k]) AC1.out (by have := HF.out; have := HK.out; have := HW.out; have := HWK.out; omega) HS4.out rfl rfl ?_; intro av' w5 ac2 hb5; rw [← HS.out] at ac2; have AC2 := Lib.hid ac2; have HB5 := Lib.hid (hb5 _ HB4.out); clear ac2 hb5))
      go_roundw
      case rel => exact ⟨k + 1, by omega, by go_num, HB5.out, AC2⟩
      case measure => simp [intOf]; omega
    · have hkl : k = ll.length := by omega
      subst hkl
      rw [List.take_length] at acc
      obtain ⟨p1, m1, p2, p3, m, p4, rfl, rfl, hm⟩ := acc.out.shape
      have hm4 : m ≤ 4000 := by have := flat_take d ll ll.length; rw [List.take_length] at this; have := HW.out; omega
      have Hm := Lib.hid hm
      have HR := Lib.hid (acc.out.rows (by simp; omega))
      have HB := Lib.hid acc.out.bytes
      clear hm acc AS
      go_wp2_with fail
      refine (List_any (ll.map (pk d)) _ _ HR.out (by have := Hm.out; omega)).mono ?_
      rintro e w3 ⟨v3, rfl, f3⟩
      rw [HL.out] at f3
      have F3 := Lib.hid f3
      have X3 := Lib.hid (XR.out.trans f3.1)
      have B3 := Lib.hid (HB.out.ext f3.1)
      clear f3
      go_wp2_with fail
      refine (four_any m (by omega) _).mono ?_
      rintro e w4 ⟨v4, rfl, f4⟩
      have F4 := Lib.hid f4
      have B4 := Lib.hid (B3.out.ext f4.1)
      have S4 := Lib.hid f4.1.size
      clear f4
      go_wp2_with (at_builtin; refine wpList_append_bytes _ rfl (.tmp 67) (.tmp 68) 22 rfl Try.underlying22 w3.heap.size _ _ rfl rfl _ _ F4.out.2 B4.out (by have := Hm.out; simp only [le4_len]; omega) S4.out ?_; intro v5 w5 o5 g5 n5; rw [Hm.out, HL.out] at o5; have X5 := Lib.hid (F4.out.1.grown g5 S4.out (fun k hk => (F4.out.2.lt k hk).1)); have O5 := Lib.hid o5; clear o5 g5 n5)
      go_ret2
      exact partPost.mk ((F3.out.before X5.out).after XR.out) ⟨X3.out.trans X5.out, OwnBytes.le O5.out X3.out.size⟩

theorem part_any (w0 : World) : ∀ d, d ≤ 4 → PartAt w0 d
  | 0, _ => fun f p c0 c1 c2 c3 deep w hp hd hx hw => by
    obtain ⟨k, n, b, l, rfl⟩ : ∃ k n b l, p = .mk k n b l := by cases p; exact ⟨_, _, _, _, rfl⟩
    obtain ⟨f', -, rfl, rfl, hn, hb, -, hl⟩ := hp.open
    unfold pk
    by_cases hk : k = 1
    · subst hk
      rw [if_pos rfl]
      exact part_raw n b c2 c3 deep w (hb.ext hx) (by rw [wt] at hw; omega)
    · rw [if_neg hk]
      exact part_num k n c2 c3 deep w hn hk (.inr (by omega))
  | d + 1, h4 => fun f p c0 c1 c2 c3 deep w hp hd hx hw => by
    obtain ⟨k, n, b, l, rfl⟩ : ∃ k n b l, p = .mk k n b l := by cases p; exact ⟨_, _, _, _, rfl⟩
    obtain ⟨f', -, rfl, rfl, hn, hb, -, hl⟩ := hp.open
    rw [wt] at hw
    unfold pk
    by_cases hk : k = 1
    · subst hk
      rw [if_pos rfl]
      exact part_raw n b c2 c3 deep w (hb.ext hx) (by omega)
    · rw [if_neg hk]
      by_cases h2 : k = 2
      · subst h2
        rw [if_pos rfl]
        exact part_list w0 d (part_any w0 d (by omega)) f' n l c2 c3 deep w hl (by omega) (by omega) hx (by omega)
      · rw [if_neg h2]
        exact part_num k n c2 c3 deep w hn hk (.inl h2)
end Go.Proofs.Ytgkoblgpadpcjaa.recBack
