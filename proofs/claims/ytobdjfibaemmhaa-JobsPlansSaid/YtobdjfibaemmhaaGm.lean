/- Small: are units small? -/
import Derived.Test.YtobdjfibaemmhaaGl
namespace Go.Proofs.Ytobdjfibaemmhaa
open Go.RowKit Go.Maps Go.Lib

def okL (l : List Str) : Bool := decide (l.length ≤ 10) && l.all fun s => decide (s.length ≤ 60)
def lists7 (u : Un) : List (List Str) := [u.files, u.after, u.before, u.requires, u.wants, u.partOf, [u.name]]
def okU (u : Un) : Bool := (lists7 u).all okL
def smallB (us : List Un) : Bool := decide (us.length ≤ 20) && us.all okU
def smallN (us : List Un) : Int := if smallB us = true then 1 else 0
theorem smallB_u {us : List Un} (h : smallB us = true) : SmallU us := by
  unfold smallB at h
  rw [Bool.and_eq_true, decide_eq_true_iff, List.all_eq_true] at h
  obtain ⟨h1, h2⟩ := h
  have key : ∀ u ∈ us, ∀ l ∈ lists7 u, l.length ≤ 10 ∧ ∀ s ∈ l, s.length ≤ 60 := fun u hu l hl => by
    have := h2 u hu
    unfold okU at this
    rw [List.all_eq_true] at this
    have := this l hl
    unfold okL at this
    rw [Bool.and_eq_true, decide_eq_true_iff, List.all_eq_true] at this
    exact ⟨this.1, fun s hs => by simpa using this.2 s hs⟩
  exact ⟨h1, fun u hu => (key u hu [u.name] (by simp [lists7])).2 _ (by simp), fun u hu l hl => key u hu l (by
    simp only [listsOf, List.mem_cons, List.not_mem_nil, or_false] at hl
    simp only [lists7, List.mem_cons, List.not_mem_nil, or_false]
    rcases hl with h | h | h | h | h | h <;> simp [h])⟩
theorem SmallU.b {us : List Un} (h : SmallU us) : smallB us = true := by
  unfold smallB
  rw [Bool.and_eq_true, decide_eq_true_iff, List.all_eq_true]
  refine ⟨h.len, fun u hu => ?_⟩
  unfold okU
  rw [List.all_eq_true]
  intro l hl
  unfold okL
  rw [Bool.and_eq_true, decide_eq_true_iff, List.all_eq_true]
  have hk : ∀ l ∈ listsOf u, l.length ≤ 10 ∧ ∀ s ∈ l, s.length ≤ 60 := h.lists u hu
  simp only [lists7, List.mem_cons, List.not_mem_nil, or_false] at hl
  have fin : ∀ l ∈ listsOf u, l.length ≤ 10 ∧ ∀ x ∈ l, decide (x.length ≤ 60) = true := fun l hl => ⟨(hk l hl).1, fun x hx => by simpa using (hk l hl).2 x hx⟩
  rcases hl with h1 | h1 | h1 | h1 | h1 | h1 | h1
  · exact fin l (by simp [listsOf, h1])
  · exact fin l (by simp [listsOf, h1])
  · exact fin l (by simp [listsOf, h1])
  · exact fin l (by simp [listsOf, h1])
  · exact fin l (by simp [listsOf, h1])
  · exact fin l (by simp [listsOf, h1])
  · rw [h1]
    exact ⟨by simp, fun x hx => by rw [List.mem_singleton] at hx; rw [hx]; simpa using h.name u hu⟩
theorem smallN_no {us : List Un} (h : smallB us = false) : smallN us = 0 := by unfold smallN; rw [h]; rfl
theorem smallN_yes {us : List Un} (h : smallB us = true) : smallN us = 1 := by unfold smallN; rw [h]; rfl
theorem small_bad {us : List Un} {u : Un} (hu : u ∈ us) (h : okU u = false) : smallB us = false := by
  unfold smallB
  rw [Bool.and_eq_false_iff]
  exact .inr (by rw [List.all_eq_false]; exact ⟨u, hu, by rw [h]; simp⟩)
theorem okU_bad {u : Un} {l : List Str} (hl : l ∈ lists7 u) (h : okL l = false) : okU u = false := by
  unfold okU
  rw [List.all_eq_false]
  exact ⟨l, hl, by rw [h]; simp⟩
def smallRel1 (w : World) (us : List Un) (i : Value) (wr : World) : Prop := ∃ k : Nat, k ≤ us.length ∧ i = .int .i64 k ∧ Hid (Ext w wr) ∧ Hid (∀ u ∈ us.take k, okU u = true)
def smallRel2 (w : World) (ls : List (List Str)) (i : Value) (wr : World) : Prop := ∃ k : Nat, k ≤ 7 ∧ i = .int .i64 k ∧ Hid (Ext w wr) ∧ Hid (∀ l ∈ ls.take k, okL l = true)
def smallRel3 (w : World) (l : List Str) (i : Value) (wr : World) : Prop := ∃ k : Nat, k ≤ l.length ∧ i = .int .i64 k ∧ Hid (w = wr) ∧ Hid (∀ s ∈ l.take k, s.length ≤ 60)
def smallPost (w : World) (us : List Un) (e : Ending) (w' : World) : Prop := e = .returned (.int .i64 (smallN us)) ∧ Ext w w'
theorem rows7 {w W : World} {v : Value} {u : Un} (h : UnitIs w v u) (x : Ext w W) {p0 p1 p2 p3 p4 p5 : Option Addr} {q0 q1 q2 q3 q4 q5 r0 r1 r2 r3 r4 r5 : Nat} (e : v = .agg #[.string (ba u.name), .slice p0 q0 r0, .slice p1 q1 r1, .slice p2 q2 r2, .slice p3 q3 r3, .slice p4 q4 r4, .slice p5 q5 r5, .int .i64 u.retry])
    {b : Nat} {t : TypeId} {v6 : Value} (hb : W.heap[b]? = some (.cells #[.slice p0 q0 r0, .slice p1 q1 r1, .slice p2 q2 r2, .slice p3 q3 r3, .slice p4 q4 r4, .slice p5 q5 r5, v6] t (0, 0))) (h6 : SRow W v6 [u.name]) : SRows W (.slice (some ⟨b, 0, none⟩) 7 7) (lists7 u) := by
  obtain ⟨a0, n0, c0, a1, n1, c1, a2, n2, c2, a3, n3, c3, a4, n4, c4, a5, n5, c5, e2, g0, g1, g2, g3, g4, g5⟩ := h.shape
  rw [e] at e2
  cases e2
  refine ⟨_, _, rfl, by simp [lists7], fun i hi => ?_⟩
  match i, hi with
  | 0, _ => exact ⟨_, _, _, rfl, by rw [Nat.zero_add, cell_blk hb]; rfl, g0.ext x⟩
  | 1, _ => exact ⟨_, _, _, rfl, by rw [Nat.zero_add, cell_blk hb]; rfl, g1.ext x⟩
  | 2, _ => exact ⟨_, _, _, rfl, by rw [Nat.zero_add, cell_blk hb]; rfl, g2.ext x⟩
  | 3, _ => exact ⟨_, _, _, rfl, by rw [Nat.zero_add, cell_blk hb]; rfl, g3.ext x⟩
  | 4, _ => exact ⟨_, _, _, rfl, by rw [Nat.zero_add, cell_blk hb]; rfl, g4.ext x⟩
  | 5, _ => exact ⟨_, _, _, rfl, by rw [Nat.zero_add, cell_blk hb]; rfl, g5.ext x⟩
  | 6, _ => exact ⟨_, _, _, rfl, by rw [Nat.zero_add, cell_blk hb]; rfl, h6⟩
theorem SRows.ext {w W : World} {v : Value} {ls : List (List Str)} (h : SRows w v ls) (x : Ext w W) : SRows W v ls := by
  obtain ⟨a, c, rfl, hl, hc⟩ := h
  refine ⟨a, c, rfl, hl, fun i hi => ?_⟩
  obtain ⟨b, o, u, rfl, h1, h2⟩ := hc i hi
  exact ⟨b, o, u, rfl, x.cell h1, h2.ext x⟩
set_option maxRecDepth 100000 in
set_option maxHeartbeats 4000000 in
theorem Small_any {w : World} {v : Value} {us : List Un} (h : UnitsIn w v us) : Calls Try.prog 9 #[v] w (smallPost w us) := by
  have HU := Lib.hid h
  obtain ⟨av, cv, rfl, hcap, hcap2, -⟩ := h
  by_cases h20 : 20 < us.length
  · have HN := Lib.hid (smallN_no (us := us) (by unfold smallB; rw [Bool.and_eq_false_iff]; exact .inl (by simp; omega)))
    go_enter Try.func9, Try.ntmps9
    go_wp2_with fail
    go_ret
    exact ⟨by rw [HN.out]; rfl, Ext.refl w⟩
  · go_enter Try.func9, Try.ntmps9
    go_wp2_with fail
    go_loopw [14] (fun i wr => smallRel1 w us i wr) (fun i _ => us.length - (intOf i).toNat)
    case atStart => exact ⟨0, Nat.zero_le _, rfl, Ext.refl w, Lib.hid (by simp)⟩
    case round =>
      obtain ⟨wl, rfl⟩ : ∃ x : World, x = wr := ⟨_, rfl⟩
      obtain ⟨k, hk, rfl, HX, HK⟩ := hrel
      by_cases hlt : k < us.length
      · obtain ⟨b, o, R, rfl, hui, hrg⟩ := HU.out.at k hlt
        have hui2 := hui.ext HX.out
        have hrg2 := range_ext hrg HX.out
        obtain ⟨a0, n0, c0, a1, n1, c1, a2, n2, c2, a3, n3, c3, a4, n4, c4, a5, n5, c5, e, -⟩ := hui2.shape
        have HE := Lib.hid e
        cases e
        have HMU := Lib.hid (List.getElem_mem hlt)
        have HTK := Lib.hid (List.take_succ_eq_append_getElem hlt)
        have HU2 := Lib.hid hui2
        clear hui hui2 hrg
        generalize us[k] = u at *
        go_upto_region 7 with (refine wpList_load_mid rfl 45 (.tmp 16) rfl b (o + k * 8) rfl _ _ hrg2 Try.underlying45 rfl rfl ?_)
        obtain ⟨W7, hW⟩ : ∃ W7 : World, W7 = ((wl.alloc (.cells #[Value.string (ba u.name), Value.slice a0 n0 c0, Value.slice a1 n1 c1, Value.slice a2 n2 c2, Value.slice a3 n3 c3, Value.slice a4 n4 c4, Value.slice a5 n5 c5, Value.int IntKind.i64 u.retry] 45)).alloc (.cells #[Value.string (ba u.name)] 9)).alloc (.cells #[Value.slice a0 n0 c0, Value.slice a1 n1 c1, Value.slice a2 n2 c2, Value.slice a3 n3 c3, Value.slice a4 n4 c4, Value.slice a5 n5 c5, Value.slice (some { block := wl.heap.size + 1, off := 0 }) 1 1] 23) := ⟨_, rfl⟩
        have xW : Ext wl W7 := by rw [hW]; exact (((Ext.refl wl).alloc _).alloc _).alloc _
        have hs6 : SRow W7 (.slice (some ⟨wl.heap.size + 1, 0, none⟩) 1 1) [u.name] := by
          rw [hW]
          have := SRow.one (wl.alloc (.cells #[Value.string (ba u.name), Value.slice a0 n0 c0, Value.slice a1 n1 c1, Value.slice a2 n2 c2, Value.slice a3 n3 c3, Value.slice a4 n4 c4, Value.slice a5 n5 c5, Value.int IntKind.i64 u.retry] 45)) u.name
          rw [World.size_alloc] at this
          exact this.alloc _
        have RS := Lib.hid (rows7 HU2.out xW rfl (by rw [hW]; exact three_c wl _ _ _) hs6)
        have XW := Lib.hid xW
        rw [← hW]
        clear hW xW hs6
        go_loopw [35] (fun i wr2 => smallRel2 W7 (lists7 u) i wr2) (fun i _ => 7 - (intOf i).toNat)
        case atStart => exact ⟨0, Nat.zero_le _, rfl, Ext.refl W7, Lib.hid (by simp)⟩
        case round =>
          obtain ⟨wi, rfl⟩ : ∃ x : World, x = wr := ⟨_, rfl⟩
          obtain ⟨j, hj, rfl, HX2, HJ⟩ := hrel
          by_cases hlt2 : j < 7
          · have hjl : j < (lists7 u).length := by simp [lists7]; exact hlt2
            obtain ⟨b9, o9, a9, c9, e9, f9, g9⟩ := (RS.out.ext HX2.out).at j hjl
            cases e9
            rw [Nat.zero_add] at f9
            have HML := Lib.hid (List.getElem_mem hjl)
            have HTJ := Lib.hid (List.take_succ_eq_append_getElem hjl)
            generalize (lists7 u)[j] = l at *
            have HG9 := Lib.hid g9
            have hlm : l.length ≤ 9223372036854775807 := by obtain ⟨_, _, e, h1, h2⟩ := g9.form; cases e; omega
            by_cases hl10 : 10 < l.length
            · have HN := Lib.hid (smallN_no (small_bad HMU.out (okU_bad HML.out (show okL l = false by unfold okL; rw [Bool.and_eq_false_iff]; exact .inl (by simp; omega)))))
              clear g9
              go_wp2_with fail
              go_ret
              exact ⟨by rw [HN.out]; rfl, (HX.out.trans XW.out).trans HX2.out⟩
            · clear g9
              go_wp2_with fail
              go_loopw [44] (fun i wr3 => smallRel3 wi l i wr3) (fun i _ => l.length - (intOf i).toNat)
              case atStart => exact ⟨0, Nat.zero_le _, rfl, rfl, Lib.hid (by simp)⟩
              case round =>
                obtain ⟨m, hm, rfl, HW3, HM⟩ := hrel
                obtain rfl := HW3.out
                by_cases hlt3 : m < l.length
                · obtain ⟨b8, o8, rfl, e8⟩ := HG9.out.at m hlt3
                  have HMS := Lib.hid (List.getElem_mem hlt3)
                  have HTM := Lib.hid (List.take_succ_eq_append_getElem hlt3)
                  generalize l[m] = t at *
                  by_cases h60 : 60 < t.length
                  · have HN := Lib.hid (smallN_no (small_bad HMU.out (okU_bad HML.out (show okL l = false by unfold okL; rw [Bool.and_eq_false_iff]; exact .inr (by rw [List.all_eq_false]; exact ⟨t, HMS.out, by simp; omega⟩)))))
                    go_wp2_with fail
                    go_ret
                    exact ⟨by rw [HN.out]; rfl, (HX.out.trans XW.out).trans HX2.out⟩
                  · go_wp2_with fail
                    go_roundw
                    case rel => exact ⟨m + 1, by omega, by go_num, rfl, Lib.hid (fun y hy => by
                      rw [HTM.out] at hy
                      rcases List.mem_append.1 hy with hy | hy
                      · exact HM.out y hy
                      · rw [List.mem_singleton] at hy; rw [hy]; omega)⟩
                    case measure => simp [intOf]; omega
                · go_wp2_with fail
                  go_roundw
                  case rel => exact ⟨j + 1, by omega, by go_num, HX2, Lib.hid (fun y hy => by
                    rw [HTJ.out] at hy
                    rcases List.mem_append.1 hy with hy | hy
                    · exact HJ.out y hy
                    · rw [List.mem_singleton] at hy
                      rw [hy]
                      unfold okL
                      rw [Bool.and_eq_true, decide_eq_true_iff, List.all_eq_true]
                      have h1 := HM.out
                      rw [List.take_of_length_le (by omega)] at h1
                      exact ⟨by omega, fun x hx => by simpa using h1 x hx⟩)⟩
                  case measure => simp [intOf]; omega
          · go_wp2_with fail
            go_roundw
            case rel => exact ⟨k + 1, by omega, by go_num, Lib.hid ((HX.out.trans XW.out).trans HX2.out), Lib.hid (fun y hy => by
              rw [HTK.out] at hy
              rcases List.mem_append.1 hy with hy | hy
              · exact HK.out y hy
              · rw [List.mem_singleton] at hy
                rw [hy]
                unfold okU
                rw [List.all_eq_true]
                have h1 := HJ.out
                rw [List.take_of_length_le (by simp [lists7]; omega)] at h1
                exact h1)⟩
            case measure => simp [intOf]; omega
      · have HN := Lib.hid (smallN_yes (us := us) (by
          unfold smallB
          rw [Bool.and_eq_true, decide_eq_true_iff, List.all_eq_true]
          have h1 := HK.out
          rw [List.take_of_length_le (by omega)] at h1
          exact ⟨by omega, h1⟩))
        go_wp2_with fail
        go_ret
        exact ⟨by rw [HN.out]; rfl, HX.out⟩
end Go.Proofs.Ytobdjfibaemmhaa
