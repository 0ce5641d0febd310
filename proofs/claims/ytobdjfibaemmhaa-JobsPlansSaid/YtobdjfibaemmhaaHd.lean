/- The document's Find and Stands. -/
import Derived.Test.YtobdjfibaemmhaaGp
namespace Go.Proofs.Ytobdjfibaemmhaa
open Go.RowKit Go.Maps Go.Lib

def findP (us : List Un) (n : Str) : Option Nat := us.findIdx? fun u => u.name == n
def findRel (w : World) (us : List Un) (n : Str) (i : Value) (wr : World) : Prop := ∃ k : Nat, k ≤ us.length ∧ i = .int .i64 k ∧ Hid (w = wr) ∧ Hid (∀ u ∈ us.take k, u.name ≠ n)
theorem UnitsIn.cells {w : World} {a : Option Addr} {n c : Nat} {us : List Un} (h : UnitsIn w (.slice a n c) us) (k : Nat) (hk : k < us.length) : ∃ b o a0 n0 c0 a1 n1 c1 a2 n2 c2 a3 n3 c3 a4 n4 c4 a5 n5 c5, a = some ⟨b, o, none⟩ ∧
    w.cell? ⟨b, o + k * 8, none⟩ = some (.string (ba us[k].name)) ∧ w.cell? ⟨b, o + k * 8 + 2, none⟩ = some (.slice a1 n1 c1) ∧ w.cell? ⟨b, o + k * 8 + 3, none⟩ = some (.slice a2 n2 c2) ∧ w.cell? ⟨b, o + k * 8 + 4, none⟩ = some (.slice a3 n3 c3) ∧ w.cell? ⟨b, o + k * 8 + 6, none⟩ = some (.slice a5 n5 c5) ∧
    w.rangeAt b (o + k * 8) [.string (ba us[k].name), .slice a0 n0 c0, .slice a1 n1 c1, .slice a2 n2 c2, .slice a3 n3 c3, .slice a4 n4 c4, .slice a5 n5 c5, .int .i64 us[k].retry] ∧
    SRow w (.slice a1 n1 c1) us[k].after ∧ SRow w (.slice a2 n2 c2) us[k].before ∧ SRow w (.slice a3 n3 c3) us[k].requires ∧ SRow w (.slice a5 n5 c5) us[k].partOf := by
  obtain ⟨b, o, R, rfl, hu, hr⟩ := h.at k hk
  obtain ⟨a0, n0, c0, a1, n1, c1, a2, n2, c2, a3, n3, c3, a4, n4, c4, a5, n5, c5, e, -, s1, s2, s3, -, s5⟩ := hu.shape
  cases e
  exact ⟨b, o, _, _, _, _, _, _, _, _, _, _, _, _, _, _, _, _, _, _, rfl, hr 0 _ rfl, hr 2 _ rfl, hr 3 _ rfl, hr 4 _ rfl, hr 6 _ rfl, hr, s1, s2, s3, s5⟩
theorem findP_some {us : List Un} {n : Str} {k : Nat} (h : findP us n = some k) : ∃ hk : k < us.length, us[k].name = n ∧ findU us n = some us[k] := by
  unfold findP at h
  rw [List.findIdx?_eq_some_iff_getElem] at h
  obtain ⟨hk, h1, h2⟩ := h
  have hn : us[k].name = n := by simpa using h1
  refine ⟨hk, hn, ?_⟩
  unfold findU
  rw [List.find?_eq_some_iff_append]
  refine ⟨by simpa using hn, us.take k, us.drop (k + 1), by rw [List.getElem_cons_drop, List.take_append_drop], fun a ha => ?_⟩
  obtain ⟨j, hj, rfl⟩ := List.getElem_of_mem ha
  rw [List.length_take] at hj
  rw [List.getElem_take]
  have := h2 j (by omega)
  simpa using this
theorem findP_none {us : List Un} {n : Str} (h : findP us n = none) : findU us n = none := by
  unfold findP at h
  rw [List.findIdx?_eq_none_iff] at h
  unfold findU
  rw [List.find?_eq_none]
  exact fun u hu => by simpa using h u hu
set_option maxRecDepth 100000 in
set_option maxHeartbeats 2000000 in
theorem Find_any {w : World} {v : Value} {us : List Un} (h : UnitsIn w v us) (n : Str) : Calls Try.prog 18 #[v, .string (ba n)] w fun e w' => e = .returned (.int .i64 (idxOf (findP us n))) ∧ w = w' := by
  have HU := Lib.hid h
  obtain ⟨av, cv, rfl, hcap, hcap2, -⟩ := h
  have hlen : us.length ≤ 9223372036854775807 := Nat.le_trans hcap hcap2
  go_enter Try.func18, Try.ntmps18
  go_wp2_with fail
  go_loopw [5] (fun i wr => findRel w us n i wr) (fun i _ => us.length - (intOf i).toNat)
  case atStart => exact ⟨0, Nat.zero_le _, rfl, rfl, Lib.hid (by simp)⟩
  case round =>
    obtain ⟨k, hk, rfl, hx, HT⟩ := hrel
    obtain rfl := hx.out
    by_cases hlt : k < us.length
    · obtain ⟨b, o, a0, n0, c0, a1, n1, c1, a2, n2, c2, a3, n3, c3, a4, n4, c4, a5, n5, c5, rfl, e1, -⟩ := HU.out.cells k hlt
      have HTK := Lib.hid (List.take_succ_eq_append_getElem hlt)
      have HK := Lib.hid (show us[k].name = n → findP us n = some k from fun e => by
        unfold findP
        rw [List.findIdx?_eq_some_iff_getElem]
        refine ⟨hlt, by simpa using e, fun j hj => ?_⟩
        have := HT.out us[j] (List.mem_take_iff_getElem.2 ⟨j, by omega, rfl⟩)
        simpa using this)
      generalize us[k] = u at *
      generalize hnm : u.name = nm at *
      have HNM := Lib.hid hnm
      clear hnm
      go_wp2_with fail
      · rename_i hq
        have hq' : nm = n := by simpa using hq
        have HE := Lib.hid (HK.out hq')
        clear hq hq'
        go_ret
        exact ⟨by rw [HE.out]; rfl, rfl⟩
      · rename_i hq
        have hq' : nm ≠ n := by simpa using hq
        have HQ := Lib.hid hq'
        clear hq hq'
        go_roundw
        case rel => exact ⟨k + 1, by omega, by go_num, rfl, Lib.hid (fun y hy => by
          rw [HTK.out] at hy
          rcases List.mem_append.1 hy with hy | hy
          · exact HT.out y hy
          · rw [List.mem_singleton] at hy; rw [hy, HNM.out]; exact HQ.out)⟩
        case measure => simp [intOf]; omega
    · have HE := Lib.hid (show findP us n = none by
        unfold findP
        rw [List.findIdx?_eq_none_iff]
        intro u hu
        have h1 := HT.out
        rw [List.take_of_length_le (by omega)] at h1
        simpa using h1 u hu)
      go_wp2_with fail
      go_ret
      exact ⟨by rw [HE.out]; rfl, rfl⟩
def standsB (us : List Un) (n x : Str) : Bool := match findU us n, findU us x with
  | some u, some v => decide (x ∈ u.after) || decide (x ∈ u.requires) || decide (n ∈ v.before)
  | _, _ => false
theorem standsB_iff {us : List Un} {n x : Str} : standsB us n x = true ↔ Stands us n x := by
  unfold standsB Stands
  cases h1 : findU us n with
  | none => simp
  | some u =>
    cases h2 : findU us x with
    | none => simp
    | some v => simp [or_assoc]
theorem has_bool {w : World} {v : Value} {l : List Str} {s : Str} {b : Bool} (h : SRow w v l) (hb : decide (s ∈ l) = b) : Calls Try.prog 26 #[v, .string (ba s)] w fun e w' => e = .returned (.bool b) ∧ w = w' := by
  have := has_any h s
  rw [hb] at this
  exact this
set_option maxRecDepth 100000 in
set_option maxHeartbeats 4000000 in
theorem Stands_any {w : World} {v : Value} {us : List Un} (h : UnitsIn w v us) (n x : Str) : Calls Try.prog 39 #[v, .string (ba n), .string (ba x)] w fun e w' => e = .returned (.bool (standsB us n x)) ∧ w = w' := by
  have HU := Lib.hid h
  have HF1 := Find_any h n
  have HF2 := Find_any h x
  obtain ⟨av, cv, rfl, hcap, hcap2, -⟩ := h
  have hlen : us.length ≤ 9223372036854775807 := Nat.le_trans hcap hcap2
  cases h1 : findP us n with
  | none =>
    have HE := Lib.hid (show standsB us n x = false by unfold standsB; rw [findP_none h1])
    rw [h1] at HF1
    replace HF1 : Calls Try.prog 18 #[.slice av us.length cv, .string (ba n)] w fun e w' => e = .returned (.int .i64 (-1)) ∧ w = w' := HF1
    have HF1 := Lib.hid HF1
    have HF2 := Lib.hid HF2
    clear h1
    go_enter Try.func39, Try.ntmps39
    go_wp2_with fail
    refine HF1.out.mono ?_
    rintro e w' ⟨rfl, rfl⟩
    go_wp2_with fail
    refine HF2.out.mono ?_
    rintro e w' ⟨rfl, rfl⟩
    go_wp2_with fail
    go_ret
    exact ⟨by rw [HE.out]; rfl, rfl⟩
  | some a =>
    obtain ⟨ha, hna, hfa⟩ := findP_some h1
    rw [h1] at HF1
    replace HF1 : Calls Try.prog 18 #[.slice av us.length cv, .string (ba n)] w fun e w' => e = .returned (.int .i64 (a : Int)) ∧ w = w' := HF1
    have HF1 := Lib.hid HF1
    cases h2 : findP us x with
    | none =>
      have HE := Lib.hid (show standsB us n x = false by unfold standsB; rw [findP_none h2, hfa])
      rw [h2] at HF2
      replace HF2 : Calls Try.prog 18 #[.slice av us.length cv, .string (ba x)] w fun e w' => e = .returned (.int .i64 (-1)) ∧ w = w' := HF2
      have HF2 := Lib.hid HF2
      clear h1 h2 hna hfa
      go_enter Try.func39, Try.ntmps39
      go_wp2_with fail
      refine HF1.out.mono ?_
      rintro e w' ⟨rfl, rfl⟩
      go_wp2_with fail
      refine HF2.out.mono ?_
      rintro e w' ⟨rfl, rfl⟩
      go_wp2_with fail
      go_ret
      exact ⟨by rw [HE.out]; rfl, rfl⟩
    | some c =>
      obtain ⟨hc, hnc, hfc⟩ := findP_some h2
      rw [h2] at HF2
      replace HF2 : Calls Try.prog 18 #[.slice av us.length cv, .string (ba x)] w fun e w' => e = .returned (.int .i64 (c : Int)) ∧ w = w' := HF2
      have HF2 := Lib.hid HF2
      have HE := Lib.hid (show standsB us n x = (decide (x ∈ us[a].after) || decide (x ∈ us[a].requires) || decide (n ∈ us[c].before)) by unfold standsB; rw [hfa, hfc])
      obtain ⟨b, o, a0, n0, c0, a1, n1, c1, a2, n2, c2, a3, n3, c3, a4, n4, c4, a5, n5, c5, rfl, -, k2, -, k4, -, -, s1, -, s3, -⟩ := HU.out.cells a ha
      obtain ⟨b', o', a0', n0', c0', a1', n1', c1', a2', n2', c2', a3', n3', c3', a4', n4', c4', a5', n5', c5', e', -, -, k3, -, -, -, -, s2, -, -⟩ := HU.out.cells c hc
      cases e'
      have S1 := Lib.hid s1
      have S2 := Lib.hid s2
      have S3 := Lib.hid s3
      clear h1 h2 hna hnc hfa hfc s1 s2 s3
      generalize us[a].after = la at *
      generalize us[a].requires = lr at *
      generalize us[c].before = lb at *
      by_cases q1 : x ∈ la
      · have HB1 := Lib.hid (has_bool S1.out (show decide (x ∈ la) = true by simpa using q1))
        have HE2 := Lib.hid (show standsB us n x = true by rw [HE.out]; simp [q1])
        clear q1
        go_enter Try.func39, Try.ntmps39
        go_wp2_with fail
        refine HF1.out.mono ?_
        rintro e w' ⟨rfl, rfl⟩
        go_wp2_with fail
        refine HF2.out.mono ?_
        rintro e w' ⟨rfl, rfl⟩
        go_wp2_with fail
        refine HB1.out.mono ?_
        rintro e w' ⟨rfl, rfl⟩
        go_wp2_with fail
        go_ret
        exact ⟨by rw [HE2.out]; rfl, rfl⟩
      · have HB1 := Lib.hid (has_bool S1.out (show decide (x ∈ la) = false by simpa using q1))
        by_cases q2 : x ∈ lr
        · have HB2 := Lib.hid (has_bool S3.out (show decide (x ∈ lr) = true by simpa using q2))
          have HE2 := Lib.hid (show standsB us n x = true by rw [HE.out]; simp [q2])
          clear q1 q2
          go_enter Try.func39, Try.ntmps39
          go_wp2_with fail
          refine HF1.out.mono ?_
          rintro e w' ⟨rfl, rfl⟩
          go_wp2_with fail
          refine HF2.out.mono ?_
          rintro e w' ⟨rfl, rfl⟩
          go_wp2_with fail
          refine HB1.out.mono ?_
          rintro e w' ⟨rfl, rfl⟩
          go_wp2_with fail
          refine HB2.out.mono ?_
          rintro e w' ⟨rfl, rfl⟩
          go_wp2_with fail
          go_ret
          exact ⟨by rw [HE2.out]; rfl, rfl⟩
        · have HB2 := Lib.hid (has_bool S3.out (show decide (x ∈ lr) = false by simpa using q2))
          obtain ⟨t, ht⟩ : ∃ t, decide (n ∈ lb) = t := ⟨_, rfl⟩
          have HB3 := Lib.hid (has_bool S2.out ht)
          have HE2 := Lib.hid (show standsB us n x = t by rw [HE.out]; simp [q1, q2, ← ht])
          clear q1 q2 ht
          go_enter Try.func39, Try.ntmps39
          go_wp2_with fail
          refine HF1.out.mono ?_
          rintro e w' ⟨rfl, rfl⟩
          go_wp2_with fail
          refine HF2.out.mono ?_
          rintro e w' ⟨rfl, rfl⟩
          go_wp2_with fail
          refine HB1.out.mono ?_
          rintro e w' ⟨rfl, rfl⟩
          go_wp2_with fail
          refine HB2.out.mono ?_
          rintro e w' ⟨rfl, rfl⟩
          go_wp2_with fail
          refine HB3.out.mono ?_
          rintro e w' ⟨rfl, rfl⟩
          go_wp2_with fail
          go_ret
          exact ⟨by rw [HE2.out]; rfl, rfl⟩
end Go.Proofs.Ytobdjfibaemmhaa
