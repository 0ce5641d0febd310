/- Has and same of the statements, on slices of texts. -/
import Derived.Test.YtobdjfibaemmhaaLib
import Derived.BigQuiet
import Derived.Deep.QuietTactic
namespace Go.Proofs.Ytobdjfibaemmhaa
open Go.RowKit Go.Maps

theorem SRow.at {w : World} {a : Option Addr} {n c : Nat} {l : List Str} (h : SRow w (.slice a n c) l) (k : Nat) (hk : k < l.length) : ∃ b o, a = some ⟨b, o, none⟩ ∧ w.cell? ⟨b, o + k, none⟩ = some (.string (ba l[k])) := by
  obtain ⟨a', c', e, hl, hm, hn, hc⟩ := h
  simp only [Value.slice.injEq] at e
  obtain ⟨rfl, rfl, rfl⟩ := e
  exact hc k hk
@[simp] theorem ba_toList (s : Str) : (ba s).toList = s := ByteArray.toList_mk s
@[simp] theorem ba_size (s : Str) : (ba s).size = s.length := rfl
def hasRel (w : World) (l : List Str) (s : Str) (i : Value) (wr : World) : Prop :=
  ∃ k, k ≤ l.length ∧ i = .int .i64 k ∧ Hid (w = wr) ∧ Hid (s ∉ l.take k)
set_option maxRecDepth 100000 in
set_option maxHeartbeats 2000000 in
theorem has_any {w : World} {v : Value} {l : List Str} (h : SRow w v l) (s : Str) : Calls Try.prog 26 #[v, encStr s] w fun e w' => e = .returned (.bool (decide (s ∈ l))) ∧ w = w' := by
  have HV := Lib.hid h
  obtain ⟨av, cv, rfl, hl, hm⟩ := h.form
  rw [encStr_ba]
  have hlen : l.length ≤ 9223372036854775807 := Nat.le_trans hl hm
  clear h hl hm
  go_enter Try.func26, Try.ntmps26
  go_wp2_with fail
  go_loopw [5] (fun i wr => hasRel w l s i wr) (fun i _ => l.length - (intOf i).toNat)
  case atStart => exact ⟨0, Nat.zero_le _, rfl, rfl, by simp [Hid]⟩
  case round =>
    obtain ⟨k, hk, rfl, hx, ht⟩ := hrel
    obtain rfl := hx.out
    by_cases hlt : k < l.length
    · obtain ⟨b, o, rfl, e1⟩ := HV.out.at k hlt
      have HT := Lib.hid (show l.take (k + 1) = l.take k ++ [l[k]] by rw [List.take_succ_eq_append_getElem hlt])
      have HM := Lib.hid (List.getElem_mem hlt)
      generalize l[k] = x at *
      go_wp2_with fail
      · rename_i hq
        have hq' : x = s := by simpa using hq
        clear hq
        go_ret
        have := HM.out
        rw [hq'] at this
        exact ⟨by simp [this], rfl⟩
      · rename_i hq
        have hq' : x ≠ s := by simpa using hq
        have HQ := Lib.hid hq'
        clear hq hq'
        go_roundw
        case rel => exact ⟨k + 1, by omega, by go_num, rfl, by rw [Hid, HT.out, List.mem_append]; exact fun h => h.elim ht.out fun h => HQ.out (List.mem_singleton.1 h).symm⟩
        case measure => simp [intOf]; omega
    · go_wp2_with fail
      go_ret
      have := ht.out
      rw [List.take_of_length_le (by omega)] at this
      exact ⟨by simp [this], rfl⟩
theorem lhas_any {w : World} {v : Value} {l : List Str} (h : SRow w v l) (s : Str) : Calls Try.prog 15 #[v, encStr s] w fun e w' => e = .returned (.bool (decide (s ∈ l))) ∧ w = w' := by
  have HC := has_any h s
  rw [encStr_ba] at HC ⊢
  go_enter Try.func15, Try.ntmps15
  go_wp2_with (go_at_call 26; refine HC.mono ?_; rintro e w' ⟨rfl, rfl⟩)
  go_ret
  exact ⟨rfl, rfl⟩
def sameRel (w : World) (xs ys : List Str) (i : Value) (wr : World) : Prop :=
  ∃ k, k ≤ ys.length ∧ i = .int .i64 k ∧ Hid (w = wr) ∧ Hid (xs.take k = ys.take k)
set_option maxRecDepth 100000 in
set_option maxHeartbeats 2000000 in
theorem same_any {w : World} {v u : Value} {xs ys : List Str} (hv : SRow w v xs) (hu : SRow w u ys) :
    Calls Try.prog 27 #[v, u] w fun e w' => e = .returned (.bool (xs == ys)) ∧ w = w' := by
  have HV := Lib.hid hv
  have HU := Lib.hid hu
  obtain ⟨av, cv, rfl, hxl, hxm⟩ := hv.form
  obtain ⟨au, cu, rfl, hyl, hym⟩ := hu.form
  clear hv hu
  by_cases hl : xs.length = ys.length
  · have HL := Lib.hid hl
    rw [hl] at HV hxl ⊢
    obtain ⟨m, hm⟩ : ∃ m, m = ys.length := ⟨_, rfl⟩
    rw [← hm] at hyl HV HU ⊢
    have HM := Lib.hid hm
    have hlen : m ≤ 9223372036854775807 := Nat.le_trans hyl hym
    clear hl hm hxl hyl hxm hym
    go_enter Try.func27, Try.ntmps27
    go_wp2_with fail
    go_loopw [14] (fun i wr => sameRel w xs ys i wr) (fun i _ => m - (intOf i).toNat)
    case atStart => exact ⟨0, Nat.zero_le _, rfl, rfl, rfl⟩
    case round =>
      obtain ⟨k, hk, rfl, hx, ht⟩ := hrel
      obtain rfl := hx.out
      by_cases hlt : k < m
      · have hlx : k < xs.length := by have := HL.out; have := HM.out; omega
        have hly : k < ys.length := by have := HM.out; omega
        obtain ⟨b1, o1, rfl, e1⟩ := HV.out.at k hlx
        obtain ⟨b2, o2, rfl, e2⟩ := HU.out.at k hly
        generalize hxk : xs[k] = x at *
        generalize hyk : ys[k] = y at *
        have HXK := Lib.hid (And.intro hxk hyk)
        clear hxk hyk hk
        go_wp2_with fail
        · rename_i hq
          have hxy : x ≠ y := by simpa using hq
          have HN := Lib.hid (show (xs == ys) = false by
            rw [beq_eq_false_iff_ne]
            intro e
            apply hxy
            rw [← HXK.out.1, ← HXK.out.2]
            simp only [e])
          clear hxy hq
          go_ret
          exact ⟨by rw [HN.out]; rfl, rfl⟩
        · rename_i hq
          have hxy : x = y := by simpa using hq
          have HXY := Lib.hid hxy
          clear hxy hq
          go_roundw
          case rel =>
            refine ⟨k + 1, by omega, by go_num, rfl, Lib.hid ?_⟩
            rw [List.take_succ_eq_append_getElem hlx, List.take_succ_eq_append_getElem hly, ht.out, HXK.out.1, HXK.out.2, HXY.out]
          case measure => simp [intOf]; omega
      · go_wp2_with fail
        go_ret
        exact ⟨by
          have h1 := ht.out
          have h2 := HL.out
          have h3 := HM.out
          rw [List.take_of_length_le (by omega), List.take_of_length_le (by omega)] at h1
          rw [h1]; simp, rfl⟩
  · have hne : ((xs.length : Int) != (ys.length : Int)) = true := by rw [bne_iff_ne]; omega
    have hx : (xs == ys) = false := by rw [beq_eq_false_iff_ne]; intro e; exact hl (by rw [e])
    have HX := Lib.hid hx
    clear hl hx
    go_enter Try.func27, Try.ntmps27
    go_wp2_with fail
    go_ret
    rw [HX.out]
    exact ⟨rfl, rfl⟩
set_option maxRecDepth 100000 in
set_option maxHeartbeats 2000000 in
theorem lsame_any {w : World} {v u : Value} {xs ys : List Str} (hv : SRow w v xs) (hu : SRow w u ys) :
    Calls Try.prog 19 #[v, u] w fun e w' => e = .returned (.bool (xs == ys)) ∧ w = w' := by
  have HV := Lib.hid hv
  have HU := Lib.hid hu
  obtain ⟨av, cv, rfl, hxl, hxm⟩ := hv.form
  obtain ⟨au, cu, rfl, hyl, hym⟩ := hu.form
  clear hv hu
  by_cases hl : xs.length = ys.length
  · have HL := Lib.hid hl
    rw [hl] at HV hxl ⊢
    obtain ⟨m, hm⟩ : ∃ m, m = ys.length := ⟨_, rfl⟩
    rw [← hm] at hyl HV HU ⊢
    have HM := Lib.hid hm
    have hlen : m ≤ 9223372036854775807 := Nat.le_trans hyl hym
    clear hl hm hxl hyl hxm hym
    go_enter Try.func19, Try.ntmps19
    go_wp2_with fail
    go_loopw [14] (fun i wr => sameRel w xs ys i wr) (fun i _ => m - (intOf i).toNat)
    case atStart => exact ⟨0, Nat.zero_le _, rfl, rfl, rfl⟩
    case round =>
      obtain ⟨k, hk, rfl, hx, ht⟩ := hrel
      obtain rfl := hx.out
      by_cases hlt : k < m
      · have hlx : k < xs.length := by have := HL.out; have := HM.out; omega
        have hly : k < ys.length := by have := HM.out; omega
        obtain ⟨b1, o1, rfl, e1⟩ := HV.out.at k hlx
        obtain ⟨b2, o2, rfl, e2⟩ := HU.out.at k hly
        generalize hxk : xs[k] = x at *
        generalize hyk : ys[k] = y at *
        have HXK := Lib.hid (And.intro hxk hyk)
        clear hxk hyk hk
        go_wp2_with fail
        · rename_i hq
          have hxy : x ≠ y := by simpa using hq
          have HN := Lib.hid (show (xs == ys) = false by
            rw [beq_eq_false_iff_ne]
            intro e
            apply hxy
            rw [← HXK.out.1, ← HXK.out.2]
            simp only [e])
          clear hxy hq
          go_ret
          exact ⟨by rw [HN.out]; rfl, rfl⟩
        · rename_i hq
          have hxy : x = y := by simpa using hq
          have HXY := Lib.hid hxy
          clear hxy hq
          go_roundw
          case rel =>
            refine ⟨k + 1, by omega, by go_num, rfl, Lib.hid ?_⟩
            rw [List.take_succ_eq_append_getElem hlx, List.take_succ_eq_append_getElem hly, ht.out, HXK.out.1, HXK.out.2, HXY.out]
          case measure => simp [intOf]; omega
      · go_wp2_with fail
        go_ret
        exact ⟨by
          have h1 := ht.out
          have h2 := HL.out
          have h3 := HM.out
          rw [List.take_of_length_le (by omega), List.take_of_length_le (by omega)] at h1
          rw [h1]; simp, rfl⟩
  · have hne : ((xs.length : Int) != (ys.length : Int)) = true := by rw [bne_iff_ne]; omega
    have hx : (xs == ys) = false := by rw [beq_eq_false_iff_ne]; intro e; exact hl (by rw [e])
    have HX := Lib.hid hx
    clear hl hx
    go_enter Try.func19, Try.ntmps19
    go_wp2_with fail
    go_ret
    rw [HX.out]
    exact ⟨rfl, rfl⟩
end Go.Proofs.Ytobdjfibaemmhaa
