/- Concat, and clone of a unit. -/
import Derived.Test.YtobdjfibaemmhaaFa
import Derived.Test.YtobdjfibaemmhaaShelfB
namespace Go.Proofs.Ytobdjfibaemmhaa
open Go.RowKit Go.Maps Go.Lib

theorem own_zero (w : World) (cs : Array Value) (cap : Nat) (h : cs.size = cap) (hc : cap ≤ maxLen) : OwnS (w.drew.alloc (.cells cs 9)) w.heap.size (.slice (some ⟨w.heap.size, 0, none⟩) 0 cap) [] := by
  refine ⟨rfl, .inr ⟨w.heap.size, cap, cs, rfl, Nat.le_refl _, ?_, Nat.zero_le _, hc, by omega, by simp [strVals]⟩⟩
  show (w.drew.heap.push _)[w.heap.size]? = _
  have : w.drew.heap = w.heap := rfl
  rw [this]
  simp
theorem grow_any (n : Nat) (hn : n * 16 ≤ 140737488355328) (w : World) : Calls Try.prog 50 #[.slice none 0 0, .int .i64 n] w fun e w' => ∃ v, e = .returned v ∧ OwnS w' w.heap.size v [] ∧ Ext w w' := by
  by_cases h0 : n = 0
  · subst h0
    exact (Any8.slices_Grow_room Try.grow50 none 0 0 0 w (by omega) (by omega) (by omega) (by omega)).mono fun e w' ⟨h1, h2⟩ => ⟨_, h1, OwnS.nil _ _, by rw [h2]; exact Ext.refl w⟩
  · obtain ⟨i0, hi, hz0, hz1, hz2⟩ := info_parts Try.info9
    refine (Any8.slices_Grow_grow Try.grow50 i0 _ hi hz0 (by omega) none 0 0 n [] w (by omega) (by omega) (by rw [hz2]; omega) (by omega) (by simp) (fun _ => rfl) (fun a h => by cases h)).mono ?_
    rintro e w' ⟨rfl, rfl⟩
    refine ⟨_, rfl, ?_, (Ext.refl w).drew.alloc _⟩
    have hge := grownCap_ge w (0 + n) 0 9
    have hle := grownCap_le_maxLen w (0 + n) 0 9 (by unfold maxLen; omega)
    have hsz : ((([] : List Value).toArray ++ Builtin.zeroCells (Value.string ⟨#[]⟩).cells (0 + n - 0) ++ Builtin.zeroCells (Value.string ⟨#[]⟩).cells (grownCap w (0 + n) 0 9 - (0 + n)))).size = grownCap w (0 + n) 0 9 := by
      have h1 : (Value.string ⟨#[]⟩).cells.size = 1 := rfl
      simp only [Array.size_append, size_zeroCells, h1]
      generalize grownCap w (0 + n) 0 9 = c at *
      simp
      omega
    exact own_zero w _ _ hsz hle
def flen (ls : List (List Str)) (k : Nat) : Nat := (ls.take k).flatten.length
theorem flen_all (ls : List (List Str)) : flen ls ls.length = ls.flatten.length := by unfold flen; rw [List.take_length]
def SRows (w : World) (v : Value) (ls : List (List Str)) : Prop :=
  ∃ a cap, v = .slice a ls.length cap ∧ ls.length ≤ 9223372036854775807 ∧ ∀ i, (h : i < ls.length) → ∃ b o u, a = some ⟨b, o, none⟩ ∧ w.cell? ⟨b, o + i, none⟩ = some u ∧ SRow w u ls[i]
theorem SRows.at {w : World} {a : Option Addr} {n c : Nat} {ls : List (List Str)} (h : SRows w (.slice a n c) ls) (k : Nat) (hk : k < ls.length) :
    ∃ b o au cu, a = some ⟨b, o, none⟩ ∧ w.cell? ⟨b, o + k, none⟩ = some (.slice au ls[k].length cu) ∧ SRow w (.slice au ls[k].length cu) ls[k] := by
  obtain ⟨a', c', e, -, hc⟩ := h
  simp only [Value.slice.injEq] at e
  obtain ⟨rfl, rfl, rfl⟩ := e
  obtain ⟨b, o, u, rfl, h1, h2⟩ := hc k hk
  have h3 := h2
  obtain ⟨au, cu, rfl, -⟩ := h2
  exact ⟨b, o, au, cu, rfl, h1, h3⟩
def concatRel1 (w : World) (ls : List (List Str)) (s i : Value) (wr : World) : Prop :=
  ∃ k, k ≤ ls.length ∧ i = .int .i64 k ∧ s = .int .i64 (flen ls k : Nat) ∧ Hid (w = wr)
def concatRel2 (w : World) (ls : List (List Str)) (v i : Value) (wr : World) : Prop :=
  ∃ k, k ≤ ls.length ∧ i = .int .i64 k ∧ Hid (OwnS wr w.heap.size v (ls.take k).flatten) ∧ Hid (Ext w wr)
theorem flat_le (ls : List (List Str)) (k : Nat) : (ls.take k).flatten.length ≤ ls.flatten.length := by
  conv => rhs; rw [← List.take_append_drop k ls]
  rw [List.flatten_append, List.length_append]
  omega
def concatPost (w : World) (l : List Str) (e : Ending) (w' : World) : Prop := ∃ v, e = .returned v ∧ OwnS w' w.heap.size v l ∧ Ext w w'
set_option maxRecDepth 100000 in
set_option maxHeartbeats 2000000 in
theorem concat_any {w : World} {v : Value} {ls : List (List Str)} (h : SRows w v ls) (hl : ls.flatten.length * 16 ≤ 140737488355328) : Calls Try.prog 31 #[v] w (concatPost w ls.flatten) := by
  have HV := Lib.hid h
  obtain ⟨av, cv, rfl, hlen, -⟩ := h
  obtain ⟨m, hm⟩ : ∃ m, m = ls.length := ⟨_, rfl⟩
  rw [← hm] at hlen HV ⊢
  go_enter Try.func31, Try.ntmps31
  go_wp2_with fail
  go_loopw [3, 11] (fun s i wr => concatRel1 w ls s i wr) (fun _ i _ => m - (intOf i).toNat)
  case atStart => exact ⟨0, Nat.zero_le _, rfl, rfl, rfl⟩
  case round =>
    obtain ⟨k, hk, rfl, rfl, hx⟩ := hrel
    obtain rfl := hx.out
    by_cases hlt : k < m
    · obtain ⟨b, o, au, cu, rfl, e1, e2⟩ := HV.out.at k (by omega)
      have hs : flen ls (k + 1) = flen ls k + (ls[k]'(by omega)).length := by
        unfold flen
        rw [List.take_succ_eq_append_getElem (by omega), List.flatten_append, List.length_append]; simp
      have hs2 : flen ls (k + 1) ≤ ls.flatten.length := flat_le ls (k + 1)
      rw [hs] at hs2
      have HS := Lib.hid hs
      generalize (ls[k]'(by omega)) = x at *
      generalize flen ls k = y at *
      have hw : wrap64 ((y : Int) + (x.length : Int)) = (y : Int) + (x.length : Int) := by unfold wrap64; omega
      have h0 : ¬ ((y : Int) + (x.length : Int) < 0) := by omega
      clear e2 hs
      go_wp2_with fail
      go_roundw
      case rel => exact ⟨k + 1, by omega, by go_num, by rw [HS.out]; go_num, rfl⟩
      case measure => simp [intOf]; omega
    · have hkm : k = ls.length := by omega
      rw [hkm]
      have HG := grow_any (flen ls ls.length) (by rw [flen_all]; exact hl) w
      generalize flen ls ls.length = y at *
      clear hlt hkm hk
      go_wp2_with (go_at_call 50; refine HG.mono ?_; rintro e w' ⟨v6, rfl, h6, x6⟩; have H6 := Lib.hid h6; have X6 := Lib.hid x6; clear h6 x6; (obtain ⟨a6, c6, rfl, -⟩ := H6.out.row.form); clear HG)
      go_loopw [6, 27] (fun u i wr => concatRel2 w ls u i wr) (fun _ i _ => m - (intOf i).toNat)
      case atStart => exact ⟨0, Nat.zero_le _, rfl, H6, X6⟩
      case round =>
        obtain ⟨k, hk, rfl, ho, hx⟩ := hrel
        by_cases hlt : k < m
        · obtain ⟨b, o, au, cu, rfl, e1, e2⟩ := HV.out.at k (by omega)
          have hs : (ls.take (k + 1)).flatten = (ls.take k).flatten ++ (ls[k]'(by omega)) := by
            rw [List.take_succ_eq_append_getElem (by omega), List.flatten_append]; simp
          have hs2 := flat_le ls (k + 1)
          rw [hs, List.length_append] at hs2
          have HS := Lib.hid hs
          generalize (ls[k]'(by omega)) = x at *
          generalize (ls.take k).flatten = y at *
          have f1 := hx.out.cell e1
          have E2 := Lib.hid (e2.ext hx.out)
          have hsz := hx.out.sz
          obtain ⟨a7, c7, rfl, -⟩ := ho.out.row.form
          clear e1 e2 hs
          go_wp2_with (refine wpList_append_str _ rfl (.tmp 31) (.tmp 32) 23 rfl Try.underlying23 w.heap.size _ _ rfl rfl y x ho.out E2.out (by omega) (by omega) ?_; intro v8 w8 o8 g8 n8; have O8 := Lib.hid o8; have G8 := Lib.hid g8; clear o8 g8; (obtain ⟨a8, c8, rfl, -⟩ := O8.out.row.form))
          go_roundw
          case rel => exact ⟨k + 1, by omega, by go_num, by rw [HS.out]; have := O8.out; rw [List.length_append] at this; exact Lib.hid this, Lib.hid (hx.out.grow G8.out fun q hq => (ho.out.lt q hq).1)⟩
          case measure => simp [intOf]; omega
        · go_wp2_with fail
          go_ret
          have := ho.out
          rw [List.take_of_length_le (by omega)] at this
          exact ⟨_, rfl, this, hx.out⟩
end Go.Proofs.Ytobdjfibaemmhaa
