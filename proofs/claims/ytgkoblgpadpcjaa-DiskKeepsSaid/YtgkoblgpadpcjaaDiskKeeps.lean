/- DiskKeeps: behind a flush each sector that the disk holds after a crash is the one flushed or one written behind it: whatever acts come in, the call returns true, and they read as before. Conditions: none. -/
import Derived.Test.YtgkoblgpadpcjaaDiskKeepsW
import Derived.ProofKit
import Derived.OpenShut
import Derived.ChangeOld
namespace Go.Proofs.Ytgkoblgpadpcjaa.diskKeeps
open Go.ChangeShapes Go.WideShapes Go.ChangeAt Go.RowKit
set_option linter.unusedVariables false

theorem own : ownKnob Try.prog.godebug = none := by kernel_rfl
theorem laidOut : laidOutB Try.prog = true := by kernel_rfl

set_option maxRecDepth 100000 in
theorem walk_long1 (n : Int) (bef beh : List Opv) (bv hv : Value) (keeps : Nat) (w : World) (hbef : OpsAt w bv bef) (hbeh : OpsAt w hv beh) (hl : 60 < bef.length) :
    Calls Try.prog 9 #[.int .i64 n, bv, hv, .int .u64 keeps] w fun e w' => e = .returned (.bool true) ∧ Below w.heap.size w w' := by
  obtain ⟨oa, ocap, rfl, hlm, -⟩ := hbef
  obtain ⟨ha, hcap, rfl, hhm, -⟩ := hbeh
  have hq : decide ((60 : Int) < (bef.length : Int)) = true := by simp; omega
  go_enter Try.func9, Try.ntmps9
  go_wp2_with fail
  refine (diskAlive_any _).mono ?_
  rintro e w1 ⟨rfl, x1⟩
  have X1 := Lib.hid x1
  clear x1
  go_wp2_with fail
  go_ret
  exact ⟨rfl, X1.out⟩
set_option maxRecDepth 100000 in
theorem walk_long2 (n : Int) (bef beh : List Opv) (bv hv : Value) (keeps : Nat) (w : World) (hbef : OpsAt w bv bef) (hbeh : OpsAt w hv beh) (hl : bef.length ≤ 60) (hl2 : 60 < beh.length) :
    Calls Try.prog 9 #[.int .i64 n, bv, hv, .int .u64 keeps] w fun e w' => e = .returned (.bool true) ∧ Below w.heap.size w w' := by
  obtain ⟨oa, ocap, rfl, hlm, -⟩ := hbef
  obtain ⟨ha, hcap, rfl, hhm, -⟩ := hbeh
  have hq1 : decide ((60 : Int) < (bef.length : Int)) = false := by simp; omega
  have hq : decide ((60 : Int) < (beh.length : Int)) = true := by simp; omega
  go_enter Try.func9, Try.ntmps9
  go_wp2_with fail
  refine (diskAlive_any _).mono ?_
  rintro e w1 ⟨rfl, x1⟩
  have X1 := Lib.hid x1
  clear x1
  go_wp2_with fail
  go_ret
  exact ⟨rfl, X1.out⟩
theorem walk (n : Int) (bef beh : List Opv) (bv hv : Value) (keeps : Int) (w : World) (hbef : OpsAt w bv bef) (hbeh : OpsAt w hv beh) (w2 : (Lit.int .u64 keeps).wf = true) :
    Calls Try.prog 9 #[.int .i64 n, bv, hv, .int .u64 keeps] w fun e w' => e = .returned (.bool true) ∧ Below w.heap.size w w' := by
  have h2 : 0 ≤ keeps ∧ keeps ≤ 18446744073709551615 := by simpa [Lit.wf, IntKind.min, IntKind.max, IntKind.signed, IntKind.bits] using w2
  obtain ⟨k, rfl⟩ : ∃ k : Nat, keeps = (k : Int) := ⟨keeps.toNat, by omega⟩
  by_cases h : bef.length ≤ 60
  · by_cases h' : beh.length ≤ 60
    · exact walk_main n bef beh bv hv k w hbef hbeh h h' (by omega)
    · exact walk_long2 n bef beh bv hv k w hbef hbeh h (by omega)
  · exact walk_long1 n bef beh bv hv k w hbef hbeh (by omega)

set_option maxRecDepth 100000 in
theorem lifted (os : Os) (started : os.Started) (H : Type) (enc : TypeId × Value → H) :
    ReturnsInHanded {} Try.checked os 9 .any (Rows.diskKeepsSpec.pre6 enc Try.prog Try.f9 Rows.diskKeepsRow.domain false) (Rows.diskKeepsSpec.post enc Try.prog Try.f9 false true false false) := by
  refine returnsInHanded_of_change_sized (C := Try.checked) own started (by kernel_rfl) Try.func9
    (ChangeSpec.witness6 (enc := enc) (C := Try.checked) false ⟨#[], #[.int .i64 0, .slice none 0 0, .slice none 0 0, .int .u64 0], []⟩ 8 (by kernel_rfl) (by kernel_rfl) (by kernel_rfl) (by kernel_rfl)) ?_
  intro W base args ds gs before hval0 hW hcnd hsz _
  have hval : ∀ (j : Nat) t v, Try.f9.params[j]? = some t → args[j]? = some v → Value.okWide Try.prog W .any base t v := hval0
  have hW' := hW
  obtain ⟨p, q, hA0, hV, rfl, hfz, hnd⟩ := hW
  have hA : DataW.TrodAll enc Try.prog W 0 (fun _ => true) true Try.f9.params.toList args.toList ds p := hA0
  rw [Try.params9] at hA hval hsz
  obtain ⟨v0, vs0, d0, ds0, p0, q0, hargs, rfl, rfl, h0, r0⟩ := trodAll_cons hA
  obtain ⟨v1, vs1, d1, ds1, p1, q1, rfl, rfl, rfl, h1, r1⟩ := trodAll_cons r0
  obtain ⟨v2, vs2, d2, ds2, p2, q2, rfl, rfl, rfl, h2, r2⟩ := trodAll_cons r1
  obtain ⟨v3, vs3, d3, ds3, p3, q3, rfl, rfl, rfl, h3, r3⟩ := trodAll_cons r2
  obtain ⟨rfl, rfl, rfl⟩ := trodAll_nil r3
  obtain rfl : args = #[v0, v1, v2, v3] := by cases args; simp_all
  obtain ⟨rfl, rfl⟩ := trodVars_none hV
  obtain ⟨a0, rfl, rfl, rfl, w0⟩ := open_int Try.underlying3 (hval 0 3 v0 rfl rfl) h0
  obtain ⟨a3, rfl, rfl, rfl, w3⟩ := open_int Try.underlying56 (hval 3 56 v3 rfl rfl) h3
  have k1 := h1
  have lt1 : ∀ x ∈ p1, x.block < W.heap.size := by obtain ⟨m, hm⟩ := k1; exact DataW.trod_lt m _ _ _ hm
  obtain ⟨a1, len1, cap1, rfl⟩ := okWide_slice Try.underlying55 (hval 1 55 v1 rfl rfl)
  have k2 := h2
  have lt2 : ∀ x ∈ p2, x.block < W.heap.size := by obtain ⟨m, hm⟩ := k2; exact DataW.trod_lt m _ _ _ hm
  obtain ⟨a2, len2, cap2, rfl⟩ := okWide_slice Try.underlying55 (hval 2 55 v2 rfl rfl)
  obtain ⟨l1, hp1⟩ : ∃ l, OpsAt W (.slice a1 len1 cap1) l := by
    obtain ⟨fuel, hf⟩ := h1
    obtain ⟨v, l, hv, hp⟩ := open_ops hf (Within.of hsz 1 55 d1 rfl rfl)
    simp [Value.cells] at hv
    subst hv
    exact ⟨l, hp⟩
  obtain ⟨l2, hp2⟩ : ∃ l, OpsAt W (.slice a2 len2 cap2) l := by
    obtain ⟨fuel, hf⟩ := h2
    obtain ⟨v, l, hv, hp⟩ := open_ops hf (Within.of hsz 2 55 d2 rfl rfl)
    simp [Value.cells] at hv
    subst hv
    exact ⟨l, hp⟩
  clear hA0 hval0
  refine (walk a0 l1 l2 _ _ a3 W hp1 hp2 w3).mono fun e W' ⟨he, bel⟩ => ?_
  subst he
  exact ⟨_, rfl, _, _, _, [], _, [], hW', trodAll_mk1 (shut_bool Try.underlying4 _), (trodAll_cons_mk (shut_int Try.underlying3 w0) (trodAll_cons_mk (Below.trod laidOut (by kernel_rfl) (of_decide_eq_true (by kernel_rfl)) k1 bel lt1) (trodAll_cons_mk (Below.trod laidOut (by kernel_rfl) (of_decide_eq_true (by kernel_rfl)) k2 bel lt2) (trodAll_cons_mk (shut_int Try.underlying56 w3) trodAll_mk0)))), rfl, bel.frame _, fun h => by cases h⟩

theorem over : Rows.diskKeepsRow.holds Try.pinned (OpenSpec.ofChange Rows.diskKeepsSpec) :=
  OpenClaim.holds_of_wide 9 Try.f9 rfl rfl rfl rfl rfl rfl rfl ⟨rfl, rfl, rfl, rfl, rfl⟩ rfl rfl rfl rfl rfl (by kernel_rfl) Try.func9 (by kernel_rfl)
    (of_decide_eq_true (by kernel_rfl)) (by unfold Func.isWrapper; first | (rw [if_pos (by decide +kernel)]; kernel_rfl) | (rw [if_neg (by decide +kernel)]; exact ⟨rfl, rfl⟩))
    (fun os started H enc _ => lifted os started H enc)

theorem proved : Rows.DiskKeepsSaid := over
#print axioms proved
end Go.Proofs.Ytgkoblgpadpcjaa.diskKeeps
