/- LogAnews: written anew again and again, with the power going whenever, a log has one of its states, whole: whatever comes in, the call returns true. Conditions: none. -/
import Derived.Test.YtgkoblgpadpcjaaLogAnewsW
import Derived.ProofKit
import Derived.OpenShut
import Derived.ChangeOld
namespace Go.Proofs.Ytgkoblgpadpcjaa.logAnews
open Go.ChangeShapes Go.WideShapes Go.ChangeAt Go.RowKit
set_option linter.unusedVariables false

theorem own : ownKnob Try.prog.godebug = none := by kernel_rfl
theorem laidOut : laidOutB Try.prog = true := by kernel_rfl

theorem walk (times : List (List (List UInt8))) (tv : Value) (steps : List Int) (sv : Value) (keeps : Int) (w : World) (ht : ListAt 1 (CellRows w) tv times) (hs : ListAt 1 (CellInt w) sv steps) (w2 : (Lit.int .u64 keeps).wf = true) :
    Calls Try.prog 16 #[tv, sv, .int .u64 keeps] w fun e w' => e = .returned (.bool true) ∧ Below w.heap.size w w' := by
  have h2 : 0 ≤ keeps ∧ keeps ≤ 18446744073709551615 := by simpa [Lit.wf, IntKind.min, IntKind.max, IntKind.signed, IntKind.bits] using w2
  obtain ⟨k, rfl⟩ : ∃ k : Nat, keeps = (k : Int) := ⟨keeps.toNat, by omega⟩
  by_cases h : times.length ≤ 30
  · by_cases h1 : times.length ≤ steps.length
    · exact walk_main times tv steps sv k w ht hs h h1 (by omega)
    · exact walk_short times tv steps sv k w ht hs h (by omega)
  · exact walk_long times tv steps sv k w ht hs (by omega)

set_option maxRecDepth 100000 in
theorem lifted (os : Os) (started : os.Started) (H : Type) (enc : TypeId × Value → H) :
    ReturnsInHanded {} Try.checked os 16 .any (Rows.logAnewsSpec.pre6 enc Try.prog Try.f16 Rows.logAnewsRow.domain false) (Rows.logAnewsSpec.post enc Try.prog Try.f16 false true false false) := by
  refine returnsInHanded_of_change_sized (C := Try.checked) own started (by kernel_rfl) Try.func16
    (ChangeSpec.witness6 (enc := enc) (C := Try.checked) false ⟨#[], #[.slice none 0 0, .slice none 0 0, .int .u64 0], []⟩ 8 (by kernel_rfl) (by kernel_rfl) (by kernel_rfl) (by kernel_rfl)) ?_
  intro W base args ds gs before hval0 hW hcnd hsz _
  have hval : ∀ (j : Nat) t v, Try.f16.params[j]? = some t → args[j]? = some v → Value.okWide Try.prog W .any base t v := hval0
  have hW' := hW
  obtain ⟨p, q, hA0, hV, rfl, hfz, hnd⟩ := hW
  have hA : DataW.TrodAll enc Try.prog W 0 (fun _ => true) true Try.f16.params.toList args.toList ds p := hA0
  rw [Try.params16] at hA hval hsz
  obtain ⟨v0, vs0, d0, ds0, p0, q0, hargs, rfl, rfl, h0, r0⟩ := trodAll_cons hA
  obtain ⟨v1, vs1, d1, ds1, p1, q1, rfl, rfl, rfl, h1, r1⟩ := trodAll_cons r0
  obtain ⟨v2, vs2, d2, ds2, p2, q2, rfl, rfl, rfl, h2, r2⟩ := trodAll_cons r1
  obtain ⟨rfl, rfl, rfl⟩ := trodAll_nil r2
  obtain rfl : args = #[v0, v1, v2] := by cases args; simp_all
  obtain ⟨rfl, rfl⟩ := trodVars_none hV
  obtain ⟨a2, rfl, rfl, rfl, w2⟩ := open_int Try.underlying56 (hval 2 56 v2 rfl rfl) h2
  have k0 := h0
  have lt0 : ∀ x ∈ p0, x.block < W.heap.size := by obtain ⟨m, hm⟩ := k0; exact DataW.trod_lt m _ _ _ hm
  have k1 := h1
  have lt1 : ∀ x ∈ p1, x.block < W.heap.size := by obtain ⟨m, hm⟩ := k1; exact DataW.trod_lt m _ _ _ hm
  obtain ⟨a0, len0, cap0, rfl⟩ := okWide_slice Try.underlying102 (hval 0 102 v0 rfl rfl)
  obtain ⟨a1, len1, cap1, rfl⟩ := okWide_slice Try.underlying103 (hval 1 103 v1 rfl rfl)
  obtain ⟨l0, hp0⟩ : ∃ l, ListAt 1 (CellRows W) (.slice a0 len0 cap0) l := by
    obtain ⟨fuel, hf⟩ := h0
    obtain ⟨v, l, hv, hp⟩ := open_rowss hf (Within.of hsz 0 102 d0 rfl rfl)
    simp [Value.cells] at hv
    subst hv
    exact ⟨l, hp⟩
  obtain ⟨l1, hp1⟩ : ∃ l, ListAt 1 (CellInt W) (.slice a1 len1 cap1) l := by
    obtain ⟨fuel, hf⟩ := h1
    obtain ⟨v, l, hv, hp⟩ := open_ints' hf (Within.of hsz 1 103 d1 rfl rfl)
    simp [Value.cells] at hv
    subst hv
    exact ⟨l, hp⟩
  clear hA0 hval0
  refine (walk l0 _ l1 _ a2 W hp0 hp1 w2).mono fun e W' ⟨he, bel⟩ => ?_
  subst he
  exact ⟨_, rfl, _, _, _, [], _, [], hW', trodAll_mk1 (shut_bool Try.underlying4 _), (trodAll_cons_mk (Below.trod laidOut (by kernel_rfl) (of_decide_eq_true (by kernel_rfl)) k0 bel lt0) (trodAll_cons_mk (Below.trod laidOut (by kernel_rfl) (of_decide_eq_true (by kernel_rfl)) k1 bel lt1) (trodAll_cons_mk (shut_int Try.underlying56 w2) trodAll_mk0))), rfl, bel.frame _, fun h => by cases h⟩

theorem over : Rows.logAnewsRow.holds Try.pinned (OpenSpec.ofChange Rows.logAnewsSpec) :=
  OpenClaim.holds_of_wide 16 Try.f16 rfl rfl rfl rfl rfl rfl rfl ⟨rfl, rfl, rfl, rfl, rfl⟩ rfl rfl rfl rfl rfl (by kernel_rfl) Try.func16 (by kernel_rfl)
    (of_decide_eq_true (by kernel_rfl)) (by unfold Func.isWrapper; first | (rw [if_pos (by decide +kernel)]; kernel_rfl) | (rw [if_neg (by decide +kernel)]; exact ⟨rfl, rfl⟩))
    (fun os started H enc _ => lifted os started H enc)

theorem proved : Rows.LogAnewsSaid := over
#print axioms proved
end Go.Proofs.Ytgkoblgpadpcjaa.logAnews
