/- Units appended behind one. -/
import Derived.Test.YtobdjfibaemmhaaGp
namespace Go.Proofs.Ytobdjfibaemmhaa
open Go.RowKit Go.Maps Go.Lib

theorem Try.infoUnit : (Try.prog.info? 45).map (fun i => (i.zero, i.size, i.bytes)) = some (some zero45, 8, 168) := by kernel_rfl
theorem zc45 : zero45.cells.size = 8 := by kernel_rfl
theorem UnitsIn.rows {w : World} {v : Value} {us : List Un} (h : UnitsIn w v us) :
    ∃ (a : Option Addr) (cap : Nat) (Rs : List (List Value)), v = .slice a us.length cap ∧ Rs.length = us.length ∧ (∀ R ∈ Rs, R.length = 8 ∧ ∀ u ∈ R, u.oneCell' = true) ∧ (∀ i, (hi : i < us.length) → (h2 : i < Rs.length) → UnitIs w (.agg (Rs[i]).toArray) us[i]) ∧
      ∀ i, (hi : i < us.length) → ∃ b o, a = some ⟨b, o, none⟩ ∧ ∀ j, j < Rs.flatten.length → w.cell? ⟨b, o + j, none⟩ = Rs.flatten[j]? := by
  obtain ⟨a, cap, rfl, hl, hm, hc⟩ := h
  have hp : ∀ i : Fin us.length, ∃ R : List Value, UnitIs w (.agg R.toArray) us[i] ∧ ∃ b o, a = some ⟨b, o, none⟩ ∧ w.rangeAt b (o + i * 8) R := fun i => by
    obtain ⟨b, o, R, e, h1, h2⟩ := hc i i.2
    exact ⟨R.toList, by simpa using h1, b, o, e, h2⟩
  let Rs := List.ofFn fun i : Fin us.length => Classical.choose (hp i)
  have hRl : Rs.length = us.length := by simp [Rs]
  have hget : ∀ i, (hi : i < us.length) → (h2 : i < Rs.length) → UnitIs w (.agg (Rs[i]).toArray) us[i] ∧ ∃ b o, a = some ⟨b, o, none⟩ ∧ w.rangeAt b (o + i * 8) Rs[i] := fun i hi h2 => by
    have := Classical.choose_spec (hp ⟨i, hi⟩)
    simpa [Rs] using this
  have h8 : ∀ R ∈ Rs, R.length = 8 ∧ ∀ u ∈ R, u.oneCell' = true := fun R hR => by
    obtain ⟨i, hi, rfl⟩ := List.getElem_of_mem hR
    obtain ⟨h1, -⟩ := hget i (by omega) hi
    obtain ⟨R', e, h3, h4⟩ := h1.cells
    cases e
    refine ⟨by simpa using h3, fun u hu => ?_⟩
    rw [Array.all_eq_true_iff_forall_mem] at h4
    exact h4 u (by simpa using hu)
  refine ⟨a, cap, Rs, rfl, hRl, h8, fun i hi h2 => (hget i hi h2).1, fun i hi => ?_⟩
  obtain ⟨-, b, o, e, -⟩ := hget i hi (by omega)
  refine ⟨b, o, e, fun j hj => ?_⟩
  have hfl : Rs.flatten.length = us.length * 8 := by
    rw [List.length_flatten, ← hRl]
    have : ∀ (l : List (List Value)), (∀ R ∈ l, R.length = 8) → (l.map List.length).sum = l.length * 8 := by
      intro l
      induction l with
      | nil => intro _; rfl
      | cons R r ih => intro h; rw [List.map_cons, List.sum_cons, ih (fun R hR => h R (by simp [hR])), h R (by simp), List.length_cons]; omega
    exact this Rs fun R hR => (h8 R hR).1
  have hdiv : j = (j / 8) * 8 + j % 8 := by omega
  have hlt : j / 8 < us.length := by omega
  obtain ⟨-, b', o', e', hr⟩ := hget (j / 8) hlt (by omega)
  rw [e] at e'
  cases e'
  have h1 := flat8 (fun R hR => (h8 R hR).1) (j / 8) (j % 8) (by omega) (by omega)
  rw [← hdiv] at h1
  have h3 : (j % 8) < (Rs[j / 8]'(by omega)).length := by rw [(h8 _ (List.getElem_mem _)).1]; omega
  have h2 := hr (j % 8) _ (List.getElem?_eq_getElem h3)
  rw [h1, List.getElem?_eq_getElem h3, ← h2]
  congr 2
  omega
/-- A slice of nothing has no room. -/
def NilOk (v : Value) : Prop := ∀ n c, v = .slice none n c → c = 0
theorem run_cons_units {w : World} {R : Array Value} {x : Un} {u : Value} {us : List Un} (hx : UnitIs w (.agg R) x) (hu : UnitsIn w u us) (hnz : NilOk u) (hlen : us.length ≤ 1000) (ty : TypeId) :
    ∃ v' w', (Builtin.append_ #[22, 22] ty #[.slice (some ⟨w.heap.size, 0, none⟩) 1 1, u]).run Try.prog (w.alloc (.cells R 45)) = .ok v' w' ∧ UnitsIn w' v' (x :: us) ∧ NilOk v' ∧ Ext w w' := by
  obtain ⟨a, cap, Rs, rfl, hRl, h8, hui, hcells⟩ := hu.rows
  obtain ⟨R', e, hR8, hR1⟩ := hx.cells
  cases e
  obtain ⟨i0, hi, hz0, hz1, hz2⟩ := info_parts Try.infoUnit
  have hown : (w.alloc (.cells R 45)).ownsRow w.heap.size 45 8 (.slice (some ⟨w.heap.size, 0, none⟩) 1 1) 1 R.toList := World.ownsRow_lit w R 1 (Nat.le_refl _) (by decide) (by omega)
  have hfl : Rs.flatten.length = us.length * 8 := by
    rw [List.length_flatten, ← hRl]
    have : ∀ (l : List (List Value)), (∀ R ∈ l, R.length = 8) → (l.map List.length).sum = l.length * 8 := by
      intro l
      induction l with
      | nil => intro _; rfl
      | cons R r ih => intro h; rw [List.map_cons, List.sum_cons, ih (fun R hR => h R (by simp [hR])), h R (by simp), List.length_cons]; omega
    exact this Rs fun R hR => (h8 R hR).1
  have hsrc : Src (w.alloc (.cells R 45)) (.slice a us.length cap) us.length Rs.flatten := by
    refine ⟨a, cap, rfl, fun ha => ?_, fun ad ha j y hj => ?_⟩
    · subst ha
      refine ⟨hnz _ _ rfl, ?_⟩
      cases hn : us.length with
      | zero => rfl
      | succ n =>
        obtain ⟨b, o, e, -⟩ := hcells 0 (by omega)
        cases e
    · have hj' := (List.getElem?_eq_some_iff.1 hj).1
      obtain ⟨b, o, e, hc⟩ := hcells 0 (by omega)
      rw [ha] at e
      cases e
      rw [Addr.add_lit]
      refine ((Ext.refl w).alloc _).cell ?_
      rw [hc j hj', hj]
  obtain ⟨v', w', hrun, ho, hg, -⟩ := run_append_src (P := Try.prog) (w.alloc (.cells R 45)) w.heap.size 22 ty 45 i0 _ 8 168 Try.underlying22 hi hz0 hz1 hz2 zc45 (by decide) _ 1 R.toList hown _ us.length Rs.flatten hfl hsrc (fun u hu => by
    obtain ⟨R2, h1, h2⟩ := List.mem_flatten.1 hu
    exact (h8 R2 h1).2 u h2) (by unfold maxLen; omega) (by omega) (by simp)
  have hext : Ext w w' := ((Ext.refl w).alloc _).grow hg fun k hk => by cases hk; exact Nat.le_refl _
  rcases ho.2 with ⟨-, h0⟩ | ⟨g, cap', cur, rfl, hb, hgc, hn, hm, hs, ht⟩
  · omega
  · refine ⟨_, w', hrun, ?_, (fun n c e => by cases e), hext⟩
    refine unitsIn_block (Rs := R.toList :: Rs) hgc (by simp [hRl]) (fun R2 h2 => ?_) ?_ (by simp; omega) hn (by unfold maxLen at hm; omega) (fun i hi => ?_)
    · rcases List.mem_cons.1 h2 with rfl | h2
      · simpa using hR8
      · exact (h8 R2 h2).1
    · rw [List.flatten_cons, ← ht, List.length_cons, Nat.add_comm us.length 1]
    · match i, hi with
      | 0, _ => exact hx.ext hext
      | i + 1, hi => exact (hui i (by simpa using hi) (by rw [hRl]; simpa using hi)).ext hext
theorem wpList_cons_units (w : World) {ops : Array Oper} {rest : List Oper} {o : Oper} {a : Act} {Q : Exit → Act → World → Prop}
    (hg : o.guard = none) (s x : Operand) (hop : o.op = Op.call { callee := Callee.builtin Builtin.append, args := #[s, x], argTypes := #[22, 22] })
    (R : Array Value) (y : Un) (u : Value) (us : List Un) (hs : a.eval s = .slice (some ⟨w.heap.size, 0, none⟩) 1 1) (hx : a.eval x = u) (hy : UnitIs w (.agg R) y) (hu : UnitsIn w u us) (hnz : NilOk u) (hlen : us.length ≤ 1000)
    (hK : ∀ v' w', UnitsIn w' v' (y :: us) → NilOk v' → Ext w w' → wpList Try.prog ops Q rest (a.put o.dst v') w') :
    wpList Try.prog ops Q (o :: rest) a (w.alloc (.cells R 45)) := by
  refine wpList_plain hg fun K hK' => ?_
  obtain ⟨v', w', hrun, r1, r2, r3⟩ := run_cons_units hy hu hnz hlen o.type
  unfold Oper.wp
  simp [execOp, hop, resolve, invoke, builtin, hs, hx, hrun, Result.andThen]
  exact hK' _ _ (hK _ _ r1 r2 r3)
end Go.Proofs.Ytobdjfibaemmhaa
