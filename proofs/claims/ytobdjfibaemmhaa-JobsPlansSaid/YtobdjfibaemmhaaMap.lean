/- Maps keyed by texts, whose values are read just as they are. -/
import Derived.Test.YtobdjfibaemmhaaFc
import Derived.Maps.OwnSet
namespace Go.Proofs.Ytobdjfibaemmhaa
open Go.RowKit Go.Maps Go.Lib

def heldV (v : Value) : Option (DataW Value × List MemPlace) := some (.held v, [])
def MapIs (w : World) (b n : Nat) (get : Str → Option Value) : Prop :=
  ∃ D : DataW Value, w.ownsMap Try.prog 9 heldV b n D ∧ ∀ k zd, D.atKey (.string k) zd = match get k with | some v => .held v | none => zd
theorem key9 : Keyed Try.prog 9 := string_keyed Try.underlying9
theorem keyOf9 {k : Str} (h : k.length ≤ maxLen) : keyOf Try.prog 9 (.string (ba k)) = some (.string k) := by
  simp [keyOf, Try.underlying9, mapKey, h]
  simp [ba]
theorem isKey9 (k : Str) : WideAt.IsKeyLit (.string k) := by simp [WideAt.IsKeyLit]
theorem MapIs.has {w : World} {D : DataW Value} {get : Str → Option Value} (h : ∀ k zd, D.atKey (.string k) zd = match get k with | some v => .held v | none => zd) (k : Str) : Maps.has D (.string k) = (get k).isSome := by
  cases hg : get k with
  | none => exact has_false_of_atKey fun z => by rw [h, hg]
  | some v => exact has_true_of_atKey (y := .held v) fun z => by rw [h, hg]
theorem MapIs.ext {w w' : World} {b n : Nat} {get : Str → Option Value} (h : MapIs w b n get) (x : Ext w w') : MapIs w' b n get := by
  obtain ⟨D, h1, h2⟩ := h
  exact ⟨D, x.map h1, h2⟩
theorem MapIs.grown {w w' : World} {b n : Nat} {get : Str → Option Value} {row : Option Nat} (h : MapIs w b n get) (g : w.grownBy w' row) (hr : row ≠ some b) : MapIs w' b n get := by
  obtain ⟨D, h1, h2⟩ := h
  exact ⟨D, h1.kept g (Ne.symm hr), h2⟩
theorem MapIs.lt {w : World} {b n : Nat} {get : Str → Option Value} (h : MapIs w b n get) : b < w.heap.size := by
  obtain ⟨D, h1, h2⟩ := h
  exact h1.lt
theorem MapIs.made (w : World) : MapIs (w.alloc (.map #[] 0)) w.heap.size 0 fun _ => none :=
  ⟨_, World.ownsMap_made w _ _ _, fun k zd => by simp [DataW.atKey]⟩
theorem MapIs.look {w : World} {b n : Nat} {get : Str → Option Value} (h : MapIs w b n get) {t e : TypeId} (ht : Try.prog.underlying t = some (.map 9 e)) {z : Value} (hz : (zeroValue e).run Try.prog w = .ok z w) {k : Str} (hk : k.length ≤ maxLen) :
    (Instr.lookup t (.map (some b)) (.string (ba k)) false).run Try.prog w = .ok ((get k).getD z) w := by
  obtain ⟨D, h1, h2⟩ := h
  obtain ⟨v, ps, hr, hv⟩ := h1.lookup key9 ht hz (zd := .held z) (zp := []) rfl (keyOf9 hk)
  have hv' : v = (get k).getD z := by
    rw [h2] at hv
    have h3 : DataW.held v = (match get k with | some v => .held v | none => .held z) := congrArg Prod.fst (Option.some.inj hv)
    cases hg : get k with
    | none => rw [hg] at h3; exact DataW.held.inj h3
    | some u => rw [hg] at h3; exact DataW.held.inj h3
  rw [hr, hv']
theorem MapIs.look_ok {w : World} {b n : Nat} {get : Str → Option Value} (h : MapIs w b n get) {t e : TypeId} (ht : Try.prog.underlying t = some (.map 9 e)) {z : Value} (hz : (zeroValue e).run Try.prog w = .ok z w) {k : Str} (hk : k.length ≤ maxLen) :
    (Instr.lookup t (.map (some b)) (.string (ba k)) true).run Try.prog w = .ok (.tuple #[(get k).getD z, .bool (get k).isSome]) w := by
  obtain ⟨D, h1, h2⟩ := h
  obtain ⟨v, ps, hr, hv⟩ := h1.look_ok key9 ht hz (zd := .held z) (zp := []) rfl (keyOf9 hk)
  have hv' : v = (get k).getD z := by
    rw [h2] at hv
    have h3 : DataW.held v = (match get k with | some v => .held v | none => .held z) := congrArg Prod.fst (Option.some.inj hv)
    cases hg : get k with
    | none => rw [hg] at h3; exact DataW.held.inj h3
    | some u => rw [hg] at h3; exact DataW.held.inj h3
  rw [hr, MapIs.has (w := w) h2 k, hv']
def putK (get : Str → Option Value) (k : Str) (v : Value) : Str → Option Value := fun x => if x = k then some v else get x
theorem MapIs.put {w : World} {b n : Nat} {get : Str → Option Value} (h : MapIs w b n get) {t e : TypeId} (ht : Try.prog.underlying t = some (.map 9 e)) (hn : n < maxLen) {k : Str} (hk : k.length ≤ maxLen) (v : Value) :
    ∃ w', (Instr.mapUpdate t (.map (some b)) (.string (ba k)) v).run Try.prog w = .ok () w' ∧ MapIs w' b (n + 1) (putK get k v) ∧ w.grownBy w' (some b) := by
  obtain ⟨D, h1, h2⟩ := h
  obtain ⟨w', hr, h3, h4⟩ := h1.update key9 ht hn (keyOf9 hk) (val := v) (d := .held v) (ps := []) rfl
  refine ⟨w', hr, ⟨_, h3, fun x zd => ?_⟩, h4⟩
  unfold putK
  by_cases hx : x = k
  · subst hx
    rw [if_pos rfl, atKey_put_same h1.isMap (isKey9 x)]
  · rw [if_neg hx, atKey_put_other (by simpa using hx), h2]
theorem wpList_put (w : World) {ops : Array Oper} {rest : List Oper} {o : Oper} {a : Act} {Q : Exit → Act → World → Prop}
    (hg : o.guard = none) (m x v : Operand) (t : TypeId) (hop : o.op = Op.mapUpdate t m x v) (e : TypeId) (ht : Try.prog.underlying t = some (.map 9 e)) (b n : Nat) (get : Str → Option Value) (hm : a.eval m = .map (some b)) (h : MapIs w b n get) (hn : n < maxLen)
    (k : Str) (hx : a.eval x = .string (ba k)) (hk : k.length ≤ maxLen) (val : Value) (hv : a.eval v = val)
    (hK : ∀ w', MapIs w' b (n + 1) (putK get k val) → w.grownBy w' (some b) → wpList Try.prog ops Q rest (a.put o.dst undef) w') :
    wpList Try.prog ops Q (o :: rest) a w := by
  refine wpList_plain hg fun K' hK' => ?_
  obtain ⟨w', hrun, r1, r2⟩ := h.put ht hn hk val
  unfold Oper.wp
  simp [execOp, hop, hm, hx, hv, hrun, Result.andThen]
  exact hK' _ _ (hK w' r1 r2)
/-- All keys of a map, sorted. -/
theorem MapIs.keys {w : World} {b n : Nat} {get : Str → Option Value} {D : DataW Value} (h1 : w.ownsMap Try.prog 9 heldV b n D) (h2 : ∀ k zd, D.atKey (.string k) zd = match get k with | some v => .held v | none => zd) {ks : List Str} (hnd : ks.Nodup) (hm : ∀ x, x ∈ ks ↔ (get x).isSome = true) :
    ks.Perm (strKeys D) ∧ Maps.size D = ks.length := by
  have hh := fun k => MapIs.has (w := w) h2 k
  obtain ⟨es, rfl, hk⟩ := h1.keysOf
  have ht := h1.tidy key9
  obtain ⟨es', e, hp⟩ := ht
  cases e
  have hs : ∀ p ∈ es, ∃ x, p.1 = .string x := fun p hp' => by
    obtain ⟨v, hv⟩ := hk p hp'
    obtain ⟨x, _, e, _⟩ := Maps.keyOf_str Try.underlying9 hv
    exact ⟨x, e⟩
  have hperm := perm_strKeys hp hs hnd (fun x => by rw [hm x, hh x])
  refine ⟨hperm, ?_⟩
  rw [hperm.length_eq]
  simp [strKeys, Maps.size]
theorem keys_units {w : World} {b n : Nat} {get : Str → Option Value} (h : MapIs w b n get) {ks : List Str} (hnd : ks.Nodup) (hm : ∀ x, x ∈ ks ↔ (get x).isSome = true) (hl : ks.length * 16 ≤ 140737488355328) :
    Calls Try.prog 41 #[.func (.func 59) #[] #[.pointer (some ⟨w.heap.size, 0, none⟩)]] (w.alloc (.cells #[.map (some b)] 54)) fun e w' => ∃ v, e = .returned v ∧ OwnS w' w.heap.size v (sortS ks) ∧ Ext w w' := by
  obtain ⟨D, h1, h2⟩ := h
  obtain ⟨k1, k2⟩ := MapIs.keys h1 h2 hnd hm
  refine (callsIn_wide.1 (Try.slices_Sorted_keys_41_42 b n D heldV w h1 (by rw [k2]; unfold maxLen; omega) (by rw [k2]; exact hl))).mono ?_
  rintro e w' ⟨v, ss, rfl, hp, ho, -, hb⟩
  have hx : Ext w w' := ((Ext.refl w).alloc _).trans hb
  refine ⟨v, rfl, ?_, hx⟩
  have e1 : sortS ks = ss.mergeSort fun x y => decide (x ≤ y) := sortS_eq (k1.trans hp.symm)
  rw [e1]
  unfold OwnS
  rw [List.length_mergeSort]
  exact own_base ho (by simp)
theorem keys_bools {w : World} {b n : Nat} {get : Str → Option Value} (h : MapIs w b n get) {ks : List Str} (hnd : ks.Nodup) (hm : ∀ x, x ∈ ks ↔ (get x).isSome = true) (hl : ks.length * 16 ≤ 140737488355328) :
    Calls Try.prog 41 #[.func (.func 60) #[] #[.pointer (some ⟨w.heap.size, 0, none⟩)]] (w.alloc (.cells #[.map (some b)] 74)) fun e w' => ∃ v, e = .returned v ∧ OwnS w' w.heap.size v (sortS ks) ∧ Ext w w' := by
  obtain ⟨D, h1, h2⟩ := h
  obtain ⟨k1, k2⟩ := MapIs.keys h1 h2 hnd hm
  refine (callsIn_wide.1 (Try.slices_Sorted_keys_41_45 b n D heldV w h1 (by rw [k2]; unfold maxLen; omega) (by rw [k2]; exact hl))).mono ?_
  rintro e w' ⟨v, ss, rfl, hp, ho, -, hb⟩
  have hx : Ext w w' := ((Ext.refl w).alloc _).trans hb
  refine ⟨v, rfl, ?_, hx⟩
  have e1 : sortS ks = ss.mergeSort fun x y => decide (x ≤ y) := sortS_eq (k1.trans hp.symm)
  rw [e1]
  unfold OwnS
  rw [List.length_mergeSort]
  exact own_base ho (by simp)
theorem keys42 (b : Nat) (W : World) : Calls Try.prog 42 #[.map (some b)] W fun e w' => e = .returned (.func (.func 59) #[] #[.pointer (some ⟨W.heap.size, 0, none⟩)]) ∧ w' = W.alloc (.cells #[.map (some b)] 54) := callsIn_wide.1 (Try.maps_Keys_42 (some b) W)
theorem keys45 (b : Nat) (W : World) : Calls Try.prog 45 #[.map (some b)] W fun e w' => e = .returned (.func (.func 60) #[] #[.pointer (some ⟨W.heap.size, 0, none⟩)]) ∧ w' = W.alloc (.cells #[.map (some b)] 74) := callsIn_wide.1 (Try.maps_Keys_45 (some b) W)
end Go.Proofs.Ytobdjfibaemmhaa
