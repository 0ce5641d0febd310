/- A part of the proof of WholeUsers. -/
import Derived.Maps.OwnSet
import Derived.Maps.RangeWalk
import Derived.Shelf.SlMaps.Clone
import Derived.WalkSpells
import Derived.Test.YtgnjjfdfoibdiaaGreatDoorUae
import Derived.Test.YtgnjjfdfoibdiaaGreatDoorUai
set_option linter.all false
namespace Go.Proofs.YtgnjjfdfoibdiaaGreatDoor
section
open Go.RowKit Go.Maps
set_option maxRecDepth 100000
def tagOf : Obj → Nat
 | .cells _ t _ => t + 2
 | .map _ _ => 0
 | _ => 1
structure Mut (B : Nat) (T : List Nat) (w w' : World) : Prop where
 os : w'.os = w.os
 tape : w'.tape = w.tape
 output : w'.output = w.output
 size : w.heap.size ≤ w'.heap.size
 block : ∀ k o, w.heap[k]? = some o → (k < B ∨ tagOf o ∉ T) → w'.heap[k]? = some o
section
variable {B B' : Nat} {T T' : List Nat} {a b c : World}
theorem Mut.refl (B : Nat) (T : List Nat) (a : World) : Mut B T a a := ⟨rfl, rfl, rfl, Nat.le_refl _, fun _ _ h _ => h⟩
theorem Mut.trans (h : Mut B T a b) (k : Mut B T b c) : Mut B T a c :=
 ⟨k.os.trans h.os, k.tape.trans h.tape, k.output.trans h.output, Nat.le_trans h.size k.size, fun i o hi ht => k.block i o (h.block i o hi ht) ht⟩
theorem Mut.weak (h : Mut B T a b) (hB : B' ≤ B) (hT : ∀ t ∈ T, t ∈ T') : Mut B' T' a b :=
 ⟨h.os, h.tape, h.output, h.size, fun i o hi ht => h.block i o hi (ht.imp (fun h => by omega) fun h1 h2 => h1 (hT _ h2))⟩
theorem Ext.mut (h : Ext a b) : Mut B T a b := ⟨h.os, h.tape, h.output, h.size, fun _ _ hi _ => h.get hi⟩
theorem Mut.below (h : Mut B T a b) (hB : B ≤ a.heap.size) : Below B a b :=
 ⟨h.os, h.tape, h.output, h.size, fun k hk => by
  obtain ⟨o, ho⟩ : ∃ o, a.heap[k]? = some o := ⟨_, Array.getElem?_eq_getElem (show k < a.heap.size by omega)⟩
  rw [ho]
  exact h.block k o ho (.inl hk)⟩
theorem Mut.alloc (h : Mut B T a b) (o : Obj) : Mut B T a (b.alloc o) := h.trans ((xr b).alloc o).mut
theorem Ext.then_mut (x : Ext a b) (h : Mut B T b c) (hB : a.heap.size ≤ B) : Ext a c :=
 ⟨h.os.trans x.os, h.tape.trans x.tape, h.output.trans x.output, Nat.le_trans x.size h.size, fun k hk => by
  obtain ⟨o, ho⟩ : ∃ o, a.heap[k]? = some o := ⟨_, Array.getElem?_eq_getElem hk⟩
  rw [ho]
  exact h.block k o (x.get ho) (.inl (by omega))⟩
theorem zAi (b : World) {g i : Nat} {cs : Array Value} {t : TypeId} {fz : Nat × Nat} (hg : b.heap[g]? = some (.cells cs t fz)) (u : Value) (ht : t + 2 ∈ T) (hB : B ≤ g) : Mut B T b (b.setCell ⟨g, i, none⟩ u) :=
 ⟨rfl, rfl, rfl, by simp [World.setCell], fun k o hk hn => by
  have hkg : k ≠ g := by
   rintro rfl;rw [hg] at hk;cases hk
   rcases hn with h | h
   ·omega
   ·exact h ht
  exact (Below.heap_setCell b _ u k hkg).trans hk⟩
theorem Mut.set (h : Mut B T a b) {g i : Nat} {cs : Array Value} {t : TypeId} {fz : Nat × Nat} (hg : b.heap[g]? = some (.cells cs t fz)) (u : Value) (ht : t + 2 ∈ T) (hB : B ≤ g) : Mut B T a (b.setCell ⟨g, i, none⟩ u) :=
 h.trans (zAi b hg u ht hB)
theorem Mut.grow (h : Mut B T a b) {row : Option Nat} (g : b.grownBy c row) (hr : ∀ k, row = some k → B ≤ k ∧ ∀ o, b.heap[k]? = some o → tagOf o ∈ T) : Mut B T a c :=
 h.trans ⟨g.os, g.tape, g.output, g.size, fun k o hk hn => by
  refine (g.block k (Array.getElem?_eq_some_iff.1 hk).1 fun e => ?_).trans hk;obtain ⟨h1, h2⟩ := hr k e.symm
  rcases hn with h | h
  ·omega
  ·exact h (h2 o hk)⟩
theorem Mut.get (h : Mut B T a b) {k : Nat} {cs : Array Value} {t : TypeId} {fz : Nat × Nat} (hk : a.heap[k]? = some (.cells cs t fz)) (ht : t + 2 ∉ T := by decide) : b.heap[k]? = some (.cells cs t fz) := h.block k _ hk (.inr ht)
theorem Mut.own {base e s n : Nat} {v : Value} {xs : List Value} (h : Mut B T a b) (o : a.ownsRow base e s v n xs) (ht : e + 2 ∉ T := by decide) : b.ownsRow base e s v n xs := by
 refine ⟨o.1, o.2.imp id ?_⟩;rintro ⟨g, cap, cur, rfl, h1, h2, h3⟩;exact ⟨g, cap, cur, rfl, h1, h.get h2 ht, h3⟩
theorem Mut.map {H : Type} (h : Mut B T a b) {P : Program} {k : TypeId} {R : Value → Option (DataW H × List MemPlace)} {g n : Nat} {D : DataW H} (hm : a.ownsMap P k R g n D) (h0 : g < B ∨ 0 ∉ T) : b.ownsMap P k R g n D := by
 obtain ⟨es, clock, hb, F, hs, hD⟩ := hm;exact ⟨es, clock, h.block g _ hb h0, F, hs, hD⟩
end
def zCk : List Nat := [151, 290, 213, 25, 293]
theorem LOnly.mut {base g kb l : Nat} {lv : Value} {D : Dk} {L : Lg} {w w' : World} (h : LogAt base w g kb l lv D L) (o : LOnly base g kb l lv.ownBlock w w') : Mut base zCk w w' := by
 obtain ⟨cv, d⟩ := h.disk
 have hr : ∀ q, lv.ownBlock = some q → ∃ cs fz, w.heap[q]? = some (.cells cs 23 fz) := by
  intro q hq;obtain ⟨vs, h1, -⟩ := h.rows
  rcases h1.2 with ⟨rfl, _⟩ | ⟨g', cap, cur, rfl, _, hh, _⟩
  ·cases hq
  ·cases hq; exact ⟨cur, _, hh⟩
 refine ⟨o.os, o.tape, o.output, o.size, fun k ob hk hn => ?_⟩;have hlt : k < w.heap.size := (Array.getElem?_eq_some_iff.1 hk).1
 have key : ∀ {cs : Array Value} {t : TypeId} {fz : Nat × Nat}, w.heap[k]? = some (.cells cs t fz) → t + 2 ∈ zCk → base ≤ k → False := by
  intro cs t fz hh ht hb;rw [hk] at hh;cases hh
  rcases hn with h | h
  ·omega
  ·exact h ht
 refine (o.block k hlt ?_ ?_ ?_ ?_ ?_).trans hk
 ·rintro rfl; exact key d.blk (by decide) d.hg
 ·rintro rfl; exact key d.row (by decide) d.hk
 ·rintro rfl; exact key h.blk (by decide) h.hl
 ·intro e;obtain ⟨cs, fz, hh⟩ := hr k e.symm;refine key hh (by decide) ?_;obtain ⟨vs, h1, -⟩ := h.rows;exact (h1.lt k e.symm).1
 ·by_cases hb : k < base
  ·exact .inl hb
  ·exact .inr fun cs fz hh => key hh (by decide) (by omega)
end
section
open Go.RowKit Go.Maps Go.Lib
set_option maxRecDepth 100000
structure KeyS (α : Type) [DecidableEq α] (k : TypeId) where
 enc : α → Value
 lit : α → Lit
 ok : α → Prop
 keyed : Keyed Tryz.prog k
 key : ∀ {x}, ok x → keyOf Tryz.prog k (enc x) = some (lit x)
 isKey : ∀ x, WideAt.IsKeyLit (lit x)
 inv : ∀ {v l}, keyOf Tryz.prog k v = some l → ∃ x, v = enc x ∧ l = lit x ∧ ok x
 inj : ∀ {x y}, lit x = lit y → x = y
 encInj : ∀ {x y}, enc x = enc y → x = y
 same : ∀ x y, (lit x).sameKey (lit y) = decide (x = y)
theorem zBy : Tryz.prog.underlying 9 = some .string := by kernel_rfl
theorem zDx : Tryz.prog.underlying 3 = some (.int .i64) := by kernel_rfl
def strK : KeyS Str 9 where
 enc k := .string (ba k)
 lit k := .string k
 ok k := k.length ≤ maxLen
 keyed := string_keyed zBy
 key := fun {k} h => by
  have h2 : (ba k).size ≤ maxLen := h
  first | (simp [keyOf, zBy, mapKey, h2]; simp [ba]; done) | (simp [keyOf, zBy, mapKey]; exact if_pos h) | (simp [keyOf, zBy, mapKey, h2]; exact if_pos h)
 isKey k := by simp [WideAt.IsKeyLit]
 inv := fun {v l} h => by
  obtain ⟨x, e, rfl, hl⟩ := Maps.keyOf_str zBy h;exact ⟨x, e, rfl, hl⟩
 inj := fun h => by cases h; rfl
 encInj := fun h => by
  have := congrArg (fun v : Value => match v with | .string b => b.data.toList | _ => []) h;simpa [ba] using this
 same x y := by
  by_cases h : x = y
  ·simp [Lit.sameKey, h]
  ·simp [Lit.sameKey, h]
def intK : KeyS Int 3 where
 enc x := .int .i64 x
 lit x := .int .i64 x
 ok x := (Lit.int .i64 x).wf = true
 keyed := int_keyed zDx
 key := fun {k} h => keyOf_int_mk zDx h
 isKey k := by simp [WideAt.IsKeyLit]
 inv := fun {v l} h => by
  obtain ⟨x, e, rfl, hl⟩ := Maps.keyOf_int_inv zDx h;exact ⟨x, e, rfl, hl⟩
 inj := fun h => by cases h; rfl
 encInj := fun h => by cases h; rfl
 same x y := by simp [Lit.sameKey]
theorem zMy {x : Int} (h0 : 0 ≤ x) (h1 : x ≤ 9223372036854775807) : intK.ok x := by
 show (Lit.int .i64 x).wf = true;have h2 : IntKind.i64.min = -9223372036854775808 := by decide
 have h3 : IntKind.i64.max = 9223372036854775807 := by decide
 simp [Lit.wf, h2, h3];omega
def zN8 (v : Value) : Option (DataW Value × List MemPlace) := some (.held v, [])
section
variable {α : Type} [DecidableEq α] {k : TypeId}
def Reads (S : KeyS α k) (D : DataW Value) (get : α → Option Value) : Prop := ∀ x zd, D.atKey (S.lit x) zd = match get x with | some v => .held v | none => zd
def MapK (S : KeyS α k) (w : World) (b n : Nat) (get : α → Option Value) : Prop :=
 ∃ D : DataW Value, w.ownsMap Tryz.prog k zN8 b n D ∧ Reads S D get
variable {S : KeyS α k} {w w' : World} {b n : Nat} {get : α → Option Value}
theorem Reads.has {D : DataW Value} (h : Reads S D get) (x : α) : Maps.has D (S.lit x) = (get x).isSome := by
 cases hg : get x with
 | none => exact has_false_of_atKey fun z => by rw [h, hg]
 | some v => exact has_true_of_atKey (y := .held v) fun z => by rw [h, hg]
theorem MapK.mono (h : MapK S w b n get) {m : Nat} (hm : n ≤ m) : MapK S w b m get := by
 obtain ⟨D, h1, h2⟩ := h;exact ⟨D, h1.mono hm, h2⟩
theorem MapK.congr (h : MapK S w b n get) {get' : α → Option Value} (e : ∀ x, get x = get' x) : MapK S w b n get' := by
 rw [show get' = get from funext fun x => (e x).symm]; exact h
theorem MapK.ext (h : MapK S w b n get) (x : Ext w w') : MapK S w' b n get := by
 obtain ⟨D, h1, h2⟩ := h;exact ⟨D, x.map h1, h2⟩
theorem MapK.mut {B : Nat} {T : List Nat} (h : MapK S w b n get) (x : Mut B T w w') (h0 : b < B ∨ 0 ∉ T := by decide) : MapK S w' b n get := by
 obtain ⟨D, h1, h2⟩ := h;exact ⟨D, x.map h1 h0, h2⟩
theorem MapK.grown {row : Option Nat} (h : MapK S w b n get) (g : w.grownBy w' row) (hr : row ≠ some b) : MapK S w' b n get := by
 obtain ⟨D, h1, h2⟩ := h;exact ⟨D, h1.kept g (Ne.symm hr), h2⟩
theorem MapK.lt (h : MapK S w b n get) : b < w.heap.size := by
 obtain ⟨D, h1, h2⟩ := h;exact h1.lt
theorem MapK.tag (h : MapK S w b n get) : ∃ o, w.heap[b]? = some o ∧ tagOf o = 0 := by
 obtain ⟨D, ⟨es, clock, hb, -⟩, -⟩ := h;exact ⟨_, hb, rfl⟩
theorem MapK.made (S : KeyS α k) (w : World) : MapK S (w.alloc (.map #[] 0)) w.heap.size 0 fun _ => none :=
 ⟨_, World.ownsMap_made w _ _ _, fun k zd => by simp [DataW.atKey]⟩
theorem MapK.setCell (h : MapK S w b n get) {a : Addr} (ha : b ≠ a.block) (u : Value) : MapK S (w.setCell a u) b n get := by
 obtain ⟨D, h1, h2⟩ := h;exact ⟨D, h1.setCell ha u, h2⟩
theorem MapK.look (h : MapK S w b n get) {t e : TypeId} (ht : Tryz.prog.underlying t = some (.map k e)) {z : Value} (hz : (zeroValue e).run Tryz.prog w = .ok z w) {x : α} (hx : S.ok x) :
  (Instr.lookup t (.map (some b)) (S.enc x) false).run Tryz.prog w = .ok ((get x).getD z) w := by
 obtain ⟨D, h1, h2⟩ := h;obtain ⟨v, ps, hr, hv⟩ := h1.lookup S.keyed ht hz (zd := .held z) (zp := []) rfl (S.key hx)
 have hv' : v = (get x).getD z := by
  rw [h2] at hv;have h3 : DataW.held v = (match get x with | some v => .held v | none => .held z) := congrArg Prod.fst (Option.some.inj hv)
  cases hg : get x with
  | none => rw [hg] at h3; exact DataW.held.inj h3
  | some u => rw [hg] at h3; exact DataW.held.inj h3
 rw [hr, hv']
theorem MapK.look_ok (h : MapK S w b n get) {t e : TypeId} (ht : Tryz.prog.underlying t = some (.map k e)) {z : Value} (hz : (zeroValue e).run Tryz.prog w = .ok z w) {x : α} (hx : S.ok x) :
  (Instr.lookup t (.map (some b)) (S.enc x) true).run Tryz.prog w = .ok (.tuple #[(get x).getD z, .bool (get x).isSome]) w := by
 obtain ⟨D, h1, h2⟩ := h;obtain ⟨v, ps, hr, hv⟩ := h1.look_ok S.keyed ht hz (zd := .held z) (zp := []) rfl (S.key hx)
 have hv' : v = (get x).getD z := by
  rw [h2] at hv;have h3 : DataW.held v = (match get x with | some v => .held v | none => .held z) := congrArg Prod.fst (Option.some.inj hv)
  cases hg : get x with
  | none => rw [hg] at h3; exact DataW.held.inj h3
  | some u => rw [hg] at h3; exact DataW.held.inj h3
 rw [hr, h2.has x, hv']
def putK (get : α → Option Value) (x : α) (v : Value) : α → Option Value := fun y => if y = x then some v else get y
def delK (get : α → Option Value) (x : α) : α → Option Value := fun y => if y = x then none else get y
theorem MapK.put (h : MapK S w b n get) {t e : TypeId} (ht : Tryz.prog.underlying t = some (.map k e)) (hn : n < maxLen) {x : α} (hx : S.ok x) (v : Value) :
  ∃ w', (Instr.mapUpdate t (.map (some b)) (S.enc x) v).run Tryz.prog w = .ok () w' ∧ MapK S w' b (n + 1) (putK get x v) ∧ w.grownBy w' (some b) ∧ w'.heap.size = w.heap.size := by
 obtain ⟨D, h1, h2⟩ := h;obtain ⟨w', hr, h3, h4⟩ := h1.store S.keyed ht hn (S.key hx) (val := v) (d := .held v) (ps := []) rfl
 have hsz : w'.heap.size = w.heap.size := by
  obtain ⟨es, clock, es', clock', hb, rfl⟩ := h4;simp [Go.ChangeMaps.setBlock]
 refine ⟨w', hr, ⟨_, h3, fun y zd => ?_⟩, h4.grown, hsz⟩;unfold putK
 by_cases hy : y = x
 ·subst hy;rw [if_pos rfl, atKey_put_same h1.isMap (S.isKey y)]
 ·rw [if_neg hy, atKey_put_other (fun e => hy (S.inj e)), h2]
theorem MapK.drop (h : MapK S w b n get) {t e : TypeId} (ht : Tryz.prog.underlying t = some (.map k e)) {x : α} (hx : S.ok x) (ty : TypeId) :
  ∃ w', (Builtin.delete_ #[t, k] ty #[.map (some b), S.enc x]).run Tryz.prog w = .ok (.tuple #[]) w' ∧ MapK S w' b n (delK get x) ∧ w.grownBy w' (some b) ∧ w'.heap.size = w.heap.size := by
 obtain ⟨D, h1, h2⟩ := h;obtain ⟨w', hr, h3, h4⟩ := h1.drop S.keyed ht (S.key hx) ty
 have hsz : w'.heap.size = w.heap.size := by
  obtain ⟨es, clock, es', clock', hb, rfl⟩ := h4;simp [Go.ChangeMaps.setBlock]
 refine ⟨w', hr, ⟨_, h3, fun y zd => ?_⟩, h4.grown, hsz⟩;unfold delK
 by_cases hy : y = x
 ·subst hy;rw [if_pos rfl, atKey_del_same]
 ·rw [if_neg hy, atKey_del_other (fun e => hy (S.inj e)), h2]
theorem MapK.len (h : MapK S w b n get) {t e : TypeId} (ht : Tryz.prog.underlying t = some (.map k e)) (ty : TypeId) : ∃ m : Nat, m ≤ n ∧ (Builtin.len_ #[t] ty #[.map (some b)]).run Tryz.prog w = .ok (.int .i64 m) w := by
 obtain ⟨D, h1, h2⟩ := h;exact ⟨Maps.size D, h1.size_le, h1.len ht ty⟩
theorem zMe (w : World) {ops : Array Oper} {rest : List Oper} {o : Oper} {a : Act} {Q : Exit → Act → World → Prop}
  (hg : o.guard = none) (m x v : Operand) (t : TypeId) (hop : o.op = Op.mapUpdate t m x v) (e : TypeId) (ht : Tryz.prog.underlying t = some (.map k e)) (S : KeyS α k) (b n : Nat) (get : α → Option Value) (hm : a.eval m = .map (some b)) (h : MapK S w b n get) (hn : n < maxLen)
  (y : α) (hx : a.eval x = S.enc y) (hk : S.ok y) (val : Value) (hv : a.eval v = val)
  (hK : ∀ w', MapK S w' b (n + 1) (putK get y val) → w.grownBy w' (some b) → w'.heap.size = w.heap.size → wpList Tryz.prog ops Q rest (a.put o.dst undef) w') :
  wpList Tryz.prog ops Q (o :: rest) a w := by
 refine wpList_plain hg fun K' hK' => ?_
 obtain ⟨w', hrun, r1, r2, r3⟩ := h.put ht hn hk val;unfold Oper.wp;simp [execOp, hop, hm, hx, hv, hrun, Result.andThen];exact hK' _ _ (hK w' r1 r2 r3)
theorem zKy (w : World) {ops : Array Oper} {rest : List Oper} {o : Oper} {a : Act} {Q : Exit → Act → World → Prop}
  (hg : o.guard = none) (m x : Operand) (t : TypeId) (hop : o.op = Op.call { callee := Callee.builtin Builtin.delete, args := #[m, x], argTypes := #[t, k] }) (e : TypeId) (ht : Tryz.prog.underlying t = some (.map k e)) (S : KeyS α k) (b n : Nat) (get : α → Option Value) (hm : a.eval m = .map (some b)) (h : MapK S w b n get)
  (y : α) (hx : a.eval x = S.enc y) (hk : S.ok y)
  (hK : ∀ w', MapK S w' b n (delK get y) → w.grownBy w' (some b) → w'.heap.size = w.heap.size → wpList Tryz.prog ops Q rest (a.put o.dst (.tuple #[])) w') :
  wpList Tryz.prog ops Q (o :: rest) a w := by
 refine wpList_plain hg fun K' hK' => ?_
 obtain ⟨w', hrun, r1, r2, r3⟩ := h.drop ht hk o.type;unfold Oper.wp;simp [execOp, hop, resolve, invoke, builtin, hm, hx, hrun, Result.andThen];exact hK' _ _ (hK w' r1 r2 r3)
def RngK (S : KeyS α k) (w : World) (b r n : Nat) (get : α → Option Value) (left : α → Bool) (cnt : Nat) : Prop :=
 ∃ (D : DataW Value) (L : Lit → Bool), w.ranges Tryz.prog k zN8 b r n D L cnt ∧ Reads S D get ∧ ∀ x, L (S.lit x) = left x
variable {r cnt : Nat} {left : α → Bool}
theorem RngK.kept {row : Option Nat} (h : RngK S w b r n get left cnt) (g : w.grownBy w' row) (h1 : some b ≠ row) (h2 : some r ≠ row) : RngK S w' b r n get left cnt := by
 obtain ⟨D, L, h3, h4, h5⟩ := h;exact ⟨D, L, h3.kept g h1 h2, h4, h5⟩
theorem zHk {a b : World} (h : Ext a b) : a.grownBy b none := ⟨h.os, h.tape, h.output, h.size, fun k hk _ => h.block k hk⟩
theorem RngK.ext (h : RngK S w b r n get left cnt) (x : Ext w w') : RngK S w' b r n get left cnt := h.kept (zHk x) (by simp) (by simp)
theorem RngK.left_eq (h : RngK S w b r n get left cnt) : w.rangeLeft b r = cnt := by
 obtain ⟨D, L, h3, -⟩ := h;exact h3.left_eq
theorem RngK.lt (h : RngK S w b r n get left cnt) : r < w.heap.size := by
 obtain ⟨D, L, h3, -⟩ := h;exact h3.lt
theorem zCq (w : World) {ops : Array Oper} {rest : List Oper} {o : Oper} {a : Act} {Q : Exit → Act → World → Prop}
  (hg : o.guard = none) (m : Operand) (t : TypeId) (hop : o.op = Op.range t m) (e : TypeId) (ht : Tryz.prog.underlying t = some (.map k e)) (S : KeyS α k) (b n : Nat) (get : α → Option Value) (hm : a.eval m = .map (some b)) (h : MapK S w b n get)
  (hK : ∀ w' cnt, RngK S w' b w.heap.size n get (fun x => (get x).isSome) cnt → Ext w w' → w'.heap.size = w.heap.size + 1 → wpList Tryz.prog ops Q rest (a.put o.dst (.pointer (some ⟨w.heap.size, 0, none⟩))) w') :
  wpList Tryz.prog ops Q (o :: rest) a w := by
 obtain ⟨D, h1, h2⟩ := h;refine wpList_range_own w hg m t hop k e S.keyed ht zN8 b n D hm h1 fun w' r1 r2 r3 => hK w' _ ⟨D, _, r1, h2, fun x => h2.has x⟩ (grown_ext r2 (fun k hk => by cases hk)) r3
theorem zKx (w : World) {ops : Array Oper} {rest : List Oper} {o : Oper} {a : Act} {Q : Exit → Act → World → Prop}
  (hg : o.guard = none) (it : Operand) (hop : o.op = Op.next it false) (S : KeyS α k) (b r n : Nat) (get : α → Option Value) (left : α → Bool) (cnt : Nat)
  (hit : a.eval it = .pointer (some ⟨r, 0, none⟩)) (h : RngK S w b r n get left cnt)
  (hDone : (∀ x, left x = false) → wpList Tryz.prog ops Q rest (a.put o.dst (.tuple #[.bool false])) w)
  (hMore : ∀ (x : α) (v : Value) (w' : World) (cnt' : Nat), S.ok x → left x = true → get x = some v → RngK S w' b r n get (fun z => left z && !decide (z = x)) cnt' → cnt' < cnt → w.grownBy w' (some r) → w'.heap.size = w.heap.size →
   (Instr.entry (.pointer (some ⟨r, 0, none⟩))).run Tryz.prog w' = .ok (.tuple #[S.enc x, v]) w' → wpList Tryz.prog ops Q rest (a.put o.dst (.tuple #[.bool true, S.enc x, v])) w') :
  wpList Tryz.prog ops Q (o :: rest) a w := by
 obtain ⟨D, L, h3, h4, h5⟩ := h;refine wpList_next_ranges w hg it hop k S.keyed zN8 S.enc id (fun key kl hk => by obtain ⟨x, hx, _⟩ := S.inv hk; exact ⟨x, hx⟩) (fun v y _ => ⟨v, rfl⟩) b r n D L cnt hit h3 (fun _ hl => hDone fun x => by rw [← h5]; exact hl _) ?_;intro x c kl y w' cnt' hkey hlk hv hat hrg hlt hgr hsz hen;obtain ⟨x', ex, rfl, hok⟩ := S.inv hkey;obtain rfl : x = x' := S.encInj ex
 have hc : get x = some c := by
  cases hv
  cases hgx : get x with
  | some v =>
    have := (h4 x (.held c)).symm.trans (hat _);rw [hgx] at this;cases this;rfl
  | none =>
    have := (h4 x (.map [])).symm.trans (hat _);rw [hgx] at this;cases this
 refine hMore x c w' cnt' hok (by rw [← h5]; exact hlk) hc ⟨D, _, hrg, h4, fun z => ?_⟩ hlt hgr hsz hen;simp only [h5, S.same]
end
theorem zG9 (w : World) {ops : Array Oper} {rest : List Oper} {o : Oper} {a : Act} {Q : Exit → Act → World → Prop}
  (hg : o.guard = none) (it : Operand) (hop : o.op = Op.next it false) (b r n : Nat) (get : Int → Option Value) (left : Int → Bool) (cnt : Nat)
  (hit : a.eval it = .pointer (some ⟨r, 0, none⟩)) (h : RngK intK w b r n get left cnt)
  (hDone : (∀ x, left x = false) → wpList Tryz.prog ops Q rest (a.put o.dst (.tuple #[.bool false])) w)
  (hMore : ∀ (x : Int) (v : Value) (w' : World) (cnt' : Nat), intK.ok x → left x = true → get x = some v → RngK intK w' b r n get (fun z => left z && !decide (z = x)) cnt' → cnt' < cnt → w.grownBy w' (some r) → w'.heap.size = w.heap.size →
   (Instr.entry (.pointer (some ⟨r, 0, none⟩))).run Tryz.prog w' = .ok (.tuple #[.int .i64 x, v]) w' → wpList Tryz.prog ops Q rest (a.put o.dst (.tuple #[.bool true, .int .i64 x, v])) w') :
  wpList Tryz.prog ops Q (o :: rest) a w := zKx w hg it hop intK b r n get left cnt hit h hDone hMore
theorem zG8 (w : World) {ops : Array Oper} {rest : List Oper} {o : Oper} {a : Act} {Q : Exit → Act → World → Prop}
  (hg : o.guard = none) (it : Operand) (hop : o.op = Op.next it false) (b r n : Nat) (get : Str → Option Value) (left : Str → Bool) (cnt : Nat)
  (hit : a.eval it = .pointer (some ⟨r, 0, none⟩)) (h : RngK strK w b r n get left cnt)
  (hDone : (∀ x, left x = false) → wpList Tryz.prog ops Q rest (a.put o.dst (.tuple #[.bool false])) w)
  (hMore : ∀ (x : Str) (v : Value) (w' : World) (cnt' : Nat), strK.ok x → left x = true → get x = some v → RngK strK w' b r n get (fun z => left z && !decide (z = x)) cnt' → cnt' < cnt → w.grownBy w' (some r) → w'.heap.size = w.heap.size →
   (Instr.entry (.pointer (some ⟨r, 0, none⟩))).run Tryz.prog w' = .ok (.tuple #[.string (ba x), v]) w' → wpList Tryz.prog ops Q rest (a.put o.dst (.tuple #[.bool true, .string (ba x), v])) w') :
  wpList Tryz.prog ops Q (o :: rest) a w := zKx w hg it hop strK b r n get left cnt hit h hDone hMore
end
section
open Go.RowKit Go.Maps
set_option maxRecDepth 100000
def DataIs (w : World) (v : Value) (l : List UInt8) : Prop := OwnBytes w 0 v l ∨ (l = [] ∧ ∃ a c, v = .slice a 0 c ∧ c ≤ 9223372036854775807 ∧ (a = none → c = 0))
section
variable {w w' : World} {v : Value} {l : List UInt8}
theorem DataIs.bytes (h : DataIs w v l) : Bytes w v l := by
 rcases h with h | ⟨rfl, a, c, rfl, hc, hn⟩
 ·exact h.bytes
 ·exact ⟨a, c, rfl, Nat.zero_le _, hc, hn, fun i hi => absurd hi (by simp)⟩
theorem DataIs.mut {B : Nat} {T : List Nat} (h : DataIs w v l) (x : Mut B T w w') (ht : 7 ∉ T := by decide) : DataIs w' v l :=
 h.imp (fun h => x.own h ht) id
theorem DataIs.ext (h : DataIs w v l) (x : Ext w w') : DataIs w' v l := h.imp (fun h => x.own h) id
theorem DataIs.form (h : DataIs w v l) : ∃ a c, v = .slice a l.length c := by
 obtain ⟨a, c, rfl, _⟩ := h.bytes;exact ⟨a, c, rfl⟩
theorem DataIs.nil (w : World) : DataIs w (.slice none 0 0) [] := .inl (OwnBytes.nil _ _)
end
theorem zAb {w : World} {b : Nat} {cs : Array Value} {t : TypeId} {fz : Nat × Nat} (h : w.heap[b]? = some (.cells cs t fz)) (i : Nat) : w.cell? ⟨b, i, none⟩ = cs[i]? := by
 simp [World.cell?, h]
structure NodesAt (w : World) (B n m mb : Nat) (pb kb : Int → Nat) (dv : Int → Value) (T : Tr) (d : Int → Bool) : Prop where
 nodes : MapK intK w mb n (fun i => if d i then (look T.N i).map fun _ => .pointer (some ⟨pb i, 0, none⟩) else none)
 node : ∀ i x, look T.N i = some x → d i = true → w.heap[pb i]? = some (.cells #[.bool x.dir, .int .i64 (cnt T.R i), dv i, .map (if x.dir then some (kb i) else none)] 85 (0, 0))
 data : ∀ i x, look T.N i = some x → d i = true → DataIs w (dv i) x.data
 kids : ∀ p i x, look T.R p = some i → look T.N i = some x → d i = true → x.dir = true → MapK strK w (kb i) m (fun k => (look T.R (p ++ [k])).map fun j => .int .i64 j)
 inj : ∀ i j x y, look T.N i = some x → look T.N j = some y → d i = true → d j = true → pb i = pb j → i = j
 kinj : ∀ i j x y, look T.N i = some x → look T.N j = some y → d i = true → d j = true → x.dir = true → y.dir = true → kb i = kb j → i = j
 kmb : ∀ i x, look T.N i = some x → d i = true → x.dir = true → kb i ≠ mb
 bm : B ≤ mb
 bp : ∀ i x, look T.N i = some x → d i = true → B ≤ pb i
 bk : ∀ i x, look T.N i = some x → d i = true → x.dir = true → B ≤ kb i
structure TreeAt (w : World) (B n m t mb : Nat) (pb kb : Int → Nat) (dv : Int → Value) (T : Tr) : Prop where
 blk : w.heap[t]? = some (.cells #[.map (some mb), .int .i64 T.next, .int .i64 T.quota] 89 (0, 0))
 ns : NodesAt w B n m mb pb kb dv T (fun _ => true)
 bt : B ≤ t
 wf : T.Wf
section
variable {w w' : World} {B n m t mb : Nat} {pb kb : Int → Nat} {dv : Int → Value} {T : Tr} {d : Int → Bool}
theorem NodesAt.mut {B' : Nat} {S : List Nat} (h : NodesAt w B n m mb pb kb dv T d) (x : Mut B' S w w') (h0 : 0 ∉ S := by decide) (h7 : 7 ∉ S := by decide) (h87 : 87 ∉ S := by decide) : NodesAt w' B n m mb pb kb dv T d where
 nodes := h.nodes.mut x (.inr h0)
 node := fun i y hy hd => x.get (h.node i y hy hd) h87
 data := fun i y hy hd => (h.data i y hy hd).mut x h7
 kids := fun p i y hp hy hd hk => (h.kids p i y hp hy hd hk).mut x (.inr h0)
 inj := h.inj
 kinj := h.kinj
 kmb := h.kmb
 bm := h.bm
 bp := h.bp
 bk := h.bk
theorem NodesAt.ext (h : NodesAt w B n m mb pb kb dv T d) (x : Ext w w') : NodesAt w' B n m mb pb kb dv T d :=
 h.mut (B' := 0) (S := []) x.mut (by simp) (by simp) (by simp)
theorem TreeAt.mut {B' : Nat} {S : List Nat} (h : TreeAt w B n m t mb pb kb dv T) (x : Mut B' S w w') (h0 : 0 ∉ S := by decide) (h7 : 7 ∉ S := by decide) (h87 : 87 ∉ S := by decide) (h91 : 91 ∉ S := by decide) : TreeAt w' B n m t mb pb kb dv T :=
 ⟨x.get h.blk h91, h.ns.mut x h0 h7 h87, h.bt, h.wf⟩
theorem TreeAt.ext (h : TreeAt w B n m t mb pb kb dv T) (x : Ext w w') : TreeAt w' B n m t mb pb kb dv T := ⟨x.get h.blk, h.ns.ext x, h.bt, h.wf⟩
theorem NodesAt.le (h : NodesAt w B n m mb pb kb dv T d) {B' : Nat} (hB : B' ≤ B) : NodesAt w B' n m mb pb kb dv T d :=
 { h with bm := Nat.le_trans hB h.bm, bp := fun i y hy hd => Nat.le_trans hB (h.bp i y hy hd), bk := fun i y hy hd hk => Nat.le_trans hB (h.bk i y hy hd hk) }
theorem TreeAt.le (h : TreeAt w B n m t mb pb kb dv T) {B' : Nat} (hB : B' ≤ B) : TreeAt w B' n m t mb pb kb dv T := ⟨h.blk, h.ns.le hB, Nat.le_trans hB h.bt, h.wf⟩
theorem TreeAt.mono (h : TreeAt w B n m t mb pb kb dv T) {n' m' : Nat} (hn : n ≤ n') (hm : m ≤ m') : TreeAt w B n' m' t mb pb kb dv T :=
 ⟨h.blk, { h.ns with nodes := h.ns.nodes.mono hn, kids := fun p i y hp hy hd hk => (h.ns.kids p i y hp hy hd hk).mono hm }, h.bt, h.wf⟩
theorem TreeAt.nodes (h : TreeAt w B n m t mb pb kb dv T) : MapK intK w mb n (fun i => (look T.N i).map fun _ => .pointer (some ⟨pb i, 0, none⟩)) := h.ns.nodes
theorem TreeAt.node (h : TreeAt w B n m t mb pb kb dv T) {i : Int} {x : Nd} (hx : look T.N i = some x) : w.heap[pb i]? = some (.cells #[.bool x.dir, .int .i64 (cnt T.R i), dv i, .map (if x.dir then some (kb i) else none)] 85 (0, 0)) := h.ns.node i x hx rfl
theorem TreeAt.data (h : TreeAt w B n m t mb pb kb dv T) {i : Int} {x : Nd} (hx : look T.N i = some x) : DataIs w (dv i) x.data := h.ns.data i x hx rfl
theorem TreeAt.kids (h : TreeAt w B n m t mb pb kb dv T) {p : Pth} {i : Int} {x : Nd} (hp : look T.R p = some i) (hx : look T.N i = some x) (hd : x.dir = true) : MapK strK w (kb i) m (fun k => (look T.R (p ++ [k])).map fun j => .int .i64 j) := h.ns.kids p i x hp hx rfl hd
end
theorem zAz : Tryz.prog.underlying 87 = some (.map 3 86) := by kernel_rfl
theorem zBb : Tryz.prog.underlying 83 = some (.map 9 3) := by kernel_rfl
theorem zIg (w : World) : (zeroValue 86).run Tryz.prog w = .ok (.pointer none) w := by kernel_rfl
theorem zGn (w : World) : (zeroValue 3).run Tryz.prog w = .ok (.int .i64 0) w := by kernel_rfl
theorem Tr.Wf.pre {T : Tr} (h : T.Wf) : ∀ (q p : Pth), look T.R p = none → look T.R (p ++ q) = none
 | [], p, hp => by simpa using hp
 | n :: r, p, hp => by
   have := h.pre r (p ++ [n]) (h.noKids0 hp n);simpa using this
structure TreeOk (T : Tr) : Prop where
 next : T.next ≤ 4611686018427387904
 paths : T.R.length ≤ 1000000
theorem Tr.Wf.ok {T : Tr} (h : T.Wf) (k : TreeOk T) {p : Pth} {i : Int} (hp : look T.R p = some i) : intK.ok i ∧ 1 ≤ i ∧ i < 4611686018427387904 := by
 obtain ⟨x, hx⟩ := h.node p i hp;have := h.less i x hx;have := k.next;exact ⟨zMy (by omega) (by omega), by omega, by omega⟩
def atN (T : Tr) (p : Pth) : Int := (look T.R p).getD 0
def findRel (T : Tr) (ns : Pth) (w : World) (v i : Value) (wr : World) : Prop :=
 ∃ (k : Nat) (j : Int), k ≤ ns.length ∧ i = .int .i64 k ∧ v = .int .i64 j ∧ Hid (look T.R (ns.take k) = some j) ∧ Hid (Ext w wr)
section
variable {w : World} {B n m t mb : Nat} {pb kb : Int → Nat} {dv : Int → Value} {T : Tr}
theorem TreeAt.lookNode (h : TreeAt w B n m t mb pb kb dv T) (k : TreeOk T) {p : Pth} {i : Int} (hp : look T.R p = some i) : (Instr.lookup 87 (.map (some mb)) (.int .i64 i) false).run Tryz.prog w = .ok (.pointer (some ⟨pb i, 0, none⟩)) w := by
 obtain ⟨x, hx⟩ := h.wf.node p i hp;have := h.nodes.look zAz (zIg w) (x := i) (h.wf.ok k hp).1;rw [hx] at this;exact this
theorem TreeAt.mapCell (h : TreeAt w B n m t mb pb kb dv T) : w.cell? ⟨t, 0, none⟩ = some (.map (some mb)) := by rw [zAb h.blk]; rfl
theorem TreeAt.cells (h : TreeAt w B n m t mb pb kb dv T) {i : Int} {x : Nd} (hx : look T.N i = some x) :
  w.cell? ⟨pb i, 0, none⟩ = some (.bool x.dir) ∧ w.cell? ⟨pb i, 1, none⟩ = some (.int .i64 (cnt T.R i)) ∧ w.cell? ⟨pb i, 2, none⟩ = some (dv i) ∧ w.cell? ⟨pb i, 3, none⟩ = some (.map (if x.dir then some (kb i) else none)) := by
 have := h.node hx
 refine ⟨?_, ?_, ?_, ?_⟩ <;> (rw [zAb this]; rfl)
theorem TreeAt.lookKid (h : TreeAt w B n m t mb pb kb dv T) {p : Pth} {i : Int} {x : Nd} (hp : look T.R p = some i) (hx : look T.N i = some x) {nm : Str} (hn : nm.length ≤ 12) :
  (Instr.lookup 83 (.map (if x.dir then some (kb i) else none)) (.string (ba nm)) false).run Tryz.prog w = .ok (.int .i64 (atN T (p ++ [nm]))) w := by
 have hok : strK.ok nm := by show nm.length ≤ maxLen; unfold maxLen; omega
 cases hd : x.dir with
 | true =>
   have := (h.kids hp hx hd).look zBb (zGn w) hok;rw [if_pos rfl];refine this.trans ?_;unfold atN
   cases look T.R (p ++ [nm]) <;> rfl
 | false =>
   rw [if_neg (by decide)];have h0 := h.wf.noKids hp hx hd nm;unfold atN;rw [h0];exact Maps.look_nil false strK.keyed zBb (zGn w) (strK.key hok)
set_option maxHeartbeats 1000000 in
theorem zJb (h : TreeAt w B n m t mb pb kb dv T) (k : TreeOk T) {s : Str} {ns : Pth} (hs : SplitOk s ns) {mx : Int} (hm : w.cell? ⟨0, 0, none⟩ = some (.int .i64 mx)) :
  Calls Tryz.prog 24 #[.pointer (some ⟨t, 0, none⟩), .string (ba s)] w fun e w' => e = .returned (.int .i64 (atN T ns)) ∧ Ext w w' := by
 have HS := zh (zE3 mx w hs hm);have HN := zh hs.names;have hn5 : (ns.length : Int) ≤ 5 := by have := hs.n5; omega
 have HT := zh h;have HK := zh k;clear h k hs hm;go_enter Tryz.func24, Tryz.ntmps24
 go_wp2_with (go_at_call 49; refine HS.out.mono ?_; rintro e w2 ⟨v, rfl, o2, x2⟩; have X2 := zh x2; (obtain ⟨a, c, rfl, -⟩ := o2.row.form); have O2 := zh o2; clear o2 x2)
 clear HS
 go_loopw [7, 19] (fun v i wr => findRel T ns w2 v i wr) (fun _ i _ => ns.length - (intOf i).toNat)
 case atStart => exact ⟨0, 1, Nat.zero_le _, rfl, rfl, zh HT.out.wf.root, zh (xr w2)⟩
 case round =>
  obtain ⟨wq, rfl⟩ : ∃ x : World, x = wr := ⟨_, rfl⟩
  obtain ⟨k, j, hk, rfl, rfl, HJ, HX⟩ := hrel;have HTr := zh (HT.out.ext (X2.out.trans HX.out))
  by_cases hlt : k < ns.length
  ·obtain ⟨b, o, e, e1⟩ := (O2.out.row.ext HX.out).at k hlt;cases e;have HTK := zh (List.take_succ_eq_append_getElem hlt);have hn12 : ns[k].length ≤ 12 := (zPq (HN.out ns[k] (List.getElem_mem hlt))).len;obtain ⟨x, hx⟩ := HT.out.wf.node _ _ HJ.out;have hl1 := HTr.out.lookNode HK.out HJ.out;have hc0 := HTr.out.mapCell;have hc3 := (HTr.out.cells hx).2.2.2;have hl2 := HTr.out.lookKid HJ.out hx hn12;have HA := zh (show atN T (ns.take k ++ [ns[k]]) = atN T (ns.take (k + 1)) by rw [HTK.out]);generalize (if x.dir = true then some (kb j) else none) = km at *
   cases hq : look T.R (ns.take (k + 1)) with
   | none =>
     have e0 : atN T (ns.take k ++ [ns[k]]) = 0 := by rw [HA.out]; unfold atN; rw [hq]; rfl
     have HF := zh (show atN T ns = 0 by
      unfold atN;have := HT.out.wf.pre (ns.drop (k + 1)) _ hq;rw [List.take_append_drop] at this
      rw [this]; rfl)
     rw [e0] at hl2;clear hx HTK hn12 hq e0 HA;generalize ns[k] = nm at *
     go_wp2_with fail
     go_ret
     exact ⟨by rw [HF.out]; rfl, X2.out.trans HX.out⟩
   | some j' =>
     have e0 : atN T (ns.take k ++ [ns[k]]) = j' := by rw [HA.out]; unfold atN; rw [hq]; rfl
     have hj := (HT.out.wf.ok HK.out hq).2.1;rw [e0] at hl2;have HQ := zh hq;have hj0 : (j' == 0) = false := by rw [beq_eq_false_iff_ne]; omega
     have hj1 : ¬ j' = 0 := by omega
     clear hx HTK hn12 hq e0 HA hj;generalize ns[k] = nm at *
     go_wp2_with fail
     go_roundw
     case rel => exact ⟨k + 1, j', hlt, by go_num, rfl, HQ, HX⟩
     case measure => simp [intOf]; omega
  ·have hkl : k = ns.length := by omega
   subst hkl
   have HF := zh (show atN T ns = j by
    have := HJ.out;rw [List.take_length] at this
    unfold atN; rw [this]; rfl)
   go_wp2_with fail
   go_ret
   exact ⟨by rw [HF.out]; rfl, X2.out.trans HX.out⟩
theorem Find_any (h : TreeAt w B n m t mb pb kb dv T) (k : TreeOk T) {s : Str} {ns : Pth} (hs : SplitOk s ns) {mx : Int} (hm : w.cell? ⟨0, 0, none⟩ = some (.int .i64 mx)) :
  Calls Tryz.prog 27 #[.pointer (some ⟨t, 0, none⟩), .string (ba s)] w fun e w' => e = .returned (.tuple #[.int .i64 (atN T ns), .bool (look T.R ns).isSome]) ∧ Ext w w' := by
 have HF := zh (zJb h k hs hm)
 cases hq : look T.R ns with
 | none =>
   have e0 : atN T ns = 0 := by unfold atN; rw [hq]; rfl
   rw [e0] at HF ⊢;clear h k hs hm hq e0;go_enter Tryz.func27, Tryz.ntmps27
   go_wp2_with (go_at_call 24; refine HF.out.mono ?_; rintro e w2 ⟨rfl, x2⟩; have X2 := zh x2; clear x2)
   go_ret2
   exact ⟨rfl, X2.out⟩
 | some j =>
   have e0 : atN T ns = j := by unfold atN; rw [hq]; rfl
   have hj := (h.wf.ok k hq).2.1;rw [e0] at HF ⊢;have hj0 : (j == 0) = false := by rw [beq_eq_false_iff_ne]; omega
   have hj1 : (j != 0) = true := by rw [bne_iff_ne]; omega
   have hj2 : ¬ j = 0 := by omega
   clear h k hs hm hq e0 hj;go_enter Tryz.func27, Tryz.ntmps27
   go_wp2_with (go_at_call 24; refine HF.out.mono ?_; rintro e w2 ⟨rfl, x2⟩; have X2 := zh x2; clear x2)
   go_ret2
   exact ⟨by simp [hj2], X2.out⟩
end
theorem zBg : Tryz.prog.underlying 23 = some (.slice 5) := by kernel_rfl
def zF0 (w : World) (l : List UInt8) (e : Ending) (w' : World) : Prop := ∃ v, e = .returned v ∧ DataIs w' v l ∧ Ext w w'
theorem zGs {w : World} {v : Value} {l : List UInt8} (h : Bytes w v l) (hl : l.length ≤ 16777216) : Calls Tryz.prog 25 #[v] w (zF0 w l) := by
 have HB := zh h;obtain ⟨a, c, rfl, h1, h2, h3, h4⟩ := h;clear h4
 cases a with
 | none =>
   have hl0 : l = [] := by
    have := h3 rfl;exact List.eq_nil_of_length_eq_zero (by omega)
   subst hl0;have heq := fun W : World => Lib.run_eql_slice_nil (P := Tryz.prog) W 23 5 none 0 c 0 0 zBg
   clear h1 h2 h3;go_enter Tryz.func25, Tryz.ntmps25
   go_wp2_with fail
   go_ret
   exact ⟨_, rfl, DataIs.nil _, xr _⟩
 | some ad =>
   have heq := fun W : World => Lib.run_eql_slice_nil (P := Tryz.prog) W 23 5 (some ad) l.length c 0 0 zBg
   have hbb : Bytes (w.alloc (.cells #[] 5)) (.slice (some ad) l.length c) l := HB.out.ext ((xr w).alloc _);have HBB := zh hbb;clear h3 hbb;go_enter Tryz.func25, Tryz.ntmps25
   go_wp2_with (at_builtin; refine zA1 _ rfl _ _ 23 rfl zBg _ _ rfl rfl l HBB.out (by omega) ?_; intro v' w' f; have F := zh f; clear f)
   go_ret
   refine ⟨_, rfl, ?_, ((xr w).alloc _).trans F.out.below⟩
   rcases F.out.own with ⟨rfl, rfl⟩ | ⟨_, ho, _⟩
   ·exact .inr ⟨rfl, _, _, rfl, by omega, fun e => by cases e⟩
   ·exact .inl (ho.le (Nat.zero_le _))
section
variable {w : World} {B n m t mb : Nat} {pb kb : Int → Nat} {dv : Int → Value} {T : Tr}
def isDir (T : Tr) (p : Pth) : Bool := match (look T.R p).bind (look T.N) with
 | some x => x.dir
 | none => false
theorem Dir_any (h : TreeAt w B n m t mb pb kb dv T) (k : TreeOk T) {s : Str} {ns : Pth} (hs : SplitOk s ns) {mx : Int} (hm : w.cell? ⟨0, 0, none⟩ = some (.int .i64 mx)) :
  Calls Tryz.prog 137 #[.pointer (some ⟨t, 0, none⟩), .string (ba s)] w fun e w' => e = .returned (.bool (isDir T ns)) ∧ Ext w w' := by
 have HF := zh (zJb h k hs hm);have HT := zh h
 cases hq : look T.R ns with
 | none =>
   have e0 : atN T ns = 0 := by unfold atN; rw [hq]; rfl
   have e1 : isDir T ns = false := by unfold isDir; rw [hq]; rfl
   rw [e0] at HF;rw [e1];clear h k hs hm hq e0 e1;go_enter Tryz.func137, Tryz.ntmps137
   go_wp2_with (go_at_call 24; refine HF.out.mono ?_; rintro e w2 ⟨rfl, x2⟩; have X2 := zh x2; clear x2)
   go_ret
   exact ⟨rfl, X2.out⟩
 | some j =>
   have e0 : atN T ns = j := by unfold atN; rw [hq]; rfl
   obtain ⟨x, hx⟩ := h.wf.node _ _ hq;have e1 : isDir T ns = x.dir := by unfold isDir; rw [hq]; show (match look T.N j with | some x => x.dir | none => false) = _; rw [hx]
   have hj := (h.wf.ok k hq).2.1;rw [e0] at HF;rw [e1];have hj0 : (j == 0) = false := by rw [beq_eq_false_iff_ne]; omega
   have hj1 : (j != 0) = true := by rw [bne_iff_ne]; omega
   have hj2 : ¬ j = 0 := by omega
   have HL : Hid (∀ W, Ext w W → (Instr.lookup 87 (.map (some mb)) (.int .i64 j) false).run Tryz.prog W = .ok (.pointer (some ⟨pb j, 0, none⟩)) W ∧ W.cell? ⟨t, 0, none⟩ = some (.map (some mb)) ∧ W.cell? ⟨pb j, 0, none⟩ = some (.bool x.dir)) := fun W x1 => ⟨(h.ext x1).lookNode k hq, (h.ext x1).mapCell, ((h.ext x1).cells hx).1⟩
   clear h hs hm hq e0 e1 hj hx HT k;go_enter Tryz.func137, Tryz.ntmps137
   go_wp2_with (go_at_call 24; refine HF.out.mono ?_; rintro e w2 ⟨rfl, x2⟩; have X2 := zh x2; (obtain ⟨hl1, hc0, hc1⟩ := HL.out _ x2); clear x2)
   go_ret
   exact ⟨rfl, X2.out⟩
def zIx (w : World) (T : Tr) (p : Pth) (e : Ending) (w' : World) : Prop :=
 Ext w w' ∧ match (look T.R p).bind (look T.N) with
 | none => e = .returned (.tuple #[.slice none 0 0, .int .i64 8])
 | some x => if x.dir then e = .returned (.tuple #[.slice none 0 0, .int .i64 10]) else ∃ v, e = .returned (.tuple #[v, .int .i64 0]) ∧ DataIs w' v x.data
theorem TRead_any (h : TreeAt w B n m t mb pb kb dv T) (k : TreeOk T) {s : Str} {ns : Pth} (hs : SplitOk s ns) {mx : Int} (hm : w.cell? ⟨0, 0, none⟩ = some (.int .i64 mx)) (hd : ∀ i x, look T.N i = some x → x.data.length ≤ 16777216) :
  Calls Tryz.prog 10 #[.pointer (some ⟨t, 0, none⟩), .string (ba s)] w (zIx w T ns) := by
 have HF := zh (zJb h k hs hm)
 cases hq : look T.R ns with
 | none =>
   have e0 : atN T ns = 0 := by unfold atN; rw [hq]; rfl
   have HP : Hid (∀ e w', Ext w w' → e = .returned (.tuple #[.slice none 0 0, .int .i64 8]) → zIx w T ns e w') := fun e w' x he => ⟨x, by rw [hq]; exact he⟩
   rw [e0] at HF;clear h k hs hm hq e0;go_enter Tryz.func10, Tryz.ntmps10
   go_wp2_with (go_at_call 24; refine HF.out.mono ?_; rintro e w2 ⟨rfl, x2⟩; have X2 := zh x2; clear x2)
   go_ret2
   exact HP.out _ _ X2.out rfl
 | some j =>
   have e0 : atN T ns = j := by unfold atN; rw [hq]; rfl
   obtain ⟨x, hx⟩ := h.wf.node _ _ hq
   have HP : Hid (∀ e w', Ext w w' → (if x.dir then e = .returned (.tuple #[.slice none 0 0, .int .i64 10]) else ∃ v, e = .returned (.tuple #[v, .int .i64 0]) ∧ DataIs w' v x.data) → zIx w T ns e w') := fun e w' x1 he => ⟨x1, by
    rw [hq]; show (match look T.N j with | none => _ | some x => _); rw [hx]; exact he⟩
   have hj := (h.wf.ok k hq).2.1;rw [e0] at HF;have hj0 : (j == 0) = false := by rw [beq_eq_false_iff_ne]; omega
   have hj2 : ¬ j = 0 := by omega
   have HL : Hid (∀ W, Ext w W → (Instr.lookup 87 (.map (some mb)) (.int .i64 j) false).run Tryz.prog W = .ok (.pointer (some ⟨pb j, 0, none⟩)) W ∧ W.cell? ⟨t, 0, none⟩ = some (.map (some mb)) ∧ W.cell? ⟨pb j, 0, none⟩ = some (.bool x.dir) ∧ W.cell? ⟨pb j, 2, none⟩ = some (dv j)) := fun W x1 => ⟨(h.ext x1).lookNode k hq, (h.ext x1).mapCell, ((h.ext x1).cells hx).1, ((h.ext x1).cells hx).2.2.1⟩
   have HC : Hid (∀ W, Ext w W → Calls Tryz.prog 25 #[dv j] W (zF0 W x.data)) := fun W x1 => zGs ((h.ext x1).data hx).bytes (hd j x hx)
   cases hxd : x.dir with
   | true =>
     rw [hxd] at HP HL;clear h hs hm hq e0 hj hx k hd HC hxd;go_enter Tryz.func10, Tryz.ntmps10
     go_wp2_with (go_at_call 24; refine HF.out.mono ?_; rintro e w2 ⟨rfl, x2⟩; have X2 := zh x2; (obtain ⟨hl1, hc0, hc1, hc2⟩ := HL.out _ x2); clear x2)
     go_ret2
     exact HP.out _ _ X2.out rfl
   | false =>
     rw [hxd] at HP HL;obtain ⟨ad, cd, hdv⟩ := (h.data hx).form;rw [hdv] at HL HC;clear h hs hm hq e0 hj hx k hd hxd hdv;go_enter Tryz.func10, Tryz.ntmps10
     go_wp2_with (first
      | (go_at_call 24; refine HF.out.mono ?_; rintro e w2 ⟨rfl, x2⟩; have X2 := zh x2; (obtain ⟨hl1, hc0, hc1, hc2⟩ := HL.out _ x2); clear x2)
      | (go_at_call 25; refine (HC.out _ X2.out).mono ?_; rintro e w3 ⟨v, rfl, d3, x3⟩; have X3 := zh x3; have D3 := zh d3; clear d3 x3; (obtain ⟨a3, c3, rfl⟩ := D3.out.form)))
     go_ret2
     exact HP.out _ _ (X2.out.trans X3.out) ⟨_, rfl, D3.out⟩
end
def upd {β : Type} (f : Int → β) (i : Int) (b : β) : Int → β := fun j => if j = i then b else f j
theorem zAv {β : Type} (f : Int → β) (i : Int) (b : β) : upd f i b i = b := if_pos rfl
theorem zAf {β : Type} (f : Int → β) {i j : Int} (b : β) (h : j ≠ i) : upd f i b j = f j := if_neg h
section
variable {w w' : World} {B n m t mb : Nat} {pb kb : Int → Nat} {dv : Int → Value} {T : Tr} {d d' : Int → Bool}
theorem NodesAt.congr (h : NodesAt w B n m mb pb kb dv T d) (e : ∀ i x, look T.N i = some x → d i = d' i) : NodesAt w B n m mb pb kb dv T d' where
 nodes := h.nodes.congr fun i => by
  cases hl : look T.N i with
  | none => simp
  | some x => rw [e i x hl]
 node := fun i x hx hd => h.node i x hx ((e i x hx).trans hd)
 data := fun i x hx hd => h.data i x hx ((e i x hx).trans hd)
 kids := fun p i x hp hx hd => h.kids p i x hp hx ((e i x hx).trans hd)
 inj := fun i j x y hx hy hd hd' => h.inj i j x y hx hy ((e i x hx).trans hd) ((e j y hy).trans hd')
 kinj := fun i j x y hx hy hd hd' => h.kinj i j x y hx hy ((e i x hx).trans hd) ((e j y hy).trans hd')
 kmb := fun i x hx hd => h.kmb i x hx ((e i x hx).trans hd)
 bm := h.bm
 bp := fun i x hx hd => h.bp i x hx ((e i x hx).trans hd)
 bk := fun i x hx hd => h.bk i x hx ((e i x hx).trans hd)
theorem NodesAt.pbLt (h : NodesAt w B n m mb pb kb dv T d) {i : Int} {x : Nd} (hx : look T.N i = some x) (hd : d i = true) : pb i < w.heap.size := (Array.getElem?_eq_some_iff.1 (h.node i x hx hd)).1
theorem zDa {α : Type} [DecidableEq α] {k : TypeId} {S : KeyS α k} {w : World} {b c n : Nat} {get : α → Option Value} {cs : Array Value} {t : TypeId} {fz : Nat × Nat} (h : MapK S w b n get) (hc : w.heap[c]? = some (.cells cs t fz)) : c ≠ b := by
 rintro rfl;obtain ⟨o, ho, ht⟩ := h.tag;rw [hc] at ho;cases ho;simp [tagOf] at ht
theorem NodesAt.put (h : NodesAt w B n m mb pb kb dv T d) {i : Int} {x : Nd} (hx : look T.N i = some x) (hd : d i = false) (hok : intK.ok i) (hn : n < maxLen) {pn kn : Nat}
  (hp : w.heap[pn]? = some (.cells #[.bool x.dir, .int .i64 (cnt T.R i), dv i, .map (if x.dir then some kn else none)] 85 (0, 0))) (hdata : DataIs w (dv i) x.data)
  (hk : ∀ p, look T.R p = some i → x.dir = true → MapK strK w kn m (fun k => (look T.R (p ++ [k])).map fun j => .int .i64 j))
  (hpn : ∀ j y, look T.N j = some y → d j = true → pb j ≠ pn) (hkn : ∀ j y, look T.N j = some y → d j = true → y.dir = true → kb j ≠ kn) (hkm : x.dir = true → kn ≠ mb) (hB : B ≤ pn) (hBk : x.dir = true → B ≤ kn) :
  ∃ w', (Instr.mapUpdate 87 (.map (some mb)) (.int .i64 i) (.pointer (some ⟨pn, 0, none⟩))).run Tryz.prog w = .ok () w' ∧ NodesAt w' B (n + 1) m mb (upd pb i pn) (upd kb i kn) dv T (fun j => d j || decide (j = i)) ∧ w.grownBy w' (some mb) ∧ w'.heap.size = w.heap.size := by
 obtain ⟨w', hr, h1, g, hs⟩ := h.nodes.put (t := 87) (e := 86) zAz hn hok (.pointer (some ⟨pn, 0, none⟩))
 have keep : ∀ {c : Nat} {cs : Array Value} {ty : TypeId} {fz : Nat × Nat}, w.heap[c]? = some (.cells cs ty fz) → w'.heap[c]? = some (.cells cs ty fz) := fun {c cs ty fz} hc =>
  (g.block c (Array.getElem?_eq_some_iff.1 hc).1 fun e => zDa h.nodes hc (Option.some.inj e)).trans hc
 have keepD : ∀ {v : Value} {l : List UInt8}, DataIs w v l → DataIs w' v l := fun {v l} hv => hv.imp (fun o => by
  refine zEg o fun k hk => ?_
  rcases o.2 with ⟨rfl, _⟩ | ⟨q, cap, cur, rfl, _, hq, _⟩
  ·cases hk
  ·simp only [Value.ownBlock, Option.some.injEq] at hk;subst hk
   rw [keep hq, hq]) id
 have hdec : ∀ j, (d j || decide (j = i)) = true → j ≠ i → d j = true := fun j hj hne => by simpa [hne] using hj
 refine ⟨w', hr, ⟨?_, ?_, ?_, ?_, ?_, ?_, ?_, h.bm, ?_, ?_⟩, g, hs⟩
 ·refine h1.congr fun j => ?_
  unfold putK
  by_cases e : j = i
  ·subst e; simp [hx, zAv]
  ·simp [e, zAf _ _ e]
 ·intro j y hy hj
  by_cases e : j = i
  ·subst e;rw [hx] at hy; cases hy;rw [zAv, zAv]; exact keep hp
  ·rw [zAf _ _ e, zAf _ _ e]; exact keep (h.node j y hy (hdec j hj e))
 ·intro j y hy hj
  by_cases e : j = i
  ·subst e;rw [hx] at hy; cases hy;exact keepD hdata
  ·exact keepD (h.data j y hy (hdec j hj e))
 ·intro p j y hpj hy hj hyd
  by_cases e : j = i
  ·subst e;rw [hx] at hy; cases hy;rw [zAv];exact (hk p hpj hyd).grown g (fun e => hkm hyd (Option.some.inj e).symm)
  ·rw [zAf _ _ e];exact (h.kids p j y hpj hy (hdec j hj e) hyd).grown g (fun e' => h.kmb j y hy (hdec j hj e) hyd (Option.some.inj e').symm)
 ·intro j k y z hy hz hj hk' e
  by_cases e1 : j = i <;> by_cases e2 : k = i
  ·rw [e1, e2]
  ·subst e1; rw [zAv, zAf _ _ e2] at e;exact absurd e.symm (hpn k z hz (hdec k hk' e2))
  ·subst e2; rw [zAv, zAf _ _ e1] at e;exact absurd e (hpn j y hy (hdec j hj e1))
  ·rw [zAf _ _ e1, zAf _ _ e2] at e;exact h.inj j k y z hy hz (hdec j hj e1) (hdec k hk' e2) e
 ·intro j k y z hy hz hj hk' hyd hzd e
  by_cases e1 : j = i <;> by_cases e2 : k = i
  ·rw [e1, e2]
  ·subst e1; rw [zAv, zAf _ _ e2] at e;exact absurd e.symm (hkn k z hz (hdec k hk' e2) hzd)
  ·subst e2; rw [zAv, zAf _ _ e1] at e;exact absurd e (hkn j y hy (hdec j hj e1) hyd)
  ·rw [zAf _ _ e1, zAf _ _ e2] at e;exact h.kinj j k y z hy hz (hdec j hj e1) (hdec k hk' e2) hyd hzd e
 ·intro j y hy hj hyd
  by_cases e : j = i
  ·subst e; rw [hx] at hy; cases hy; rw [zAv]; exact hkm hyd
  ·rw [zAf _ _ e]; exact h.kmb j y hy (hdec j hj e) hyd
 ·intro j y hy hj
  by_cases e : j = i
  ·subst e; rw [zAv]; exact hB
  ·rw [zAf _ _ e]; exact h.bp j y hy (hdec j hj e)
 ·intro j y hy hj hyd
  by_cases e : j = i
  ·subst e; rw [hx] at hy; cases hy; rw [zAv]; exact hBk hyd
  ·rw [zAf _ _ e]; exact h.bk j y hy (hdec j hj e) hyd
end
end
end Go.Proofs.YtgnjjfdfoibdiaaGreatDoor
