/- A graph in memory: Names, Order. -/
import Derived.Test.YtobdjfibaemmhaaMap
namespace Go.Proofs.Ytobdjfibaemmhaa
open Go.RowKit Go.Maps Go.Lib

/-- Units that are small. -/
structure SmallU (us : List Un) : Prop where
  len : us.length ≤ 20
  name : ∀ u ∈ us, u.name.length ≤ 60
  lists : ∀ u ∈ us, ∀ l ∈ listsOf u, l.length ≤ 10 ∧ ∀ s ∈ l, s.length ≤ 60
/-- A map of units. -/
def UnitsAt (w : World) (b n : Nat) (us : List Un) : Prop :=
  ∃ get, MapIs w b n get ∧ ∀ k, match findU us k with | some u => ∃ v, get k = some v ∧ UnitIs w v u | none => get k = none
theorem UnitsAt.ext {w w' : World} {b n : Nat} {us : List Un} (h : UnitsAt w b n us) (x : Ext w w') : UnitsAt w' b n us := by
  obtain ⟨get, h1, h2⟩ := h
  refine ⟨get, h1.ext x, fun k => ?_⟩
  have := h2 k
  split
  · rename_i u hu
    rw [hu] at this
    obtain ⟨v, h3, h4⟩ := this
    exact ⟨v, h3, h4.ext x⟩
  · rename_i hu
    rw [hu] at this
    exact this
/-- A graph. -/
structure GraphAt (w : World) (g ub nu bb nb : Nat) (ov : Value) (us : List Un) (bh : Beh) (order : List Str) : Prop where
  cells : w.heap[g]? = some (.cells #[.map (some ub), .map (some bb), ov] 57 (0, 0))
  units : UnitsAt w ub nu us
  behind : ∃ bget, MapIs w bb nb bget ∧ ∀ k, SRow w ((bget k).getD (.slice none 0 0)) (bh k)
  order : SRow w ov order
theorem GraphAt.ext {w w' : World} {g ub nu bb nb : Nat} {ov : Value} {us : List Un} {bh : Beh} {order : List Str} (h : GraphAt w g ub nu bb nb ov us bh order) (x : Ext w w') : GraphAt w' g ub nu bb nb ov us bh order := by
  refine ⟨x.get h.cells, h.units.ext x, ?_, h.order.ext x⟩
  obtain ⟨bget, h1, h2⟩ := h.behind
  exact ⟨bget, h1.ext x, fun k => (h2 k).ext x⟩
theorem UnitsAt.mem {w : World} {get : Str → Option Value} {us : List Un} (h2 : ∀ k, match findU us k with | some u => ∃ v, get k = some v ∧ UnitIs w v u | none => get k = none) (x : Str) : (get x).isSome = there us x := by
  have := h2 x
  unfold there
  cases hf : findU us x with
  | none => rw [hf] at this; simp only at this; rw [this]; rfl
  | some u => rw [hf] at this; obtain ⟨v, h3, _⟩ := this; rw [h3]; rfl
def namesPost (w : World) (l : List Str) (e : Ending) (w' : World) : Prop := ∃ v, e = .returned v ∧ OwnS w' w.heap.size v l ∧ Ext w w'
set_option maxRecDepth 100000 in
set_option maxHeartbeats 2000000 in
theorem Names_any {w : World} {g ub nu : Nat} {bv ov : Value} {us : List Un} (hg : w.heap[g]? = some (.cells #[.map (some ub), bv, ov] 57 (0, 0))) (hu : UnitsAt w ub nu us) (hd : (us.map Un.name).Nodup) (hl : us.length ≤ 20) :
    Calls Try.prog 21 #[.pointer (some ⟨g, 0, none⟩)] w (namesPost w (namesOf us)) := by
  obtain ⟨get, h1, h2⟩ := hu
  have HC := keys_units h1 hd (fun x => by rw [UnitsAt.mem h2 x, there_iff]) (by simp; omega)
  have HK := keys42 ub w
  have c0 : w.cell? ⟨g, 0, none⟩ = some (.map (some ub)) := by rw [cell_blk hg]; rfl
  clear hg h1 h2
  go_enter Try.func21, Try.ntmps21
  go_wp2_with (first
    | (go_at_call 42; refine HK.mono ?_; rintro e w' ⟨rfl, rfl⟩; clear HK)
    | (go_at_call 41; refine HC.mono ?_; rintro e w' ⟨v7, rfl, o7, x7⟩; have O7 := Lib.hid o7; have X7 := Lib.hid x7; clear o7 x7 HC))
  go_ret
  exact ⟨_, rfl, O7.out, X7.out⟩
set_option maxRecDepth 100000 in
set_option maxHeartbeats 2000000 in
theorem dfunc_nil (f : Value) (w : World) : Calls Try.prog 34 #[.slice none 0 0, f] w fun e w' => e = .returned (.slice none 0 0) ∧ w = w' := by
  have HC := Try.slices_IndexFunc_empty (α := NStr) none 0 f w
  go_enter Try.func34, Try.ntmps34
  go_wp2_with (go_at_call 51; refine HC.mono ?_; rintro e w' ⟨rfl, rfl⟩; clear HC)
  go_ret
  exact ⟨rfl, rfl⟩
set_option maxRecDepth 100000 in
set_option maxHeartbeats 2000000 in
theorem order1_any {W : World} {B : Nat} {nv : Value} {names : List Str} (hc : W.cell? ⟨B, 0, none⟩ = some nv) (hs : SRow W nv names) (x : Str) :
    Calls Try.prog 47 #[.string (ba x), .pointer (some ⟨B, 0, none⟩)] W fun e w' => e = .returned (.bool (!decide (x ∈ names))) ∧ ∃ q, w' = W.drewN q := by
  have HC := contains_any hs x
  rw [encStr_ba] at HC
  obtain ⟨a, c, rfl, -⟩ := hs.form
  clear hs
  go_enter Try.func47, Try.ntmps47
  go_wp2_with (go_at_call 36; refine HC.mono ?_; rintro e w' ⟨rfl, rfl⟩; clear HC)
  go_ret
  exact ⟨rfl, 0, rfl⟩
def orderPost (w : World) (l : List Str) (e : Ending) (w' : World) : Prop := ∃ v, e = .returned v ∧ OwnS w' w.heap.size v l ∧ Ext w w'
theorem filter_nn (l m : List Str) : (l.filter fun x => !(!decide (x ∈ m))) = l.filter (· ∈ m) := by
  congr 1; funext x; simp
set_option maxRecDepth 100000 in
set_option maxHeartbeats 2000000 in
theorem Order_any {w : World} {g ub nu bb nb : Nat} {ov nv : Value} {us : List Un} {bh : Beh} {order names : List Str} (h : GraphAt w g ub nu bb nb ov us bh order) (hn : SRow w nv names) (hs : ShortAll order) (hl : order.length * 16 ≤ 140737488355328) :
    Calls Try.prog 28 #[.pointer (some ⟨g, 0, none⟩), nv] w (orderPost w (order.filter (· ∈ names))) := by
  have x1 : Ext w (w.alloc (.cells #[nv] 23)) := (Ext.refl w).alloc _
  have hb1 : (w.alloc (.cells #[nv] 23)).heap[w.heap.size]? = some (.cells #[nv] 23 (0, 0)) := by show (w.heap.push _)[w.heap.size]? = _; simp
  have HC := clone_any (h.order.ext x1) hl
  have c2 : (w.alloc (.cells #[nv] 23)).cell? ⟨g, 2, none⟩ = some ov := by rw [cell_blk (x1.get h.cells)]; rfl
  obtain ⟨ao, co, rfl, -⟩ := h.order.form
  have HX := Lib.hid x1
  have HN := Lib.hid hn
  have HB := Lib.hid hb1
  have hsz : (w.alloc (.cells #[nv] 23)).heap.size = w.heap.size + 1 := by simp
  have HZ := Lib.hid hsz
  obtain ⟨an, cn, rfl, -⟩ := hn.form
  clear h hb1 x1 hn hsz
  go_enter Try.func28, Try.ntmps28
  go_wp2_with (first
    | (go_at_call 46; refine HC.mono ?_; rintro e w3 ⟨v3, rfl, o3, x3⟩; have O3 := Lib.hid o3; have X3 := Lib.hid x3; clear o3 x3 HC;
        have HD := (dfunc_any O3.out hs (by omega) (fun x => !decide (x ∈ names)) 47 #[.pointer (some ⟨w.heap.size, 0, none⟩)] (enters_of Try.func47 (by kernel_rfl) rfl) (fun W x hg => by
          have hne : v3.ownBlock ≠ some w.heap.size := fun e => by have := (O3.out.lt _ e).1; have := HZ.out; omega
          have hB := (hg.block w.heap.size (by have := X3.out.sz; have := HZ.out; omega) (fun e => hne e.symm)).trans (X3.out.get HB.out)
          have hx : Ext w w3 := HX.out.trans X3.out
          have hx2 : Ext w W := hx.grow hg fun k hk => by have := (O3.out.lt k hk).1; have := HZ.out; omega
          exact order1_any (by rw [cell_blk hB]; rfl) (HN.out.ext hx2) x.1) (fun _ => by subst_vars; exact dfunc_nil _ _)))
    | (go_at_call 34; refine HD.mono ?_; rintro e w4 ⟨v4, rfl, o4, g4⟩; have O4 := Lib.hid o4; have G4 := Lib.hid g4; clear o4 g4 HD))
  go_ret
  refine ⟨_, rfl, ?_, ?_⟩
  · have := O4.out
    rw [filter_nn] at this
    exact this.base (by have := HZ.out; omega)
  · exact (HX.out.trans X3.out).grow G4.out fun k hk => by have := (O3.out.lt k hk).1; have := HZ.out; omega
end Go.Proofs.Ytobdjfibaemmhaa
