/- A graph in memory: Lean; ranging over a map. -/
import Derived.Test.YtobdjfibaemmhaaGi
import Derived.Maps.RangeWalk
namespace Go.Proofs.Ytobdjfibaemmhaa
open Go.RowKit Go.Maps Go.Lib

def Rng (w : World) (b r n : Nat) (get : Str → Option Value) (left : Str → Bool) (cnt : Nat) : Prop :=
  ∃ (D : DataW Value) (L : Lit → Bool), w.ranges Try.prog 9 heldV b r n D L cnt ∧ (∀ k zd, D.atKey (.string k) zd = match get k with | some v => .held v | none => zd) ∧ ∀ x, L (.string x) = left x
theorem Rng.kept {w w' : World} {b r n cnt : Nat} {get : Str → Option Value} {left : Str → Bool} {row : Option Nat} (h : Rng w b r n get left cnt) (g : w.grownBy w' row) (h1 : some b ≠ row) (h2 : some r ≠ row) : Rng w' b r n get left cnt := by
  obtain ⟨D, L, h3, h4, h5⟩ := h
  exact ⟨D, L, h3.kept g h1 h2, h4, h5⟩
theorem Rng.ext {w w' : World} {b r n cnt : Nat} {get : Str → Option Value} {left : Str → Bool} (h : Rng w b r n get left cnt) (x : Ext w w') : Rng w' b r n get left cnt := h.kept (below_grown x none) (by simp) (by simp)
theorem Rng.left_eq {w : World} {b r n cnt : Nat} {get : Str → Option Value} {left : Str → Bool} (h : Rng w b r n get left cnt) : w.rangeLeft b r = cnt := by
  obtain ⟨D, L, h3, -⟩ := h
  exact h3.left_eq
theorem Rng.lt {w : World} {b r n cnt : Nat} {get : Str → Option Value} {left : Str → Bool} (h : Rng w b r n get left cnt) : r < w.heap.size := by
  obtain ⟨D, L, h3, -⟩ := h
  exact h3.lt
theorem Rng.ne {w : World} {b r n cnt : Nat} {get : Str → Option Value} {left : Str → Bool} (h : Rng w b r n get left cnt) : r ≠ b := by
  obtain ⟨D, L, h3, -⟩ := h
  exact h3.ne
theorem wpList_range_str (w : World) {ops : Array Oper} {rest : List Oper} {o : Oper} {a : Act} {Q : Exit → Act → World → Prop}
    (hg : o.guard = none) (m : Operand) (t : TypeId) (hop : o.op = Op.range t m) (e : TypeId) (ht : Try.prog.underlying t = some (.map 9 e)) (b n : Nat) (get : Str → Option Value) (hm : a.eval m = .map (some b)) (h : MapIs w b n get)
    (hK : ∀ w' cnt, Rng w' b w.heap.size n get (fun x => (get x).isSome) cnt → Ext w w' → wpList Try.prog ops Q rest (a.put o.dst (.pointer (some ⟨w.heap.size, 0, none⟩))) w') :
    wpList Try.prog ops Q (o :: rest) a w := by
  obtain ⟨D, h1, h2⟩ := h
  refine wpList_range_own w hg m t hop 9 e key9 ht heldV b n D hm h1 fun w' r1 r2 r3 => hK w' _ ⟨D, _, r1, h2, fun x => MapIs.has (w := w) h2 x⟩ (grown_ext r2 (fun k hk => by cases hk))
theorem wpList_next_str (w : World) {ops : Array Oper} {rest : List Oper} {o : Oper} {a : Act} {Q : Exit → Act → World → Prop}
    (hg : o.guard = none) (it : Operand) (hop : o.op = Op.next it false) (b r n : Nat) (get : Str → Option Value) (left : Str → Bool) (cnt : Nat)
    (hit : a.eval it = .pointer (some ⟨r, 0, none⟩)) (h : Rng w b r n get left cnt)
    (hDone : (∀ x, left x = false) → wpList Try.prog ops Q rest (a.put o.dst (.tuple #[.bool false])) w)
    (hMore : ∀ (x : Str) (v : Value) (w' : World) (cnt' : Nat), x.length ≤ maxLen → left x = true → get x = some v → Rng w' b r n get (fun z => left z && (z != x)) cnt' → cnt' < cnt → w.grownBy w' (some r) → w'.heap.size = w.heap.size →
      (Instr.entry (.pointer (some ⟨r, 0, none⟩))).run Try.prog w' = .ok (.tuple #[.string (ba x), v]) w' → wpList Try.prog ops Q rest (a.put o.dst (.tuple #[.bool true, .string (ba x), v])) w') :
    wpList Try.prog ops Q (o :: rest) a w := by
  obtain ⟨D, L, h3, h4, h5⟩ := h
  refine wpList_next_ranges w hg it hop 9 key9 heldV encStr id (fun key kl hk => by obtain ⟨x, hx, _⟩ := Maps.keyOf_str Try.underlying9 hk; exact ⟨x, hx⟩) (fun v y _ => ⟨v, rfl⟩) b r n D L cnt hit h3 (fun _ hl => hDone fun x => by rw [← h5]; exact hl _) ?_
  intro x c kl y w' cnt' hkey hlk hv hat hrg hlt hgr hsz hen
  obtain ⟨x', ex, rfl, hlen⟩ := Maps.keyOf_str Try.underlying9 hkey
  obtain rfl : x = x' := encStr_inj ex
  have hc : get x = some c := by
    cases hv
    cases hgx : get x with
    | some v =>
      have := (h4 x (.held c)).symm.trans (hat _)
      rw [hgx] at this
      cases this
      rfl
    | none =>
      have := (h4 x (.map [])).symm.trans (hat _)
      rw [hgx] at this
      cases this
  refine hMore x c w' cnt' hlen (by rw [← h5]; exact hlk) hc ⟨D, _, hrg, h4, fun z => ?_⟩ hlt hgr hsz hen
  rw [h5]
  congr 1
set_option maxRecDepth 100000 in
set_option maxHeartbeats 2000000 in
theorem lean44 {W : World} {B b n : Nat} {S : List Str} (hc : W.heap[B]? = some (.cells #[.map (some b)] 74 (0, 0))) (hm : MapIs W b n (boolGet S)) {x : Str} (hx : x.length ≤ maxLen) :
    Calls Try.prog 44 #[.string (ba x), .pointer (some ⟨B, 0, none⟩)] W fun e w' => e = .returned (.bool (decide (x ∈ S))) ∧ ∃ q, w' = W.drewN q := by
  have c0 : W.cell? ⟨B, 0, none⟩ = some (.map (some b)) := by rw [cell_blk hc]; rfl
  have hlk := hm.look (t := 74) (e := 4) Try.underlying74 (Try.zeroValue4 W) hx
  have hb : (boolGet S x).getD (.bool false) = .bool (decide (x ∈ S)) := by unfold boolGet; split <;> simp_all
  rw [hb] at hlk
  clear hc hm hb
  go_enter Try.func44, Try.ntmps44
  go_wp2_with fail
  go_ret
  exact ⟨rfl, 0, rfl⟩
end Go.Proofs.Ytobdjfibaemmhaa
