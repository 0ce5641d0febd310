/- A graph in memory: Pull. -/
import Derived.Test.YtobdjfibaemmhaaGb
namespace Go.Proofs.Ytobdjfibaemmhaa
open Go.RowKit Go.Maps Go.Lib

theorem wpList_append_off (w : World) {ops : Array Oper} {rest : List Oper} {o : Oper} {a : Act} {Q : Exit → Act → World → Prop}
    (hg : o.guard = none) (s x : Operand) (t : TypeId) (hop : o.op = Op.call { callee := Callee.builtin Builtin.append, args := #[s, x], argTypes := #[t, t] })
    (ht : Try.prog.underlying t = some (.slice 9)) (base : Nat) (v u : Value) (hs : a.eval s = v) (hx : a.eval x = u) (l m : List Str) (hown : OffS w base v l) (hb : SRow w u m)
    (hlen : (l.length + m.length) * 16 ≤ 140737488355328) (hbase : base ≤ w.heap.size)
    (hK : ∀ v' w', OffS w' base v' (l ++ m) → w.grownBy w' v.ownBlock → wpList Try.prog ops Q rest (a.put o.dst v') w') :
    wpList Try.prog ops Q (o :: rest) a w := by
  refine wpList_plain hg fun K hK' => ?_
  obtain ⟨v', w', hrun, r1, r2⟩ := run_append_off t o.type ht hown hb hlen hbase
  unfold Oper.wp
  simp [execOp, hop, resolve, invoke, builtin, hs, hx, hrun, Result.andThen]
  exact hK' _ _ (hK _ _ r1 r2)
def boolGet (S : List Str) : Str → Option Value := fun x => if x ∈ S then some (.bool true) else none
theorem boolGet_put (S : List Str) (k : Str) : putK (boolGet S) k (.bool true) = boolGet (S ++ [k]) := by
  funext x
  unfold putK boolGet
  by_cases h : x = k
  · subst h; simp
  · rw [if_neg h]; simp [h]
theorem boolGet_same (S : List Str) (k : Str) (h : k ∈ S) : putK (boolGet S) k (.bool true) = boolGet S := by
  funext x
  unfold putK boolGet
  by_cases h2 : x = k
  · subst h2; simp [h]
  · rw [if_neg h2]
theorem boolGet_isSome (S : List Str) (x : Str) : x ∈ S ↔ (boolGet S x).isSome = true := by unfold boolGet; split <;> simp_all
def zero45 : Value := .agg #[.string ⟨#[]⟩, .slice none 0 0, .slice none 0 0, .slice none 0 0, .slice none 0 0, .slice none 0 0, .slice none 0 0, .int .i64 0]
theorem zero45_run (w : World) : (zeroValue 45).run Try.prog w = .ok zero45 w := Try.zeroValue45 w
structure PullRel (w : World) (us : List Un) (l : List Str) (f : Nat) (tv : Value) (S todo : List Str) (wr : World) : Prop where
  st : PullSt us l S todo
  off : OffS wr (w.heap.size + 1) tv todo
  map : MapIs wr w.heap.size S.length (boolGet S)
  x : Ext w wr
  short : ShortAll todo
  le : todo.length ≤ l.length + 10 * S.length
  f : todo.length + 11 * (us.length - S.length) ≤ f
def pullPost (w : World) (us : List Un) (l : List Str) (e : Ending) (w' : World) : Prop := ∃ v r, e = .returned v ∧ OwnS w' w.heap.size v r ∧ Ext w w' ∧ ListOf (PullIn us l) r
set_option maxRecDepth 100000 in
set_option maxHeartbeats 2000000 in
theorem Pull_any {w : World} {g ub nu : Nat} {bv ov nv : Value} {us : List Un} {l : List Str} (hg : w.heap[g]? = some (.cells #[.map (some ub), bv, ov] 57 (0, 0))) (hu : UnitsAt w ub nu us) (hs : SmallU us) (hn : SRow w nv l) (hl : l.length ≤ 1000) (hsl : ShortAll l) :
    Calls Try.prog 25 #[.pointer (some ⟨g, 0, none⟩), nv] w (pullPost w us l) := by
  have hmm := @run_makeMap Try.prog
  have x1 : Ext w (w.alloc (.map #[] 0)) := (Ext.refl w).alloc _
  have HC := clone_any (hn.ext x1) (by omega)
  have M1 := Lib.hid (MapIs.made w)
  have X1 := Lib.hid x1
  have hsz : (w.alloc (.map #[] 0)).heap.size = w.heap.size + 1 := by simp
  have HZ := Lib.hid hsz
  obtain ⟨an, cn, rfl, -⟩ := hn.form
  have HU := Lib.hid hu
  have HG := Lib.hid hg
  clear hn x1 hsz hu hg
  go_enter Try.func25, Try.ntmps25
  go_wp2_with (go_at_call 46; refine HC.mono ?_; rintro e w3 ⟨v3, rfl, o3, x3⟩; have O3 := Lib.hid o3; have X3 := Lib.hid x3; clear o3 x3 HC; (obtain ⟨a3, c3, rfl, -⟩ := O3.out.row.form))
  go_loopg [6] (l.length + 11 * us.length) (fun f tv wr => ∃ S todo, Hid (PullRel w us l f tv S todo wr))
  case atStart => exact ⟨[], l, ⟨PullSt.start us l, (O3.out.base (by have := HZ.out; omega)).off, M1.out.ext X3.out, X1.out.trans X3.out, hsl, by omega, by simp⟩⟩
  case round =>
    obtain ⟨S, todo, HR⟩ := hrel
    cases todo with
    | nil =>
      obtain ⟨a, c, rfl, -⟩ := HR.out.off.form
      have HK := keys45 w.heap.size wr
      have HQ := keys_bools HR.out.map HR.out.st.nodup (boolGet_isSome S) (by have := HR.out.st.len; have := hs.len; omega)
      go_wp2_with (first
        | (go_at_call 45; refine HK.mono ?_; rintro e w' ⟨rfl, rfl⟩; clear HK)
        | (go_at_call 41; refine HQ.mono ?_; rintro e w7 ⟨v7, rfl, o7, x7⟩; have O7 := Lib.hid o7; have X7 := Lib.hid x7; clear o7 x7 HQ))
      go_ret
      exact ⟨_, _, rfl, O7.out.base HR.out.x.sz, HR.out.x.trans X7.out, ListOf.sort HR.out.st.nodup HR.out.st.done⟩
    | cons n rest =>
      obtain ⟨tg, to, tc, rfl⟩ := HR.out.off.some_of (by simp)
      have e1 : wr.cell? ⟨tg, to, none⟩ = some (.string (ba n)) := HR.out.off.cell 0 (by simp)
      have hnl : n.length ≤ maxLen := HR.out.short n (by simp)
      have c0 : wr.cell? ⟨g, 0, none⟩ = some (.map (some ub)) := by rw [cell_blk (HR.out.x.get HG.out)]; rfl
      obtain ⟨get, hm, hget⟩ := HU.out
      have hgn := hget n
      have hlk := (hm.ext HR.out.x).look_ok (t := 54) (e := 45) Try.underlying54 (zero45_run _) hnl
      have HO : Hid (OffS wr (w.heap.size + 1) (.slice (if tc = 1 then some ⟨tg, to, none⟩ else some ⟨tg, to + 1, none⟩) rest.length (tc - 1)) rest) := HR.out.off.tail (by simp [Go.sliced, Addr.add_lit])
      clear hm hget
      cases hf : findU us n with
      | none =>
        rw [hf] at hgn
        simp only at hgn
        rw [hgn] at hlk
        simp only [zero45, Option.getD_none, Option.isSome_none] at hlk
        have HF := Lib.hid (show there us n = false by unfold there; rw [hf]; rfl)
        clear hgn hf
        go_upto_region 7 with fail
        generalize (if tc = 1 then some (⟨tg, to, none⟩ : Addr) else some ⟨tg, to + 1, none⟩) = ta at *
        go_wp2_with fail
        go_roundg (gk - 1)
        case measure => have := HR.out.f; simp at this; omega
        case rel => exact ⟨S, rest, HR.out.st.skip (.inl HF.out), HO.out.ext ((Ext.refl wr).alloc _), HR.out.map.ext ((Ext.refl wr).alloc _), HR.out.x.alloc _, fun x hx => HR.out.short x (by simp [hx]), by have := HR.out.le; simp at this; omega, by have := HR.out.f; simp at this; omega⟩
      | some u =>
        rw [hf] at hgn
        simp only at hgn
        obtain ⟨uv, hgu, hui⟩ := hgn
        rw [hgu] at hlk
        simp only [Option.getD_some, Option.isSome_some] at hlk
        have huin := (findU_name hf).1
        have hrl := hs.lists u huin u.requires (by simp [listsOf])
        have HRL := Lib.hid hrl
        obtain ⟨b0, n0, c0', b1, n1, c1', b2, n2, c2', b3, n3, c3', b4, n4, c4', b5, n5, c5', rfl, -, -, -, sr, -⟩ := hui.shape
        have hsr := sr
        obtain ⟨_, _, e3, -⟩ := hsr.form
        simp only [Value.slice.injEq] at e3
        obtain ⟨-, rfl, -⟩ := e3
        have SR := Lib.hid sr
        have HF := Lib.hid hf
        have hlk2 := fun o => (HR.out.map.ext ((Ext.refl wr).alloc o)).look (t := 74) (e := 4) Try.underlying74 (Try.zeroValue4 (wr.alloc o)) hnl
        clear hgu huin hrl sr hsr hf hui
        by_cases hin : n ∈ S
        · have hb : (boolGet S n).getD (.bool false) = .bool true := by unfold boolGet; rw [if_pos hin]; rfl
          rw [hb] at hlk2
          have HIN := Lib.hid hin
          clear hb hin
          go_upto_region 7 with fail
          generalize (if tc = 1 then some (⟨tg, to, none⟩ : Addr) else some ⟨tg, to + 1, none⟩) = ta at *
          go_wp2_with fail
          go_roundg (gk - 1)
          case measure => have := HR.out.f; simp at this; omega
          case rel => exact ⟨S, rest, HR.out.st.skip (.inr HIN.out), HO.out.ext ((Ext.refl wr).alloc _), HR.out.map.ext ((Ext.refl wr).alloc _), HR.out.x.alloc _, fun x hx => HR.out.short x (by simp [hx]), by have := HR.out.le; simp at this; omega, by have := HR.out.f; simp at this; omega⟩
        · have hb : (boolGet S n).getD (.bool false) = .bool false := by unfold boolGet; rw [if_neg hin]; rfl
          rw [hb] at hlk2
          have HIN := Lib.hid hin
          clear hb hin
          have hnm : S.length < maxLen := by have := HR.out.st.len; have := hs.len; unfold maxLen; omega
          have hstep := HR.out.st.take HF.out HIN.out
          have HST := Lib.hid hstep
          have hSl := hstep.len
          have HSL := Lib.hid hSl
          have hle2 := HR.out.le
          simp only [List.length_cons] at hle2
          have hus := hs.len
          have hrl := HRL.out.1
          clear hstep
          go_upto_region 7 with fail
          generalize (if tc = 1 then some (⟨tg, to, none⟩ : Addr) else some ⟨tg, to + 1, none⟩) = ta at *
          have hsl3 : S.length ≤ 20 := by have := HR.out.st.len; omega
          go_wp2_with (first
            | (refine wpList_put _ rfl (.tmp 37) (.tmp 38) (.const (.bool true)) 74 rfl 4 Try.underlying74 w.heap.size S.length (boolGet S) rfl (HR.out.map.ext ((Ext.refl wr).alloc _)) hnm n rfl hnl (.bool true) rfl ?_; intro w8 m8 g8; have M8 := Lib.hid m8; have G8 := Lib.hid g8;
                have X8 := Lib.hid ((HR.out.x.alloc _).grow g8 fun k hk => by cases hk; exact Nat.le_refl _);
                have O8 := Lib.hid ((HO.out.ext ((Ext.refl wr).alloc _)).grown g8 (.inr fun e => by have := (HO.out.lt _ e).1; omega)); have e8 : w8.cell? ⟨wr.heap.size, 4, none⟩ = some (.slice b3 u.requires.length c3') := (by rw [cell_blk ((World.grownBy.block g8 wr.heap.size (by simp) (by have := HR.out.map.lt; simp; omega)).trans (heap_alloc_new _ _))]; rfl); clear m8 g8)
            | (refine wpList_append_off _ rfl (.tmp 39) (.tmp 41) 23 rfl Try.underlying23 (w.heap.size + 1) _ _ rfl rfl rest u.requires O8.out (SR.out.ext X8.out) (by omega) (by have := M8.out.lt; omega) ?_; intro v9 w9 o9 g9; have O9 := Lib.hid o9; have G9 := Lib.hid g9; clear o9 g9; (obtain ⟨a9, c9, rfl, -⟩ := O9.out.form)))
          go_roundg (gk - 1)
          case measure => have := HR.out.f; simp at this; omega
          case rel =>
            refine ⟨S ++ [n], rest ++ u.requires, HST.out, ?_, ?_, ?_, ?_, ?_, ?_⟩
            · have := O9.out
              rw [List.length_append] at this
              exact this
            · have := M8.out
              rw [boolGet_put] at this
              rw [List.length_append]
              exact this.grown G9.out fun e => by have := (O8.out.lt _ e).1; omega
            · exact X8.out.grow G9.out fun k hk => by have := (O8.out.lt _ hk).1; omega
            · intro x hx
              rcases List.mem_append.1 hx with hx | hx
              · exact HR.out.short x (by simp [hx])
              · have := HRL.out.2 x hx; unfold maxLen; omega
            · rw [List.length_append, List.length_append]; simp only [List.length_singleton]; omega
            · have h1 := HR.out.f
              have h2 := HSL.out
              rw [List.length_append] at h2
              rw [List.length_append, List.length_append]
              simp only [List.length_singleton, List.length_cons] at h1 h2 ⊢
              omega
end Go.Proofs.Ytobdjfibaemmhaa
