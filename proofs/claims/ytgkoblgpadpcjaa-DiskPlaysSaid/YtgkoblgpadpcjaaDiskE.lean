/- The document's disk: how it lies in memory; its Crash. -/
import Derived.Test.YtgkoblgpadpcjaaDiskPowerW
import Derived.Laws.CopyOwn
namespace Go.Proofs.Ytgkoblgpadpcjaa
open Go.RowKit

structure RefIs (w : World) (kv cv : Value) (kp : Nat) (D : Dk) : Prop where
  kept : w.ownsRow 0 62 64 kv D.kept.length (flatK D.kept)
  cache : w.ownsRow 0 115 65 cv D.cache.length (flatC D.cache)
  keeps : kp < 18446744073709551616
  same : 0 < D.fate → kp = D.keeps
  wf : Wf D
/-- The document's disk, as a value. -/
def Ref (w : World) (v : Value) (D : Dk) : Prop := ∃ (kv cv : Value) (kp : Nat), v = .agg #[kv, cv, .bool D.down, .int .i64 D.fate, .int .u64 kp, .int .i64 D.steps] ∧ RefIs w kv cv kp D
theorem own_ext {w w' : World} {base e s n : Nat} {v : Value} {xs : List Value} (h : w.ownsRow base e s v n xs) (x : Ext w w') : w'.ownsRow base e s v n xs :=
  row_same h fun k hk => x.block k (h.lt k hk.symm).2
theorem RefIs.ext {w w' : World} {kv cv : Value} {kp : Nat} {D : Dk} (h : RefIs w kv cv kp D) (x : Ext w w') : RefIs w' kv cv kp D := ⟨own_ext h.kept x, own_ext h.cache x, h.keeps, h.same, h.wf⟩
theorem Ref.ext {w w' : World} {v : Value} {D : Dk} (h : Ref w v D) (x : Ext w w') : Ref w' v D := by
  obtain ⟨kv, cv, kp, rfl, h⟩ := h; exact ⟨kv, cv, kp, rfl, h.ext x⟩
theorem own_src {w : World} {base e s n : Nat} {v : Value} {xs : List Value} (h : w.ownsRow base e s v n xs) : Src w v n xs := by
  rcases h.2 with ⟨rfl, rfl⟩ | ⟨g, cap, cur, rfl, hb, hh, hc, hm, hs, ht⟩
  · exact ⟨none, 0, rfl, fun _ => ⟨rfl, rfl⟩, fun _ h => by cases h⟩
  · exact ⟨_, _, rfl, (fun h => by cases h), fun ad had j y hy => by cases had; exact h.cells (g := g) rfl j y hy⟩
theorem own_base {w : World} {base base' e s n : Nat} {v : Value} {xs : List Value} (h : w.ownsRow base e s v n xs) (hb : base' ≤ base) : w.ownsRow base' e s v n xs := by
  refine ⟨h.1, h.2.imp id ?_⟩
  rintro ⟨g, cap, cur, e, h1, r⟩
  exact ⟨g, cap, cur, e, Nat.le_trans hb h1, r⟩
theorem own_writes {w : World} {base e : Nat} {v : Value} {C : List (Nat × List UInt8)} (h : w.ownsRow base e 65 v C.length (flatC C)) (hC : ∀ c ∈ C, c.2.length = 64) :
    ∃ a cap, v = .slice a C.length cap ∧ C.length ≤ cap ∧ cap ≤ 9223372036854775807 ∧ ∀ j, (hj : j < C.length) → ∃ cb, a = some ⟨cb, 0, none⟩ ∧ cb < w.heap.size ∧ w.rangeAt cb (j * 65) (wvals C[j]) ∧ w.cell? ⟨cb, j * 65, none⟩ = some (.int .i64 C[j].1) ∧ w.rangeAt cb (j * 65 + 1) (byteVals C[j].2) := by
  rcases h.2 with ⟨rfl, h0⟩ | ⟨q, cap, cur, rfl, hb, hh, hc, hm, hs, ht⟩
  · exact ⟨none, 0, by rw [h0], by omega, by omega, fun j hj => by omega⟩
  · refine ⟨_, cap, rfl, hc, by unfold maxLen at hm; omega, fun j hj => ⟨q, rfl, (Array.getElem?_eq_some_iff.1 hh).1, ?_⟩⟩
    have hr : w.rangeAt q (j * 65) (wvals C[j]) := by
      intro r v hr
      have hr65 : r < 65 := by
        have := (List.getElem?_eq_some_iff.1 hr).1
        rw [wvals_len (hC _ (List.getElem_mem hj))] at this
        exact this
      have := h.cells (g := q) rfl (j * 65 + r) v (by
        unfold flatC
        rw [flatMap_idx wvals 65 C (fun x hx => wvals_len (hC x hx)) j r hj hr65]
        exact hr)
      rw [Addr.add_lit, Nat.zero_add] at this
      exact this
    refine ⟨hr, by simpa using hr 0 _ rfl, fun r v hrr => ?_⟩
    have := hr (r + 1) v (by simpa [wvals] using hrr)
    rwa [show j * 65 + 1 + r = j * 65 + (r + 1) by omega]
theorem own_sectors {w : World} {base e : Nat} {v : Value} {K : List (List UInt8)} (h : w.ownsRow base e 64 v K.length (flatK K)) (hK : ∀ s ∈ K, s.length = 64) :
    ∃ a cap, v = .slice a K.length cap ∧ K.length ≤ cap ∧ cap ≤ 9223372036854775807 ∧ ∀ j, (hj : j < K.length) → ∃ kb, a = some ⟨kb, 0, none⟩ ∧ base ≤ kb ∧ kb < w.heap.size ∧ w.rangeAt kb (j * 64) (byteVals K[j]) ∧ w.there kb (j * 64) 64 := by
  rcases h.2 with ⟨rfl, h0⟩ | ⟨q, cap, cur, rfl, hb, hh, hc, hm, hs, ht⟩
  · exact ⟨none, 0, by rw [h0], by omega, by omega, fun j hj => by omega⟩
  · refine ⟨_, cap, rfl, hc, by unfold maxLen at hm; omega, fun j hj => ⟨q, rfl, hb, (Array.getElem?_eq_some_iff.1 hh).1, ?_⟩⟩
    have hl : (byteVals K[j]).length = 64 := by rw [byteVals_length, hK _ (List.getElem_mem hj)]
    have hr : w.rangeAt q (j * 64) (byteVals K[j]) := by
      intro r v hr
      have hr64 : r < 64 := by
        have := (List.getElem?_eq_some_iff.1 hr).1
        omega
      have := h.cells (g := q) rfl (j * 64 + r) v (by
        unfold flatK
        rw [flatMap_idx byteVals 64 K (fun x hx => by rw [byteVals_length]; exact hK x hx) j r hj hr64]
        exact hr)
      rw [Addr.add_lit, Nat.zero_add] at this
      exact this
    refine ⟨hr, fun r hr64 => ⟨?_, by simp [World.frozen?, hh]⟩⟩
    rw [hr r _ (List.getElem?_eq_getElem (by omega))]
    rfl
theorem own_store {w : World} {base e q cap : Nat} {K : List (List UInt8)} (h : w.ownsRow base e 64 (.slice (some ⟨q, 0, none⟩) K.length cap) K.length (flatK K)) (hK : ∀ s ∈ K, s.length = 64) (i : Nat) (hi : i < K.length) (s : List UInt8) (hs : s.length = 64) :
    (w.setCells q (i * 64) (byteVals s)).ownsRow base e 64 (.slice (some ⟨q, 0, none⟩) (K.set i s).length cap) (K.set i s).length (flatK (K.set i s)) := by
  have hlen : ∀ L : List (List UInt8), (∀ s ∈ L, s.length = 64) → (flatK L).length = L.length * 64 := fun L hL => flatMap_len byteVals 64 L (fun x hx => by rw [byteVals_length]; exact hL x hx)
  have hK2 : ∀ x ∈ K.set i s, x.length = 64 := by
    intro x hx
    rcases List.mem_or_eq_of_mem_set hx with h1 | h1
    · exact hK x h1
    · rw [h1]; exact hs
  refine ⟨hlen _ hK2, ?_⟩
  rcases h.2 with ⟨h1, _⟩ | ⟨q', cap', cur, h1, hb, hh, hc, hm, hz, ht⟩
  · cases h1
  · cases h1
    have ec : cur = (flatK K ++ cur.toList.drop (K.length * 64)).toArray := by
      rw [← ht, List.take_append_drop]
    have e1 : K = K.take i ++ K[i] :: K.drop (i + 1) := by rw [List.getElem_cons_drop, List.take_append_drop]
    have e2 : K.set i s = K.take i ++ s :: K.drop (i + 1) := by rw [List.set_eq_take_append_cons_drop, if_pos hi]
    have hl : (flatK (K.take i)).length = i * 64 := by
      rw [hlen _ (fun x hx => hK x (List.mem_of_mem_take hx)), List.length_take, Nat.min_eq_left (by omega)]
    have f1 : flatK K = flatK (K.take i) ++ byteVals K[i] ++ flatK (K.drop (i + 1)) := by
      have e3 : flatK (K.take i ++ K[i] :: K.drop (i + 1)) = flatK (K.take i) ++ byteVals K[i] ++ flatK (K.drop (i + 1)) := by
        unfold flatK
        rw [List.flatMap_append, List.flatMap_cons, List.append_assoc]
      rw [← e3, ← e1]
    have f2 : flatK (K.set i s) = flatK (K.take i) ++ byteVals s ++ flatK (K.drop (i + 1)) := by
      rw [e2]; simp [flatK]
    have := putAt_mid (byteVals s) (byteVals K[i]) (flatK (K.take i)) (flatK (K.drop (i + 1)) ++ cur.toList.drop (K.length * 64)) (by rw [byteVals_length, byteVals_length, hs, hK _ (List.getElem_mem hi)])
    rw [hl, ← List.append_assoc, ← List.append_assoc, ← f1, ← f2, ← ec] at this
    refine .inr ⟨q, cap, _, rfl, hb, setCells_heap q _ _ w _ _ _ hh, by simpa using hc, hm, by rw [putAt_size]; exact hz, ?_⟩
    rw [this]
    rw [← hlen _ hK2]
    exact List.take_left
theorem Ext.grown {w0 w w' : World} {row : Option Nat} (h : Ext w0 w) (g : w.grownBy w' row) (hr : ∀ k, row = some k → w0.heap.size ≤ k) : Ext w0 w' := by
  refine ⟨g.os.trans h.os, g.tape.trans h.tape, g.output.trans h.output, Nat.le_trans h.size g.size, fun k hk => (g.block k (Nat.lt_of_lt_of_le hk h.size) fun e => ?_).trans (h.block k hk)⟩
  have := hr k e.symm
  omega
theorem Try.zero62 : (Try.prog.info? 62).map (fun i => (i.zero, i.size, i.bytes)) = some (some (.agg (byteVals zero64).toArray), 64, 64) := by kernel_rfl
theorem Try.zero115 : (Try.prog.info? 115).map (fun i => (i.zero, i.size, i.bytes)) = some (some (.agg Try.zeroCells115), 65, 72) := by kernel_rfl
theorem Try.info62 : (Try.prog.info? 62).map (·.size) = some 64 := by kernel_rfl
theorem zc115 : Try.zeroCells115.size = 65 := by kernel_rfl
theorem flatK_one (K : List (List UInt8)) : ∀ u ∈ flatK K, u.oneCell' = true := by
  intro u hu
  obtain ⟨s, -, h⟩ := List.mem_flatMap.1 hu
  exact byteVals_oneCell s u h
theorem flatC_one (K : List (Nat × List UInt8)) : ∀ u ∈ flatC K, u.oneCell' = true := by
  intro u hu
  obtain ⟨s, -, h⟩ := List.mem_flatMap.1 hu
  exact wvals_one s u h
theorem own_none (w : World) (e s : Nat) : (w.alloc (.cells #[] e)).ownsRow w.heap.size e s (.slice (some ⟨w.heap.size, 0, none⟩) 0 0) 0 [] := World.ownsRow_lit w #[] 0 (Nat.le_refl _) (by decide) (by simp)

theorem own_none2 (w : World) (o1 o2 : Obj) (e s : Nat) : (((w.alloc o1).alloc o2).alloc (.cells #[] e)).ownsRow w.heap.size e s (.slice (some ⟨w.heap.size + 1 + 1, 0, none⟩) 0 0) 0 [] := by
  have := own_none ((w.alloc o1).alloc o2) e s
  simp only [World.size_alloc] at this
  exact own_base this (by omega)
theorem flatK_len (L : List (List UInt8)) (hL : ∀ s ∈ L, s.length = 64) : (flatK L).length = L.length * 64 := flatMap_len byteVals 64 L (fun x hx => by rw [byteVals_length]; exact hL x hx)
theorem flatC_len (L : List (Nat × List UInt8)) (hL : ∀ c ∈ L, c.2.length = 64) : (flatC L).length = L.length * 65 := flatMap_len wvals 65 L (fun x hx => wvals_len (hL x hx))
theorem wpList_app62 {w : World} {ops : Array Oper} {rest : List Oper} {o : Oper} {a : Act} {Q : Exit → Act → World → Prop}
    (hg : o.guard = none) (s x : Operand) (hop : o.op = Op.call { callee := Callee.builtin Builtin.append, args := #[s, x], argTypes := #[73, 73] })
    (base : Nat) (v u : Value) (hs : a.eval s = v) (hx : a.eval x = u) (K L : List (List UInt8)) (hown : w.ownsRow base 62 64 v K.length (flatK K)) (hL : ∀ s ∈ L, s.length = 64) (hsrc : Src w u L.length (flatK L))
    (hm : K.length + L.length ≤ 1000000000) (hbase : base ≤ w.heap.size)
    (hK : ∀ v' w', w'.ownsRow base 62 64 v' (K ++ L).length (flatK (K ++ L)) → w.grownBy w' v.ownBlock → NewOrSame w v v' → wpList Try.prog ops Q rest (a.put o.dst v') w') :
    wpList Try.prog ops Q (o :: rest) a w := by
  obtain ⟨i0, hi, hz0, hz1, hz2⟩ := info_parts Try.zero62
  refine wpList_append_src w hg s x 73 hop base 62 i0 _ 64 64 Try.underlying73 hi hz0 hz1 hz2 rfl (by decide) v u hs hx K.length (flatK K) hown L.length (flatK L) (flatK_len L hL) hsrc (flatK_one L) (by unfold maxLen; omega) (by omega) hbase ?_
  intro v' w' h1 h2 h3
  refine hK v' w' ?_ h2 h3
  rw [List.length_append, show flatK (K ++ L) = flatK K ++ flatK L by unfold flatK; rw [List.flatMap_append]]
  exact h1
theorem wpList_app115 {w : World} {ops : Array Oper} {rest : List Oper} {o : Oper} {a : Act} {Q : Exit → Act → World → Prop}
    (hg : o.guard = none) (s x : Operand) (hop : o.op = Op.call { callee := Callee.builtin Builtin.append, args := #[s, x], argTypes := #[74, 74] })
    (base : Nat) (v u : Value) (hs : a.eval s = v) (hx : a.eval x = u) (K L : List (Nat × List UInt8)) (hown : w.ownsRow base 115 65 v K.length (flatC K)) (hL : ∀ c ∈ L, c.2.length = 64) (hsrc : Src w u L.length (flatC L))
    (hm : K.length + L.length ≤ 1000000000) (hbase : base ≤ w.heap.size)
    (hK : ∀ v' w', w'.ownsRow base 115 65 v' (K ++ L).length (flatC (K ++ L)) → w.grownBy w' v.ownBlock → NewOrSame w v v' → wpList Try.prog ops Q rest (a.put o.dst v') w') :
    wpList Try.prog ops Q (o :: rest) a w := by
  obtain ⟨i0, hi, hz0, hz1, hz2⟩ := info_parts Try.zero115
  refine wpList_append_src w hg s x 74 hop base 115 i0 _ 65 72 Try.underlying74 hi hz0 hz1 hz2 zc115 (by decide) v u hs hx K.length (flatC K) hown L.length (flatC L) (flatC_len L hL) hsrc (flatC_one L) (by unfold maxLen; omega) (by omega) hbase ?_
  intro v' w' h1 h2 h3
  refine hK v' w' ?_ h2 h3
  rw [List.length_append, show flatC (K ++ L) = flatC K ++ flatC L by unfold flatC; rw [List.flatMap_append]]
  exact h1

theorem three_blocks (w : World) (o1 o2 o3 : Obj) : (((w.alloc o1).alloc o2).alloc o3).heap[w.heap.size]? = some o1 ∧ (((w.alloc o1).alloc o2).alloc o3).heap[w.heap.size + 1]? = some o2 := by
  have e1 := heap_alloc_new w o1
  have e2 := heap_alloc_new (w.alloc o1) o2
  rw [World.size_alloc] at e2
  constructor
  · rw [heap_alloc_old _ _ (by simp; omega), heap_alloc_old _ _ (by simp), e1]
  · rw [heap_alloc_old _ _ (by simp), e2]
def RCloop (w : World) (q qcap : Nat) (C0 Z0 : Array Value) (D : Dk) (keeps : Nat) (i : Value) (wr : World) : Prop :=
  ∃ k : Nat, i = .int .i64 k ∧ k ≤ D.cache.length ∧ Hid (Ext w wr) ∧ Hid (wr.heap[w.heap.size]? = some (.cells C0 76 (0, 0))) ∧ Hid (wr.heap[w.heap.size + 1]? = some (.cells Z0 76 (0, 0))) ∧ Hid (wr.ownsRow w.heap.size 62 64 (.slice (some ⟨q, 0, none⟩) D.kept.length qcap) D.kept.length (flatK (lay (bitOf keeps) (D.cache.take k) 0 D.kept)))
theorem bit_ref (keeps k : Nat) : (((keeps : Int) / 2 ^ (k % 64)).tmod 2 == 1) = bitOf keeps k := by
  have e : ((keeps : Int) / 2 ^ (k % 64)) = ((keeps / 2 ^ (k % 64) : Nat) : Int) := by simp
  rw [e, show (2 : Int) = ((2 : Nat) : Int) from rfl, ← Int.ofNat_tmod]
  unfold bitOf
  rw [Nat.testBit_eq_decide_div_mod_eq]
  by_cases h1 : keeps / 2 ^ (k % 64) % 2 = 1
  · rw [h1]; rfl
  · rw [show keeps / 2 ^ (k % 64) % 2 = 0 by omega]; rfl
theorem six_one (a a' : Option Addr) (n n' c c' : Nat) (b : Bool) (f k s : Int) : (#[.slice a n c, .slice a' n' c', .bool b, .int .i64 f, .int .u64 k, .int .i64 s] : Array Value).all (·.oneCell') = true := by simp [Value.oneCell']
theorem Try.info76 : (Try.prog.info? 76).map (·.size) = some 6 := by kernel_rfl
theorem res_one {f : Func} {r : Nat} (hf : f.results = #[.cell r 76]) (tmps : Array Value) (w : World) (B : Nat) (cs : Array Value) (hp : tmps.getD r undef = .pointer (some ⟨B, 0, none⟩)) (hg : w.heap[B]? = some (.cells cs 76 (0, 0))) (hcs : cs.size = 6) :
    (results f tmps).run Try.prog w = .ok (.agg cs) w := by
  have hp' : tmps[r]?.getD undef = .pointer (some ⟨B, 0, none⟩) := by simpa using hp
  simp [results, hf, hp', asAddr, run_loadVar_row w B 76 76 cs (0, 0) _ hg Try.underlying76 rfl (by rw [hcs]; exact Try.info76)]
theorem res_two {f : Func} {r t : Nat} (hf : f.results = #[.cell r 76, .tmp t]) (tmps : Array Value) (w : World) (B : Nat) (cs : Array Value) (e : Value) (hp : tmps.getD r undef = .pointer (some ⟨B, 0, none⟩)) (h5 : tmps.getD t undef = e) (hg : w.heap[B]? = some (.cells cs 76 (0, 0))) (hcs : cs.size = 6) :
    (results f tmps).run Try.prog w = .ok (.tuple #[.agg cs, e]) w := by
  have hp' : tmps[r]?.getD undef = .pointer (some ⟨B, 0, none⟩) := by simpa using hp
  have h5' : tmps[t]?.getD undef = e := by simpa using h5
  simp [results, hf, hp', h5', asAddr, run_loadVar_row w B 76 76 cs (0, 0) _ hg Try.underlying76 rfl (by rw [hcs]; exact Try.info76)]
theorem Try.results51 : Try.f51.results = #[.cell 4 76] := by kernel_rfl
def Sr (B cb o q ca n cap : Nat) (sv : List UInt8) (W : World) : Prop :=
  W.cell? ⟨B, 1, none⟩ = some (.slice (some ⟨cb, 0, none⟩) n cap) ∧ W.cell? ⟨cb, o, none⟩ = some (.int .i64 ca) ∧ W.rangeAt cb (o + 1) (byteVals sv) ∧ W.there q (ca * 64) 64
theorem Sr.store {B cb o q ca n cap : Nat} {sv : List UInt8} {W : World} (h : Sr B cb o q ca n cap sv W) (hB : B ≠ q) (hc : cb ≠ q) : Sr B cb o q ca n cap sv (W.drew.setCells q (ca * 64) (byteVals sv)) := by
  obtain ⟨h0, h1, h2, h3⟩ := h
  refine ⟨?_, ?_, fun j v hj => ?_, ?_⟩
  · rw [cell_setCells_ne _ _ _ _ _ hB]; exact h0
  · rw [cell_setCells_ne _ _ _ _ _ hc]; exact h1
  · rw [cell_setCells_ne _ _ _ _ _ hc]; exact h2 j v hj
  · exact World.there_setCells (w := W.drew) h3 _ _ _
set_option maxRecDepth 100000 in
set_option maxHeartbeats 2000000 in
theorem RCrash_any (D : Dk) (kv cv : Value) (kp keeps : Nat) (w : World) (h : RefIs w kv cv kp D) (hk : keeps < 18446744073709551616) (hcl : D.cache.length ≤ 1000000000) :
    Calls Try.prog 51 #[.agg #[kv, cv, .bool D.down, .int .i64 D.fate, .int .u64 kp, .int .i64 D.steps], .int .u64 keeps] w fun e w' => ∃ v, e = .returned v ∧ Ext w w' ∧ Ref w' v (D.crash keeps) := by
  have HR := Lib.hid h
  have hm4 := h.wf.most
  obtain ⟨ka, kcap, rfl, hk1, hk2, hkk⟩ := own_sectors h.kept h.wf.kept
  obtain ⟨ca, ccap, rfl, hc1, hc2, hcc⟩ := own_writes h.cache (fun c hc => (h.wf.cache c hc).2)
  have HKR := Lib.hid h.kept
  have HCC := Lib.hid hcc
  have HKW := Lib.hid h.wf.kept
  have HKP := Lib.hid hk
  obtain ⟨i0, hi0, hz0, hz1, hz2⟩ := info_parts Try.zero62
  have HI := Lib.hid (And.intro hi0 (And.intro hz0 (And.intro hz1 hz2)))
  have hsm : D.cache.length ≤ 9223372036854775807 := by omega
  obtain ⟨C0, hC0⟩ : ∃ C0 : Array Value, C0 = #[.slice ka D.kept.length kcap, .slice ca D.cache.length ccap, .bool D.down, .int .i64 D.fate, .int .u64 kp, .int .i64 D.steps] := ⟨_, rfl⟩
  have HC0 := Lib.hid hC0
  clear h hkk hcc hi0 hz0 hz1 hz2 hC0 hk
  go_enter Try.func51, Try.ntmps51
  go_upto_region 2 with (refine wpList_app62 rfl (.tmp 7) (.tmp 9) rfl w.heap.size (.slice (some ⟨w.heap.size + 1 + 1, 0, none⟩) 0 0) (.slice ka D.kept.length kcap) rfl rfl [] D.kept (own_none2 _ _ _ _ _) HKW.out (own_src (own_ext HKR.out ((((Ext.refl _).alloc _).alloc _).alloc _))) (by simp; omega) (by simp; omega) ?_)
  obtain ⟨Z0, hZ0⟩ : ∃ Z0 : Array Value, Z0 = #[.slice none 0 0, .slice none 0 0, .bool false, .int .i64 0, .int .u64 0, .int .i64 0] := ⟨_, rfl⟩
  have HZ0 := Lib.hid hZ0
  rw [← hZ0, ← HC0.out]
  clear hZ0
  intro v' w4 o4 g4 _
  have X4 := Lib.hid (Ext.grown ((((Ext.refl w).alloc _).alloc _).alloc _) g4 (fun k e => by simp [Value.ownBlock] at e; omega))
  have B1 := Lib.hid ((g4.block w.heap.size (by simp; omega) (by simp [Value.ownBlock]; omega)).trans (three_blocks w _ _ _).1)
  have B2 := Lib.hid ((g4.block (w.heap.size + 1) (by simp) (by simp [Value.ownBlock])).trans (three_blocks w _ _ _).2)
  obtain ⟨qa, qcap, rfl, hq1, hq2, hqq⟩ := own_sectors o4 HKW.out
  obtain ⟨q, rfl, hqb, hql, -, -⟩ := hqq 0 HR.out.wf.pos
  have O4 := Lib.hid o4
  clear o4 g4 hqq
  go_wp2_with fail
  go_loopw [6] (fun i wr => RCloop w q qcap C0 Z0 D keeps i wr) (fun i _ => D.cache.length - (intOf i).toNat)
  case atStart => exact ⟨0, rfl, Nat.zero_le _, X4, B1, B2, O4⟩
  case round =>
    obtain ⟨k, rfl, hk, hx, hb1, hb2, ho⟩ := hrel
    have q1 : wr.cell? ⟨w.heap.size, 1, none⟩ = some (.slice ca D.cache.length ccap) := by rw [cell_of_row _ _ _ _ _ _ hb1.out, HC0.out]; rfl
    by_cases hlt : k < D.cache.length
    · obtain ⟨cb, rfl, hcb, hr, hr1, hr2⟩ := HCC.out k hlt
      have hcl2 := HR.out.wf.cache _ (List.getElem_mem hlt)
      have HLS := Lib.hid (lay_take_succ (bitOf keeps) D.cache 0 k D.kept hlt)
      generalize D.cache[k] = c at *
      obtain ⟨ca', sv⟩ := c
      obtain ⟨hca, hsv⟩ := hcl2
      simp only at hr1 hr2 hca hsv
      have hbw := bit_ref keeps k
      by_cases hbit : bitOf keeps k = true
      · rw [hbit] at hbw
        rw [Nat.zero_add, if_pos hbit] at HLS
        have hLl : (lay (bitOf keeps) (List.take k D.cache) 0 D.kept).length = D.kept.length := lay_length _ _ _ _
        have hL64 := Lib.hid (lay_all (bitOf keeps) (List.take k D.cache) 0 D.kept (fun x hx => (HR.out.wf.cache x (List.mem_of_mem_take hx)).2) HKW.out)
        generalize lay (bitOf keeps) (List.take k D.cache) 0 D.kept = L at *
        have ho' : Hid (wr.ownsRow w.heap.size 62 64 (.slice (some ⟨q, 0, none⟩) L.length qcap) L.length (flatK L)) := by rw [hLl]; exact ho
        obtain ⟨qa, qcap', eq, -, -, hqq⟩ := own_sectors ho'.out hL64.out
        obtain ⟨q', rfl, -, -, -, e4⟩ := hqq ca' (by omega)
        simp only [Value.slice.injEq, Option.some.injEq, Addr.mk.injEq] at eq
        obtain ⟨⟨rfl, -⟩, -⟩ := eq
        have e2 := hx.out.cell hr1
        have e3 := range_keep hr2 (hx.out.block cb hcb)
        have hne1 : w.heap.size ≠ q := by
          intro e
          rw [← e] at ho'
          rcases ho'.out.2 with ⟨h, _⟩ | ⟨g, cap, cur, h, -, hh, -⟩
          · cases h
          · cases h
            have := hb1.out.symm.trans hh
            simp at this
        have hne2 : w.heap.size + 1 ≠ q := by
          intro e
          rw [← e] at ho'
          rcases ho'.out.2 with ⟨h, _⟩ | ⟨g, cap, cur, h, -, hh, -⟩
          · cases h
          · cases h
            have := hb2.out.symm.trans hh
            simp at this
        have HNE := Lib.hid (And.intro hne1 hne2)
        have KS := Lib.hid (Sr.store (B := w.heap.size) (cb := cb) (o := k * 65) (q := q) (n := D.cache.length) (cap := ccap) ⟨q1, e2, e3, e4⟩ hne1 (by omega))
        have O5 := Lib.hid (own_store (World.ownsRow.drew ho'.out) hL64.out ca' (by omega) sv hsv)
        have HLL := Lib.hid hLl
        have hbl : (byteVals sv).length = 64 := by rw [byteVals_length]; exact hsv
        have hu := Try.underlying62
        have hi : (Try.prog.info? 62).map (·.size) = some (byteVals sv).length := by rw [hbl]; exact Try.info62
        have h1b := byteVals_oneCell sv
        have hb0 : (0 : Int) ≤ (ca' : Int) := by omega
        have hb1' : (ca' : Int) < (D.kept.length : Int) := by omega
        have hk0 : (0 : Int) ≤ (k : Int) := by omega
        have hk1 : (k : Int) < (D.cache.length : Int) := by omega
        clear hqq hr hr1 hr2 hLl hne1 hne2
        go_upto_region 6 with fail
        go_region_held3 (fun W => W.cell? ⟨w.heap.size, 1, none⟩ = some (.slice (some ⟨cb, 0, none⟩) D.cache.length ccap) ∧ W.cell? ⟨cb, k * 65, none⟩ = some (.int .i64 ca') ∧ W.rangeAt cb (k * 65 + 1) (byteVals sv) ∧ W.there q (ca' * 64) 64)
          (first | exact KS.out | go_keep_ranges) (fail)
        all_goals go_wp2_with fail
        all_goals go_roundw
        case rel => exact ⟨k + 1, by go_num, by omega, diskPower.below_setCells (Ext.drew hx.out) hqb, ((setCells_keep q (byteVals sv) (ca' * 64) wr.drew).2.2.2.2 _ HNE.out.1).trans hb1.out, ((setCells_keep q (byteVals sv) (ca' * 64) wr.drew).2.2.2.2 _ HNE.out.2).trans hb2.out, by have := O5.out; rw [List.length_set, HLL.out] at this; rw [HLS.out]; exact this⟩
        case measure => simp [intOf]; omega
      · have hbit' : bitOf keeps k = false := by simpa using hbit
        rw [hbit'] at hbw
        rw [Nat.zero_add, if_neg hbit] at HLS
        go_wp2_with fail
        go_roundw
        case rel => exact ⟨k + 1, by go_num, by omega, hx, hb1, hb2, by rw [HLS.out]; exact ho⟩
        case measure => simp [intOf]; omega
    · obtain rfl : k = D.cache.length := by omega
      rw [List.take_length] at ho
      have q0 : wr.cell? ⟨w.heap.size, 0, none⟩ = some (.slice ka D.kept.length kcap) := by rw [cell_of_row _ _ _ _ _ _ hb1.out, HC0.out]; rfl
      have q5 : wr.cell? ⟨w.heap.size, 5, none⟩ = some (.int .i64 D.steps) := by rw [cell_of_row _ _ _ _ _ _ hb1.out, HC0.out]; rfl
      obtain ⟨R0, hR0⟩ : ∃ R0 : Array Value, R0 = #[.slice (some ⟨q, 0, none⟩) D.kept.length qcap, .slice none 0 0, .bool true, .int .i64 (-1), .int .u64 0, .int .i64 D.steps] := ⟨_, rfl⟩
      have HR0 := Lib.hid hR0
      have HY : Hid (Value.agg #[.slice (some ⟨q, 0, none⟩) D.kept.length qcap, .slice none 0 0, .bool true, .int .i64 (-1), .int .u64 0, .int .i64 D.steps] = .agg R0) := by rw [hR0]; exact rfl
      have HI6 : Hid ((Try.prog.info? 76).map (·.size) = some R0.size) := by rw [hR0]; exact Try.info76
      have HZS : Hid (Z0.size = R0.size) := by rw [hR0, HZ0.out]; exact rfl
      have HAL : Hid (R0.all (·.oneCell') = true) := by rw [hR0]; exact six_one _ _ _ _ _ _ _ _ _ _
      clear hR0
      have HW := Lib.hid (below_setRow hx.out (Nat.le_succ w.heap.size) R0)
      have HO := Lib.hid (row_same ho.out (w' := wr.setRow (w.heap.size + 1) R0) (fun k e => setRow_other wr _ k _ (fun e2 => by
        subst e2
        rcases ho.out.2 with ⟨h, _⟩ | ⟨g, cap, cur, h, -, hh, -⟩
        · cases h
        · cases h
          simp only [Value.ownBlock, Option.some.injEq] at e
          subst e
          have := hb2.out.symm.trans hh
          simp at this)))
      go_wp2_with (refine wpList_store_row rfl 76 (.tmp 4) (.tmp 42) rfl (w.heap.size + 1) R0 rfl HY.out 76 Z0 hb2.out HI6.out HZS.out HAL.out ?_)
      refine bodyPost_ret (res_one Try.results51 _ _ (w.heap.size + 1) R0 rfl (setRow_heap wr _ _ _ _ _ hb2.out) (by rw [HR0.out]; rfl)) rfl ?_
      refine ⟨_, rfl, HW.out, _, _, 0, by rw [HR0.out]; rfl, ?_, World.ownsRow_nil _ _ _ _, by decide, fun h => absurd h (by show ¬ (0 : Int) < -1; decide), HR.out.wf.crash keeps⟩
      have := own_base HO.out (Nat.zero_le _)
      show World.ownsRow _ _ _ _ _ (lay (bitOf keeps) D.cache 0 D.kept).length (flatK (lay (bitOf keeps) D.cache 0 D.kept))
      rw [lay_length]
      exact this
end Go.Proofs.Ytgkoblgpadpcjaa
