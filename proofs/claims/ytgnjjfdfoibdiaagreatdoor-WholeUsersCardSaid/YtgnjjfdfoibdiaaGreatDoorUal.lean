/- A part of the proof of WholeUsers. -/
import Derived.Test.YtgnjjfdfoibdiaaGreatDoorUak
set_option linter.all false
namespace Go.Proofs.YtgnjjfdfoibdiaaGreatDoor
section
open Go.RowKit Go.Maps Go.Sort Go.Lib
set_option maxRecDepth 100000
section
variable {w w' : World} {B n m t mb : Nat} {pb kb : Int → Nat} {dv : Int → Value} {T : Tr} {d : Int → Bool}
theorem NodesAt.drop (h : NodesAt w B n m mb pb kb dv T d) {i : Int} {get : Int → Option Value} (hm : MapK intK w' mb n get) (hg : ∀ j, get j = if j = i then Option.none else if d j then (look T.N j).map fun _ => Value.pointer (some ⟨pb j, 0, Option.none⟩) else Option.none) (g : w.grownBy w' (some mb)) :
  NodesAt w' B n m mb pb kb dv T (fun j => d j && !decide (j = i)) := by
 have keep : ∀ {c : Nat} {cs : Array Value} {ty : TypeId} {fz : Nat × Nat}, w.heap[c]? = some (.cells cs ty fz) → w'.heap[c]? = some (.cells cs ty fz) := fun {c cs ty fz} hc =>
  (g.block c (Array.getElem?_eq_some_iff.1 hc).1 fun e => zDa h.nodes hc (Option.some.inj e)).trans hc
 have keepD : ∀ {v : Value} {l : List UInt8}, DataIs w v l → DataIs w' v l := fun {v l} hv => hv.imp (fun o => by
  refine zEg o fun k hk => ?_
  rcases o.2 with ⟨rfl, _⟩ | ⟨q, cap, cur, rfl, _, hq, _⟩
  ·cases hk
  ·simp only [Value.ownBlock, Option.some.injEq] at hk;subst hk
   rw [keep hq, hq]) id
 have hd1 : ∀ {j}, (d j && !decide (j = i)) = true → d j = true := fun {j} hj => by
  rw [Bool.and_eq_true] at hj; exact hj.1
 refine ⟨hm.congr fun j => ?_, fun j y hy hj => keep (h.node j y hy (hd1 hj)), fun j y hy hj => keepD (h.data j y hy (hd1 hj)), fun p j y hp hy hj hyd => (h.kids p j y hp hy (hd1 hj) hyd).grown g (fun e => h.kmb j y hy (hd1 hj) hyd (Option.some.inj e).symm),
  fun j k y z hy hz hj hk => h.inj j k y z hy hz (hd1 hj) (hd1 hk), fun j k y z hy hz hj hk => h.kinj j k y z hy hz (hd1 hj) (hd1 hk), fun j y hy hj => h.kmb j y hy (hd1 hj), h.bm, fun j y hy hj => h.bp j y hy (hd1 hj), fun j y hy hj => h.bk j y hy (hd1 hj)⟩
 rw [hg j]
 by_cases e : j = i <;> simp [e]
theorem NodesAt.swept (h : NodesAt w B n m mb pb kb dv T d) (e : ∀ i, (look T.N i).isSome = true → d i = !decide (cnt T.R i = 0)) : NodesAt w B n m mb pb kb dv T.swept (fun _ => true) := by
 have hs : ∀ {i x}, look T.swept.N i = some x → look T.N i = some x ∧ d i = true := fun {i x} hi => by
  rw [zDp] at hi
  by_cases hc : cnt T.R i = 0
  ·rw [if_pos hc] at hi; cases hi
  ·rw [if_neg hc] at hi;exact ⟨hi, by rw [e i (by rw [hi]; rfl)]; simp [hc]⟩
 refine ⟨h.nodes.congr fun i => ?_, fun i x hi _ => h.node i x (hs hi).1 (hs hi).2, fun i x hi _ => h.data i x (hs hi).1 (hs hi).2, fun p i x hp hi _ hd => h.kids p i x hp (hs hi).1 (hs hi).2 hd,
  fun i j x y hi hj _ _ => h.inj i j x y (hs hi).1 (hs hj).1 (hs hi).2 (hs hj).2, fun i j x y hi hj _ _ => h.kinj i j x y (hs hi).1 (hs hj).1 (hs hi).2 (hs hj).2, fun i x hi _ => h.kmb i x (hs hi).1 (hs hi).2, h.bm, fun i x hi _ => h.bp i x (hs hi).1 (hs hi).2, fun i x hi _ => h.bk i x (hs hi).1 (hs hi).2⟩
 rw [zDp]
 cases hl : look T.N i with
 | none => simp
 | some x =>
   have := e i (by rw [hl]; rfl)
   by_cases hc : cnt T.R i = 0 <;> simp [this, hc]
def reapRel (w : World) (B n m mb : Nat) (pb kb : Int → Nat) (dv : Int → Value) (T : Tr) (l : List Int) (i : Value) (wr : World) : Prop :=
 ∃ k : Nat, k ≤ l.length ∧ i = .int .i64 k ∧ Hid (w.grownBy wr (some mb)) ∧ Hid (NodesAt wr B n m mb pb kb dv T (fun j => !decide (j ∈ l.take k)))
def reapPost (w : World) (B n m t mb : Nat) (pb kb : Int → Nat) (dv : Int → Value) (T : Tr) (e : Ending) (w' : World) : Prop := e = .returned (.tuple #[]) ∧ TreeAt w' B n m t mb pb kb dv T.swept ∧ w.grownBy w' (some mb)
theorem zNr : Tryz.f125.results = #[] := by kernel_rfl
theorem Reap_any (h : TreeAt w B n m t mb pb kb dv T) (hok : TreeOk T) {v : Value} {l : List Int} {base : Nat} (ho : OwnI w base v l) (hl : ∀ i, i ∈ l ↔ (look T.N i).isSome = true ∧ cnt T.R i = 0) (hnd : l.Nodup) (hll : l.length ≤ 1000000) :
  Calls Tryz.prog 125 #[.pointer (some ⟨t, 0, none⟩), v] w (reapPost w B n m t mb pb kb dv T) := by
 have HT := zh h;have HO := zh ho;have HK := zh hok;have HL := zh hl;have HND := zh hnd;obtain ⟨a, c, rfl, -⟩ := ho.form;clear h ho hl hnd hok;go_enter Tryz.func125, Tryz.ntmps125
 go_wp2_with fail
 go_loopw [9] (fun i wr => reapRel w B n m mb pb kb dv T l i wr) (fun i _ => l.length - (intOf i).toNat)
 case atStart => exact ⟨0, Nat.zero_le _, rfl, zh (World.grownBy.refl _ _), zh (HT.out.ns.congr fun i x _ => by simp)⟩
 case round =>
  obtain ⟨wq, rfl⟩ : ∃ x : World, x = wr := ⟨_, rfl⟩
  obtain ⟨k, hk, rfl, HG, HN⟩ := hrel
  have keep : ∀ {c : Nat} {cs : Array Value} {ty : TypeId} {fz : Nat × Nat}, w.heap[c]? = some (.cells cs ty fz) → wq.heap[c]? = some (.cells cs ty fz) := fun {c cs ty fz} hc =>
   (HG.out.block c (Array.getElem?_eq_some_iff.1 hc).1 fun e => zDa HT.out.nodes hc (Option.some.inj e)).trans hc
  have HB := zh (keep HT.out.blk)
  by_cases hlt : k < l.length
  ·obtain ⟨b, e, e1⟩ := HO.out.at k hlt
   have e2 : wq.cell? ⟨b, k, none⟩ = some (.int .i64 l[k]) := by
    rcases HO.out.2 with ⟨e0, h0⟩ | ⟨g, cap, cur, e0, _, hg, _⟩
    ·omega
    ·cases e0; cases e;refine (World.cell?_of_block (w := w) ?_).trans e1;show wq.heap[b]? = w.heap[b]?;rw [keep hg, hg]
   subst e;have HTK := zh (List.take_succ_eq_append_getElem hlt);have hmem := (HL.out l[k]).1 (List.getElem_mem hlt)
   have hnk : l[k] ∉ l.take k := by
    intro hm;have h1 : (l.take k ++ l.drop k).Nodup := by rw [List.take_append_drop]; exact HND.out
    rw [List.nodup_append] at h1
    have h2 : l[k] ∈ l.drop k := by
     rw [List.drop_eq_getElem_cons hlt];exact List.mem_cons_self
    exact h1.2.2 _ hm _ h2 rfl
   have HNK := zh hnk;obtain ⟨x, hx⟩ := Option.isSome_iff_exists.1 hmem.1;have hless := HT.out.wf.less _ _ hx;have hnext := HK.out.next;have hokk : intK.ok l[k] := zMy (by omega) (by omega);have hlk := HN.out.nodes.look zAz (zIg wq) hokk
   have hget : (if (!decide (l[k] ∈ l.take k)) = true then (look T.N l[k]).map fun _ => Value.pointer (some ⟨pb l[k], 0, none⟩) else none) = some (.pointer (some ⟨pb l[k], 0, none⟩)) := by
    rw [hx]; simp [hnk]
   rw [hget] at hlk;have hlk' : (Instr.lookup 87 (.map (some mb)) (.int .i64 l[k]) false).run Tryz.prog wq = .ok (.pointer (some ⟨pb l[k], 0, none⟩)) wq := hlk
   have hc1 : wq.cell? ⟨pb l[k], 1, none⟩ = some (.int .i64 0) := by
    rw [zAb (HN.out.node _ x hx (by simp [hnk])), hmem.2]; rfl
   have hc0 : wq.cell? ⟨t, 0, none⟩ = some (.map (some mb)) := by rw [zAb HB.out]; rfl
   have HM := zh HN.out.nodes;clear hlk hget hmem hnk hx hless hnext e1;generalize l[k] = i at *
   go_wp2_with (refine zKy wq rfl (.tmp 31) (.tmp 32) 87 rfl 86 zAz intK mb n _ (by rfl) HM.out i (by rfl) hokk ?_; intro w6 m6 g6 s6; have M6 := zh m6; have G6 := zh g6; clear m6 g6 s6)
   go_roundw
   case rel =>
    refine ⟨k + 1, hlt, by go_num, zh ?_, zh ?_⟩
    ·exact ⟨G6.out.os.trans HG.out.os, G6.out.tape.trans HG.out.tape, G6.out.output.trans HG.out.output, Nat.le_trans HG.out.size G6.out.size, fun q hq hne => (G6.out.block q (Nat.lt_of_lt_of_le hq HG.out.size) hne).trans (HG.out.block q hq hne)⟩
    ·refine (HN.out.drop M6.out (i := i) (fun j => rfl) G6.out).congr fun j y _ => ?_
     rw [HTK.out, Bool.eq_iff_iff];simp
   case measure => simp [intOf]; omega
  ·have hkl : k = l.length := by omega
   subst hkl
   go_wp2_with fail
   exact bodyPost_ret (v := .tuple #[]) (by simp [results, zNr, go_sem]) rfl ⟨rfl, ⟨HB.out, by
    refine HN.out.swept fun i hi => ?_
    rw [List.take_length];congr 1;rw [decide_eq_decide, HL.out i]
    simp [hi], HT.out.bt, HT.out.wf.swept⟩, HG.out⟩
end
theorem zHu {w : World} {b n : Nat} {get : Str → Option Value} {D : DataW Value} (h1 : w.ownsMap Tryz.prog 9 zN8 b n D) (h2 : Reads strK D get) {ks : List Str} (hnd : ks.Nodup) (hm : ∀ x, x ∈ ks ↔ (get x).isSome = true) :
  ks.Perm (strKeys D) ∧ Maps.size D = ks.length := by
 have hh := fun k => Reads.has h2 k
 obtain ⟨es, rfl, hk⟩ := h1.keysOf;have ht := h1.tidy strK.keyed;obtain ⟨es', e, hp⟩ := ht;cases e
 have hs : ∀ p ∈ es, ∃ x, p.1 = .string x := fun p hp' => by
  obtain ⟨v, hv⟩ := hk p hp';obtain ⟨x, _, e, _⟩ := Maps.keyOf_str Tryz.underlying9 hv;exact ⟨x, e⟩
 have hperm := perm_strKeys hp hs hnd (fun x => by rw [hm x]; exact (hh x).symm ▸ Iff.rfl);refine ⟨hperm, ?_⟩;rw [hperm.length_eq];simp [strKeys, Maps.size]
def zDi (w : World) (ks : List Str) (e : Ending) (w' : World) : Prop := ∃ v, e = .returned v ∧ OwnS w' w.heap.size v (zCx ks) ∧ Ext w w'
theorem sortedK_31 {w : World} {b n : Nat} {get : Str → Option Value} (h : MapK strK w b n get) {ks : List Str} (hnd : ks.Nodup) (hm : ∀ x, x ∈ ks ↔ (get x).isSome = true) (hl : ks.length ≤ 100000) :
  Calls Tryz.prog 30 #[.func (.func 58) #[] #[.pointer (some ⟨w.heap.size, 0, none⟩)]] (w.alloc (.cells #[.map (some b)] 50)) (zDi w ks) := by
 obtain ⟨D, h1, h2⟩ := h;obtain ⟨k1, k2⟩ := zHu h1 h2 hnd hm;refine (callsIn_wide.1 (zEc b n D zN8 w h1 (by rw [k2]; unfold maxLen; omega) (by rw [k2]; omega))).mono ?_;rintro e w' ⟨v, ss, rfl, hp, ho, -, hb⟩;have hx : Ext w w' := ((xr w).alloc _).trans hb;refine ⟨v, rfl, ?_, hx⟩;have e1 : zCx ks = ss.mergeSort fun x y => decide (x ≤ y) := zI0 (k1.trans hp.symm)
 rw [e1];unfold OwnS;rw [List.length_mergeSort];exact zBm ho (by simp)
theorem keysK_31 (b : Nat) (W : World) : Calls Tryz.prog 31 #[.map (some b)] W fun e w' => e = .returned (.func (.func 58) #[] #[.pointer (some ⟨W.heap.size, 0, none⟩)]) ∧ w' = W.alloc (.cells #[.map (some b)] 50) := callsIn_wide.1 (zKp (some b) W)
theorem sortedK_41 {w : World} {b n : Nat} {get : Str → Option Value} (h : MapK strK w b n get) {ks : List Str} (hnd : ks.Nodup) (hm : ∀ x, x ∈ ks ↔ (get x).isSome = true) (hl : ks.length ≤ 100000) :
  Calls Tryz.prog 30 #[.func (.func 109) #[] #[.pointer (some ⟨w.heap.size, 0, none⟩)]] (w.alloc (.cells #[.map (some b)] 118)) (zDi w ks) := by
 obtain ⟨D, h1, h2⟩ := h;obtain ⟨k1, k2⟩ := zHu h1 h2 hnd hm;refine (callsIn_wide.1 (zEb b n D zN8 w h1 (by rw [k2]; unfold maxLen; omega) (by rw [k2]; omega))).mono ?_;rintro e w' ⟨v, ss, rfl, hp, ho, -, hb⟩;have hx : Ext w w' := ((xr w).alloc _).trans hb;refine ⟨v, rfl, ?_, hx⟩;have e1 : zCx ks = ss.mergeSort fun x y => decide (x ≤ y) := zI0 (k1.trans hp.symm)
 rw [e1];unfold OwnS;rw [List.length_mergeSort];exact zBm ho (by simp)
theorem keysK_41 (b : Nat) (W : World) : Calls Tryz.prog 41 #[.map (some b)] W fun e w' => e = .returned (.func (.func 109) #[] #[.pointer (some ⟨W.heap.size, 0, none⟩)]) ∧ w' = W.alloc (.cells #[.map (some b)] 118) := callsIn_wide.1 (zKo (some b) W)
theorem sortedK_196 {w : World} {b n : Nat} {get : Str → Option Value} (h : MapK strK w b n get) {ks : List Str} (hnd : ks.Nodup) (hm : ∀ x, x ∈ ks ↔ (get x).isSome = true) (hl : ks.length ≤ 100000) :
  Calls Tryz.prog 30 #[.func (.func 263) #[] #[.pointer (some ⟨w.heap.size, 0, none⟩)]] (w.alloc (.cells #[.map (some b)] 83)) (zDi w ks) := by
 obtain ⟨D, h1, h2⟩ := h;obtain ⟨k1, k2⟩ := zHu h1 h2 hnd hm;refine (callsIn_wide.1 (zD6 b n D zN8 w h1 (by rw [k2]; unfold maxLen; omega) (by rw [k2]; omega))).mono ?_;rintro e w' ⟨v, ss, rfl, hp, ho, -, hb⟩;have hx : Ext w w' := ((xr w).alloc _).trans hb;refine ⟨v, rfl, ?_, hx⟩;have e1 : zCx ks = ss.mergeSort fun x y => decide (x ≤ y) := zI0 (k1.trans hp.symm)
 rw [e1];unfold OwnS;rw [List.length_mergeSort];exact zBm ho (by simp)
theorem keysK_196 (b : Nat) (W : World) : Calls Tryz.prog 196 #[.map (some b)] W fun e w' => e = .returned (.func (.func 263) #[] #[.pointer (some ⟨W.heap.size, 0, none⟩)]) ∧ w' = W.alloc (.cells #[.map (some b)] 83) := callsIn_wide.1 (zJr (some b) W)
theorem zMj {w : World} {b n : Nat} {get : Str → Option Value} (h : MapK strK w b n get) {ks : List Str} (hnd : ks.Nodup) (hm : ∀ x, x ∈ ks ↔ (get x).isSome = true) (hl : ks.length ≤ 100000) :
  Calls Tryz.prog 30 #[.func (.func 295) #[] #[.pointer (some ⟨w.heap.size, 0, none⟩)]] (w.alloc (.cells #[.map (some b)] 350)) (zDi w ks) := by
 obtain ⟨D, h1, h2⟩ := h;obtain ⟨k1, k2⟩ := zHu h1 h2 hnd hm;refine (callsIn_wide.1 (zD5 b n D zN8 w h1 (by rw [k2]; unfold maxLen; omega) (by rw [k2]; omega))).mono ?_;rintro e w' ⟨v, ss, rfl, hp, ho, -, hb⟩;have hx : Ext w w' := ((xr w).alloc _).trans hb;refine ⟨v, rfl, ?_, hx⟩;have e1 : zCx ks = ss.mergeSort fun x y => decide (x ≤ y) := zI0 (k1.trans hp.symm)
 rw [e1];unfold OwnS;rw [List.length_mergeSort];exact zBm ho (by simp)
theorem keysK_255 (b : Nat) (W : World) : Calls Tryz.prog 255 #[.map (some b)] W fun e w' => e = .returned (.func (.func 295) #[] #[.pointer (some ⟨W.heap.size, 0, none⟩)]) ∧ w' = W.alloc (.cells #[.map (some b)] 350) := callsIn_wide.1 (zJq (some b) W)
theorem sortedK_273 {w : World} {b n : Nat} {get : Str → Option Value} (h : MapK strK w b n get) {ks : List Str} (hnd : ks.Nodup) (hm : ∀ x, x ∈ ks ↔ (get x).isSome = true) (hl : ks.length ≤ 100000) :
  Calls Tryz.prog 30 #[.func (.func 311) #[] #[.pointer (some ⟨w.heap.size, 0, none⟩)]] (w.alloc (.cells #[.map (some b)] 320)) (zDi w ks) := by
 obtain ⟨D, h1, h2⟩ := h;obtain ⟨k1, k2⟩ := zHu h1 h2 hnd hm;refine (callsIn_wide.1 (zD4 b n D zN8 w h1 (by rw [k2]; unfold maxLen; omega) (by rw [k2]; omega))).mono ?_;rintro e w' ⟨v, ss, rfl, hp, ho, -, hb⟩;have hx : Ext w w' := ((xr w).alloc _).trans hb;refine ⟨v, rfl, ?_, hx⟩;have e1 : zCx ks = ss.mergeSort fun x y => decide (x ≤ y) := zI0 (k1.trans hp.symm)
 rw [e1];unfold OwnS;rw [List.length_mergeSort];exact zBm ho (by simp)
theorem keysK_273 (b : Nat) (W : World) : Calls Tryz.prog 273 #[.map (some b)] W fun e w' => e = .returned (.func (.func 311) #[] #[.pointer (some ⟨W.heap.size, 0, none⟩)]) ∧ w' = W.alloc (.cells #[.map (some b)] 320) := callsIn_wide.1 (zJp (some b) W)
theorem zN5 {α : Type} [DecidableEq α] {k : TypeId} (w : World) {ops : Array Oper} {rest : List Oper} {o : Oper} {a : Act} {Q : Exit → Act → World → Prop}
  (hg : o.guard = none) (m x v : Operand) (t : TypeId) (hop : o.op = Op.insert t m x v) (e : TypeId) (ht : Tryz.prog.underlying t = some (.map k e)) (S : KeyS α k) (b n : Nat) (get : α → Option Value) (hm : a.eval m = .map (some b)) (h : MapK S w b n get) (hn : n < maxLen)
  (y : α) (hx : a.eval x = S.enc y) (hk : S.ok y) (val : Value) (hv : a.eval v = val)
  (hK : ∀ w', MapK S w' b (n + 1) (putK get y val) → w.grownBy w' (some b) → w'.heap.size = w.heap.size → wpList Tryz.prog ops Q rest (a.put o.dst undef) w') :
  wpList Tryz.prog ops Q (o :: rest) a w := by
 refine wpList_plain hg fun K' hK' => ?_
 obtain ⟨w', hrun, r1, r2, r3⟩ := h.put ht hn hk val;unfold Oper.wp;simp [execOp, hop, hm, hx, hv, hrun, Result.andThen];exact hK' _ _ (hK w' r1 r2 r3)
def T0 (q : Int) : Tr := { R := [([], 1)], N := [(1, ⟨true, []⟩)], next := 2, quota := q }
theorem T0.wf (q : Int) : (T0 q).Wf where
 rnd := by simp [T0]
 nnd := by simp [T0]
 root := rfl
 rdir := ⟨[], rfl⟩
 node := fun p i h => by
  simp only [T0, look] at h ⊢
  split at h
  ·cases h; exact ⟨_, rfl⟩
  ·cases h
 parent := fun p n j h => by
  simp only [T0, look] at h;rw [if_neg (by simp)] at h;cases h
 one := fun p q' i x h1 h2 _ _ => by
  simp only [T0, look] at h1 h2
  split at h1
  ·split at h2
   ·rename_i e1 e2; rw [← e1, ← e2]
   ·cases h2
  ·cases h1
 less := fun i x h => by
  simp only [T0, look] at h ⊢
  split at h
  ·rename_i e; omega
  ·cases h
 has := fun i x h _ => by
  simp only [T0, look] at h ⊢
  split at h
  ·rename_i e; exact ⟨[], by rw [← e]; rfl⟩
  ·cases h
def tnewPost (w : World) (q : Int) (e : Ending) (w' : World) : Prop := ∃ t mb pb kb dv, e = .returned (.pointer (some ⟨t, 0, none⟩)) ∧ TreeAt w' w.heap.size 1 0 t mb pb kb dv (T0 q) ∧ Ext w w'
theorem TNew_any (w : World) : Calls Tryz.prog 133 #[.int .i64 20000] w (tnewPost w 20000) := by
 have hmm := @run_makeMap Tryz.prog;have hok : intK.ok 1 := zMy (by omega) (by omega)
 obtain ⟨o2, ho2⟩ : ∃ o2 : Obj, o2 = .cells #[.bool true, .int .i64 1, .slice none 0 0, .map (some (w.heap.size + 1))] 85 := ⟨_, rfl⟩
 have M0 : Hid (MapK intK (((w.alloc (.map #[] 0)).alloc (.map #[] 0)).alloc (.cells #[.bool true, .int .i64 1, .slice none 0 0, .map (some (w.heap.size + 1))] 85)) w.heap.size 0 (fun _ => none)) := (MapK.made intK w).ext (((xr _).alloc _).alloc _)
 have M1 := zh (show MapK strK (((w.alloc (.map #[] 0)).alloc (.map #[] 0)).alloc (.cells #[.bool true, .int .i64 1, .slice none 0 0, .map (some (w.heap.size + 1))] 85)) (w.heap.size + 1) 0 (fun _ => none) from by
  have := (MapK.made strK (w.alloc (.map #[] 0))).ext ((xr _).alloc (.cells #[.bool true, .int .i64 1, .slice none 0 0, .map (some (w.heap.size + 1))] 85));rw [World.size_alloc] at this
  exact this)
 have B2 := zh (show (((w.alloc (.map #[] 0)).alloc (.map #[] 0)).alloc (.cells #[.bool true, .int .i64 1, .slice none 0 0, .map (some (w.heap.size + 1))] 85)).heap[w.heap.size + 2]? = some (.cells #[.bool true, .int .i64 1, .slice none 0 0, .map (some (w.heap.size + 1))] 85 (0, 0)) from by
  have := heap_alloc_new ((w.alloc (.map #[] 0)).alloc (.map #[] 0)) (.cells #[.bool true, .int .i64 1, .slice none 0 0, .map (some (w.heap.size + 1))] 85);rw [World.size_alloc, World.size_alloc] at this
  exact this)
 have X2 : Hid (Ext w (((w.alloc (.map #[] 0)).alloc (.map #[] 0)).alloc (.cells #[.bool true, .int .i64 1, .slice none 0 0, .map (some (w.heap.size + 1))] 85))) := (((xr _).alloc _).alloc _).alloc _;clear ho2 o2;have hmx : 0 < maxLen := by decide
 go_enter Tryz.func133, Tryz.ntmps133
 go_wp2_with (refine zN5 _ rfl (.tmp 3) (.const (.int .i64 1)) (.tmp 6) 87 rfl 86 zAz intK w.heap.size 0 (fun _ => none) (by rfl) M0.out hmx 1 (by rfl) hok _ (by rfl) ?_; intro w6 m6 g6 s6; have M6 := zh m6; have G6 := zh g6; have S6 := zh s6; clear m6 g6 s6)
 go_ret
 have X6 := X2.out.grow G6.out (fun k hk => by cases hk; exact Nat.le_refl _);have hs6 : w6.heap.size = w.heap.size + 3 := by rw [S6.out]; simp
 have hb2 : w6.heap[w.heap.size + 2]? = some (.cells #[.bool true, .int .i64 1, .slice none 0 0, .map (some (w.heap.size + 1))] 85 (0, 0)) :=
  (G6.out.block _ (Array.getElem?_eq_some_iff.1 B2.out).1 (fun e => by have := Option.some.inj e; omega)).trans B2.out
 have hm1 : MapK strK w6 (w.heap.size + 1) 0 (fun _ => none) := M1.out.grown G6.out (fun e => by have := Option.some.inj e; omega)
 have h1 : ∀ {i : Int} {x : Nd}, look (T0 20000).N i = some x → i = 1 ∧ x = ⟨true, []⟩ := fun {i x} h => by
  simp only [T0, look] at h
  split at h
  ·rename_i e; cases h; exact ⟨e.symm, rfl⟩
  ·cases h
 refine ⟨_, w.heap.size, fun _ => w.heap.size + 2, fun _ => w.heap.size + 1, fun _ => .slice none 0 0, rfl, ⟨heap_alloc_new w6 _, ?_, by omega, T0.wf _⟩, X6.alloc _⟩;refine NodesAt.ext ?_ ((xr w6).alloc _);refine ⟨M6.out.congr fun i => ?_, fun i x h _ => ?_, fun i x h _ => ?_, fun p i x hp h _ _ => ?_, fun i j x y h h' _ _ _ => ?_, fun i j x y h h' _ _ _ _ _ => ?_, fun i x h _ _ => by omega, Nat.le_refl _, fun i x h _ => by omega, fun i x h _ _ => by omega⟩
 ·unfold putK
  by_cases e : i = 1
  ·subst e; rfl
  ·simp [e, T0, look, Ne.symm e]
 ·obtain ⟨rfl, rfl⟩ := h1 h;exact hb2
 ·obtain ⟨rfl, rfl⟩ := h1 h;exact DataIs.nil _
 ·refine hm1.congr fun k => ?_
  have : look (T0 20000).R (p ++ [k]) = none := by
   simp only [T0, look]; rw [if_neg (by simp)]
  rw [this]; rfl
 ·rw [(h1 h).1, (h1 h').1]
 ·rw [(h1 h).1, (h1 h').1]
section
variable {w : World} {B n m t mb : Nat} {pb kb : Int → Nat} {dv : Int → Value} {T : Tr}
def tlistPost (w : World) (ks : List Str) (e : Ending) (w' : World) : Prop := ∃ v, e = .returned (.tuple #[v, .int .i64 0]) ∧ OwnS w' w.heap.size v (zCx ks) ∧ Ext w w'
theorem TList_any (h : TreeAt w B n m t mb pb kb dv T) (k : TreeOk T) {s : Str} {ns : Pth} (hs : SplitOk s ns) {mx : Int} (hm : w.cell? ⟨0, 0, none⟩ = some (.int .i64 mx)) {j : Int} {x : Nd} (hj : look T.R ns = some j) (hx : look T.N j = some x) (hd : x.dir = true) {ks : List Str} (hnd : ks.Nodup) (hks : ∀ x, x ∈ ks ↔ (look T.R (ns ++ [x])).isSome = true) (hl : ks.length ≤ 1000) :
  Calls Tryz.prog 217 #[.pointer (some ⟨t, 0, none⟩), .string (ba s)] w (tlistPost w ks) := by
 have HF := zh (zJb h k hs hm);have e0 : atN T ns = j := by unfold atN; rw [hj]; rfl
 have hj1 := (h.wf.ok k hj).2.1;rw [e0] at HF;have hj0 : (j == 0) = false := by rw [beq_eq_false_iff_ne]; omega
 have hj2 : ¬ j = 0 := by omega
 have HL : Hid (∀ W, Ext w W → (Instr.lookup 87 (.map (some mb)) (.int .i64 j) false).run Tryz.prog W = .ok (.pointer (some ⟨pb j, 0, none⟩)) W ∧ W.cell? ⟨t, 0, none⟩ = some (.map (some mb)) ∧ W.cell? ⟨pb j, 0, none⟩ = some (.bool true) ∧ W.cell? ⟨pb j, 3, none⟩ = some (.map (some (kb j)))) := fun W x1 => by
  obtain ⟨h0, _, _, h3⟩ := (h.ext x1).cells hx;rw [hd] at h0 h3;exact ⟨(h.ext x1).lookNode k hj, (h.ext x1).mapCell, h0, h3⟩
 have HK : Hid (∀ W, Ext w W → Calls Tryz.prog 30 #[.func (.func 263) #[] #[.pointer (some ⟨W.heap.size, 0, none⟩)]] (W.alloc (.cells #[.map (some (kb j))] 83)) (zDi W ks)) := fun W x1 => sortedK_196 ((h.ext x1).kids hj hx hd) hnd (fun y => by rw [hks y]; cases look T.R (ns ++ [y]) <;> simp) (by omega)
 clear h k hs hm hj hx hd hnd hks e0 hj1;go_enter Tryz.func217, Tryz.ntmps217
 go_wp2_with (first
  | (go_at_call 24; refine HF.out.mono ?_; rintro e w2 ⟨rfl, x2⟩; have X2 := zh x2; (obtain ⟨hl1, hc0, hc1, hc3⟩ := HL.out _ x2); clear x2)
  | (go_at_call 196; refine (keysK_196 _ _).mono ?_; rintro e w3 ⟨rfl, rfl⟩)
  | (go_at_call 30; refine (HK.out _ X2.out).mono ?_; rintro e w4 ⟨v, rfl, o4, x4⟩; have X4 := zh x4; have O4 := zh o4; clear o4 x4; (obtain ⟨a4, c4, rfl, -⟩ := O4.out.row.form)))
 go_ret2
 exact ⟨_, rfl, O4.out.base X2.out.sz, X2.out.trans X4.out⟩
end
def pstr (ns : Pth) : Str := 47 :: Lib.join ns [47]
structure PathOk (s : Str) : Prop where
 ok : SplitOk s (names s)
 up : names s ≠ [] ∧ ((names s).dropLast = [] ∨ SplitOk (pstr (names s).dropLast) (names s).dropLast)
theorem zBl {s : Str} {ns : Pth} (h : ((s != [47]) && decide (s.length ≤ 40) && Lib.hasPrefix s [47] && decide (Lib.countB (zIa s) (ba [47]) + 1 = ns.length) && decide (Lib.splitB (ba [47]) 0 (Lib.countB (zIa s) (ba [47])) (zIa s) = ns.map ba) && decide (ns.length ≤ 5) && ns.all zMu) = true) : SplitOk s ns := by
 simp only [Bool.and_eq_true, decide_eq_true_eq, bne_iff_ne, List.all_eq_true] at h;obtain ⟨⟨⟨⟨⟨⟨h1, h2⟩, h3⟩, h4⟩, h5⟩, h6⟩, h7⟩ := h;exact ⟨h1, h2, h3, h4, h5, h6, h7⟩
def splitB1 (s : Str) (ns : Pth) : Bool := (s != [47]) && decide (s.length ≤ 40) && Lib.hasPrefix s [47] && decide (Lib.countB (zIa s) (ba [47]) + 1 = ns.length) && decide (Lib.splitB (ba [47]) 0 (Lib.countB (zIa s) (ba [47])) (zIa s) = ns.map ba) && decide (ns.length ≤ 5) && ns.all zMu
def pathB (s : Str) : Bool := splitB1 s (names s) && !(names s).isEmpty && ((names s).dropLast.isEmpty || splitB1 (pstr (names s).dropLast) (names s).dropLast)
theorem PathOk.of {s : Str} (h : pathB s = true) : PathOk s := by
 unfold pathB at h;simp only [Bool.and_eq_true, Bool.or_eq_true, Bool.not_eq_true', List.isEmpty_eq_false_iff, List.isEmpty_iff] at h;exact ⟨zBl h.1.1, h.1.2, h.2.imp id zBl⟩
theorem Split_root (w : World) : Calls Tryz.prog 49 #[.string (ba [47])] w fun e w' => e = .returned (.tuple #[.slice none 0 0, .bool true]) ∧ w = w' := by
 have htl : (ba [47]).toList = [47] := ba_toList _;have e1 : ((ba [47]).toList == [47]) = true := by rw [ba_toList]; decide
 go_enter Tryz.func49, Tryz.ntmps49
 go_wp2_with fail
 go_ret2
 exact ⟨rfl, rfl⟩
section
variable {w : World} {B n m t mb : Nat} {pb kb : Int → Nat} {dv : Int → Value} {T : Tr}
theorem find_root (h : TreeAt w B n m t mb pb kb dv T) : Calls Tryz.prog 24 #[.pointer (some ⟨t, 0, none⟩), .string (ba [47])] w fun e w' => e = .returned (.int .i64 (atN T [])) ∧ Ext w w' := by
 have HA := zh (show atN T [] = 1 by unfold atN; rw [h.wf.root]; rfl);clear h;go_enter Tryz.func24, Tryz.ntmps24
 go_wp2_with (go_at_call 49; refine (Split_root _).mono ?_; rintro e w2 ⟨rfl, rfl⟩)
 go_loopw [7, 19] (fun v i wr => v = .int .i64 1 ∧ i = .int .i64 0 ∧ wr = w) (fun _ _ _ => 0)
 case atStart => exact ⟨rfl, rfl, rfl⟩
 case round =>
  obtain ⟨rfl, rfl, rfl⟩ := hrel
  go_wp2_with fail
  go_ret
  exact ⟨by rw [HA.out]; rfl, xr _⟩
theorem findD (h : TreeAt w B n m t mb pb kb dv T) (k : TreeOk T) {ns : Pth} (hs : ns = [] ∨ SplitOk (pstr ns) ns) {mx : Int} (hm : w.cell? ⟨0, 0, none⟩ = some (.int .i64 mx)) :
  Calls Tryz.prog 24 #[.pointer (some ⟨t, 0, none⟩), .string (ba (pstr ns))] w fun e w' => e = .returned (.int .i64 (atN T ns)) ∧ Ext w w' := by
 rcases hs with rfl | hs
 ·exact find_root h
 ·exact zJb h k hs hm
theorem zNn : Tryz.f188.results = #[.tmp 4, .tmp 5, .tmp 6] := by kernel_rfl
theorem zFs (h : TreeAt w B n m t mb pb kb dv T) (k : TreeOk T) {s : Str} (hs : PathOk s) {d : Pth} {nm : Str} {di : Int} (hin : T.In (names s) d nm di) {mx : Int} (hm : w.cell? ⟨0, 0, none⟩ = some (.int .i64 mx)) :
  Calls Tryz.prog 188 #[.pointer (some ⟨t, 0, none⟩), .string (ba s)] w fun e w' => e = .returned (.tuple #[.pointer (some ⟨pb di, 0, none⟩), .string (ba nm), .int .i64 0]) ∧ Ext w w' := by
 have hso := hs.ok;have hup := hs.up.2;rw [hin.path] at hso hup;rw [List.dropLast_concat] at hup
 have hjl : (Lib.join d [47]).length ≤ 100000 := by
  rcases hup with rfl | hup
  ·decide
  ·have := hup.len;unfold pstr at this;simp at this;omega
 have HP := zh (Parent_any mx w hso hm hjl);have HF : Hid (∀ W, Ext w W → _) := fun W x => findD (h.ext x) k hup (x.cell hm)
 obtain ⟨x, hx, hxd⟩ := hin.dir;have e0 : atN T d = di := by unfold atN; rw [hin.at_]; rfl
 have hj1 := (h.wf.ok k hin.at_).2.1;rw [e0] at HF;have hj0 : (di == 0) = false := by rw [beq_eq_false_iff_ne]; omega
 have hj2 : ¬ di = 0 := by omega
 have HL : Hid (∀ W, Ext w W → (Instr.lookup 87 (.map (some mb)) (.int .i64 di) false).run Tryz.prog W = .ok (.pointer (some ⟨pb di, 0, none⟩)) W ∧ W.cell? ⟨t, 0, none⟩ = some (.map (some mb)) ∧ W.cell? ⟨pb di, 0, none⟩ = some (.bool true)) := fun W x1 => by
  obtain ⟨h0, _, _, _⟩ := (h.ext x1).cells hx;rw [hxd] at h0;exact ⟨(h.ext x1).lookNode k hin.at_, (h.ext x1).mapCell, h0⟩
 clear h k hs hin hm hso hup hjl hx hxd e0 hj1;go_enter Tryz.func188, Tryz.ntmps188
 go_wp2_with (first
  | (go_at_call 259; refine HP.out.mono ?_; rintro e w2 ⟨rfl, x2⟩; have X2 := zh x2; clear x2)
  | (go_at_call 24; refine (HF.out _ X2.out).mono ?_; rintro e w3 ⟨rfl, x3⟩; have X3 := zh (X2.out.trans x3); (obtain ⟨hl1, hc0, hc1⟩ := HL.out _ X3.out); clear x3))
 exact bodyPost_ret (v := .tuple #[.pointer (some ⟨pb di, 0, none⟩), .string (ba nm), .int .i64 0]) (by simp [results, zNn, go_sem]) rfl ⟨rfl, X3.out⟩
end
structure NdF where
 dir : Bool
 links : Int
 data : List UInt8
structure CoreAt (w : World) (B n m t mb : Nat) (pb kb : Int → Nat) (dv : Int → Value) (nf : Int → Option NdF) (kf : Int → Str → Option Int) (next quota : Int) : Prop where
 blk : w.heap[t]? = some (.cells #[.map (some mb), .int .i64 next, .int .i64 quota] 89 (0, 0))
 nodes : MapK intK w mb n (fun i => (nf i).map fun _ => .pointer (some ⟨pb i, 0, none⟩))
 node : ∀ i x, nf i = some x → w.heap[pb i]? = some (.cells #[.bool x.dir, .int .i64 x.links, dv i, .map (if x.dir then some (kb i) else none)] 85 (0, 0))
 data : ∀ i x, nf i = some x → DataIs w (dv i) x.data
 kids : ∀ i x, nf i = some x → x.dir = true → MapK strK w (kb i) m (fun k => (kf i k).map fun j => .int .i64 j)
 inj : ∀ i j x y, nf i = some x → nf j = some y → pb i = pb j → i = j
 kinj : ∀ i j x y, nf i = some x → nf j = some y → x.dir = true → y.dir = true → kb i = kb j → i = j
 kmb : ∀ i x, nf i = some x → x.dir = true → kb i ≠ mb
 bt : B ≤ t
 bm : B ≤ mb
 bp : ∀ i x, nf i = some x → B ≤ pb i
 bk : ∀ i x, nf i = some x → x.dir = true → B ≤ kb i
def zA7 : List Nat := [0, 87, 91]
def zKb (kf : Int → Str → Option Int) (a : Int) (k : Str) (v : Option Int) : Int → Str → Option Int := fun b l => if b = a ∧ l = k then v else kf b l
section
variable {w w' : World} {B n m t mb : Nat} {pb kb : Int → Nat} {dv : Int → Value} {nf nf' : Int → Option NdF} {kf kf' : Int → Str → Option Int} {next quota : Int}
theorem CoreAt.ext (h : CoreAt w B n m t mb pb kb dv nf kf next quota) (x : Ext w w') : CoreAt w' B n m t mb pb kb dv nf kf next quota :=
 { h with blk := x.get h.blk, nodes := h.nodes.ext x, node := fun i y hy => x.get (h.node i y hy), data := fun i y hy => (h.data i y hy).ext x, kids := fun i y hy hd => (h.kids i y hy hd).ext x }
theorem grown_mut {b : Nat} (h : w.grownBy w' (some b)) (hb : B ≤ b) {o : Obj} (ho : w.heap[b]? = some o) (ht : tagOf o ∈ zA7) : Mut B zA7 w w' :=
 (Mut.refl B zA7 w).grow h (fun k hk => by cases hk; exact ⟨hb, fun o' ho' => by rw [ho] at ho'; cases ho'; exact ht⟩)
theorem zFh {α : Type} [DecidableEq α] {k : TypeId} {S : KeyS α k} {b : Nat} {get : α → Option Value} (hm : MapK S w b n get) (h : w.grownBy w' (some b)) (hb : B ≤ b) : Mut B zA7 w w' := by
 obtain ⟨o, ho, ht⟩ := hm.tag;exact grown_mut h hb ho (by rw [ht]; simp [zA7])
theorem zCu {α : Type} [DecidableEq α] {k : TypeId} {S : KeyS α k} {b : Nat} {get : α → Option Value} (hm : MapK S w b n get) (g : w.grownBy w' (some b)) {c : Nat} {cs : Array Value} {ty : TypeId} {fz : Nat × Nat} (hc : w.heap[c]? = some (.cells cs ty fz)) : w'.heap[c]? = some (.cells cs ty fz) :=
 (g.block c (Array.getElem?_eq_some_iff.1 hc).1 fun e => zDa hm hc (Option.some.inj e)).trans hc
theorem data_keep {α : Type} [DecidableEq α] {k : TypeId} {S : KeyS α k} {b : Nat} {get : α → Option Value} (hm : MapK S w b n get) (g : w.grownBy w' (some b)) {v : Value} {l : List UInt8} (hv : DataIs w v l) : DataIs w' v l :=
 hv.imp (fun o => by
  refine zEg o fun k hk => ?_
  rcases o.2 with ⟨rfl, _⟩ | ⟨q, cap, cur, rfl, _, hq, _⟩
  ·cases hk
  ·simp only [Value.ownBlock, Option.some.injEq] at hk;subst hk
   rw [zCu hm g hq, hq]) id
theorem CoreAt.put (h : CoreAt w B n m t mb pb kb dv nf kf next quota) {i : Int} (hok : intK.ok i) (hn : n < maxLen) (x : NdF) {pn kn : Nat} {v : Value}
  (hp : w.heap[pn]? = some (.cells #[.bool x.dir, .int .i64 x.links, v, .map (if x.dir then some kn else none)] 85 (0, 0))) (hdata : DataIs w v x.data) (kg : Str → Option Int)
  (hk : x.dir = true → MapK strK w kn m (fun k => (kg k).map fun j => .int .i64 j))
  (hpn : ∀ j y, nf j = some y → j ≠ i → pb j ≠ pn) (hkn : ∀ j y, nf j = some y → j ≠ i → y.dir = true → x.dir = true → kb j ≠ kn) (hkm : x.dir = true → kn ≠ mb) (hB : B ≤ pn) (hBk : x.dir = true → B ≤ kn) :
  ∃ w', (Instr.mapUpdate 87 (.map (some mb)) (.int .i64 i) (.pointer (some ⟨pn, 0, none⟩))).run Tryz.prog w = .ok () w' ∧ CoreAt w' B (n + 1) m t mb (upd pb i pn) (upd kb i kn) (upd dv i v) (upd nf i (some x)) (fun a => if a = i then kg else kf a) next quota ∧ w.grownBy w' (some mb) ∧ w'.heap.size = w.heap.size := by
 obtain ⟨w', hr, h1, g, hs⟩ := h.nodes.put (t := 87) (e := 86) zAz hn hok (.pointer (some ⟨pn, 0, none⟩));have keep := fun {c cs ty fz} => zCu (c := c) (cs := cs) (ty := ty) (fz := fz) h.nodes g
 have keepD := fun {v l} => data_keep (v := v) (l := l) h.nodes g
 refine ⟨w', hr, ⟨keep h.blk, ?_, ?_, ?_, ?_, ?_, ?_, ?_, h.bt, h.bm, ?_, ?_⟩, g, hs⟩
 ·refine h1.congr fun j => ?_
  unfold putK
  by_cases e : j = i
  ·subst e; simp [zAv]
  ·simp [e, zAf _ _ e]
 ·intro j y hy
  by_cases e : j = i
  ·subst e;rw [zAv] at hy; cases hy;rw [zAv, zAv, zAv]; exact keep hp
  ·rw [zAf _ _ e] at hy;rw [zAf _ _ e, zAf _ _ e, zAf _ _ e]; exact keep (h.node j y hy)
 ·intro j y hy
  by_cases e : j = i
  ·subst e;rw [zAv] at hy; cases hy;rw [zAv]; exact keepD hdata
  ·rw [zAf _ _ e] at hy;rw [zAf _ _ e]; exact keepD (h.data j y hy)
 ·intro j y hy hyd
  by_cases e : j = i
  ·subst e;rw [zAv] at hy; cases hy;rw [zAv, if_pos rfl];exact (hk hyd).grown g (fun e => hkm hyd (Option.some.inj e).symm)
  ·rw [zAf _ _ e] at hy;rw [zAf _ _ e, if_neg e];exact (h.kids j y hy hyd).grown g (fun e' => h.kmb j y hy hyd (Option.some.inj e').symm)
 ·intro j k y z hy hz e
  by_cases e1 : j = i <;> by_cases e2 : k = i
  ·rw [e1, e2]
  ·subst e1; rw [zAf _ _ e2] at hz; rw [zAv, zAf _ _ e2] at e;exact absurd e.symm (hpn k z hz e2)
  ·subst e2; rw [zAf _ _ e1] at hy; rw [zAv, zAf _ _ e1] at e;exact absurd e (hpn j y hy e1)
  ·rw [zAf _ _ e1] at hy; rw [zAf _ _ e2] at hz;rw [zAf _ _ e1, zAf _ _ e2] at e;exact h.inj j k y z hy hz e
 ·intro j k y z hy hz hyd hzd e
  by_cases e1 : j = i <;> by_cases e2 : k = i
  ·rw [e1, e2]
  ·subst e1; rw [zAf _ _ e2] at hz; rw [zAv] at hy; cases hy; rw [zAv, zAf _ _ e2] at e;exact absurd e.symm (hkn k z hz e2 hzd hyd)
  ·subst e2; rw [zAf _ _ e1] at hy; rw [zAv] at hz; cases hz; rw [zAv, zAf _ _ e1] at e;exact absurd e (hkn j y hy e1 hyd hzd)
  ·rw [zAf _ _ e1] at hy; rw [zAf _ _ e2] at hz;rw [zAf _ _ e1, zAf _ _ e2] at e;exact h.kinj j k y z hy hz hyd hzd e
 ·intro j y hy hyd
  by_cases e : j = i
  ·subst e; rw [zAv] at hy; cases hy; rw [zAv]; exact hkm hyd
  ·rw [zAf _ _ e] at hy; rw [zAf _ _ e]; exact h.kmb j y hy hyd
 ·intro j y hy
  by_cases e : j = i
  ·subst e; rw [zAv]; exact hB
  ·rw [zAf _ _ e] at hy; rw [zAf _ _ e]; exact h.bp j y hy
 ·intro j y hy hyd
  by_cases e : j = i
  ·subst e; rw [zAv] at hy; cases hy; rw [zAv]; exact hBk hyd
  ·rw [zAf _ _ e] at hy; rw [zAf _ _ e]; exact h.bk j y hy hyd
theorem CoreAt.kidsTurn (h : CoreAt w B n m t mb pb kb dv nf kf next quota) {a : Int} {x : NdF} (ha : nf a = some x) (hd : x.dir = true) (g : w.grownBy w' (some (kb a))) {m' : Nat} (hm : m ≤ m') (kf' : Int → Str → Option Int)
  (h1 : MapK strK w' (kb a) m' (fun k => (kf' a k).map fun j => .int .i64 j)) (ho : ∀ b, b ≠ a → ∀ k, kf' b k = kf b k) : CoreAt w' B n m' t mb pb kb dv nf kf' next quota := by
 have hk := h.kids a x ha hd;have keep := fun {c cs ty fz} => zCu (c := c) (cs := cs) (ty := ty) (fz := fz) hk g
 refine { h with blk := keep h.blk, nodes := h.nodes.grown g (fun e => h.kmb a x ha hd (Option.some.inj e)), node := fun i y hy => keep (h.node i y hy), data := fun i y hy => data_keep hk g (h.data i y hy), kids := fun i y hy hyd => ?_ }
 by_cases e : i = a
 ·subst e; exact h1
 ·refine (((h.kids i y hy hyd).grown g (fun e' => e ((h.kinj a i x y ha hy hd hyd (Option.some.inj e')).symm))).mono hm).congr fun k => ?_
  rw [ho i e k]
theorem CoreAt.kid (h : CoreAt w B n m t mb pb kb dv nf kf next quota) {a : Int} {x : NdF} (ha : nf a = some x) (hd : x.dir = true) (hn : m < maxLen) {nm : Str} (hnm : nm.length ≤ 12) (j : Int) :
  ∃ w', (Instr.mapUpdate 83 (.map (some (kb a))) (.string (ba nm)) (.int .i64 j)).run Tryz.prog w = .ok () w' ∧ CoreAt w' B n (m + 1) t mb pb kb dv nf (zKb kf a nm (some j)) next quota ∧ w.grownBy w' (some (kb a)) ∧ w'.heap.size = w.heap.size := by
 have hok : strK.ok nm := by show nm.length ≤ maxLen; unfold maxLen; omega
 obtain ⟨w', hr, h1, g, hs⟩ := (h.kids a x ha hd).put (t := 83) (e := 3) zBb hn hok (.int .i64 j);refine ⟨w', hr, h.kidsTurn ha hd g (Nat.le_succ m) _ (h1.congr fun k => ?_) (fun b hb k => if_neg fun e => hb e.1), g, hs⟩;unfold putK zKb
 by_cases e : k = nm <;> simp [e]
theorem CoreAt.unkid (h : CoreAt w B n m t mb pb kb dv nf kf next quota) {a : Int} {x : NdF} (ha : nf a = some x) (hd : x.dir = true) {nm : Str} (hnm : nm.length ≤ 12) (ty : TypeId) :
  ∃ w', (Builtin.delete_ #[83, 9] ty #[.map (some (kb a)), .string (ba nm)]).run Tryz.prog w = .ok (.tuple #[]) w' ∧ CoreAt w' B n m t mb pb kb dv nf (zKb kf a nm none) next quota ∧ w.grownBy w' (some (kb a)) ∧ w'.heap.size = w.heap.size := by
 have hok : strK.ok nm := by show nm.length ≤ maxLen; unfold maxLen; omega
 obtain ⟨w', hr, h1, g, hs⟩ := (h.kids a x ha hd).drop (t := 83) (e := 3) zBb hok ty;refine ⟨w', hr, h.kidsTurn ha hd g (Nat.le_refl m) _ (h1.congr fun k => ?_) (fun b hb k => if_neg fun e => hb e.1), g, hs⟩;unfold delK zKb
 by_cases e : k = nm <;> simp [e]
theorem zF9 (w : World) {g i : Nat} {u : Value} {c : Nat} (h : c ≠ g) : (w.setCell ⟨g, i, none⟩ u).heap[c]? = w.heap[c]? := Below.heap_setCell w _ u c h
theorem CoreAt.links (h : CoreAt w B n m t mb pb kb dv nf kf next quota) {i : Int} {x : NdF} (hi : nf i = some x) (v : Int) :
  CoreAt (w.setCell ⟨pb i, 1, none⟩ (.int .i64 v)) B n m t mb pb kb dv (upd nf i (some { x with links := v })) kf next quota ∧ Mut B zA7 w (w.setCell ⟨pb i, 1, none⟩ (.int .i64 v)) := by
 have hx := h.node i x hi;have hm : Mut B zA7 w (w.setCell ⟨pb i, 1, none⟩ (.int .i64 v)) := zAi w hx _ (by simp [zA7]) (h.bp i x hi)
 have hsome : ∀ j y, upd nf i (some { x with links := v }) j = some y → ∃ z, nf j = some z ∧ z.dir = y.dir ∧ z.data = y.data ∧ (j ≠ i → z = y) := fun j y hy => by
  by_cases e : j = i
  ·subst e; rw [zAv] at hy; cases hy; exact ⟨x, hi, rfl, rfl, fun e => absurd rfl e⟩
  ·rw [zAf _ _ e] at hy; exact ⟨y, hy, rfl, rfl, fun _ => rfl⟩
 have hmap : ∀ {α : Type} [DecidableEq α] {k : TypeId} {S : KeyS α k} {b n : Nat} {get : α → Option Value}, MapK S w b n get → MapK S (w.setCell ⟨pb i, 1, none⟩ (.int .i64 v)) b n get := fun hmm => hmm.setCell (fun e => zDa hmm hx e.symm) _
 refine ⟨⟨?_, ?_, ?_, ?_, ?_, ?_, ?_, ?_, h.bt, h.bm, ?_, ?_⟩, hm⟩
 ·rw [zF9 w]; · exact h.blk
  intro e;have := h.blk; rw [e, hx] at this; simp at this
 ·refine (hmap h.nodes).congr fun j => ?_
  by_cases e : j = i
  ·subst e; rw [zAv, hi]; rfl
  ·rw [zAf _ _ e]
 ·intro j y hy
  by_cases e : j = i
  ·subst e; rw [zAv] at hy; cases hy;rw [zAd w _ 1 _ _ _ _ hx]; rfl
  ·rw [zAf _ _ e] at hy;rw [zF9 w (fun e' => e (h.inj j i y x hy hi e'))];exact h.node j y hy
 ·intro j y hy;obtain ⟨z, hz, _, hd, _⟩ := hsome j y hy;rw [← hd];exact (h.data j z hz).mut hm (by simp [zA7])
 ·intro j y hy hyd;obtain ⟨z, hz, hzd, _, _⟩ := hsome j y hy;exact hmap (h.kids j z hz (hzd.trans hyd))
 ·intro j k y z hy hz;obtain ⟨a, ha, _⟩ := hsome j y hy;obtain ⟨b, hb, _⟩ := hsome k z hz;exact h.inj j k a b ha hb
 ·intro j k y z hy hz hyd hzd;obtain ⟨a, ha, had, _⟩ := hsome j y hy;obtain ⟨b, hb, hbd, _⟩ := hsome k z hz;exact h.kinj j k a b ha hb (had.trans hyd) (hbd.trans hzd)
 ·intro j y hy hyd;obtain ⟨a, ha, had, _⟩ := hsome j y hy;exact h.kmb j a ha (had.trans hyd)
 ·intro j y hy;obtain ⟨a, ha, _⟩ := hsome j y hy;exact h.bp j a ha
 ·intro j y hy hyd;obtain ⟨a, ha, had, _⟩ := hsome j y hy;exact h.bk j a ha (had.trans hyd)
theorem CoreAt.setNext (h : CoreAt w B n m t mb pb kb dv nf kf next quota) (v : Int) : CoreAt (w.setCell ⟨t, 1, none⟩ (.int .i64 v)) B n m t mb pb kb dv nf kf v quota ∧ Mut B zA7 w (w.setCell ⟨t, 1, none⟩ (.int .i64 v)) := by
 have hm : Mut B zA7 w (w.setCell ⟨t, 1, none⟩ (.int .i64 v)) := zAi w h.blk _ (by simp [zA7]) h.bt;have hmap : ∀ {α : Type} [DecidableEq α] {k : TypeId} {S : KeyS α k} {b n : Nat} {get : α → Option Value}, MapK S w b n get → MapK S (w.setCell ⟨t, 1, none⟩ (.int .i64 v)) b n get := fun hmm => hmm.setCell (fun e => zDa hmm h.blk e.symm) _
 refine ⟨{ h with blk := ?_, nodes := hmap h.nodes, node := fun j y hy => ?_, data := fun j y hy => (h.data j y hy).mut hm (by simp [zA7]), kids := fun j y hy hyd => hmap (h.kids j y hy hyd) }, hm⟩
 ·rw [zAd w _ 1 _ _ _ _ h.blk]; rfl
 ·rw [zF9 w]; · exact h.node j y hy
  intro e;have := h.node j y hy; rw [e, h.blk] at this; simp at this
end
def nfT (T : Tr) (i : Int) : Option NdF := (look T.N i).map fun x => ⟨x.dir, (cnt T.R i : Nat), x.data⟩
def kfT (T : Tr) (i : Int) (k : Str) : Option Int := match T.R.find? (fun e => decide (e.2 = i)) with
 | some e => look T.R (e.1 ++ [k])
 | none => none
theorem zO3 {T : Tr} (h : T.Wf) {p : Pth} {i : Int} {x : Nd} (hp : look T.R p = some i) (hi : look T.N i = some x) (hd : x.dir = true) (k : Str) : kfT T i k = look T.R (p ++ [k]) := by
 unfold kfT
 cases hf : T.R.find? (fun e => decide (e.2 = i)) with
 | none =>
   have := List.find?_eq_none.1 hf _ (look_mem hp);simp at this
 | some e =>
   have h1 := List.find?_some hf;have h2 := List.mem_of_find?_eq_some hf;have h3 : look T.R e.1 = some e.2 := zMw h.rnd h2;simp only [decide_eq_true_eq] at h1;rw [h1] at h3;show look T.R (e.1 ++ [k]) = _;rw [h.one e.1 p i x h3 hp hi hd]
section
variable {w w' : World} {B n m t mb : Nat} {pb kb : Int → Nat} {dv : Int → Value} {T : Tr} {nf : Int → Option NdF} {kf : Int → Str → Option Int}
theorem zD0 {i : Int} {y : NdF} (h : nfT T i = some y) : ∃ x, look T.N i = some x ∧ y = ⟨x.dir, (cnt T.R i : Nat), x.data⟩ := by
 unfold nfT at h
 cases hl : look T.N i with
 | none => rw [hl] at h; cases h
 | some x => rw [hl] at h; cases h; exact ⟨x, rfl, rfl⟩
theorem zCd {i : Int} {x : Nd} (h : look T.N i = some x) : nfT T i = some ⟨x.dir, (cnt T.R i : Nat), x.data⟩ := by unfold nfT; rw [h]; rfl
theorem TreeAt.core (h : TreeAt w B n m t mb pb kb dv T) : CoreAt w B n m t mb pb kb dv (nfT T) (kfT T) T.next T.quota where
 blk := h.blk
 nodes := h.nodes.congr fun i => by unfold nfT; cases look T.N i <;> rfl
 node := fun i y hy => by obtain ⟨x, hx, rfl⟩ := zD0 hy; exact h.node hx
 data := fun i y hy => by obtain ⟨x, hx, rfl⟩ := zD0 hy; exact h.data hx
 kids := fun i y hy hd => by
  obtain ⟨x, hx, rfl⟩ := zD0 hy;obtain ⟨p, hp⟩ := h.wf.has i x hx hd;exact (h.kids hp hx hd).congr fun k => by rw [zO3 h.wf hp hx hd k]
 inj := fun i j y z hy hz => by obtain ⟨x, hx, rfl⟩ := zD0 hy; obtain ⟨x', hx', rfl⟩ := zD0 hz; exact h.ns.inj i j x x' hx hx' rfl rfl
 kinj := fun i j y z hy hz => by obtain ⟨x, hx, rfl⟩ := zD0 hy; obtain ⟨x', hx', rfl⟩ := zD0 hz; exact h.ns.kinj i j x x' hx hx' rfl rfl
 kmb := fun i y hy => by obtain ⟨x, hx, rfl⟩ := zD0 hy; exact h.ns.kmb i x hx rfl
 bt := h.bt
 bm := h.ns.bm
 bp := fun i y hy => by obtain ⟨x, hx, rfl⟩ := zD0 hy; exact h.ns.bp i x hx rfl
 bk := fun i y hy => by obtain ⟨x, hx, rfl⟩ := zD0 hy; exact h.ns.bk i x hx rfl
theorem CoreAt.tree (h : CoreAt w B n m t mb pb kb dv nf kf T.next T.quota) (hw : T.Wf) (hn : ∀ i, nf i = nfT T i) (hk : ∀ p i x, look T.R p = some i → look T.N i = some x → x.dir = true → ∀ k, kf i k = look T.R (p ++ [k])) : TreeAt w B n m t mb pb kb dv T := by
 obtain rfl : nf = nfT T := funext hn
 refine ⟨h.blk, ⟨h.nodes.congr fun i => ?_, fun i x hx _ => h.node i _ (zCd hx), fun i x hx _ => h.data i _ (zCd hx), fun p i x hp hx _ hd => (h.kids i _ (zCd hx) hd).congr fun k => by rw [hk p i x hp hx hd k],
  fun i j x y hx hy _ _ => h.inj i j _ _ (zCd hx) (zCd hy), fun i j x y hx hy _ _ hd hd' => h.kinj i j _ _ (zCd hx) (zCd hy) hd hd', fun i x hx _ hd => h.kmb i _ (zCd hx) hd, h.bm, fun i x hx _ => h.bp i _ (zCd hx), fun i x hx _ hd => h.bk i _ (zCd hx) hd⟩, h.bt, hw⟩
 unfold nfT
 cases look T.N i <;> simp
theorem cnt_fresh (h : T.Wf) : cnt T.R T.next = 0 := by
 apply Nat.eq_zero_of_not_pos;intro hp;obtain ⟨p, hp⟩ := cnt_zero h.rnd hp;exact h.notNext hp rfl
theorem madeT (h : T.Wf) {d : Pth} {nm : Str} {di : Int} (hin : T.In (d ++ [nm]) d nm di) (hp : look T.R (d ++ [nm]) = none) (nd : Nd) (hc : CoreAt w B n m t mb pb kb dv (upd (nfT T) T.next (some ⟨nd.dir, 1, nd.data⟩)) (zKb (fun a => if a = T.next then (fun _ => none) else kfT T a) di nm (some T.next)) (T.next + 1) T.quota) :
  TreeAt w B n m t mb pb kb dv (T.made (d ++ [nm]) nd) := by
 obtain ⟨x, hx, hxd⟩ := hin.dir;refine CoreAt.tree (T := T.made (d ++ [nm]) nd) hc (h.made hin.at_ hx hxd hp nd) (fun i => ?_) (fun p i y hpi hy hyd k => ?_)
 ·unfold nfT;show _ = (look (ins T.N _ _) i).map _;rw [zAq];have hci := cnt_ins T.R (d ++ [nm]) T.next i;rw [hp] at hci
  by_cases e : i = T.next
  ·subst e;rw [zAv, if_pos rfl];have := cnt_fresh h
   have h2 : cnt (T.made (d ++ [nm]) nd).R T.next = 1 := by
    show cnt (ins T.R _ _) _ = 1;rw [this] at hci; simpa using hci
   rw [Option.map_some, h2]; rfl
  ·rw [zAf _ _ e, if_neg e]
   have h2 : cnt (T.made (d ++ [nm]) nd).R i = cnt T.R i := by
    show cnt (ins T.R _ _) _ = _;rw [if_neg (Ne.symm e)] at hci; simpa using hci
   rw [h2]
 ·change look (ins T.R _ _) _ = _ at hpi
  change look (ins T.N _ _) _ = _ at hy
  show _ = look (ins T.R _ _) _;rw [zAq] at hpi hy;rw [zAq];have hdn : di ≠ T.next := h.notNext hin.at_
  by_cases e : p = d ++ [nm]
  ·rw [if_pos e] at hpi; cases hpi;unfold zKb;rw [if_neg (fun e' => hdn e'.1.symm)];show (if T.next = T.next then (fun _ : Str => (none : Option Int)) else kfT T T.next) k = _;rw [if_pos rfl, if_neg (by rw [e]; simp), e, h.noKids0 hp]
  ·rw [if_neg e] at hpi;have hin' := h.notNext hpi;rw [if_neg hin'] at hy;unfold zKb
   by_cases e2 : i = di ∧ k = nm
   ·obtain ⟨rfl, rfl⟩ := e2;rw [if_pos ⟨rfl, rfl⟩];obtain rfl := h.one p d i y hpi hin.at_ hy hyd;rw [if_pos rfl]
   ·rw [if_neg e2];show (if i = T.next then (fun _ : Str => (none : Option Int)) else kfT T i) k = _;rw [if_neg hin', zO3 h hpi hy hyd k, if_neg];intro e3;obtain ⟨rfl, rfl⟩ := app_inj.1 e3;rw [hin.at_] at hpi; cases hpi;exact e2 ⟨rfl, rfl⟩
theorem wroteT (h : T.Wf) {i : Int} {x : List UInt8} (hi : look T.N i = some ⟨false, x⟩) (dd : List UInt8) (hk : ∀ a, a ≠ i → kf a = kfT T a) (hc : CoreAt w B n m t mb pb kb dv (upd (nfT T) i (some ⟨false, (cnt T.R i : Nat), dd⟩)) kf T.next T.quota) :
  TreeAt w B n m t mb pb kb dv (T.wrote i dd) := by
 refine CoreAt.tree (T := T.wrote i dd) hc (h.wrote hi rfl dd) (fun j => ?_) (fun p j y hpj hy hyd k => ?_)
 ·unfold nfT;show _ = (look (ins T.N _ _) j).map _;rw [zAq]
  by_cases e : j = i
  ·subst e; rw [zAv, if_pos rfl]; rfl
  ·rw [zAf _ _ e, if_neg e]; rfl
 ·change look (ins T.N _ _) _ = _ at hy
  rw [zAq] at hy
  by_cases e : j = i
  ·rw [if_pos e] at hy; cases hy; cases hyd
  ·rw [if_neg e] at hy;rw [hk j e];exact zO3 h hpj hy hyd k
theorem unlinkedT (h : T.Wf) {d : Pth} {nm : Str} {di i : Int} {x : List UInt8} (hin : T.In (d ++ [nm]) d nm di) (hp : look T.R (d ++ [nm]) = some i) (hi : look T.N i = some ⟨false, x⟩) (hc : CoreAt w B n m t mb pb kb dv (upd (nfT T) i (some ⟨false, (cnt T.R i : Nat) - 1, x⟩)) (zKb (kfT T) di nm none) T.next T.quota) :
  TreeAt w B n m t mb pb kb dv (T.unlinked (d ++ [nm])) := by
 have hci := fun j => cnt_del T.R h.rnd (d ++ [nm]) j
 rw [hp] at hci;refine CoreAt.tree (T := T.unlinked (d ++ [nm])) hc (h.unlinked hp hi rfl) (fun j => ?_) (fun p j y hpj hy hyd k => ?_)
 ·unfold nfT;show _ = (look T.N j).map fun z => NdF.mk z.dir (cnt (del T.R (d ++ [nm])) j : Nat) z.data
  by_cases e : j = i
  ·subst e;have := hci j;rw [if_pos rfl] at this;rw [zAv, hi, Option.map_some, this];congr 2;omega
  ·have := hci j;rw [if_neg (fun e' => e (Option.some.inj e').symm)] at this;rw [zAf _ _ e, Nat.add_zero] at *;rw [← this]
 ·change look (del T.R _) _ = _ at hpj
  change look T.N _ = _ at hy
  show _ = look (del T.R _) _;rw [zB2] at hpj;rw [zB2]
  by_cases e : p = d ++ [nm]
  ·rw [if_pos e] at hpj; cases hpj
  ·rw [if_neg e] at hpj;unfold zKb
   by_cases e2 : j = di ∧ k = nm
   ·obtain ⟨rfl, rfl⟩ := e2;obtain rfl := h.one p d j y hpj hin.at_ hy hyd;rw [if_pos ⟨rfl, rfl⟩, if_pos rfl]
   ·rw [if_neg e2, zO3 h hpj hy hyd k, if_neg];intro e3;obtain ⟨rfl, rfl⟩ := app_inj.1 e3;rw [hin.at_] at hpj; cases hpj;exact e2 ⟨rfl, rfl⟩
theorem linkedT (h : T.Wf) {p : Pth} {d : Pth} {nm : Str} {di i : Int} {x : List UInt8} (hin : T.In (d ++ [nm]) d nm di) (hq : look T.R (d ++ [nm]) = none) (hp : look T.R p = some i) (hi : look T.N i = some ⟨false, x⟩) (hc : CoreAt w B n m t mb pb kb dv (upd (nfT T) i (some ⟨false, (cnt T.R i : Nat) + 1, x⟩)) (zKb (kfT T) di nm (some i)) T.next T.quota) :
  TreeAt w B n m t mb pb kb dv (T.linked (d ++ [nm]) i) := by
 have hci := fun j => cnt_ins T.R (d ++ [nm]) i j
 rw [hq] at hci;obtain ⟨z, hz, hzd⟩ := hin.dir;refine CoreAt.tree (T := T.linked (d ++ [nm]) i) hc (h.linked hin.at_ hz hzd hq hp hi rfl) (fun j => ?_) (fun p' j y hpj hy hyd k => ?_)
 ·unfold nfT;show _ = (look T.N j).map fun z => NdF.mk z.dir (cnt (ins T.R (d ++ [nm]) i) j : Nat) z.data
  by_cases e : j = i
  ·subst e;have := hci j;simp at this;rw [zAv, hi, Option.map_some, this];congr 2
  ·have := hci j;rw [if_neg (Ne.symm e)] at this;simp at this;rw [zAf _ _ e, this]; try rfl
 ·change look (ins T.R _ _) _ = _ at hpj
  change look T.N _ = _ at hy
  show _ = look (ins T.R _ _) _;rw [zAq] at hpj;rw [zAq]
  by_cases e : p' = d ++ [nm]
  ·rw [if_pos e] at hpj; cases hpj;rw [hi] at hy; cases hy; cases hyd
  ·rw [if_neg e] at hpj;unfold zKb
   by_cases e2 : j = di ∧ k = nm
   ·obtain ⟨rfl, rfl⟩ := e2;obtain rfl := h.one p' d j y hpj hin.at_ hy hyd;rw [if_pos ⟨rfl, rfl⟩, if_pos rfl]
   ·rw [if_neg e2, zO3 h hpj hy hyd k, if_neg];intro e3;obtain ⟨rfl, rfl⟩ := app_inj.1 e3;rw [hin.at_] at hpj; cases hpj;exact e2 ⟨rfl, rfl⟩
theorem movedT (h : T.Wf) {d d' : Pth} {nm nm' : Str} {di di' i : Int} {x : List UInt8} (hin : T.In (d ++ [nm]) d nm di) (hp : look T.R (d ++ [nm]) = some i) (hi : look T.N i = some ⟨false, x⟩) (hin' : T.In (d' ++ [nm']) d' nm' di') (hne : d ++ [nm] ≠ d' ++ [nm'])
  (hq : ∀ j y, look T.R (d' ++ [nm']) = some j → look T.N j = some y → y.dir = false) (hn : ∀ j, nf j = (nfT T j).map fun y => { y with links := y.links - if look T.R (d' ++ [nm']) = some j then 1 else 0 })
  (hc : CoreAt w B n m t mb pb kb dv nf (zKb (zKb (kfT T) di nm none) di' nm' (some i)) T.next T.quota) :
  TreeAt w B n m t mb pb kb dv (T.moved (d ++ [nm]) (d' ++ [nm']) i) := by
 obtain ⟨z, hz, hzd⟩ := hin'.dir;have hcd := fun j => cnt_del T.R h.rnd (d ++ [nm]) j
 have hci := fun j => cnt_ins (del T.R (d ++ [nm])) (d' ++ [nm']) i j
 rw [hp] at hcd;rw [zB2, if_neg (Ne.symm hne)] at hci;refine CoreAt.tree (T := T.moved (d ++ [nm]) (d' ++ [nm']) i) hc (h.moved hin'.at_ hz hzd hq hp hi rfl) (fun j => ?_) (fun p' j y hpj hy hyd k => ?_)
 ·rw [hn j];unfold nfT;show _ = (look T.N j).map fun z => NdF.mk z.dir (cnt (ins (del T.R (d ++ [nm])) (d' ++ [nm']) i) j : Nat) z.data
  cases look T.N j with
  | none => rfl
  | some y =>
    simp only [Option.map_some];congr 2;have h1 := hcd j;have h2 := hci j;simp only [Option.some.injEq] at h1
    by_cases e : look T.R (d' ++ [nm']) = some j
    ·rw [if_pos e] at h2 ⊢
     by_cases e2 : i = j
     ·subst e2; simp at h1 h2; omega
     ·simp [e2] at h1 h2; omega
    ·rw [if_neg e] at h2 ⊢
     by_cases e2 : i = j
     ·subst e2; simp at h1 h2; omega
     ·simp [e2] at h1 h2; omega
 ·rw [zBq] at hpj;rw [zBq]
  change look T.N _ = _ at hy
  have hpj' : look T.R p' = some j := by
   by_cases e1 : p' = d' ++ [nm']
   ·rw [if_pos e1] at hpj; cases hpj; rw [hi] at hy; cases hy; cases hyd
   ·rw [if_neg e1] at hpj
    by_cases e2 : p' = d ++ [nm]
    ·rw [if_pos e2] at hpj; cases hpj
    ·rw [if_neg e2] at hpj; exact hpj
  unfold zKb
  by_cases e2 : j = di' ∧ k = nm'
  ·obtain ⟨rfl, rfl⟩ := e2;obtain rfl := h.one p' d' j y hpj' hin'.at_ hy hyd;rw [if_pos ⟨rfl, rfl⟩, if_pos rfl]
  ·have hne2 : ¬ p' ++ [k] = d' ++ [nm'] := by
    intro e3;obtain ⟨rfl, rfl⟩ := app_inj.1 e3;rw [hin'.at_] at hpj'; cases hpj';exact e2 ⟨rfl, rfl⟩
   rw [if_neg e2, if_neg hne2]
   by_cases e4 : j = di ∧ k = nm
   ·obtain ⟨rfl, rfl⟩ := e4;obtain rfl := h.one p' d j y hpj' hin.at_ hy hyd;rw [if_pos ⟨rfl, rfl⟩, if_pos rfl]
   ·rw [if_neg e4, zO3 h hpj' hy hyd k, if_neg];intro e3;obtain ⟨rfl, rfl⟩ := app_inj.1 e3;rw [hin.at_] at hpj'; cases hpj';exact e4 ⟨rfl, rfl⟩
end
theorem zAl {w : World} {b : Nat} {cs : Array Value} {t : TypeId} (h : w.heap[b]? = some (.cells cs t (0, 0))) (i : Nat) : w.frozen? ⟨b, i, none⟩ = false := by simp [World.frozen?, h]
section
variable {w : World} {B n m t mb : Nat} {pb kb : Int → Nat} {dv : Int → Value} {nf : Int → Option NdF} {kf : Int → Str → Option Int} {next quota : Int}
theorem zNm : Tryz.f189.results = #[] := by kernel_rfl
def zPs (w : World) (B n m t mb : Nat) (pb kb : Int → Nat) (dv : Int → Value) (nf : Int → Option NdF) (kf : Int → Str → Option Int) (next quota : Int) (e : Ending) (w' : World) : Prop :=
 e = .returned (.tuple #[]) ∧ CoreAt w' B n m t mb pb kb dv nf kf next quota ∧ Mut B zA7 w w'
theorem make_any (h : CoreAt w B n m t mb pb kb dv nf kf next quota) (hn : n < 1000000) (hm : m < 1000000) (hx1 : 1 ≤ next) (hx2 : next ≤ 4611686018427387904) {di : Int} {x : NdF} (hdi : nf di = some x) (hxd : x.dir = true) (hne : di ≠ next) {nm : Str} (hnm : nm.length ≤ 12) (y : NdF) {pn kn : Nat} {v : Value}
  (hp : w.heap[pn]? = some (.cells #[.bool y.dir, .int .i64 y.links, v, .map (if y.dir then some kn else none)] 85 (0, 0))) (hdata : DataIs w v y.data)
  (hk : y.dir = true → MapK strK w kn m (fun _ => none))
  (hpn : ∀ j y, nf j = some y → pb j ≠ pn) (hkn : ∀ j z, nf j = some z → z.dir = true → y.dir = true → kb j ≠ kn) (hkm : y.dir = true → kn ≠ mb) (hB : B ≤ pn) (hBk : y.dir = true → B ≤ kn) :
  Calls Tryz.prog 189 #[.pointer (some ⟨t, 0, none⟩), .pointer (some ⟨pb di, 0, none⟩), .string (ba nm), .pointer (some ⟨pn, 0, none⟩)] w
   (zPs w B (n + 1) (m + 1) t mb (upd pb next pn) (upd kb next kn) (upd dv next v) (upd nf next (some y)) (zKb (fun a => if a = next then (fun _ => none) else kf a) di nm (some next)) (next + 1) quota) := by
 have xd : Ext w w.drew := (xr w).drew;obtain ⟨w1, hr1, C1, g1, s1⟩ := (h.ext xd).put (i := next) (zMy (by omega) (by omega)) (by unfold maxLen; omega) y (hp : w.drew.heap[pn]? = _) (hdata.ext xd) (fun _ => none) (fun e => (hk e).ext xd) (fun j z hj _ => hpn j z hj) (fun j z hj _ => hkn j z hj) hkm hB hBk;have hdi1 : upd nf next (some y) di = some x := by rw [zAf _ _ hne]; exact hdi
 have xd1 : Ext w1 w1.drew := (xr w1).drew;obtain ⟨w2, hr2, C2, g2, s2⟩ := (C1.ext xd1).kid hdi1 hxd (by unfold maxLen; omega) hnm next;have e1 : upd pb next pn di = pb di := zAf _ _ hne;have e2 : upd kb next kn di = kb di := zAf _ _ hne;rw [e2] at hr2 g2
 have G1 : Hid (Mut B zA7 w w1) := (zFh (h.ext xd).nodes g1 h.bm).trans (Mut.refl B zA7 w1) |> fun k => xd.mut.trans k
 have G2 : Hid (Mut B zA7 w1 w2) := xd1.mut.trans (zFh ((C1.ext xd1).kids di x hdi1 hxd) (by rw [e2]; exact g2) (by rw [e2]; exact h.bk di x hdi hxd));have HC2 := zh C2;have c0 : w.cell? ⟨t, 0, none⟩ = some (.map (some mb)) := by rw [zAb h.blk]; rfl
 have c1 : w.cell? ⟨t, 1, none⟩ = some (.int .i64 next) := by rw [zAb h.blk]; rfl
 have k1 : w1.cell? ⟨t, 1, none⟩ = some (.int .i64 next) := by rw [zAb C1.blk]; rfl
 have k0 : w1.cell? ⟨t, 0, none⟩ = some (.map (some mb)) := by rw [zAb C1.blk]; rfl
 have k3 : w1.cell? ⟨pb di, 3, none⟩ = some (.map (some (kb di))) := by
  have := C1.node di x hdi1;rw [e1, e2, hxd] at this;rw [zAb this]; rfl
 have q1 : w2.cell? ⟨t, 1, none⟩ = some (.int .i64 next) := by rw [zAb C2.blk]; rfl
 have q3 : w2.cell? ⟨pb di, 3, none⟩ = some (.map (some (kb di))) := by
  have := C2.node di x hdi1;rw [e1, e2, hxd] at this;rw [zAb this]; rfl
 have qf := zAl C2.blk 1;clear hp hdata hk hpn hkn hkm hB hBk h C1 C2 g1 g2 s1 s2 hdi hdi1 e1 e2 xd xd1;go_enter Tryz.func189, Tryz.ntmps189
 go_upto_region 0 with fail
 go_region_held3 (fun W => W.cell? ⟨t, 0, none⟩ = some (.map (some mb)) ∧ W.cell? ⟨t, 1, none⟩ = some (.int .i64 next))
  (first | exact ⟨c0, c1⟩ | exact ⟨k0, k1⟩) (fail)
 go_upto_region 1 with fail
 go_region_held3 (fun W => W.cell? ⟨pb di, 3, none⟩ = some (.map (some (kb di))) ∧ W.cell? ⟨t, 1, none⟩ = some (.int .i64 next))
  (first | exact ⟨k3, k1⟩ | exact ⟨q3, q1⟩) (fail)
 go_wp2_with fail
 obtain ⟨C3, G3⟩ := HC2.out.setNext (next + 1);exact bodyPost_ret (v := .tuple #[]) (by simp [results, zNm, go_sem]) rfl ⟨rfl, C3, (G1.out.trans G2.out).trans G3⟩
end
end
end Go.Proofs.YtgnjjfdfoibdiaaGreatDoor
