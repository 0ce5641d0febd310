/- A part of the proof of WholeUsers. -/
import Derived.Test.YtgnjjfdfoibdiaaGreatDoorUah
import Derived.Test.YtgnjjfdfoibdiaaGreatDoorUam
set_option linter.all false
namespace Go.Proofs.YtgnjjfdfoibdiaaGreatDoor
section
open Go.RowKit Go.Maps Go.Sort Go.Lib
set_option maxRecDepth 100000
def PB (w : World) : List Value → List (List UInt8) → Prop
 | [], [] => True
 | u :: us, m :: ms => OwnBytes w 0 u m ∧ PB w us ms
 | _, _ => False
theorem PB.imp {w w' : World} (hk : ∀ u m, OwnBytes w 0 u m → OwnBytes w' 0 u m) : ∀ {us : List Value} {ms : List (List UInt8)}, PB w us ms → PB w' us ms
 | [], [], _ => trivial
 | _ :: _, _ :: _, h => ⟨hk _ _ h.1, PB.imp hk h.2⟩
theorem PB.length {w : World} : ∀ {us : List Value} {ms : List (List UInt8)}, PB w us ms → us.length = ms.length
 | [], [], _ => rfl
 | _ :: _, _ :: _, h => by simp [PB.length h.2]
theorem PB.append {w : World} : ∀ {us : List Value} {ms : List (List UInt8)} {vs : List Value} {ls : List (List UInt8)}, PB w us ms → PB w vs ls → PB w (us ++ vs) (ms ++ ls)
 | [], [], _, _, _, k => k
 | _ :: _, _ :: _, _, _, h, k => ⟨h.1, PB.append h.2 k⟩
theorem PB.get {w : World} : ∀ {us : List Value} {ms : List (List UInt8)} (_ : PB w us ms) (i : Nat) (hi : i < ms.length), ∃ u, us[i]? = some u ∧ OwnBytes w 0 u ms[i]
 | [], [], _, _, hi => absurd hi (by simp)
 | u :: _, _ :: _, h, 0, _ => ⟨u, rfl, h.1⟩
 | _ :: _, _ :: _, h, i + 1, hi => by
   obtain ⟨u, h1, h2⟩ := PB.get h.2 i (by simpa using hi);exact ⟨u, by simpa using h1, h2⟩
theorem own_one {w : World} {base e s n : Nat} {v : Value} {xs : List Value} (h : w.ownsRow base e s v n xs) : v.oneCell' = true := by
 rcases h.2 with ⟨rfl, _⟩ | ⟨g, cap, cur, rfl, _⟩ <;> rfl
theorem PB.one {w : World} : ∀ {us : List Value} {ms : List (List UInt8)}, PB w us ms → ∀ u ∈ us, u.oneCell' = true
 | [], [], _, u, hu => by cases hu
 | v :: us, _ :: _, h, u, hu => by
   rcases List.mem_cons.1 hu with rfl | hu
   ·exact own_one h.1
   ·exact PB.one h.2 u hu
def PartRow (w : World) (base : Nat) (v : Value) (ls : List (List UInt8)) : Prop := ∃ vs, w.ownsRow base 108 1 v ls.length vs ∧ PB w vs ls
theorem zLm : (Tryz.prog.info? 108).map (fun i => (i.zero, i.size, i.bytes)) = some (some (.slice none 0 0), 1, 24) := by kernel_rfl
theorem zE2 : Tryz.prog.underlying 163 = some (.slice 108) := by kernel_rfl
section
variable {w w' : World} {base : Nat} {v : Value} {ls : List (List UInt8)}
theorem PartRow.nil (w : World) (base : Nat) : PartRow w base (.slice none 0 0) [] := ⟨[], World.ownsRow_nil _ _ _ _, trivial⟩
theorem PartRow.ext (h : PartRow w base v ls) (x : Ext w w') : PartRow w' base v ls := by
 obtain ⟨vs, h1, h2⟩ := h;exact ⟨vs, x.own h1, h2.imp fun u m ho => x.own ho⟩
theorem PartRow.form (h : PartRow w base v ls) : ∃ a c, v = .slice a ls.length c := by
 obtain ⟨vs, h, -⟩ := h
 rcases h.2 with ⟨rfl, h0⟩ | ⟨g, cap, cur, rfl, _⟩
 ·exact ⟨_, _, by rw [h0]⟩
 ·exact ⟨_, _, rfl⟩
theorem PartRow.rows (h : PartRow w base v ls) (hl : ls.length ≤ 1000000) : Rows' w v ls := by
 obtain ⟨vs, h1, h2⟩ := h
 rcases h1.2 with ⟨rfl, h0⟩ | ⟨g, cap, cur, rfl, hb, hg, hn, hm, _⟩
 ·exact ⟨none, 0, by rw [h0], by omega, fun i hi => by omega⟩
 ·refine ⟨_, _, rfl, by omega, fun i hi => ?_⟩;obtain ⟨u, hu, ho⟩ := h2.get i hi;refine ⟨g, 0, u, rfl, ?_, ho.bytes⟩;rw [Nat.zero_add, World.ownsRow.cellAt h1 i (by omega)];exact hu
theorem zIl {e s n : Nat} {xs : List Value} (h : w.ownsRow base e s v n xs) (g : w.grownBy w' v.ownBlock) : Mut base [e + 2] w w' :=
 (Mut.refl base [e + 2] w).grow g (fun k hk => by
  rcases h.2 with ⟨rfl, _⟩ | ⟨q, cap, cur, rfl, hb, hq, _⟩
  ·cases hk
  ·cases hk
   exact ⟨hb, fun o ho => by rw [hq] at ho; cases ho; simp [tagOf]⟩)
theorem zMi {W : World} {g m c : Nat} {vs : List Value} {t : TypeId} {fz : Nat × Nat} (h : W.heap[g]? = some (.cells vs.toArray t fz)) : Src W (.slice (some ⟨g, 0, none⟩) m c) m vs := by
 refine ⟨_, _, rfl, (fun h => by cases h), fun ad had j y hy => ?_⟩;cases had;rw [Addr.add_lit, Nat.zero_add, zAb h];simpa using hy
theorem zEp (w : World) {ops : Array Oper} {rest : List Oper} {o : Oper} {a : Act} {Q : Exit → Act → World → Prop}
  (hg : o.guard = none) (s x : Operand) (hop : o.op = Op.call { callee := Callee.builtin Builtin.append, args := #[s, x], argTypes := #[163, 163] })
  (base : Nat) (v : Value) (ls : List (List UInt8)) (us : List Value) (ms : List (List UInt8)) (g c : Nat) (hs : a.eval s = v) (hx : a.eval x = .slice (some ⟨g, 0, none⟩) us.length c) (hown : PartRow w base v ls) (hb : w.heap[g]? = some (.cells us.toArray 108 (0, 0))) (hu : PB w us ms)
  (hl : ls.length + us.length ≤ 1000000) (hbase : base ≤ w.heap.size)
  (hK : ∀ v' w', PartRow w' base v' (ls ++ ms) → w.grownBy w' v.ownBlock → Mut base [110] w w' → wpList Tryz.prog ops Q rest (a.put o.dst v') w') :
  wpList Tryz.prog ops Q (o :: rest) a w := by
 obtain ⟨i0, hi, hz0, hz1, hz2⟩ := info_parts zLm;obtain ⟨vs, h1, h2⟩ := hown
 refine zBu w hg s x 163 hop base 108 i0 _ 1 24 zE2 hi hz0 hz1 hz2 rfl (by decide) v _ hs hx ls.length vs h1 us.length us (by simp) (zMi hb) hu.one (by unfold maxLen; omega) (by omega) hbase
  (fun v' w' r1 r2 r3 => hK v' w' ⟨vs ++ us, by rw [List.length_append, ← hu.length]; exact r1, (h2.append hu).imp fun u m ho => (zIl h1 r2).own ho (by simp)⟩ r2 (zIl h1 r2))
theorem zCr {ops : Array Oper} {o : Oper} {a : Act} {w : World} {K : Act → World → Prop} {Q : Exit → Act → World → Prop} {E : Prop}
  (hg : o.guard = none) (s x : Operand) (hop : o.op = Op.call { callee := Callee.builtin Builtin.append, args := #[s, x], argTypes := #[163, 163] })
  (base : Nat) (v : Value) (ls : List (List UInt8)) (us : List Value) (ms : List (List UInt8)) (g c : Nat) (hs : a.eval s = v) (hx : a.eval x = .slice (some ⟨g, 0, none⟩) us.length c) (hown : PartRow w base v ls) (hb : w.heap[g]? = some (.cells us.toArray 108 (0, 0))) (hu : PB w us ms)
  (hl : ls.length + us.length ≤ 1000000) (hbase : base ≤ w.heap.size)
  (hK : ∀ v' w', PartRow w' base v' (ls ++ ms) → w.grownBy w' v.ownBlock → Mut base [110] w w' → K (a.put o.dst v') w') :
  if Region.wanted o (yielded ops a.tmps) = true then Oper.wp Tryz.prog o a w K Q else E := by
 obtain ⟨i0, hi, hz0, hz1, hz2⟩ := info_parts zLm;obtain ⟨vs, h1, h2⟩ := hown
 refine zA8 hg s x 163 hop base 108 i0 _ 1 24 zE2 hi hz0 hz1 hz2 rfl (by decide) v _ hs hx ls.length vs h1 us.length us (by simp) (zMi hb) hu.one (by unfold maxLen; omega) (by omega) hbase
  (fun v' w' r1 r2 r3 => hK v' w' ⟨vs ++ us, by rw [List.length_append, ← hu.length]; exact r1, (h2.append hu).imp fun u m ho => (zIl h1 r2).own ho (by simp)⟩ r2 (zIl h1 r2))
end
def zE9 (n : Int) : List UInt8 := le4 (n % 4294967296).toNat
def zBk (l : List UInt8) : List UInt8 := le4 l.length ++ l
def zEt (o : OpP) : List (List UInt8) := [zE9 o.kind, zBk o.path, zBk o.to, zBk o.data]
def zC6 (l : List OpP) : List UInt8 := (l.flatMap zEt).flatten
def zAy (w : World) (l : List UInt8) (e : Ending) (w' : World) : Prop := ∃ v, e = .returned v ∧ Fresh w w' v l
theorem zD2 (n : Int) (w : World) : Calls Tryz.prog 36 #[.int .i64 n] w (zAy w (zE9 n)) := Num_any n w
theorem zBw (l : Str) (w : World) (hl : l.length ≤ 1048576) : Calls Tryz.prog 74 #[.string (ba l)] w (zAy w (zBk l)) := Text_any l w hl
theorem raw_calls {l : List UInt8} {v : Value} {w : World} (hb : Bytes w v l) (hl : l.length ≤ 16777216) : Calls Tryz.prog 75 #[v] w (zAy w (zBk l)) := Raw_any l v w hb hl
theorem Fresh.own0 {w w' : World} {v : Value} {l : List UInt8} (h : Fresh w w' v l) : OwnBytes w' 0 v l := h.2.le (Nat.zero_le _)
theorem zAj {w : World} {base e s n : Nat} {v : Value} {xs : List Value} (h : w.ownsRow base e s v n xs) : ∃ a c, v = .slice a n c := by
 rcases h.2 with ⟨rfl, h0⟩ | ⟨g, cap, cur, rfl, _⟩
 ·exact ⟨_, _, by rw [h0]⟩
 ·exact ⟨_, _, rfl⟩
def packRel (w : World) (ops : List (OpP × Value)) (v i : Value) (wr : World) : Prop :=
 ∃ k : Nat, k ≤ ops.length ∧ i = .int .i64 k ∧ Hid (Ext w wr) ∧ Hid (PartRow wr w.heap.size v ((ops.take k).flatMap fun x => zEt x.1))
theorem zO5 (l : List (OpP × Value)) : (l.flatMap fun x => zEt x.1).length = 4 * l.length := by
 induction l with
 | nil => rfl
 | cons x r ih => rw [List.flatMap_cons, List.length_append, ih]; simp [zEt]; omega
theorem pack_take (ops : List (OpP × Value)) : (ops.flatMap fun x => zEt x.1).flatten = zC6 (ops.map Prod.fst) := by
 unfold zC6;rw [List.flatMap_map]
set_option maxHeartbeats 2000000 in
theorem TPack_any {w : World} {v : Value} {ops : List (OpP × Value)} {base : Nat} (hops : OpsW w base v ops) (hn : ops.length ≤ 1000) (hs : ∀ x ∈ ops, x.1.path.length ≤ 1000 ∧ x.1.to.length ≤ 1000 ∧ x.1.data.length ≤ 1000) (hl : (zC6 (ops.map Prod.fst)).length ≤ 16777216) :
  Calls Tryz.prog 53 #[v] w (zAy w (zC6 (ops.map Prod.fst))) := by
 have HO := zh hops;have HS := zh hs;have HL := zh hl;obtain ⟨a, c, rfl, -, -⟩ := hops.form;clear hops hs hl;go_enter Tryz.func53, Tryz.ntmps53
 go_wp2_with fail
 go_loopw [3, 8] (fun v i wr => packRel w ops v i wr) (fun _ i _ => ops.length - (intOf i).toNat)
 case atStart => exact ⟨0, Nat.zero_le _, rfl, zh (xr w), zh (PartRow.nil _ _)⟩
 case round =>
  obtain ⟨wq, rfl⟩ : ∃ x : World, x = wr := ⟨_, rfl⟩
  obtain ⟨k, hk, rfl, HX, HR⟩ := hrel;obtain ⟨a3, c3, rfl⟩ := HR.out.form;have hpl := zO5 (ops.take k);rw [List.length_take, Nat.min_eq_left hk] at hpl
  by_cases hlt : k < ops.length
  ·obtain ⟨b, e, hc⟩ := (HO.out.ext HX.out).at k hlt;subst e;have hmem := List.getElem_mem hlt;have HDk := zh ((HO.out.ext HX.out).data _ hmem);have HSk := zh (HS.out _ hmem);have HTK := zh (List.take_succ_eq_append_getElem hlt);have hc0 : wq.cell? ⟨b, k * 4, none⟩ = some (.int .i64 (ops[k].1.kind : Nat)) := hc 0 (by omega);have hc1 : wq.cell? ⟨b, k * 4 + 1, none⟩ = some (.string (ba ops[k].1.path)) := hc 1 (by omega);have hc2 : wq.cell? ⟨b, k * 4 + 2, none⟩ = some (.string (ba ops[k].1.to)) := hc 2 (by omega);have hc3 : wq.cell? ⟨b, k * 4 + 3, none⟩ = some ops[k].2 := hc 3 (by omega);clear hc hmem;generalize ops[k] = x at *;obtain ⟨⟨kd, p1, p2, dd⟩, dv⟩ := x;obtain ⟨ad, cd, hdv⟩ := HDk.out.form;simp only at hdv hc0 hc1 hc2 hc3;subst hdv;have HBD := zh HDk.out.bytes;simp only at HBD;have hs1 : p1.length ≤ 1000 := HSk.out.1;have hs2 : p2.length ≤ 1000 := HSk.out.2.1;have hs3 : dd.length ≤ 1000 := HSk.out.2.2
   obtain ⟨W0, hW0⟩ : ∃ W0, W0 = wq.alloc (.cells #[.int .i64 (kd : Nat), .string (ba p1), .string (ba p2), .slice ad dd.length cd] 96) := ⟨_, rfl⟩
   have hb0 : W0.heap[wq.heap.size]? = some (.cells #[.int .i64 (kd : Nat), .string (ba p1), .string (ba p2), .slice ad dd.length cd] 96 (0, 0)) := by rw [hW0]; exact heap_alloc_new wq _
   have HB0 := zh hb0;have X0 := zh (show Ext wq W0 by rw [hW0]; exact (xr wq).alloc _)
   have zK9 : ∀ {W : World}, W.heap[wq.heap.size]? = some (.cells #[.int .i64 (kd : Nat), .string (ba p1), .string (ba p2), .slice ad dd.length cd] 96 (0, 0)) → W.cell? ⟨wq.heap.size, 0, none⟩ = some (.int .i64 (kd : Nat)) ∧ W.cell? ⟨wq.heap.size, 1, none⟩ = some (.string (ba p1)) ∧ W.cell? ⟨wq.heap.size, 2, none⟩ = some (.string (ba p2)) ∧ W.cell? ⟨wq.heap.size, 3, none⟩ = some (.slice ad dd.length cd) := fun h =>
    ⟨by rw [zAb h]; rfl, by rw [zAb h]; rfl, by rw [zAb h]; rfl, by rw [zAb h]; rfl⟩
   have KT : Hid (∀ W, Ext W0 W → _) := fun W xw => zK9 (xw.get HB0.out)
   have KF : Hid (∀ V5 V6, Ext W0 V5 → Mut w.heap.size [110] V5 V6 → _) := fun V5 V6 x5 m6 => zK9 (m6.get (x5.get HB0.out) (by simp))
   have HT1 := zh (fun W => zBw p1 W (by omega));have HT2 := zh (fun W => zBw p2 W (by omega));have HR3 : Hid (∀ W, Ext W0 W → Calls Tryz.prog 75 #[.slice ad dd.length cd] W (zAy W (zBk dd))) := fun W xw => raw_calls (HBD.out.ext (X0.out.trans xw)) (by omega)
   have HRR : Hid (∀ W, Ext W0 W → PartRow W w.heap.size (.slice a3 ((ops.take k).flatMap fun x => zEt x.1).length c3) ((ops.take k).flatMap fun x => zEt x.1)) := fun W xw => HR.out.ext (X0.out.trans xw)
   have hsz := HX.out.sz;have hsz0 := X0.out.sz;rw [hpl] at HRR;have hpl2 : 4 * k + 4 ≤ 1000000 := by omega
   clear zK9 hb0;rw [hpl];generalize hdl : dd.length = dl at *;have HDL := zh hdl;clear hdl;generalize hq : (ops.take k).flatMap (fun x => zEt x.1) = q at *;have HQ := zh hq;have HPL := zh hpl;clear hq hpl
   go_upto_region 5 with fail
   rw [← hW0];clear hW0 hc0 hc1 hc2 hc3
   go_region_held3 (fun V => V.cell? ⟨wq.heap.size, 0, none⟩ = some (.int .i64 (kd : Nat)) ∧ V.cell? ⟨wq.heap.size, 1, none⟩ = some (.string (ba p1)) ∧ V.cell? ⟨wq.heap.size, 2, none⟩ = some (.string (ba p2)) ∧ V.cell? ⟨wq.heap.size, 3, none⟩ = some (.slice ad dl cd))
    (first
     | exact KT.out _ (xr _)
     | exact KT.out _ (xr _).drew
     | exact KT.out _ X5.out
     | exact KT.out _ X6.out
     | exact KT.out _ X7.out
     | exact KT.out _ X8.out
     | exact KT.out _ (X8.out.alloc _)
     | exact KF.out _ _ (X8.out.alloc _) M9.out)
    (first
     | (go_at_call 36; refine (zD2 _ _).mono ?_; rintro e w5 ⟨v5, rfl, f5⟩; (obtain ⟨a5, n5, rfl⟩ := zAj f5.2); have X5 := zh ((xr W0).drew.trans f5.1); have F5 := zh f5.own0; clear f5)
     | (go_at_call 74; refine (HT1.out _).mono ?_; rintro e w6 ⟨v6, rfl, f6⟩; (obtain ⟨a6, n6, rfl⟩ := zAj f6.2); have X6 := zh (X5.out.trans f6.1); have F6 := zh f6.own0; have Y5 := zh (f6.1.own F5.out); clear f6)
     | (go_at_call 74; refine (HT2.out _).mono ?_; rintro e w7 ⟨v7, rfl, f7⟩; (obtain ⟨a7, n7, rfl⟩ := zAj f7.2); have X7 := zh (X6.out.trans f7.1); have F7 := zh f7.own0; have Y6 := zh (f7.1.own F6.out); have Z5 := zh (f7.1.own Y5.out); clear f7)
     | (go_at_call 75; refine (HR3.out _ X7.out).mono ?_; rintro e w8 ⟨v8, rfl, f8⟩; (obtain ⟨a8, n8, rfl⟩ := zAj f8.2); have X8 := zh (X7.out.trans f8.1); have F8 := zh f8.own0; have PBx : Hid (PB w8 [_, _, _, _] [_, _, _, _]) := ⟨f8.1.own Z5.out, f8.1.own Y6.out, f8.1.own F7.out, f8.own0, trivial⟩; clear f8)
     | (refine zCr (by rfl) (.tmp 12) (.tmp 25) (by rfl) w.heap.size (.slice a3 (4 * k) c3) q _ _ w8.heap.size 4 (by rfl) (by rfl) ((HRR.out _ X8.out).ext ((xr w8).alloc _)) (heap_alloc_new w8 _) (PBx.out.imp fun u m ho => ((xr w8).alloc _).own ho) (by rw [HPL.out]; simp; omega) (by have := X8.out.sz; simp; omega) ?_; intro v9 w9 r9 g9 m9; (obtain ⟨a9, n9, rfl⟩ := r9.form); have R9 := zh r9; have G9 := zh g9; have M9 := zh m9; clear r9 g9 m9))
   all_goals
    go_wp2_with fail
    go_roundw
    case rel =>
     refine ⟨k + 1, hlt, by go_num, zh ?_, zh ?_⟩
     ·exact (HX.out.trans (X0.out.trans (X8.out.alloc _))).then_mut M9.out (Nat.le_refl _)
     ·rw [HTK.out, List.flatMap_append, HQ.out];have := R9.out;simpa [zEt] using this
    case measure => simp [intOf]; omega
  ·have hkl : k = ops.length := by omega
   subst hkl;rw [List.take_length] at HR ⊢;have HR' := zh (HR.out.rows (by rw [zO5]; omega));have HPK := zh (zGp _ _ wq HR'.out (by rw [pack_take]; exact HL.out));rw [pack_take] at HPK;clear hpl HR HR';generalize (ops.flatMap fun x => zEt x.1).length = ql at *
   go_wp2_with (go_at_call 76; refine HPK.out.mono ?_; rintro e w4 ⟨v4, rfl, f4⟩; have F4 := zh f4; clear f4)
   go_ret
   exact ⟨_, rfl, F4.out.after HX.out⟩
end
section
set_option maxRecDepth 100000
structure Calm (D : Dk) (L : Lg) (c : Nat) : Prop where
 up : D.down = false
 fate : D.fate < 1
 dead : L.dead = false
 at_ : L.at_ ≤ 13 * c
 half : L.half ≤ 1
 len : D.kept.length = 3000
 list : L.list.length ≤ c
 epoch : L.epoch < 4294967296
 steps : D.steps ≤ 1000 + 20 * c
 cache : D.cache = []
theorem step_ok {D : Dk} (hf : D.fate < 1) : D.step = ({ D with steps := D.steps + 1 }, true) := by
 unfold Dk.step;rw [if_neg (by omega)]
theorem write_ok {D : Dk} (hu : D.down = false) (hf : D.fate < 1) {a : Nat} (ha : a < D.kept.length) (s : List UInt8) : D.write (a : Int) s = ({ D with cache := D.cache ++ [(a, s)], steps := D.steps + 1 }, 0) := by
 unfold Dk.write;rw [if_neg (by rw [hu]; decide), if_neg (by omega)];rw [step_ok (D := { D with cache := D.cache ++ [((a : Int).toNat, s)] }) hf];simp
theorem zPw {D : Dk} (hu : D.down = false) (hf : D.fate < 1) : D.flush = (({ D with steps := D.steps + 1 } : Dk).flushed, 0) := by
 unfold Dk.flush;rw [if_neg (by rw [hu]; decide), step_ok hf];rfl
theorem putGo_ok (p : Nat) : ∀ (f i : Nat) (all : List UInt8) (D : Dk), D.down = false → D.fate < 1 → p + i + f ≤ D.kept.length → ∃ D', zI2 p f i all D = (D', 0) ∧ D'.down = false ∧ D'.fate < 1 ∧ D'.kept = D.kept ∧ D'.steps = D.steps + f
 | 0, _, _, D, h1, h2, _ => ⟨D, rfl, h1, h2, rfl, rfl⟩
 | f + 1, i, all, D, h1, h2, h3 => by
   have hw := write_ok h1 h2 (a := p + i) (by omega) (zEe i all);obtain ⟨D', e, g1, g2, g3, g4⟩ := putGo_ok p f (i + 1) (all.drop 63) { D with cache := D.cache ++ [(p + i, zEe i all)], steps := D.steps + 1 } h1 h2 (by show p + (i + 1) + f ≤ D.kept.length; omega);refine ⟨D', ?_, g1, g2, g3, ?_⟩
   ·rw [zI2, hw];simp only [if_true];exact e
   ·rw [g4]; show D.steps + 1 + f = _; omega
theorem append_calm {D : Dk} {L : Lg} {c : Nat} {b : List UInt8} (h : Calm D L c) (hc : c < 114) (hb : b.length ≤ 800) : ∃ D' L', zE0 D L b = (D', L', 0) ∧ Calm D' L' (c + 1) := by
 have hs : zAg b.length ≤ 13 := by unfold zAg; omega
 have hh : zAp D = 1499 := by unfold zAp; rw [h.len]
 have h1 := h.at_;have h2 := h.half
 have hm : L.half * 1499 ≤ 1499 := by
  have : L.half = 0 ∨ L.half = 1 := by omega
  rcases this with e | e <;> rw [e] <;> omega
 obtain ⟨D1, e1, g1, g2, g3, g4⟩ := putGo_ok (zBx D L.half L.at_) (zAg b.length) 0 (zEh L.list.length L.epoch b) D h.up h.fate (by unfold zBx; rw [hh, h.len]; omega);have ef := zPw g1 g2
 have epf : zBs D L L.at_ L.list.length b = (({ D1 with steps := D1.steps + 1 } : Dk).flushed, 0) := by
  unfold zBs zE6;rw [e1];simp only [if_true];exact ef
 refine ⟨({ D1 with steps := D1.steps + 1 } : Dk).flushed, { L with at_ := L.at_ + zAg b.length, list := L.list ++ [b] }, ?_, ?_⟩
 ·unfold zE0;rw [if_neg (by rw [h.dead]; decide), if_neg (by omega), if_neg (by omega), epf];rfl
 ·have hst := h.steps;have hli := h.list;exact ⟨g1, g2, h.dead, by show L.at_ + zAg b.length ≤ _; omega, h.half, by simp [Dk.flushed, zDb, g3, h.len], by simp; omega, h.epoch, by show D1.steps + 1 ≤ _; omega, rfl⟩
theorem zPk {a : Nat} (ha : a < 3000) : (Dk.new 3000).read (a : Int) = (zero64, 0) := by
 have hk : (Dk.new 3000).kept = List.replicate 3000 zero64 := rfl;unfold Dk.read;rw [if_neg (by decide), if_neg (by rw [hk, List.length_replicate]; omega)];show ((Dk.new 3000).kept.getD (a : Int).toNat [], 0) = _;rw [hk]
 have : (List.replicate 3000 zero64).getD (a : Int).toNat [] = zero64 := by
  rw [List.getD_eq_getElem?_getD, List.getElem?_replicate, if_pos (by omega)]; rfl
 rw [this]
theorem zOy : ∀ (f a top : Nat), a + f ≤ 3000 → zId (Dk.new 3000) f a top = (top, 0)
 | 0, _, _, _ => rfl
 | f + 1, a, top, h => by
   rw [zId, zPk (by omega)];have : (zero64.headD 0 = 2) = False := by simp [zero64, List.replicate]
   simp only [this, if_false, if_true];exact zOy f (a + 1) top (by omega)
theorem open_new : ∃ D' L', zMs (Dk.new 3000) = (D', some L', 0) ∧ Calm D' L' 0 := by
 have hk : (Dk.new 3000).kept = List.replicate 3000 zero64 := rfl;have hl : (Dk.new 3000).kept.length = 3000 := by rw [hk, List.length_replicate]
 have r0 := zPk (a := 0) (by omega);have r1 := zPk (a := 1) (by omega)
 have hh : zK3 (Dk.new 3000) 1 (zK3 (Dk.new 3000) 0 Lg.zero) = Lg.zero := by
  unfold zK3;rw [r0, r1];have : (zHg zero64) = (0, false) := by unfold zHg; rw [if_pos rfl]
  rw [this];rfl
 have hlk : zLq (Dk.new 3000) 0 = (0, 0) := by
  unfold zLq;rw [hl];exact zOy _ _ _ (by omega)
 have hf1 := zPw (D := Dk.new 3000) rfl (by decide)
 obtain ⟨D1, hD1⟩ : ∃ D1 : Dk, D1 = ({ Dk.new 3000 with steps := (Dk.new 3000).steps + 1 } : Dk).flushed := ⟨_, rfl⟩
 rw [← hD1] at hf1
 have d1 : D1.down = false ∧ D1.fate < 1 ∧ D1.kept.length = 3000 ∧ D1.steps = 1 := by
  rw [hD1]; exact ⟨rfl, by show (-1 : Int) < 1; decide, by simp [Dk.flushed, zDb, hl], rfl⟩
 obtain ⟨L1, hL1⟩ : ∃ L1 : Lg, L1 = ({ Lg.zero with top := 0 } : Lg).anew := ⟨_, rfl⟩
 have l1 : L1.half = 1 ∧ L1.epoch = 1 ∧ L1.dead = false ∧ L1.at_ = 0 ∧ L1.list = [] := by rw [hL1]; exact ⟨rfl, rfl, rfl, rfl, rfl⟩
 have hw := write_ok d1.1 d1.2.1 (a := L1.half) (by rw [l1.1, d1.2.2.1]; omega) (zFi L1.epoch);have hf2 := zPw (D := { D1 with cache := D1.cache ++ [(L1.half, zFi L1.epoch)], steps := D1.steps + 1 }) d1.1 d1.2.1
 have hhead : zI8 D1 L1 = (({ ({ D1 with cache := D1.cache ++ [(L1.half, zFi L1.epoch)], steps := D1.steps + 1 } : Dk) with steps := D1.steps + 1 + 1 } : Dk).flushed, 0) := by
  unfold zI8;rw [hw];simp only [if_true];exact hf2
 have hrw : zCs (Dk.new 3000) { Lg.zero with top := 0 } [] = ((zI8 D1 L1).1, L1.die (zI8 D1 L1).2, (zI8 D1 L1).2) := by
  unfold zCs;rw [if_neg (by decide)];simp only [zDg];rw [if_neg (by omega)];simp only [zEf, ← hL1, if_true];unfold zM5;rw [hf1];simp
 rw [hhead] at hrw;refine ⟨({ ({ D1 with cache := D1.cache ++ [(L1.half, zFi L1.epoch)], steps := D1.steps + 1 } : Dk) with steps := D1.steps + 1 + 1 } : Dk).flushed, L1.die 0, ?_, ?_⟩
 ·unfold zMs;rw [if_neg (by omega), if_neg (by rw [show ((0 : Int)) = ((0 : Nat) : Int) from rfl, r0]; simp), if_neg (by rw [show ((1 : Int)) = ((1 : Nat) : Int) from rfl, r1]; simp)];simp only [hh];have e0 : Lg.zero.epoch = 0 := rfl;simp only [e0, hlk];rw [if_neg (by decide)];simp only [if_true]
  have key : ∀ r : Dk × Lg × Nat, r = zCs (Dk.new 3000) { Lg.zero with top := 0 } [] → (if r.2.2 ≠ 0 then (r.1, (none : Option Lg), r.2.2) else (r.1, some r.2.1, 0)) = (({ ({ D1 with cache := D1.cache ++ [(L1.half, zFi L1.epoch)], steps := D1.steps + 1 } : Dk) with steps := D1.steps + 1 + 1 } : Dk).flushed, some (L1.die 0), 0) := by
   intro r hr;rw [hr, hrw];simp
  exact key _ rfl
 ·refine ⟨d1.1, d1.2.1, ?_, ?_, ?_, ?_, ?_, ?_, ?_, rfl⟩
  ·show (L1.dead || (0 : Nat) != 0) = false;rw [l1.2.2.1]; rfl
  ·show L1.at_ ≤ _; rw [l1.2.2.2.1]; omega
  ·show L1.half ≤ 1; rw [l1.1]; omega
  ·simp [Dk.flushed, zDb, d1.2.2.1]
  ·show L1.list.length ≤ 0; rw [l1.2.2.2.2]; exact Nat.le_refl _
  ·show L1.epoch < _; rw [l1.2.1]; omega
  ·show D1.steps + 1 + 1 ≤ _; rw [d1.2.2.2]; omega
end
section
open Go.RowKit Go.Maps Go.Sort Go.Lib
set_option maxRecDepth 100000
structure VolB (w : World) (v t l hb : Nat) : Prop where
 blk : w.heap[v]? = some (.cells #[.pointer (some ⟨t, 0, none⟩), .pointer (some ⟨l, 0, none⟩), .int .i64 20000, .map (some hb), .bool false] 82 (0, 0))
 holds : MapK intK w hb 0 (fun _ => none)
theorem VolB.ext {w w' : World} {v t l hb : Nat} (h : VolB w v t l hb) (x : Ext w w') : VolB w' v t l hb := ⟨x.get h.blk, h.holds.ext x⟩
theorem VolB.mut {w w' : World} {v t l hb B : Nat} {S : List Nat} (h : VolB w v t l hb) (x : Mut B S w w') (h1 : 84 ∉ S := by decide) (h0 : 0 ∉ S := by decide) : VolB w' v t l hb := ⟨x.get h.blk h1, h.holds.mut x (.inr h0)⟩
theorem zJm : Tryz.prog.underlying 80 = some (.map 3 3) := by kernel_rfl
theorem zQb {w : World} {v t l hb : Nat} (h : VolB w v t l hb) : Calls Tryz.prog 50 #[.pointer (some ⟨v, 0, none⟩)] w fun e w' => e = .returned (.bool false) ∧ w = w' := by
 have c4 : w.cell? ⟨v, 4, none⟩ = some (.bool false) := by rw [zAb h.blk]; rfl
 clear h;go_enter Tryz.func50, Tryz.ntmps50
 go_wp2_with fail
 go_ret
 exact ⟨rfl, rfl⟩
theorem holds_any {w : World} {v t l hb bx : Nat} (h : VolB w v t l hb) (hx : w.cell? ⟨bx, 0, none⟩ = some (.pointer (some ⟨v, 0, none⟩))) {i : Int} (hi : intK.ok i) :
  Calls Tryz.prog 128 #[.int .i64 i, .pointer (some ⟨bx, 0, none⟩)] w fun e w' => e = .returned (.bool false) ∧ w = w' := by
 have c3 : w.cell? ⟨v, 3, none⟩ = some (.map (some hb)) := by rw [zAb h.blk]; rfl
 have hl : (Instr.lookup 80 (.map (some hb)) (.int .i64 i) false).run Tryz.prog w = .ok (.int .i64 0) w := h.holds.look zJm (zGn w) hi;clear h hi;go_enter Tryz.func128, Tryz.ntmps128
 go_wp2_with fail
 go_ret
 exact ⟨rfl, rfl⟩
def sameRel0 (w : World) (n : Nat) (i : Value) (wr : World) : Prop := ∃ k : Nat, k ≤ n ∧ i = .int .i64 k ∧ wr = w
theorem index_holds {w : World} {v t l hb bx : Nat} (h : VolB w v t l hb) (hx : w.cell? ⟨bx, 0, none⟩ = some (.pointer (some ⟨v, 0, none⟩))) {u : Value} {is : List Int} {base : Nat} (ho : OwnI w base u is) (hi : ∀ i ∈ is, intK.ok i) (hl : is.length ≤ 1000000) :
  Calls Tryz.prog 197 #[u, .func (.func 128) #[] #[.pointer (some ⟨bx, 0, none⟩)]] w fun e w' => e = .returned (.int .i64 (-1)) ∧ w = w' := by
 have HO := zh ho;have HI := zh hi;have HH := zh (fun i hi => holds_any (i := i) h hx hi);obtain ⟨a, c, rfl, -⟩ := ho.form;clear h hx ho hi;go_enter Tryz.func197, Tryz.ntmps197
 go_wp2_with fail
 go_loopw [8] (fun i wr => sameRel0 w is.length i wr) (fun i _ => is.length - (intOf i).toNat)
 case atStart => exact ⟨0, Nat.zero_le _, rfl, rfl⟩
 case round =>
  obtain ⟨k, hk, rfl, rfl⟩ := hrel
  by_cases hlt : k < is.length
  ·obtain ⟨b, e, e1⟩ := HO.out.at k hlt;subst e;have HC := zh (HH.out _ (HI.out _ (List.getElem_mem hlt)));generalize is[k] = i at *
   go_wp2_with (go_at_call 128; refine HC.out.mono ?_; rintro e w' ⟨rfl, rfl⟩)
   go_roundw
   case rel => exact ⟨k + 1, hlt, by go_num, rfl⟩
   case measure => simp [intOf]; omega
  ·go_wp2_with fail
   go_ret
   exact ⟨rfl, rfl⟩
theorem delete_holds {w : World} {v t l hb bx : Nat} (h : VolB w v t l hb) (hx : w.cell? ⟨bx, 0, none⟩ = some (.pointer (some ⟨v, 0, none⟩))) {u : Value} {is : List Int} {base : Nat} (ho : OwnI w base u is) (hi : ∀ i ∈ is, intK.ok i) (hl : is.length ≤ 1000000) :
  Calls Tryz.prog 126 #[u, .func (.func 128) #[] #[.pointer (some ⟨bx, 0, none⟩)]] w fun e w' => e = .returned u ∧ w = w' := by
 have HC := zh (index_holds h hx ho hi hl);obtain ⟨a, c, rfl, -⟩ := ho.form;clear h hx ho hi;go_enter Tryz.func126, Tryz.ntmps126
 go_wp2_with (go_at_call 197; refine HC.out.mono ?_; rintro e w' ⟨rfl, rfl⟩)
 go_ret
 exact ⟨rfl, rfl⟩
theorem zOd : Tryz.f55.results = #[] := by kernel_rfl
section
variable {w : World} {B n m t mb : Nat} {pb kb : Int → Nat} {dv : Int → Value} {T : Tr}
def zMg (w : World) (B n m t mb : Nat) (pb kb : Int → Nat) (dv : Int → Value) (T : Tr) (e : Ending) (w' : World) : Prop :=
 e = .returned (.tuple #[]) ∧ TreeAt w' B n m t mb pb kb dv T.swept ∧ ∃ w1, Ext w w1 ∧ w1.grownBy w' (some mb)
theorem sweep_any {v l hb : Nat} (h : TreeAt w B n m t mb pb kb dv T) (hok : TreeOk T) (hlen : T.N.length ≤ 1000000) (hv : VolB w v t l hb) : Calls Tryz.prog 55 #[.pointer (some ⟨v, 0, none⟩)] w (zMg w B n m t mb pb kb dv T) := by
 have HT := zh h;have HK := zh hok;have HV := zh hv
 obtain ⟨W0, hW0⟩ : ∃ W0, W0 = w.alloc (.cells #[.pointer (some ⟨v, 0, none⟩)] 56) := ⟨_, rfl⟩
 have hb0 : W0.heap[w.heap.size]? = some (.cells #[.pointer (some ⟨v, 0, none⟩)] 56 (0, 0)) := by rw [hW0]; exact heap_alloc_new w _
 have X0 := zh (show Ext w W0 by rw [hW0]; exact (xr w).alloc _)
 have KT : Hid (∀ W, Ext W0 W → W.cell? ⟨w.heap.size, 0, none⟩ = some (.pointer (some ⟨v, 0, none⟩)) ∧ W.cell? ⟨v, 0, none⟩ = some (.pointer (some ⟨t, 0, none⟩))) := fun W xw =>
  ⟨by rw [zAb (xw.get hb0)]; rfl, by rw [zAb ((X0.out.trans xw).get hv.blk)]; rfl⟩
 have KF : Hid (∀ V5 V6, Ext W0 V5 → V5.grownBy V6 (some mb) → V6.cell? ⟨w.heap.size, 0, none⟩ = some (.pointer (some ⟨v, 0, none⟩)) ∧ V6.cell? ⟨v, 0, none⟩ = some (.pointer (some ⟨t, 0, none⟩))) := fun V5 V6 xw g => by
  have hm := (h.ext (X0.out.trans xw)).nodes;exact ⟨by rw [zAb (zCu hm g (xw.get hb0))]; rfl, by rw [zAb (zCu hm g ((X0.out.trans xw).get hv.blk))]; rfl⟩
 have HL : Hid (∀ W, Ext W0 W → Calls Tryz.prog 127 #[.pointer (some ⟨t, 0, none⟩)] W (loosePost W T)) := fun W xw => Loose_any (h.ext (X0.out.trans xw)) hlen
 clear h hok hv hb0;go_enter Tryz.func55, Tryz.ntmps55
 go_upto_region 1 with fail
 rw [← hW0];clear hW0
 go_region_held3 (fun V => V.cell? ⟨w.heap.size, 0, none⟩ = some (.pointer (some ⟨v, 0, none⟩)) ∧ V.cell? ⟨v, 0, none⟩ = some (.pointer (some ⟨t, 0, none⟩)))
  (first
   | exact KT.out _ (xr _)
   | exact KT.out _ (xr _).drew
   | exact KT.out _ X5.out
   | exact KF.out _ _ X5.out G7.out)
  (first
   | (go_at_call 127; refine (HL.out _ (xr _).drew).mono ?_; rintro e w5 ⟨v5, is, rfl, o5, x5, hn5, hi5, hd5⟩; have X5 := zh ((xr W0).drew.trans x5); have O5 := zh o5; have N5 := zh hn5; have I5 := zh hi5; have D5 := zh hd5; clear o5 x5 hn5 hi5 hd5)
   | (go_at_call 126; refine (delete_holds (HV.out.ext (X0.out.trans X5.out)) (KT.out _ X5.out).1 O5.out (fun i hi => by (have q := (I5.out i).1 hi); obtain ⟨x, hx⟩ := Option.isSome_iff_exists.1 q.1; have := HT.out.wf.less i x hx; have := HK.out.next; exact zMy (by omega) (by omega)) (by have := N5.out; omega)).mono ?_; rintro e w6 ⟨rfl, rfl⟩)
   | (go_at_call 125; refine (Reap_any (HT.out.ext (X0.out.trans X5.out)) HK.out O5.out I5.out D5.out (by have := N5.out; omega)).mono ?_; rintro e w7 ⟨rfl, t7, g7⟩; have T7 := zh t7; have G7 := zh g7; clear t7 g7))
 all_goals
  go_wp2_with fail
  exact bodyPost_ret (v := .tuple #[]) (by simp [results, zOd, go_sem]) rfl ⟨rfl, T7.out, _, X0.out.trans X5.out, G7.out⟩
end
def opsV : List (Pth × Nd) → List Pth → List OpP → Option (List (Pth × Nd) × List Pth)
 | V, sh, [] => some (V, sh)
 | V, sh, o :: r => (opV V sh o).bind fun x => opsV x.1 x.2 r
theorem zOs : ∀ {ops : List OpP} {T : Tr} {V V' : List (Pth × Nd)} {sh sh' : List Pth}, VIs T V sh → opsV V sh ops = some (V', sh') → ∃ T', StepsT T ops T' ∧ VIs T' V' sh'
 | [], T, V, V', sh, sh', h, e => by cases e; exact ⟨T, .nil T, h⟩
 | o :: r, T, V, V', sh, sh', h, e => by
   unfold opsV at e
   cases ho : opV V sh o with
   | none => rw [ho] at e; cases e
   | some x =>
     rw [ho] at e;obtain ⟨T1, s1, h1⟩ := opV_sound h (show opV V sh o = some (x.1, x.2) from ho);obtain ⟨T2, s2, h2⟩ := zOs h1 e;exact ⟨T2, .cons s1 s2, h2⟩
theorem VIs.rlen {T : Tr} {V : List (Pth × Nd)} {sh : List Pth} (h : VIs T V sh) : T.R.length ≤ V.length := by
 have h1 : T.R.map Prod.fst ⊆ V.map Prod.fst := by
  intro p hp;rw [mem_keys] at hp ⊢;obtain ⟨i, hi⟩ := Option.isSome_iff_exists.1 hp;obtain ⟨x, hx⟩ := h.wf.node p i hi;rw [← h.val, hi];show (look T.N i).isSome = true;rw [hx]; rfl
 have := List.Nodup.length_le_of_subset h.wf.rnd h1;simpa using this
theorem StepsT.facts : ∀ {ops : List OpP} {T T' : Tr}, StepsT T ops T' → (∀ o ∈ ops, o.data.length ≤ 500) → zLn T → zLn T' ∧ T'.next ≤ T.next + ops.length ∧ T'.quota = T.quota ∧ T'.N.length ≤ T.N.length + ops.length
 | _, _, _, .nil T, _, h => ⟨h, by simp, rfl, by simp⟩
 | _, _, _, .cons (r := r) s1 s2, ho, h => by
   obtain ⟨h1, h2, h3, h4⟩ := s2.facts (fun o hm => ho o (by simp [hm])) (s1.small h (ho _ (by simp)));have hf := s1.facts;have := hf.2.2.1;have := hf.1;refine ⟨h1, ?_, h3.trans hf.2.2.2.1, ?_⟩
   ·simp only [List.length_cons];omega
   ·simp only [List.length_cons];omega
theorem LogAt.mutS {base g kb l : Nat} {lv : Value} {D : Dk} {L : Lg} {w w' : World} {B : Nat} {S : List Nat} (h : LogAt base w g kb l lv D L) (x : Mut B S w w') (hs : ∀ t ∈ S, t ∉ (7 :: zCk)) : LogAt base w' g kb l lv D L := by
 have key : ∀ {k : Nat} {cs : Array Value} {t : TypeId} {fz : Nat × Nat}, t + 2 ∈ (7 :: zCk) → w.heap[k]? = some (.cells cs t fz) → w'.heap[k]? = w.heap[k]? := fun {k cs t fz} ht hk =>
  (x.get hk (fun hm => hs _ hm ht)).trans hk.symm
 have hd : Disk base w' g kb D := by
  obtain ⟨cv, d⟩ := h.disk;refine ⟨cv, d.same fun k hk => ?_⟩
  rcases hk with rfl | rfl | hk
  ·exact key (by decide) d.blk
  ·exact key (by decide) d.row
  ·rcases d.cache.2 with ⟨rfl, _⟩ | ⟨q, cap, cur, rfl, _, hq, _⟩
   ·cases hk
   ·simp only [Value.ownBlock, Option.some.injEq] at hk;subst hk;exact key (by decide) hq
 refine h.same hd rfl (key (by decide) h.blk) fun k cs t ht hk => ?_
 rcases ht with rfl | rfl
 ·exact key (by decide) hk
 ·exact key (by decide) hk
def zBj : List Nat := 84 :: zCk
def VolAt (w : World) (B v : Nat) (V : List (Pth × Nd)) (sh : List Pth) (c : Nat) : Prop :=
 B ≤ v ∧ ∃ t l hb g kb lv D L, VolB w v t l hb ∧ LogAt B w g kb l lv D L ∧ Calm D L c ∧ ∃ n m mb pb kb2 dv T, TreeAt w 0 n m t mb pb kb2 dv T ∧ VIs T V sh ∧ T.quota = 20000 ∧ zLn T ∧ T.N.length ≤ V.length ∧ T.next ≤ 100 * (c + 1) ∧ m ≤ 100 * (c + 1)
theorem VolAt.mut {w w' : World} {B v c B' : Nat} {V : List (Pth × Nd)} {sh : List Pth} {S : List Nat} (h : VolAt w B v V sh c) (x : Mut B' S w w') (hs : ∀ t ∈ S, t ∉ (0 :: 7 :: 84 :: 87 :: 91 :: zCk)) : VolAt w' B v V sh c := by
 obtain ⟨hb, t, l, hb', g, kb, lv, D, L, h1, h2, h3, n, m, mb, pb, kb2, dv, T, h4, h5⟩ := h;have hn : ∀ t, t ∈ (0 :: 7 :: 84 :: 87 :: 91 :: zCk) → t ∉ S := fun t ht hm => hs t hm ht
 exact ⟨hb, t, l, hb', g, kb, lv, D, L, h1.mut x (hn 84 (by decide)) (hn 0 (by decide)), h2.mutS x (fun t ht hm => hs t ht (by
  rcases List.mem_cons.1 hm with rfl | hm
  ·decide
  ·simp only [List.mem_cons]; exact .inr (.inr (.inr (.inr (.inr hm)))))), h3, n, m, mb, pb, kb2, dv, T, h4.mut x (hn 0 (by decide)) (hn 7 (by decide)) (hn 87 (by decide)) (hn 91 (by decide)), h5⟩
theorem VolAt.ext {w w' : World} {B v c : Nat} {V : List (Pth × Nd)} {sh : List Pth} (h : VolAt w B v V sh c) (x : Ext w w') : VolAt w' B v V sh c :=
 h.mut (B' := 0) (S := []) x.mut (fun t ht => by cases ht)
def zIk (w : World) (B v : Nat) (V : List (Pth × Nd)) (sh : List Pth) (c : Nat) (e : Ending) (w' : World) : Prop := e = .returned (.int .i64 0) ∧ VolAt w' B v V sh c ∧ Mut B zBj w w'
theorem opV_len {V V' : List (Pth × Nd)} {sh sh' : List Pth} {o : OpP} (h : opV V sh o = some (V', sh')) : V'.length ≤ V.length + 1 := by
 have hi : ∀ p x, (ins V p x).length ≤ V.length + 1 := fun p x => by rw [zKc]; split <;> omega
 have hd : ∀ p, (del V p).length ≤ V.length + 1 := fun p => by have := zPz V p; omega
 have hm : ∀ p q x, (ins (del V p) q x).length ≤ V.length + 1 := fun p q x => by rw [zKc]; have := zPz V p; split <;> omega
 unfold opV at h
 repeat' split at h
 all_goals first
  | cases h; first | exact hi _ _ | exact hd _ | exact hm _ _ _
  | cases h
theorem opsV_len : ∀ {ops : List OpP} {V V' : List (Pth × Nd)} {sh sh' : List Pth}, opsV V sh ops = some (V', sh') → V'.length ≤ V.length + ops.length
 | [], V, V', sh, sh', e => by cases e; simp
 | o :: r, V, V', sh, sh', e => by
   unfold opsV at e
   cases ho : opV V sh o with
   | none => rw [ho] at e; cases e
   | some x =>
     rw [ho] at e;have h1 := opV_len (show opV V sh o = some (x.1, x.2) from ho);have h2 := opsV_len e;simp only [List.length_cons];omega
theorem zKl (w : World) : OwnBytes (w.alloc (.cells #[.int .u8 2] 5)) 0 (.slice (some ⟨w.heap.size, 0, none⟩) 1 1) [2] :=
 ⟨rfl, .inr ⟨w.heap.size, 1, _, rfl, Nat.zero_le _, heap_alloc_new w _, by simp, by decide, rfl, rfl⟩⟩
set_option maxHeartbeats 4000000 in
theorem VDo_any {w : World} {B v c : Nat} {V V' : List (Pth × Nd)} {sh sh' : List Pth} (h : VolAt w B v V sh c) (hB : B ≤ w.heap.size) (hc : c < 110) {ov : Value} {ops : List (OpP × Value)} {base : Nat} (hops : OpsW w base ov ops) (hoo : ∀ x ∈ ops, OpOk x.1)
  (hs : opsV V sh (ops.map Prod.fst) = some (V', sh')) (hV : V.length + ops.length ≤ 40) (hl : (zC6 (ops.map Prod.fst)).length ≤ 799) {mx : Int} (hmx : w.cell? ⟨0, 0, none⟩ = some (.int .i64 mx)) :
  Calls Tryz.prog 29 #[.pointer (some ⟨v, 0, none⟩), ov] w (zIk w B v V' sh' (c + 1)) := by
 obtain ⟨hbv, t, l, hb, g, kb, lv, D, L, hv, hlog, hcalm, n, m, mb, pb, kb2, dv, T, ht, his, hqt, hsm, hNV, hnx, hmm⟩ := h;obtain ⟨T', hst, his'⟩ := zOs his hs;obtain ⟨D', L', happ, hcalm'⟩ := append_calm (b := 2 :: zC6 (ops.map Prod.fst)) hcalm (by omega) (by simp; omega);have hol : ops.length ≤ 40 := by omega
 have hokT : TreeOk T := ⟨by omega, by have := his.rlen; omega⟩
 have hf' := hst.facts (fun o ho => by
  obtain ⟨x, hx, rfl⟩ := List.mem_map.1 ho
  exact (hoo x hx).data) hsm
 rw [List.length_map] at hf';have HIR := zh his'.rlen;have hVl := opsV_len hs;rw [List.length_map] at hVl
 have hokT' : TreeOk T' := ⟨by have := hf'.2.1; omega, by have := his'.rlen; omega⟩
 have HOPS := zh hops;have HC1 := zh (zKr ht hokT (by omega))
 have HDO : Hid (∀ W u mb1 pb1 kb1, Ext w W → TreeAt W w.heap.size T.N.length m u mb1 pb1 kb1 dv T → Calls Tryz.prog 51 #[.pointer (some ⟨u, 0, none⟩), ov] W (tdoPost W w.heap.size (T.N.length + ops.length) (m + ops.length) u T')) := fun W u mb1 pb1 kb1 xw tw =>
  TDo_any tw hokT xw.sz hsm (hops.ext xw) hoo hst (by omega) (by rw [hqt]; omega) (by omega) (by have := his.rlen; omega) (by omega) (xw.cell hmx)
 have HPK : Hid (∀ W, Ext w W → Calls Tryz.prog 53 #[ov] W (zAy W (zC6 (ops.map Prod.fst)))) := fun W xw => TPack_any (hops.ext xw) (by omega) (fun x hx => ⟨by have := (hoo x hx).path.ok.len; omega, (hoo x hx).toL, by have := (hoo x hx).data; omega⟩) (by omega)
 have HAP : Hid (∀ W bv, Ext w W → OwnBytes W 0 bv (2 :: zC6 (ops.map Prod.fst)) → Calls Tryz.prog 52 #[.pointer (some ⟨l, 0, none⟩), bv] W (appPost B g kb l lv W (D', L', 0))) := fun W bv xw hbw => by
  have hcs := hcalm.steps;have hcl := hcalm.list;have := Append_any B g kb l lv D L bv (2 :: zC6 (ops.map Prod.fst)) W (hlog.ext xw) (fun W2 lo => (show OwnBytes W2 0 bv (2 :: zC6 (ops.map Prod.fst)) from (LOnly.mut (hlog.ext xw) lo.of_none).own hbw).bytes) (by simp; omega) (by omega) hcalm.epoch (by omega) (by rw [hcalm.cache]; simp) (Nat.le_trans hB xw.sz);rw [happ] at this;exact this
 have HM4 : Hid (∀ W W4, Ext w W → LOnly B g kb l lv.ownBlock W W4 → Mut B zCk W W4) := fun W W4 xw lo => LOnly.mut (hlog.ext xw) lo
 have HV0 := zh hv;have HSW : Hid (∀ W n2 m2 u mb2 pb2 kb3 dv2, TreeAt W w.heap.size n2 m2 u mb2 pb2 kb3 dv2 T' → VolB W v u l hb → T'.N.length ≤ 1000000 → Calls Tryz.prog 55 #[.pointer (some ⟨v, 0, none⟩)] W (zMg W w.heap.size n2 m2 u mb2 pb2 kb3 dv2 T')) := fun W n2 m2 u mb2 pb2 kb3 dv2 tw vw hn => sweep_any tw hokT' hn vw
 have c4 : w.cell? ⟨v, 4, none⟩ = some (.bool false) := by rw [zAb hv.blk]; rfl
 have c0 : w.cell? ⟨v, 0, none⟩ = some (.pointer (some ⟨t, 0, none⟩)) := by rw [zAb hv.blk]; rfl
 have KV : Hid (∀ W, Ext w W → W.cell? ⟨v, 1, none⟩ = some (.pointer (some ⟨l, 0, none⟩))) := fun W xw => by rw [zAb (xw.get hv.blk)]; rfl
 have KG : Hid (∀ V5 V6, Ext w V5 → Mut B zCk V5 V6 → V6.cell? ⟨v, 1, none⟩ = some (.pointer (some ⟨l, 0, none⟩))) := fun V5 V6 xw mw => by rw [zAb (mw.get (xw.get hv.blk))]; rfl
 have HEND := zh (And.intro his' (And.intro hcalm' (And.intro hf' (And.intro hqt (And.intro hnx (And.intro hmm hNV))))));have HBV := zh hbv;have HOKT' := zh hokT';obtain ⟨ao, co, rfl, -, -⟩ := hops.form;have hvl : v < w.heap.size := (Array.getElem?_eq_some_iff.1 hv.blk).1;have HST := zh hst;clear hops hs hmx hv hlog hcalm ht his hqt hsm hnx hmm hst his' happ hcalm' hokT hokT' hf' hoo hbv hVl;go_enter Tryz.func29, Tryz.ntmps29
 go_upto_region 7 with (first
  | (go_at_call 23; refine HC1.out.mono ?_; rintro e w1 ⟨u, mb1, pb1, kb1, rfl, t1, x1⟩; have T1 := zh t1; have X1 := zh x1; clear t1 x1)
  | (go_at_call 51; refine (HDO.out _ _ _ _ _ X1.out T1.out).mono ?_; rintro e w2 ⟨rfl, t2, m2⟩; have T2 := zh t2; have X2 := zh (X1.out.then_mut m2 (Nat.le_refl _)); clear t2 m2))
 go_region_held3 (fun W => W.cell? ⟨v, 1, none⟩ = some (.pointer (some ⟨l, 0, none⟩)))
  (first
   | exact KV.out _ X2.out
   | exact KV.out _ X2.out.drew
   | exact KV.out _ (X2.out.drew.alloc _)
   | exact KV.out _ (X2.out.alloc _)
   | exact KV.out _ X3.out
   | exact KV.out _ (X3.out.alloc _)
   | exact KV.out _ X4.out
   | exact KG.out _ _ X4.out M5.out)
  (first
   | (go_at_call 53; refine (HPK.out _ (by first | exact X2.out.drew | exact X2.out.drew.alloc _ | exact X2.out.alloc _ | exact (X2.out.alloc _).drew)).mono ?_; rintro e w3 ⟨v3, rfl, f3⟩; (obtain ⟨a3, c3, rfl⟩ := zAj f3.2); have X3 : Hid (Ext w w3) := (by first | exact X2.out.drew.trans f3.1 | exact (X2.out.drew.alloc _).trans f3.1 | exact (X2.out.alloc _).trans f3.1 | exact (X2.out.alloc _).drew.trans f3.1); have Y3 : Hid (Ext w2 w3) := (by first | exact (xr w2).drew.trans f3.1 | exact ((xr w2).drew.alloc _).trans f3.1 | exact ((xr w2).alloc _).trans f3.1 | exact ((xr w2).alloc _).drew.trans f3.1); have F3 := zh f3.own0; have L3 : Hid (OwnBytes w3 0 (.slice (some ⟨w2.heap.size, 0, none⟩) 1 1) [2]) := (by first | exact f3.1.own (zKl w2) | exact f3.1.own (zKl w2.drew)); clear f3)
   | (go_at_call 53; refine (HPK.out _ (by first | exact X2.out.drew | exact X2.out)).mono ?_; rintro e w3 ⟨v3, rfl, f3⟩; (obtain ⟨a3, c3, rfl⟩ := zAj f3.2); have X3 : Hid (Ext w w3) := (by first | exact X2.out.drew.trans f3.1 | exact X2.out.trans f3.1); have Y3 : Hid (Ext w2 w3) := (by first | exact (xr w2).drew.trans f3.1 | exact f3.1); have F3 := zh f3.own0; clear f3)
   | (refine zFp (by rfl) (.tmp 27) (.tmp 29) 23 (by rfl) zBg 0 (.slice (some ⟨w2.heap.size, 0, none⟩) 1 1) _ (by rfl) (by rfl) [2] (zC6 (ops.map Prod.fst)) L3.out F3.out.bytes (by simp; omega) (Nat.zero_le _) ?_; intro v4 w4 o4 g4 n4; (obtain ⟨a4, k4, rfl⟩ := zAj o4); have O4 := zh o4; have X4 : Hid (Ext w w4) := X3.out.grow g4 (fun k hk => by cases hk; exact X2.out.sz); have Y4 : Hid (Ext w2 w4) := Y3.out.grow g4 (fun k hk => by cases hk; exact Nat.le_refl _); clear o4 g4 n4)
   | (refine zFp (by rfl) (.tmp 27) (.tmp 29) 23 (by rfl) zBg 0 (.slice (some ⟨w3.heap.size, 0, none⟩) 1 1) _ (by rfl) (by rfl) [2] (zC6 (ops.map Prod.fst)) (zKl w3) (F3.out.bytes.ext ((xr w3).alloc _)) (by simp; omega) (Nat.zero_le _) ?_; intro v4 w4 o4 g4 n4; (obtain ⟨a4, k4, rfl⟩ := zAj o4); have O4 := zh o4; have X4 : Hid (Ext w w4) := (X3.out.alloc _).grow g4 (fun k hk => by cases hk; exact X3.out.sz); have Y4 : Hid (Ext w2 w4) := (Y3.out.alloc _).grow g4 (fun k hk => by cases hk; exact Y3.out.sz); clear o4 g4 n4)
   | (go_at_call 52; refine (HAP.out _ _ X4.out O4.out).mono ?_; rintro e w5 ⟨rfl, lv5, lo5, la5, -⟩; have M5 := zh (HM4.out _ _ X4.out lo5); have LA5 := zh la5; clear lo5 la5))
 all_goals
  obtain ⟨mb2, pb2, kb3, dv2, t2⟩ := T2.out;have T5 := zh ((t2.ext Y4.out).mut M5.out);have hvb5 := M5.out.get (X4.out.get HV0.out.blk);have f5 := zAl hvb5 0;have g5 : w5.cell? ⟨v, 0, none⟩ = some (.pointer (some ⟨t, 0, none⟩)) := by rw [zAb hvb5]; rfl
  have M6 := zh (zAi (B := B) (T := [84]) (i := 0) w5 hvb5 (.pointer (some ⟨u, 0, none⟩)) (by simp) HBV.out);have T6 := zh (T5.out.mut M6.out)
  have V6 : Hid (VolB (w5.setCell ⟨v, 0, none⟩ (.pointer (some ⟨u, 0, none⟩))) v u l hb) := ⟨by rw [zAd w5 v 0 _ _ _ _ hvb5]; rfl, ((HV0.out.holds.ext X4.out).mut M5.out (.inr (by decide))).mut M6.out (.inr (by decide))⟩
  clear t2 hvb5
  have HSW2 := zh (show Calls Tryz.prog 55 #[.pointer (some ⟨v, 0, none⟩)] (w5.setCell ⟨v, 0, none⟩ (.pointer (some ⟨u, 0, none⟩))) (zMg (w5.setCell ⟨v, 0, none⟩ (.pointer (some ⟨u, 0, none⟩))) w.heap.size (T.N.length + ops.length) (m + ops.length) u mb2 pb2 kb3 dv2 T') from
   sweep_any T6.out HOKT'.out (by have := HEND.out.2.2.1.2.2.2; have := HEND.out.2.2.2.2.2.2; omega) V6.out)
  go_wp2_with (go_at_call 55; refine HSW2.out.mono ?_; rintro e w8 ⟨rfl, t8, w7, x7, g8⟩; have T8 := zh t8; have X7 := zh x7; have G8 := zh g8; clear t8 x7 g8)
  go_ret
  obtain ⟨hi', hc', hf', hq', hn', hm', hNV'⟩ := HEND.out;have hmb : w.heap.size ≤ mb2 := T6.out.ns.bm;have t7 := T6.out.ext X7.out;have mm8 : Mut B zA7 w7 w8 := zFh t7.nodes G8.out (Nat.le_trans hB hmb);have v7 := V6.out.ext X7.out;have mvt : ∀ {a b : World}, Mut B zCk a b → Mut B zBj a b := fun h => h.weak (Nat.le_refl _) (fun t ht => List.mem_cons_of_mem _ ht)
  have mv6 : Mut B zBj w5 (w5.setCell ⟨v, 0, none⟩ (.pointer (some ⟨u, 0, none⟩))) := M6.out.weak (Nat.le_refl _) (fun t ht => by rw [List.mem_singleton] at ht; subst ht; exact List.mem_cons_self);have M7 : Mut B zBj w w7 := ((X4.out.mut.trans (mvt M5.out)).trans mv6).trans X7.out.mut;refine ⟨rfl, ⟨HBV.out, u, l, hb, g, kb, lv5, D', L', ⟨zCu t7.nodes G8.out v7.blk, v7.holds.grown G8.out (fun e => by have := Option.some.inj e; have := HV0.out.holds.lt; omega)⟩, ?_, hc', T.N.length + ops.length, m + ops.length, mb2, pb2, kb3, dv2, T'.swept, T8.out.le (Nat.zero_le _), hi'.swept, ?_, ?_, ?_, ?_, ?_⟩, ?_⟩
  ·refine ((LA5.out.mutS M6.out (by decide)).ext X7.out).mutS mm8 (by decide)
  ·exact hf'.2.2.1.trans hq'
  ·exact fun i x hx => hf'.1 i x (zEn hx)
  ·exact hi'.few
  ·show T'.next ≤ _;have := hf'.2.1;omega
  ·omega
  ·refine ⟨G8.out.os.trans M7.os, G8.out.tape.trans M7.tape, G8.out.output.trans M7.output, Nat.le_trans M7.size G8.out.size, fun k o hk hn => ?_⟩;have hlt := (Array.getElem?_eq_some_iff.1 hk).1;refine (G8.out.block k (Nat.lt_of_lt_of_le hlt M7.size) (fun e => by have := Option.some.inj e; omega)).trans (M7.block k o hk hn)
def TreeV (w : World) (t : Nat) (V : List (Pth × Nd)) (sh : List Pth) : Prop :=
 ∃ n m mb pb kb dv T, TreeAt w 0 n m t mb pb kb dv T ∧ VIs T V sh ∧ TreeOk T ∧ zLn T ∧ T.N.length ≤ 1000000
theorem TreeV.ext {w w' : World} {t : Nat} {V : List (Pth × Nd)} {sh : List Pth} (h : TreeV w t V sh) (x : Ext w w') : TreeV w' t V sh := by
 obtain ⟨n, m, mb, pb, kb, dv, T, h1, h2⟩ := h;exact ⟨n, m, mb, pb, kb, dv, T, h1.ext x, h2⟩
theorem VolAt.read {w : World} {B v c : Nat} {V : List (Pth × Nd)} {sh : List Pth} (h : VolAt w B v V sh c) (hc : c ≤ 1000) (hV : V.length ≤ 1000) : ∃ t l hb, VolB w v t l hb ∧ TreeV w t V sh := by
 obtain ⟨_, t, l, hb, g, kb, lv, D, L, h1, _, _, n, m, mb, pb, kb2, dv, T, h4, h5, _, h6, h7, h8, _⟩ := h;exact ⟨t, l, hb, h1, n, m, mb, pb, kb2, dv, T, h4, h5, ⟨by omega, by have := h5.rlen; omega⟩, h6, by omega⟩
section
variable {w : World} {t : Nat} {V : List (Pth × Nd)} {sh : List Pth}
def zIw (w : World) (b : Bool) (e : Ending) (w' : World) : Prop := ∃ i : Int, e = .returned (.tuple #[.int .i64 i, .bool b]) ∧ Ext w w'
theorem VIs.some_iff {T : Tr} (h : VIs T V sh) (p : Pth) : (look T.R p).isSome = (look V p).isSome := by
 rw [← h.val]
 cases hr : look T.R p with
 | none => rfl
 | some i =>
   obtain ⟨x, hx⟩ := h.wf.node p i hr;show true = (look T.N i).isSome;rw [hx]; rfl
theorem zJl (h : TreeV w t V sh) {s : Str} {ns : Pth} (hs : SplitOk s ns) {mx : Int} (hm : w.cell? ⟨0, 0, none⟩ = some (.int .i64 mx)) : Calls Tryz.prog 27 #[.pointer (some ⟨t, 0, none⟩), .string (ba s)] w (zIw w (look V ns).isSome) := by
 obtain ⟨n, m, mb, pb, kb, dv, T, h1, h2, h3, h4, h5⟩ := h;refine (Find_any h1 h3 hs hm).mono ?_;rintro e w' ⟨rfl, x⟩;exact ⟨atN T ns, by rw [h2.some_iff], x⟩
theorem VDir_any (h : TreeV w t V sh) {s : Str} {ns : Pth} (hs : SplitOk s ns) {mx : Int} (hm : w.cell? ⟨0, 0, none⟩ = some (.int .i64 mx)) : Calls Tryz.prog 137 #[.pointer (some ⟨t, 0, none⟩), .string (ba s)] w fun e w' => e = .returned (.bool (zGl V ns)) ∧ Ext w w' := by
 obtain ⟨n, m, mb, pb, kb, dv, T, h1, h2, h3, h4, h5⟩ := h;refine (Dir_any h1 h3 hs hm).mono ?_;rintro e w' ⟨rfl, x⟩;refine ⟨?_, x⟩;unfold isDir zGl;rw [h2.val]
 cases look V ns <;> rfl
def zCh (w : World) (x : Option Nd) (e : Ending) (w' : World) : Prop :=
 Ext w w' ∧ match x with
 | none => e = .returned (.tuple #[.slice none 0 0, .int .i64 8])
 | some x => if x.dir then e = .returned (.tuple #[.slice none 0 0, .int .i64 10]) else ∃ v, e = .returned (.tuple #[v, .int .i64 0]) ∧ DataIs w' v x.data
theorem zB7 (h : TreeV w t V sh) {s : Str} {ns : Pth} (hs : SplitOk s ns) {mx : Int} (hm : w.cell? ⟨0, 0, none⟩ = some (.int .i64 mx)) : Calls Tryz.prog 10 #[.pointer (some ⟨t, 0, none⟩), .string (ba s)] w (zCh w (look V ns)) := by
 obtain ⟨n, m, mb, pb, kb, dv, T, h1, h2, h3, h4, h5⟩ := h;refine (TRead_any h1 h3 hs hm (fun i x hx => by have := h4 i x hx; omega)).mono fun e w' h => ?_
 unfold zIx at h;rw [h2.val] at h;exact h
theorem VList_any (h : TreeV w t V sh) {s : Str} {ns : Pth} (hs : SplitOk s ns) {mx : Int} (hm : w.cell? ⟨0, 0, none⟩ = some (.int .i64 mx)) (hd : zGl V ns = true) {ks : List Str} (hnd : ks.Nodup) (hks : ∀ x, x ∈ ks ↔ (look V (ns ++ [x])).isSome = true) (hl : ks.length ≤ 1000) :
  Calls Tryz.prog 217 #[.pointer (some ⟨t, 0, none⟩), .string (ba s)] w (tlistPost w ks) := by
 obtain ⟨n, m, mb, pb, kb, dv, T, h1, h2, h3, h4, h5⟩ := h;unfold zGl at hd
 cases hv : look V ns with
 | none => rw [hv] at hd; cases hd
 | some x =>
   rw [hv] at hd;obtain ⟨j, hj, hx⟩ := h2.get hv;exact TList_any h1 h3 hs hm hj hx hd hnd (fun y => by rw [hks y, h2.some_iff]) hl
def zJ0 (w : World) (V : List (Pth × Nd)) (sh : List Pth) (e : Ending) (w' : World) : Prop := ∃ t, e = .returned (.pointer (some ⟨t, 0, none⟩)) ∧ TreeV w' t V sh ∧ Ext w w'
theorem VClone_any (h : TreeV w t V sh) : Calls Tryz.prog 23 #[.pointer (some ⟨t, 0, none⟩)] w (zJ0 w V sh) := by
 obtain ⟨n, m, mb, pb, kb, dv, T, h1, h2, h3, h4, h5⟩ := h;refine (zKr h1 h3 h5).mono fun e w' h => ?_
 obtain ⟨t', mb', pb', kb', he, ht, hx⟩ := h;exact ⟨t', he, ⟨_, _, _, _, _, _, T, ht.le (Nat.zero_le _), h2, h3, h4, h5⟩, hx⟩
end
theorem DOnly.mut {base g kb : Nat} {D : Dk} {w w' : World} (h : Disk base w g kb D) (o : DOnly base g kb w w') : Mut base zCk w w' := by
 obtain ⟨cv, d⟩ := h;refine ⟨o.os, o.tape, o.output, o.size, fun k ob hk hn => ?_⟩;have hlt : k < w.heap.size := (Array.getElem?_eq_some_iff.1 hk).1
 have key : ∀ {cs : Array Value} {t : TypeId} {fz : Nat × Nat}, w.heap[k]? = some (.cells cs t fz) → t + 2 ∈ zCk → base ≤ k → False := by
  intro cs t fz hh ht hb;rw [hk] at hh;cases hh
  rcases hn with h | h
  ·omega
  ·exact h ht
 refine (o.block k hlt ?_ ?_ ?_).trans hk
 ·rintro rfl; exact key d.blk (by decide) d.hg
 ·rintro rfl; exact key d.row (by decide) d.hk
 ·by_cases hb : k < base
  ·exact .inl hb
  ·exact .inr fun cs fz hh => key hh (by decide) (by omega)
def V00 : List (Pth × Nd) := [([], ⟨true, []⟩)]
theorem V00.is : VIs (T0 20000) V00 [] where
 wf := T0.wf _
 val := fun p => by
  simp only [T0, V00, look]
  by_cases e : [] = p
  ·rw [if_pos e, if_pos e]; rfl
  ·rw [if_neg e, if_neg e]; rfl
 vnd := by simp [V00]
 uniq := fun p q i _ h1 h2 => by
  simp only [T0, look] at h1 h2
  split at h1
  ·split at h2
   ·rename_i e1 e2; rw [← e1, ← e2]
   ·cases h2
  ·cases h1
def vopenPost (w : World) (B : Nat) (e : Ending) (w' : World) : Prop := ∃ v, e = .returned (.tuple #[.pointer (some ⟨v, 0, none⟩), .int .i64 0]) ∧ VolAt w' B v V00 [] 0 ∧ w.heap.size ≤ v ∧ Mut B zCk w w'
def zBo (w : World) (i : Value) (wr : World) : Prop := i = .int .i64 0 ∧ wr = w
theorem VOpen_any {w : World} {B g kb : Nat} (h : Disk B w g kb (Dk.new 3000)) (hB : B ≤ w.heap.size) : Calls Tryz.prog 59 #[.pointer (some ⟨g, 0, none⟩), .int .i64 20000] w (vopenPost w B) := by
 have hmm := @run_makeMap Tryz.prog;obtain ⟨D', L', hop, hcalm⟩ := open_new
 have HO := zh (show Calls Tryz.prog 132 #[.pointer (some ⟨g, 0, none⟩)] w (fun e w' => DOnly B g kb w w' ∧ ∃ l lv, e = .returned (.tuple #[.pointer (some ⟨l, 0, none⟩), .int .i64 0]) ∧ w.heap.size ≤ l ∧ LogAt B w' g kb l lv D' L') from by
  refine (Open_any B g kb (Dk.new 3000) w h (by show (0 : Nat) ≤ _; omega) (by show (0 : Nat) ≤ _; omega) hB).mono fun e w' hp => ?_
  unfold openPost at hp;rw [hop] at hp;obtain ⟨h1, l, lv, h2, h3, h4, _⟩ := hp
  exact ⟨h1, l, lv, h2, h3, h4⟩)
 have HD := zh h;have HC := zh hcalm;have hll : L'.list = [] := List.eq_nil_of_length_eq_zero (by have := hcalm.list; omega);have HLL := zh hll;clear h hop hcalm hll;go_enter Tryz.func59, Tryz.ntmps59
 go_wp2_with (first
  | (go_at_call 132; refine HO.out.mono ?_; rintro e w1 ⟨o1, l, lv, rfl, hl1, la1⟩; have M1 := zh (DOnly.mut HD.out o1); have LA1 := zh la1; clear o1 la1)
  | (go_at_call 133; refine (TNew_any w1).mono ?_; rintro e w2 ⟨t, mb, pb, kb2, dv, rfl, t2, x2⟩; have T2 := zh t2; have X2 := zh x2; clear t2 x2)
  | (go_at_call 134; refine (LogList_any B g kb l lv D' L' _ ((LA1.out.ext X2.out).ext (((xr w2).alloc _).alloc _)) (by rw [HLL.out]; simp) (by rw [HLL.out]; simp)).mono ?_; rintro e w4 ⟨v4, rfl, x4, r4⟩; have X4 := zh x4; (have r4' := r4; rw [HLL.out] at r4'; obtain ⟨a4, c4, rfl⟩ := r4'.shape); clear x4 r4 r4'))
 go_loopw [10] (fun i wr => zBo w4 i wr) (fun _ _ => 0)
 case atStart => exact ⟨rfl, rfl⟩
 case round =>
  obtain ⟨rfl, rfl⟩ := hrel
  go_wp2_with fail
  go_loopw [90] (fun i wz => zBo wr i wz) (fun _ _ => 0)
  case atStart => exact ⟨rfl, rfl⟩
  case round =>
   obtain ⟨rfl, hwz⟩ := hrel;have HWZ := zh hwz;clear hwz
   go_wp2_with fail
   go_ret2
   have hwz := HWZ.out;subst hwz;have xa : Ext w2 ((w2.alloc (.map #[] 0)).alloc (.cells #[.pointer (some ⟨t, 0, none⟩), .pointer (some ⟨l, 0, none⟩), .int .i64 20000, .map (some w2.heap.size), .bool false] 82)) := ((xr w2).alloc _).alloc _;have hb := heap_alloc_new (w2.alloc (.map #[] 0)) (.cells #[.pointer (some ⟨t, 0, none⟩), .pointer (some ⟨l, 0, none⟩), .int .i64 20000, .map (some w2.heap.size), .bool false] 82);rw [World.size_alloc] at hb;have hsz : w.heap.size ≤ w2.heap.size := Nat.le_trans M1.out.size X2.out.sz;refine ⟨w2.heap.size + 1, rfl, ⟨by omega, t, l, w2.heap.size, g, kb, lv, D', L', ⟨X4.out.get hb, (MapK.made intK w2).ext (((xr _).alloc _).trans X4.out)⟩, LA1.out.ext (X2.out.trans (xa.trans X4.out)), HC.out, 1, 0, mb, pb, kb2, dv, T0 20000, (T2.out.le (Nat.zero_le _)).ext (xa.trans X4.out), V00.is, rfl, ?_, by simp [T0, V00], by simp [T0], by omega⟩, by omega, M1.out.trans (X2.out.trans (xa.trans X4.out)).mut⟩;intro i x hx;simp only [T0, look] at hx
   split at hx
   ·cases hx; simp
   ·cases hx
end
end Go.Proofs.YtgnjjfdfoibdiaaGreatDoor
