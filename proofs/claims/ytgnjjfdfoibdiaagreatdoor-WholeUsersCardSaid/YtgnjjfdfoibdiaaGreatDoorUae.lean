/- A part of the proof of WholeUsers. -/
import Derived.Laws.CopyOwn
import Derived.Laws.MakeOwn
import Derived.Test.YtgnjjfdfoibdiaaGreatDoorUad
set_option linter.all false
namespace Go.Proofs.YtgnjjfdfoibdiaaGreatDoor
section
open Go.RowKit
set_option maxRecDepth 100000
theorem zAt {P : Program} {ops : Array Oper} {rest : List Oper} {o : Oper} {a : Act} {w : World} {Q : Exit → Act → World → Prop} (hg : o.guard = none) (t : TypeId) (ho : o.op = .alloc t) (cs : Array Value)
  (hz : (P.info? t).map (fun i => i.zero) = some (some (.agg cs))) (h : wpList P ops Q rest (a.put o.dst (.pointer (some ⟨w.heap.size, 0, none⟩))) (w.alloc (.cells cs t))) : wpList P ops Q (o :: rest) a w := by
 refine wpList_plain hg fun K hK => ?_
 cases hi : P.info? t with
 | none => simp [hi] at hz
 | some i =>
   have hz' : i.zero = some (.agg cs) := by simpa [hi] using hz
   unfold Oper.wp;simp [execOp, ho, Instr.alloc, zeroValue, typeInfo, hi, hz', newVar, Value.cells, Result.andThen];exact hK _ _ h
theorem zB9 {P : Program} {ops : Array Oper} {rest : List Oper} {o : Oper} {a : Act} {w : World} {Q : Exit → Act → World → Prop} (hg : o.guard = none) (t : TypeId) (ho : o.op = .build t #[]) (cs : Array Value)
  (hb : P.built t [] = some cs) (h : wpList P ops Q rest (a.put o.dst (.agg cs)) w) : wpList P ops Q (o :: rest) a w := by
 refine wpList_build hg t #[] ho (by simp [hb]) ?_;simpa [hb] using h
theorem Tryz.z288 : (Tryz.prog.info? 288).map (fun i => i.zero) = some (some (.agg (zAa zero64).toArray)) := by kernel_rfl
theorem Tryz.b288 : Tryz.prog.built 288 [] = some (zAa zero64).toArray := by kernel_rfl
theorem zNl : Tryz.f210.results = #[.cell 4 288, .tmp 5] := by kernel_rfl
theorem res43 (tmps : Array Value) (w : World) (B : Nat) (cs : Array Value) (e : Value) (hp : tmps.getD 4 undef = .pointer (some ⟨B, 0, none⟩)) (h5 : tmps.getD 5 undef = e) (hg : w.heap[B]? = some (.cells cs 288 (0, 0))) (hcs : cs.size = 64) :
  (results Tryz.f210 tmps).run Tryz.prog w = .ok (.tuple #[.agg cs, e]) w := by
 have hp' : tmps[4]?.getD undef = .pointer (some ⟨B, 0, none⟩) := by simpa using hp
 have h5' : tmps[5]?.getD undef = e := by simpa using h5
 simp [results, zNl, hp', h5', asAddr, run_loadVar_row w B 288 288 cs (0, 0) _ hg Tryz.underlying288 rfl (by rw [hcs]; exact zAx)]
def zJk (Z : Array Value) : Prop := (Tryz.prog.info? 288).map (fun i => i.zero) = some (some (.agg Z)) ∧ Tryz.prog.built 288 [] = some Z ∧ (Tryz.prog.info? 288).map (·.size) = some Z.size ∧ Z.all (·.oneCell') = true ∧ Z.size = 64
theorem zKw : zJk (zAa zero64).toArray := ⟨Tryz.z288, Tryz.b288, by show _ = some 64; exact zAx, all_oneCell_toArray (zAm zero64), rfl⟩
theorem zI7 (a : Nat) (x : List (Nat × List UInt8)) : ∀ y, zC0 a (y ++ x) = match zC0 a x with | some s => some s | none => zC0 a y
 | [] => by cases h : zC0 a x <;> simp [h, zC0]
 | c :: r => by
   rw [List.cons_append, zC0, zI7 a x r]
   cases h : zC0 a x with
   | some s => rfl
   | none => simp [zC0]
theorem lastAt_drop (a : Nat) (l : List (Nat × List UInt8)) (k : Nat) (h : k < l.length) (hn : zC0 a (l.drop (k + 1)) = none) : zC0 a (l.drop k) = if l[k].1 = a then some l[k].2 else none := by
 rw [List.drop_eq_getElem_cons h, zC0, hn]
theorem lastAt_some (a : Nat) (l : List (Nat × List UInt8)) (k : Nat) (s : List UInt8) (h : zC0 a (l.drop k) = some s) : zC0 a l = some s := by
 conv => lhs; rw [← List.take_append_drop k l]
 rw [zI7, h]
def zCt (w : World) (D : Dk) (at_ : Int) (e : Ending) (w' : World) : Prop :=
 e = .returned (.tuple #[.agg (zAa (D.read at_).1).toArray, .int .i64 ((D.read at_).2 : Nat)]) ∧ Ext w w'
set_option maxRecDepth 100000 in
set_option maxHeartbeats 2000000 in
theorem zN2 (base g kb : Nat) (D : Dk) (at_ : Int) (w : World) (h : Disk base w g kb D) :
  Calls Tryz.prog 210 #[.pointer (some ⟨g, 0, none⟩), .int .i64 at_] w (zCt w D at_) := by
 obtain ⟨cv, h⟩ := h;have hm := h.wf.most
 obtain ⟨Z, hZ⟩ : ∃ Z, Z = (zAa zero64).toArray := ⟨_, rfl⟩
 have HI : Hid (zJk Z) := by rw [hZ]; exact zKw
 have HZ := zh hZ;clear hZ;have hx := h.ext ((xr w).alloc (.cells Z 288));obtain ⟨c0, c1, c2, c3, c4, c5, hf⟩ := hx.open;have X := zh ((xr w).alloc (.cells Z 288))
 by_cases hd : D.down = true
 ·have HS := zh (show D.read at_ = (zero64, 3) by unfold Dk.read; rw [if_pos hd]);clear h hx hf;go_enter Tryz.func210, Tryz.ntmps210
  go_wp2_with (first
   | (refine zAt rfl 288 rfl Z HI.out.1 ?_)
   | (refine zB9 rfl 288 rfl Z HI.out.2.1 ?_)
   | (refine zAo rfl 288 (.tmp 4) (.tmp 12) rfl w 288 _ Z rfl rfl HI.out.2.2.1 rfl HI.out.2.2.2.1 ?_))
  refine bodyPost_ret (res43 _ _ w.heap.size Z _ rfl rfl (heap_alloc_new w _) HI.out.2.2.2.2) rfl ?_;unfold zCt;rw [HS.out, ← HZ.out];exact ⟨rfl, X.out⟩
 ·have hdf : D.down = false := by simpa using hd
  by_cases h12 : at_ < 0 ∨ (D.kept.length : Int) ≤ at_
  ·have HS := zh (show D.read at_ = (zero64, 2) by unfold Dk.read; rw [if_neg hd, if_pos h12]);clear h hx hf hd
   by_cases h1 : at_ < 0
   ·clear h12;go_enter Tryz.func210, Tryz.ntmps210
    go_wp2_with (first
     | (refine zAt rfl 288 rfl Z HI.out.1 ?_)
     | (refine zB9 rfl 288 rfl Z HI.out.2.1 ?_)
     | (refine zAo rfl 288 (.tmp 4) (.tmp 25) rfl w 288 _ Z rfl rfl HI.out.2.2.1 rfl HI.out.2.2.2.1 ?_))
    refine bodyPost_ret (res43 _ _ w.heap.size Z _ rfl rfl (heap_alloc_new w _) HI.out.2.2.2.2) rfl ?_;unfold zCt;rw [HS.out, ← HZ.out];exact ⟨rfl, X.out⟩
   ·have h2 : (D.kept.length : Int) ≤ at_ := by omega
    clear h12;go_enter Tryz.func210, Tryz.ntmps210
    go_wp2_with (first
     | (refine zAt rfl 288 rfl Z HI.out.1 ?_)
     | (refine zB9 rfl 288 rfl Z HI.out.2.1 ?_)
     | (refine zAo rfl 288 (.tmp 4) (.tmp 25) rfl w 288 _ Z rfl rfl HI.out.2.2.1 rfl HI.out.2.2.2.1 ?_))
    refine bodyPost_ret (res43 _ _ w.heap.size Z _ rfl rfl (heap_alloc_new w _) HI.out.2.2.2.2) rfl ?_;unfold zCt;rw [HS.out, ← HZ.out];exact ⟨rfl, X.out⟩
  ·obtain ⟨a, rfl⟩ : ∃ a : Nat, at_ = (a : Int) := ⟨at_.toNat, by omega⟩
   have ha : a < D.kept.length := by omega
   have HS := zh (show D.read (a : Int) = match zC0 a D.cache with | some s => (s, 0) | none => (D.kept.getD a [], 0) by unfold Dk.read; rw [if_neg hd, if_neg h12]; rfl);obtain ⟨ca, cap, rfl, hc1, hc2, hw⟩ := hx.writes;have HX := zh hx;have HW := zh hw;have h2 : ¬ (D.kept.length : Int) ≤ (a : Int) := by omega
   have hsm : D.cache.length ≤ 9223372036854775807 := by omega
   have hkr := zh (hx.range a ha);have hk64 : D.kept[a].length = 64 := hx.wf.kept _ (List.getElem_mem ha);have hi64 := zh (show (Tryz.prog.info? 288).map (·.size) = some (zAa D.kept[a]).length by rw [zAc, hk64]; exact zAx);clear h hx hf hd h12 hw;go_enter Tryz.func210, Tryz.ntmps210
   go_wp2_with (first
    | (refine zAt rfl 288 rfl Z HI.out.1 ?_)
    | (refine zB9 rfl 288 rfl Z HI.out.2.1 ?_))
   go_loop [6] (fun i => ∃ j : Nat, j ≤ D.cache.length ∧ i = .int .i64 ((j : Int) - 1) ∧ Hid (zC0 a (D.cache.drop j) = none)) (fun i => (intOf i + 1).toNat)
   case atStart => exact ⟨D.cache.length, Nat.le_refl _, rfl, by show _ = _; rw [List.drop_length]; rfl⟩
   case round =>
    obtain ⟨j, hj, rfl, hl⟩ := hrel
    cases j with
    | zero =>
      have HS2 := zh (show D.read (a : Int) = (D.kept[a], 0) by
       have := HS.out;rw [show zC0 a D.cache = none from hl.out] at this
       rw [this]; simp [List.getD, ha])
      have HX2 := zh ((xr w).alloc (.cells (zAa D.kept[a]).toArray 288));have hZs := zh (show Z.size = (zAa D.kept[a]).toArray.size by rw [HI.out.2.2.2.2]; simp [zAc, hk64]);have h1 := zh (all_oneCell_toArray (zAm D.kept[a]));have hs64 := zh (show (zAa D.kept[a]).toArray.size = 64 by simp [zAc, hk64])
      go_wp2_with (first
       | (refine wpList_load_mid rfl 288 (.tmp 59) rfl kb (a * 64) rfl (zAa D.kept[a]) _ hkr.out Tryz.underlying288 rfl hi64.out ?_)
       | (refine zAo rfl 288 (.tmp 4) (.tmp 60) rfl w 288 Z _ rfl rfl hi64.out hZs.out h1.out ?_))
      refine bodyPost_ret (res43 _ _ w.heap.size _ _ rfl rfl (heap_alloc_new w _) hs64.out) rfl ?_;unfold zCt;rw [HS2.out];exact ⟨rfl, HX2.out⟩
    | succ k =>
      have hk : k < D.cache.length := by omega
      obtain ⟨cb, hca, hr, hr1, hr2⟩ := HW.out k hk;subst hca;have hld := lastAt_drop a D.cache k hk hl.out;have hls := fun s => lastAt_some a D.cache k s
      have hc64 := (HX.out.wf.cache _ (List.getElem_mem hk)).2;have hik : ((k + 1 : Nat) : Int) - 1 = (k : Int) := by omega
      rw [hik];generalize D.cache[k] = c at *;obtain ⟨cx, s⟩ := c;simp only at hld hr1 hr2 hc64;have HR2 := zh hr2;clear hr hr2 hik
      by_cases heq : cx = a
      ·subst heq;rw [if_pos rfl] at hld
       have HS2 := zh (show D.read (cx : Int) = (s, 0) by
        have := HS.out;rw [hls s hld] at this
        exact this)
       have hs6 := zh (show (Tryz.prog.info? 288).map (·.size) = some (zAa s).length by rw [zAc, hc64]; exact zAx);have HX2 := zh ((xr w).alloc (.cells (zAa s).toArray 288));have hZs := zh (show Z.size = (zAa s).toArray.size by rw [HI.out.2.2.2.2]; simp [zAc, hc64]);have h1 := zh (all_oneCell_toArray (zAm s));have hs64 := zh (show (zAa s).toArray.size = 64 by simp [zAc, hc64]);clear hls hld hl
       go_wp2_with (first
        | (refine wpList_load_mid rfl 288 (.tmp 52) rfl cb (k * 65 + 1) rfl (zAa s) _ HR2.out Tryz.underlying288 rfl hs6.out ?_)
        | (refine zAo rfl 288 (.tmp 4) (.tmp 53) rfl w 288 Z _ rfl rfl hs6.out hZs.out h1.out ?_))
       refine bodyPost_ret (res43 _ _ w.heap.size _ _ rfl rfl (heap_alloc_new w _) hs64.out) rfl ?_;unfold zCt;rw [HS2.out];exact ⟨rfl, HX2.out⟩
      ·rw [if_neg heq] at hld;have hq : ((cx : Int) == (a : Int)) = false := by rw [beq_eq_false_iff_ne]; omega
       have HLD := zh hld;clear hls hld hl heq
       go_wp2_with fail
       go_round
       case rel => exact ⟨k, by omega, by go_num, HLD⟩
       case measure => simp [intOf]
structure Lg where
 epoch : Nat
 top : Nat
 half : Nat
 at_ : Nat
 list : List (List UInt8)
 dead : Bool
def zAp (D : Dk) : Nat := (D.kept.length - 2) / 2
def zAg (n : Nat) : Nat := (16 + n + 62) / 63
def zBx (D : Dk) (h i : Nat) : Nat := 2 + h * zAp D + i
def pad64 (l : List UInt8) : List UInt8 := l ++ List.replicate (64 - l.length) 0
def zEh (seq epoch : Nat) (b : List UInt8) : List UInt8 := le4 b.length ++ le4 seq ++ le4 epoch ++ le4 (zA3 (le4 seq ++ le4 epoch ++ b)) ++ b
def zEe (i : Nat) (all : List UInt8) : List UInt8 := pad64 ((if i = 0 then 2 else 3) :: all.take 63)
def zI2 (p : Nat) : Nat → Nat → List UInt8 → Dk → Dk × Nat
 | 0, _, _, D => (D, 0)
 | f + 1, i, all, D => if (D.write ((p + i : Nat) : Int) (zEe i all)).2 = 0 then zI2 p f (i + 1) (all.drop 63) (D.write ((p + i : Nat) : Int) (zEe i all)).1 else D.write ((p + i : Nat) : Int) (zEe i all)
def zE6 (D : Dk) (L : Lg) (at_ seq : Nat) (b : List UInt8) : Dk × Nat := zI2 (zBx D L.half at_) (zAg b.length) 0 (zEh seq L.epoch b) D
def Lg.die (L : Lg) (e : Nat) : Lg := { L with dead := L.dead || e != 0 }
def zBs (D : Dk) (L : Lg) (at_ seq : Nat) (b : List UInt8) : Dk × Nat := if (zE6 D L at_ seq b).2 = 0 then (zE6 D L at_ seq b).1.flush else zE6 D L at_ seq b
def zE0 (D : Dk) (L : Lg) (b : List UInt8) : Dk × Lg × Nat :=
 if L.dead then (D, L, 3) else if 4096 < b.length then (D, L, 6) else if zAp D < L.at_ + zAg b.length then (D, L, 7) else
  if (zBs D L L.at_ L.list.length b).2 = 0 then ((zBs D L L.at_ L.list.length b).1, { L with at_ := L.at_ + zAg b.length, list := L.list ++ [b] }, 0)
  else ((zBs D L L.at_ L.list.length b).1, L.die (zBs D L L.at_ L.list.length b).2, (zBs D L L.at_ L.list.length b).2)
def zEf : List (List UInt8) → Dk → Lg → Dk × Lg × Nat
 | [], D, L => (D, L, 0)
 | b :: r, D, L => if (zE6 D L L.at_ L.list.length b).2 = 0 then zEf r (zE6 D L L.at_ L.list.length b).1 { L with at_ := L.at_ + zAg b.length, list := L.list ++ [b] } else ((zE6 D L L.at_ L.list.length b).1, L.die (zE6 D L L.at_ L.list.length b).2, (zE6 D L L.at_ L.list.length b).2)
def zFi (epoch : Nat) : List UInt8 := pad64 ((1 :: le4 epoch) ++ le4 (zA3 (1 :: le4 epoch)))
def zDg : List (List UInt8) → Nat → Option Nat
 | [], n => some n
 | b :: r, n => if 4096 < b.length then none else zDg r (n + zAg b.length)
def zI8 (D : Dk) (L : Lg) : Dk × Nat := if (D.write (L.half : Int) (zFi L.epoch)).2 = 0 then (D.write (L.half : Int) (zFi L.epoch)).1.flush else D.write (L.half : Int) (zFi L.epoch)
def zM5 (D : Dk) (L : Lg) : Dk × Lg × Nat :=
 if (D.flush).2 = 0 then ((zI8 (D.flush).1 L).1, L.die (zI8 (D.flush).1 L).2, (zI8 (D.flush).1 L).2) else ((D.flush).1, L.die (D.flush).2, (D.flush).2)
def Lg.anew (L : Lg) : Lg := { L with top := L.top + 1, epoch := L.top + 1, half := 1 - L.half, at_ := 0, list := [] }
def zCs (D : Dk) (L : Lg) (list : List (List UInt8)) : Dk × Lg × Nat :=
 if L.dead then (D, L, 3) else
  match zDg list 0 with
  | none => (D, L, 6)
  | some n => if zAp D < n then (D, L, 7) else
    if (zEf list D L.anew).2.2 = 0 then zM5 (zEf list D L.anew).1 (zEf list D L.anew).2.1 else zEf list D L.anew
def zHg (s : List UInt8) : Nat × Bool :=
 if s = zero64 then (0, false) else
  ((zAh ((s.drop 1).take 8) false 2147483648).1, s.headD 0 == 1 && (zAh (zAh ((s.drop 1).take 8) false 2147483648).2.1 (zAh ((s.drop 1).take 8) false 2147483648).2.2 4294967295).1 == zA3 (s.take 5))
def zId (D : Dk) : Nat → Nat → Nat → Nat × Nat
 | 0, _, top => (top, 0)
 | f + 1, at_, top => if (D.read (at_ : Int)).2 = 0 then zId D f (at_ + 1) (if (D.read (at_ : Int)).1.headD 0 = 2 then max top (zAh (((D.read (at_ : Int)).1.drop 9).take 4) false 2147483648).1 else top) else (top, (D.read (at_ : Int)).2)
def zLq (D : Dk) (epoch : Nat) : Nat × Nat := zId D (D.kept.length - 2) 2 epoch
def zFb (D : Dk) (p : Nat) : Nat → Nat → List UInt8 → Option (List UInt8) × Nat
 | 0, _, b => (some b, 0)
 | f + 1, i, b => if (D.read ((p + i : Nat) : Int)).2 = 0 then (if (D.read ((p + i : Nat) : Int)).1.headD 0 = 3 then zFb D p f (i + 1) (b ++ (D.read ((p + i : Nat) : Int)).1.drop 1) else (none, 0)) else (none, (D.read ((p + i : Nat) : Int)).2)
def zK5 (s : List UInt8) : (Nat × Nat × Nat × Nat) × Bool :=
 let a := zAh ((s.drop 1).take 16) false 4096
 let b := zAh a.2.1 a.2.2 2147483648
 let c := zAh b.2.1 b.2.2 2147483648
 let d := zAh c.2.1 c.2.2 4294967295
 ((a.1, b.1, c.1, d.1), !d.2.2)
def zEj (D : Dk) (L : Lg) : List UInt8 × Nat × Nat :=
 if zAp D ≤ L.at_ then ([], 0, 0) else
  let r := D.read ((zBx D L.half L.at_ : Nat) : Int)
  if r.2 ≠ 0 then ([], 0, r.2) else
   let q := zK5 r.1
   if r.1.headD 0 ≠ 2 ∨ q.2 = false ∨ q.1.2.1 ≠ L.list.length ∨ q.1.2.2.1 ≠ L.epoch ∨ zAp D < L.at_ + zAg q.1.1 then ([], 0, 0) else
    match zFb D (zBx D L.half L.at_) (zAg q.1.1 - 1) 1 (r.1.drop 17) with
    | (none, e) => ([], 0, e)
    | (some b, _) => if zA3 (le4 q.1.2.1 ++ le4 q.1.2.2.1 ++ b.take q.1.1) ≠ q.1.2.2.2 then ([], 0, 0) else (b.take q.1.1, zAg q.1.1, 0)
def zD7 (D : Dk) : Nat → Lg → Option Lg × Nat
 | 0, _ => (none, 0)
 | f + 1, L => if (zEj D L).2.2 ≠ 0 then (none, (zEj D L).2.2) else if (zEj D L).2.1 = 0 then (some L, 0) else zD7 D f { L with list := L.list ++ [(zEj D L).1], at_ := L.at_ + (zEj D L).2.1 }
def zK3 (D : Dk) (i : Nat) (L : Lg) : Lg := if (zHg (D.read (i : Int)).1).2 && L.epoch < (zHg (D.read (i : Int)).1).1 then { L with epoch := (zHg (D.read (i : Int)).1).1, half := i } else L
def Lg.zero : Lg := ⟨0, 0, 0, 0, [], false⟩
def zMs (D : Dk) : Dk × Option Lg × Nat :=
 if D.kept.length < 6 then (D, none, 1) else if (D.read 0).2 ≠ 0 then (D, none, (D.read 0).2) else if (D.read 1).2 ≠ 0 then (D, none, (D.read 1).2) else
  let L := zK3 D 1 (zK3 D 0 Lg.zero)
  let k := zLq D L.epoch
  if k.2 ≠ 0 then (D, none, k.2) else
   let M := { L with top := k.1 }
   if M.epoch = 0 then
    let r := zCs D M []
    if r.2.2 ≠ 0 then (r.1, none, r.2.2) else (r.1, some r.2.1, 0)
   else (D, (zD7 D (zAp D + 1) M).1, (zD7 D (zAp D + 1) M).2)
theorem zJj : zAa zero64 = List.replicate 64 (.int .u8 0) := rfl
theorem zM4 (n : Nat) : zE7 (List.replicate n zero64) = List.replicate (n * 64) (.int .u8 0) := by
 induction n with
 | zero => rfl
 | succ n ih =>
   unfold zE7 at *;rw [List.replicate_succ, List.flatMap_cons, ih, zJj, List.replicate_append_replicate, show 64 + n * 64 = (n + 1) * 64 by omega]
theorem made_zero (n : Nat) : madeCells (zAa zero64).toArray n = (List.replicate n (.int .u8 0)).toArray := by
 rw [zJj];apply Array.ext
 ·simp [madeCells]
 ·intro i h1 h2;simp only [madeCells, Array.getElem_map, Array.getElem_range, List.size_toArray, List.length_replicate];have h : i % 64 < (List.replicate 64 (Value.int IntKind.u8 0)).toArray.size := by rw [List.size_toArray, List.length_replicate]; exact Nat.mod_lt _ (by decide)
  rw [getElem!_pos (List.replicate 64 (Value.int IntKind.u8 0)).toArray (i % 64) h];simp only [List.getElem_toArray, List.getElem_replicate]
theorem zC3 {ops : Array Oper} {rest : List Oper} {o : Oper} {a : Act} {w : World} {Q : Exit → Act → World → Prop} (hg : o.guard = none) (x y : Operand) (ho : o.op = .makeSlice 145 x y) (n : Nat) (hn : n ≤ 4096)
  (hx : a.eval x = .int .i64 (n : Int)) (hy : a.eval y = .int .i64 (n : Int))
  (h : wpList Tryz.prog ops Q rest (a.put o.dst (.slice (some ⟨w.heap.size, 0, none⟩) n n)) (w.alloc (.cells (zE7 (List.replicate n zero64)).toArray 288))) : wpList Tryz.prog ops Q (o :: rest) a w := by
 refine wpList_plain hg fun K hK => ?_
 obtain ⟨i0, hi, hz0, hz1, hz2⟩ := info_parts Tryz.zero288;have hrun := run_make (P := Tryz.prog) w 145 288 i0 _ Tryz.underlying145 hi hz0 .i64 .i64 (n : Int) (n : Int) (by omega) (by omega) (by rw [hz2]; omega) (by omega);rw [hz1, Int.toNat_natCast, show (Value.agg (zAa zero64).toArray).cells = (zAa zero64).toArray from rfl, made_zero, ← zM4] at hrun;unfold Oper.wp;simp [execOp, ho, hx, hy, hrun, Result.andThen];exact hK _ _ h
theorem wf_new (n : Int) : Wf (Dk.new n) where
 pos := by simp only [Dk.new, List.length_replicate]; omega
 most := by simp only [Dk.new, List.length_replicate]; omega
 kept := by intro s hs; rw [(List.mem_replicate.1 hs).2]; rfl
 cache := fun c hc => by cases hc
 keeps := by show (0 : Nat) < _; omega
 fate := by show (-1 : Int) ≤ _; omega
theorem new_disk (n : Int) (m : Nat) (w : World) (hm : m = (max 1 (min n 4096)).toNat) : Disk w.heap.size ((w.alloc (.cells (zE7 (List.replicate m zero64)).toArray 288)).alloc (.cells #[.slice (some ⟨w.heap.size, 0, none⟩) m m, .slice none 0 0, .bool false, .int .i64 (-1), .int .u64 0, .int .i64 0] 149)) (w.heap.size + 1) w.heap.size (Dk.new n) := by
 refine ⟨.slice none 0 0, Nat.le_succ _, Nat.le_refl _, ?_, ?_, World.ownsRow_nil _ _ _ _, wf_new n⟩
 ·have := heap_alloc_new (w.alloc (.cells (zE7 (List.replicate m zero64)).toArray 288)) (.cells #[.slice (some ⟨w.heap.size, 0, none⟩) m m, .slice none 0 0, .bool false, .int .i64 (-1), .int .u64 0, .int .i64 0] 149);rw [World.size_alloc] at this;rw [this];simp [Dk.new, hm]
 ·rw [heap_alloc_old _ _ (by simp), heap_alloc_new];simp [Dk.new, hm]
theorem new_ext (w : World) (o1 o2 : Obj) : Ext w ((w.alloc o1).alloc o2) := ((xr w).alloc o1).alloc o2
def newPost (n : Int) (w : World) (e : Ending) (w' : World) : Prop :=
 ∃ g kb, e = .returned (.pointer (some ⟨g, 0, none⟩)) ∧ w.heap.size ≤ g ∧ w.heap.size ≤ kb ∧ Ext w w' ∧ Disk w.heap.size w' g kb (Dk.new n)
set_option maxRecDepth 100000 in
set_option maxHeartbeats 2000000 in
theorem New_any (n : Int) (w : World) : Calls Tryz.prog 32 #[.int .i64 n] w (newPost n w) := by
 obtain ⟨m, hm⟩ : ∃ m : Nat, m = (max 1 (min n 4096)).toNat := ⟨_, rfl⟩
 have HN := zh (new_disk n m w hm);have hm4 : m ≤ 4096 := by omega
 by_cases h1 : 4096 < n
 ·obtain rfl : m = 4096 := by omega
  clear hm;have hmx : max (1 : Int) (min n 4096) = 4096 := by omega
  go_enter Tryz.func32, Tryz.ntmps32
  go_wp2_with (refine zC3 rfl (.tmp 5) (.tmp 5) rfl 4096 hm4 rfl rfl ?_)
  go_ret
  exact ⟨_, _, rfl, Nat.le_succ _, Nat.le_refl _, new_ext _ _ _, HN.out⟩
 ·by_cases h2 : 1 < n
  ·obtain rfl : n = (m : Int) := by omega
   clear hm;have hmx : max (1 : Int) (min (m : Int) 4096) = (m : Int) := by omega
   go_enter Tryz.func32, Tryz.ntmps32
   go_wp2_with (refine zC3 rfl (.tmp 5) (.tmp 5) rfl m hm4 rfl rfl ?_)
   go_ret
   exact ⟨_, _, rfl, Nat.le_succ _, Nat.le_refl _, new_ext _ _ _, HN.out⟩
  ·obtain rfl : m = 1 := by omega
   clear hm;have hmx : max (1 : Int) (min n 4096) = 1 := by omega
   go_enter Tryz.func32, Tryz.ntmps32
   go_wp2_with (refine zC3 rfl (.tmp 5) (.tmp 5) rfl 1 hm4 rfl rfl ?_)
   go_ret
   exact ⟨_, _, rfl, Nat.le_succ _, Nat.le_refl _, new_ext _ _ _, HN.out⟩
end
end Go.Proofs.YtgnjjfdfoibdiaaGreatDoor
namespace Go.Proofs.YtgnjjfdfoibdiaaGreatDoor.diskPower
set_option maxRecDepth 100000
open Go.RowKit
structure Calm (D : Dk) (n c : Nat) : Prop where
 down : D.down = false
 len : D.kept.length = n
 fate : D.fate < 1
 steps : D.steps ≤ c
 cache : D.cache.length ≤ c
def C2 (D : Dk) (keeps : Nat) : Dk := { D.crash keeps with down := false }
def C4 (D : Dk) (keeps k2 : Nat) : Dk := { (C2 D keeps).crash k2 with down := false }
def R1 (base g kb m len : Nat) (w0 : World) (i : Value) (wr : World) : Prop :=
 ∃ (k : Nat) (D : Dk), i = .int .i64 k ∧ k ≤ len ∧ Hid (DOnly base g kb w0 wr) ∧ Hid (Disk base wr g kb D) ∧ Hid (Calm D m k)
end Go.Proofs.YtgnjjfdfoibdiaaGreatDoor.diskPower
namespace Go.Proofs.YtgnjjfdfoibdiaaGreatDoor
open Go.RowKit
theorem DOnly.keep {base g kb k : Nat} {a b : World} {cs : Array Value} {t : TypeId} {fz : Nat × Nat} (h : DOnly base g kb a b) (hk : a.heap[k]? = some (.cells cs t fz)) (ht : t ≠ 291) (hg : k ≠ g) (hkb : k ≠ kb) : b.heap[k]? = some (.cells cs t fz) := by
 rw [h.block k (Array.getElem?_eq_some_iff.1 hk).1 hg hkb (.inr fun cs' fz' e => ?_)]
 ·exact hk
 ·rw [hk] at e;simp only [Option.some.injEq, Obj.cells.injEq] at e;exact ht e.2.1
theorem Ext.keep {k : Nat} {a b : World} {o : Obj} (h : Ext a b) (hk : a.heap[k]? = some o) : b.heap[k]? = some o :=
 (h.block k (Array.getElem?_eq_some_iff.1 hk).1).trans hk
end Go.Proofs.YtgnjjfdfoibdiaaGreatDoor
namespace Go.Proofs.YtgnjjfdfoibdiaaGreatDoor
section
open Go.RowKit
set_option maxRecDepth 100000
def RecRow (base : Nat) (w : World) (lv : Value) (ls : List (List UInt8)) : Prop :=
 ∃ vs : List Value, w.ownsRow base 23 1 lv ls.length vs ∧ ∀ i, (h : i < ls.length) → ∃ v, vs[i]? = some v ∧ OwnBytes w base v ls[i]
structure LogAt (base : Nat) (w : World) (g kb l : Nat) (lv : Value) (D : Dk) (L : Lg) : Prop where
 disk : Disk base w g kb D
 hl : base ≤ l
 blk : w.heap[l]? = some (.cells #[.pointer (some ⟨g, 0, none⟩), .int .i64 L.epoch, .int .i64 L.top, .int .i64 L.half, .int .i64 L.at_, lv, .bool L.dead] 211 (0, 0))
 rows : RecRow base w lv L.list
 six : 6 ≤ D.kept.length
 half : L.half ≤ 1
 at_ : L.at_ ≤ zAp D
structure LOnly (base g kb l : Nat) (lb : Option Nat) (w w' : World) : Prop where
 os : w'.os = w.os
 tape : w'.tape = w.tape
 output : w'.output = w.output
 size : w.heap.size ≤ w'.heap.size
 block : ∀ k, k < w.heap.size → k ≠ g → k ≠ kb → k ≠ l → some k ≠ lb → (k < base ∨ NotW w k) → w'.heap[k]? = w.heap[k]?
section
variable {base g kb l : Nat} {lb lb' : Option Nat} {a b c : World}
theorem LOnly.refl : LOnly base g kb l lb a a := ⟨rfl, rfl, rfl, Nat.le_refl _, fun _ _ _ _ _ _ _ => rfl⟩
theorem LOnly.trans (h : LOnly base g kb l lb a b) (k : LOnly base g kb l lb' b c) (hn : lb' = lb ∨ ∀ q, lb' = some q → a.heap.size ≤ q) : LOnly base g kb l lb a c :=
 ⟨k.os.trans h.os, k.tape.trans h.tape, k.output.trans h.output, Nat.le_trans h.size k.size, fun i hi h1 h2 h3 h4 h5 => by
  have e := h.block i hi h1 h2 h3 h4 h5;refine (k.block i (Nat.lt_of_lt_of_le hi h.size) h1 h2 h3 ?_ (h5.imp id fun hn cs fz => ?_)).trans e
  ·rcases hn with rfl | hn
   ·exact h4
   ·intro e2;have := hn i e2.symm;omega
  ·rw [e]; exact hn cs fz⟩
theorem DOnly.lonly (h : DOnly base g kb a b) : LOnly base g kb l lb a b := ⟨h.os, h.tape, h.output, h.size, fun k hk h1 h2 _ _ h5 => h.block k hk h1 h2 h5⟩
theorem Ext.lonly (h : Ext a b) : LOnly base g kb l lb a b := ⟨h.os, h.tape, h.output, h.size, fun k hk _ _ _ _ _ => h.block k hk⟩
theorem LOnly.drew (h : LOnly base g kb l lb a b) : LOnly base g kb l lb a b.drew := ⟨h.os, h.tape, h.output, h.size, h.block⟩
theorem LOnly.setL (h : LOnly base g kb l lb a b) (i : Nat) (u : Value) : LOnly base g kb l lb a (b.setCell ⟨l, i, none⟩ u) :=
 ⟨h.os, h.tape, h.output, by simp [World.setCell]; exact h.size, fun k hk h1 h2 h3 h4 h5 => (Below.heap_setCell b _ u k h3).trans (h.block k hk h1 h2 h3 h4 h5)⟩
end
theorem RecRow.same {base : Nat} {w w' : World} {lv : Value} {ls : List (List UInt8)} (h : RecRow base w lv ls) (hs : ∀ (k : Nat) (cs : Array Value) (t : TypeId), (t = 23 ∨ t = 5) → w.heap[k]? = some (.cells cs t (0, 0)) → w'.heap[k]? = w.heap[k]?) : RecRow base w' lv ls := by
 have key : ∀ {e s n : Nat} {v : Value} {xs : List Value} (_ : e = 23 ∨ e = 5), w.ownsRow base e s v n xs → w'.ownsRow base e s v n xs := by
  intro e s n v xs he o;refine zEg o fun k hk => ?_
  rcases o.2 with ⟨rfl, _⟩ | ⟨q, cap, cur, rfl, -, hh, -⟩
  ·cases hk
  ·simp only [Value.ownBlock, Option.some.injEq] at hk;subst hk;exact hs _ _ _ he hh
 obtain ⟨vs, h1, h2⟩ := h;refine ⟨vs, key (.inl rfl) h1, fun i hi => ?_⟩;obtain ⟨v, hv, ho⟩ := h2 i hi;exact ⟨v, hv, key (.inr rfl) ho⟩
section
variable {base g kb l : Nat} {w w' : World} {lv : Value} {D D' : Dk} {L : Lg}
theorem LogAt.same (h : LogAt base w g kb l lv D L) (hd : Disk base w' g kb D') (hk : D'.kept.length = D.kept.length) (hl : w'.heap[l]? = w.heap[l]?) (hs : ∀ (k : Nat) (cs : Array Value) (t : TypeId), (t = 23 ∨ t = 5) → w.heap[k]? = some (.cells cs t (0, 0)) → w'.heap[k]? = w.heap[k]?) : LogAt base w' g kb l lv D' L :=
 ⟨hd, h.hl, hl.trans h.blk, h.rows.same hs, by rw [hk]; exact h.six, h.half, by unfold zAp; rw [hk]; exact h.at_⟩
theorem LogAt.only (h : LogAt base w g kb l lv D L) (o : DOnly base g kb w w') (hd : Disk base w' g kb D') (hk : D'.kept.length = D.kept.length) : LogAt base w' g kb l lv D' L := by
 obtain ⟨cv, d⟩ := h.disk
 have key : ∀ (k : Nat) (cs : Array Value) (t : TypeId), t ≠ 291 → t ≠ 149 → t ≠ 288 → w.heap[k]? = some (.cells cs t (0, 0)) → w'.heap[k]? = w.heap[k]? := by
  intro k cs t h1 h2 h3 hh;refine (o.keep hh h1 ?_ ?_).trans hh.symm
  ·rintro rfl; have := hh.symm.trans d.blk; simp only [Option.some.injEq, Obj.cells.injEq] at this; exact h2 this.2.1
  ·rintro rfl; have := hh.symm.trans d.row; simp only [Option.some.injEq, Obj.cells.injEq] at this; exact h3 this.2.1
 refine h.same hd hk (key l _ _ (by decide) (by decide) (by decide) h.blk) fun k cs t ht hh => key k cs t ?_ ?_ ?_ hh
 ·rcases ht with rfl | rfl <;> decide
 ·rcases ht with rfl | rfl <;> decide
 ·rcases ht with rfl | rfl <;> decide
theorem LogAt.ext (h : LogAt base w g kb l lv D L) (x : Ext w w') : LogAt base w' g kb l lv D L :=
 h.same (h.disk.ext x) rfl (x.block l (Array.getElem?_eq_some_iff.1 h.blk).1) fun k cs t _ hh => x.block k (Array.getElem?_eq_some_iff.1 hh).1
theorem LogAt.put (h : LogAt base w g kb l lv D L) (i : Nat) (u : Value) (L' : Lg) (lv' : Value)
  (hc : (#[.pointer (some ⟨g, 0, none⟩), .int .i64 L.epoch, .int .i64 L.top, .int .i64 L.half, .int .i64 L.at_, lv, .bool L.dead] : Array Value).setIfInBounds i u = #[.pointer (some ⟨g, 0, none⟩), .int .i64 L'.epoch, .int .i64 L'.top, .int .i64 L'.half, .int .i64 L'.at_, lv', .bool L'.dead])
  (hr : RecRow base w lv' L'.list) (h1 : L'.half ≤ 1) (h2 : L'.at_ ≤ zAp D) : LogAt base (w.setCell ⟨l, i, none⟩ u) g kb l lv' D L' := by
 have ho : ∀ k, k ≠ l → (w.setCell ⟨l, i, none⟩ u).heap[k]? = w.heap[k]? := fun k hk => Below.heap_setCell w _ u k hk
 have hb := h.blk
 have hd : Disk base (w.setCell ⟨l, i, none⟩ u) g kb D := by
  obtain ⟨cv, d⟩ := h.disk;have hg : g ≠ l := by rintro rfl; have := hb.symm.trans d.blk; simp at this
  have hk : kb ≠ l := by rintro rfl; have := hb.symm.trans d.row; simp at this
  refine ⟨cv, d.hg, d.hk, (ho g hg).trans d.blk, (ho kb hk).trans d.row, zEg d.cache fun k hk => ho k ?_, d.wf⟩;rintro rfl
  rcases d.cache.2 with ⟨rfl, _⟩ | ⟨q, cap, cur, rfl, -, hh, -⟩
  ·cases hk
  ·simp only [Value.ownBlock, Option.some.injEq] at hk;subst hk;have := hb.symm.trans hh;simp at this
 refine ⟨hd, h.hl, ?_, hr.same fun k cs t ht hh => ho k ?_, h.six, h1, h2⟩
 ·rw [zAd w l i u _ _ _ hb, hc]
 ·rintro rfl;have := hb.symm.trans hh;simp only [Option.some.injEq, Obj.cells.injEq] at this
  rcases ht with rfl | rfl <;> simp at this
theorem LogAt.cells (h : LogAt base w g kb l lv D L) :
  w.cell? ⟨l, 0, none⟩ = some (.pointer (some ⟨g, 0, none⟩)) ∧ w.cell? ⟨l, 1, none⟩ = some (.int .i64 L.epoch) ∧ w.cell? ⟨l, 2, none⟩ = some (.int .i64 L.top) ∧ w.cell? ⟨l, 3, none⟩ = some (.int .i64 L.half) ∧ w.cell? ⟨l, 4, none⟩ = some (.int .i64 L.at_) ∧ w.cell? ⟨l, 5, none⟩ = some lv ∧ w.cell? ⟨l, 6, none⟩ = some (.bool L.dead) ∧ ∀ i, w.frozen? ⟨l, i, none⟩ = false := by
 have hh := h.blk
 refine ⟨?_, ?_, ?_, ?_, ?_, ?_, ?_, fun i => by simp [World.frozen?, hh]⟩ <;> (simp only [World.cell?, hh]; rfl)
end
set_option maxRecDepth 100000 in
theorem zC5 (n : Nat) (hn : n ≤ 140737488355328) (w : World) : Calls Tryz.prog 118 #[.int .i64 (n : Int)] w fun e w' => e = .returned (.int .i64 (zAg n : Nat)) ∧ w = w' := by
 have hq : ((16 + (n : Int) + 63 - 1) : Int).tdiv 63 = ((zAg n : Nat) : Int) := by
  rw [Int.tdiv_eq_ediv_of_nonneg (by omega)];unfold zAg;omega
 go_enter Tryz.func118, Tryz.ntmps118;have hw : wrap64 ((zAg n : Nat) : Int) = ((zAg n : Nat) : Int) := IntWalk.wrap64_in _ (by unfold zAg; omega)
 go_wp2_with fail
 go_ret
 exact ⟨by rw [hw]; rfl, rfl⟩
set_option maxRecDepth 100000 in
theorem zL7 (base g kb : Nat) (D : Dk) (w : World) (h : Disk base w g kb D) (h2 : 2 ≤ D.kept.length) : Calls Tryz.prog 119 #[.pointer (some ⟨g, 0, none⟩)] w fun e w' => e = .returned (.int .i64 (zAp D : Nat)) ∧ w = w' := by
 have hm := h.wf.most;go_enter Tryz.func119, Tryz.ntmps119
 go_wp2_with fail
 refine (Len_any base g kb D _ h).mono ?_;rintro e w' ⟨rfl, rfl⟩
 go_wp2_with fail
 go_ret
 have e : (((D.kept.length : Int) - 2) / 2) = ((zAp D : Nat) : Int) := by unfold zAp; omega
 exact ⟨by rw [e]; rfl, rfl⟩
theorem Disk.drewN {base g kb : Nat} {w : World} {D : Dk} (h : Disk base w g kb D) (m : Nat) : Disk base (w.drewN m) g kb D := by
 obtain ⟨cv, h⟩ := h; exact ⟨cv, h.same fun _ _ => rfl⟩
section
variable {base g kb l : Nat} {lv : Value} {D : Dk} {L : Lg} {w : World}
theorem LogAt.dies (h : LogAt base w g kb l lv D L) (e : Nat) : LogAt base (w.setCell ⟨l, 6, none⟩ (.bool (L.dead || e != 0))) g kb l lv D (L.die e) :=
 h.put 6 (.bool (L.dead || e != 0)) (L.die e) lv rfl h.rows h.half h.at_
end
set_option maxRecDepth 100000 in
theorem zKj (base g kb l : Nat) (lv : Value) (D : Dk) (L : Lg) (e : Nat) (w : World) (h : LogAt base w g kb l lv D L) :
  Calls Tryz.prog 122 #[.pointer (some ⟨l, 0, none⟩), .int .i64 (e : Int)] w fun r w' => r = .returned (.int .i64 (e : Int)) ∧ LOnly base g kb l lv.ownBlock w w' ∧ LogAt base w' g kb l lv D (L.die e) := by
 obtain ⟨c0, c1, c2, c3, c4, c5, c6, hf⟩ := h.cells;have hf6 := hf 6;have HD := zh (h.dies e);have HO : Hid (LOnly base g kb l lv.ownBlock w (w.setCell ⟨l, 6, none⟩ (.bool (L.dead || e != 0)))) := LOnly.refl.setL 6 _;clear h hf;cases hd : L.dead
 ·have hd2 : ((e : Int) != 0) = (e != 0) := by
   by_cases he : e = 0
   ·subst he; rfl
   ·have h1 : (e : Int) ≠ 0 := by omega
    rw [bne_iff_ne.2 h1, bne_iff_ne.2 he]
  rw [hd] at c6 HD HO;rw [Bool.false_or] at HD HO;go_enter Tryz.func122, Tryz.ntmps122
  go_wp2_with fail
  go_ret
  exact ⟨rfl, HO.out, HD.out⟩
 ·rw [hd] at c6 HD HO;rw [Bool.true_or] at HD HO;go_enter Tryz.func122, Tryz.ntmps122
  go_wp2_with fail
  go_ret
  exact ⟨rfl, HO.out, HD.out⟩
theorem zNj : Tryz.f271.results = #[.cell 4 288, .tmp 5] := by kernel_rfl
theorem res75 (tmps : Array Value) (w : World) (B : Nat) (cs : Array Value) (e : Value) (hp : tmps.getD 4 undef = .pointer (some ⟨B, 0, none⟩)) (h5 : tmps.getD 5 undef = e) (hg : w.heap[B]? = some (.cells cs 288 (0, 0))) (hcs : cs.size = 64) :
  (results Tryz.f271 tmps).run Tryz.prog w = .ok (.tuple #[.agg cs, e]) w := by
 have hp' : tmps[4]?.getD undef = .pointer (some ⟨B, 0, none⟩) := by simpa using hp
 have h5' : tmps[5]?.getD undef = e := by simpa using h5
 simp [results, zNj, hp', h5', asAddr, run_loadVar_row w B 288 288 cs (0, 0) _ hg Tryz.underlying288 rfl (by rw [hcs]; exact zAx)]
theorem zO1 (a : Nat) : ∀ (c : List (Nat × List UInt8)) (s : List UInt8), (∀ x ∈ c, x.2.length = 64) → zC0 a c = some s → s.length = 64
 | [], s, _, h => by cases h
 | x :: r, s, hc, h => by
   unfold zC0 at h
   cases hr : zC0 a r with
   | some t =>
     rw [hr] at h;obtain rfl := Option.some.inj h;exact zO1 a r t (fun y hy => hc y (List.mem_cons_of_mem _ hy)) hr
   | none =>
     rw [hr] at h;dsimp only at h
     by_cases e : x.1 = a
     ·rw [if_pos e] at h;obtain rfl := Option.some.inj h;exact hc x List.mem_cons_self
     ·rw [if_neg e] at h; cases h
theorem zGa {D : Dk} (h : Wf D) (a : Int) : (D.read a).1.length = 64 := by
 unfold Dk.read
 split
 ·rfl
 ·split
  ·rfl
  ·rename_i h2
   split
   ·rename_i s hs;exact zO1 _ _ _ (fun x hx => (h.cache x hx).2) hs
   ·have hlt : a.toNat < D.kept.length := by omega
    simp only [List.getD, List.getElem?_eq_getElem hlt, Option.getD_some];exact h.kept _ (List.getElem_mem hlt)
set_option maxRecDepth 100000 in
set_option maxHeartbeats 2000000 in
theorem read_any (base g kb l : Nat) (lv : Value) (D : Dk) (L : Lg) (i : Nat) (w : World) (h : LogAt base w g kb l lv D L) (hi : i ≤ 100000) :
  Calls Tryz.prog 271 #[.pointer (some ⟨l, 0, none⟩), .int .i64 (i : Int)] w (zCt w D ((zBx D L.half i : Nat) : Int)) := by
 obtain ⟨c0, c1, c2, c3, c4, c5, c6, hf⟩ := h.cells;have HL := zh h;have hm := h.disk.wf.most;have h6 := h.six;have hh1 := h.half;have hh : zAp D ≤ 4096 := by unfold zAp; omega
 have hmul : L.half * zAp D ≤ 4096 := by
  rcases Nat.lt_or_ge L.half 1 with h0 | h0
  ·rw [show L.half = 0 by omega, Nat.zero_mul]; omega
  ·rw [show L.half = 1 by omega, Nat.one_mul]; exact hh
 obtain ⟨p0, hp0⟩ : ∃ p0 : Nat, p0 = L.half * zAp D := ⟨_, rfl⟩
 obtain ⟨p1, hp1⟩ : ∃ p1 : Nat, p1 = 2 + p0 := ⟨_, rfl⟩
 obtain ⟨p2, hp2⟩ : ∃ p2 : Nat, p2 = zBx D L.half i := ⟨_, rfl⟩
 have s1 : IntKind.i64.wrap ((L.half : Int) * ((zAp D : Nat) : Int)) = (p0 : Int) := by
  rw [show ((L.half : Int) * ((zAp D : Nat) : Int)) = ((L.half * zAp D : Nat) : Int) by push_cast; rfl, ← hp0];exact IntWalk.i64_in _ (by omega)
 have s2 : IntKind.i64.wrap (2 + (p0 : Int)) = (p1 : Int) := by
  rw [IntWalk.i64_in _ (by omega)]; omega
 have s3 : IntKind.i64.wrap ((p1 : Int) + (i : Int)) = (p2 : Int) := by
  rw [IntWalk.i64_in _ (by omega)]; unfold zBx at hp2; omega
 rw [← hp2];clear hp0 hp1 hp2 hmul hh hm
 obtain ⟨Z, hZ⟩ : ∃ Z, Z = (zAa zero64).toArray := ⟨_, rfl⟩
 have HI : Hid (zJk Z) := by rw [hZ]; exact zKw
 clear hZ h hf c1 c2 c4 c5 c6;go_enter Tryz.func271, Tryz.ntmps271
 go_upto_region 1 with (refine zAt rfl 288 rfl Z HI.out.1 ?_)
 have x1 := zh ((xr w).alloc (.cells Z 288));have d0 := x1.out.cell c0;have d3 := x1.out.cell c3;have hb := heap_alloc_new w (.cells Z 288);have HL1 := zh (HL.out.ext x1.out);generalize hW1 : w.alloc (.cells Z 288) = W1 at *
 have hth : W1.there w.heap.size 0 64 := fun j hj => by
  rw [cell_of_row _ _ _ _ _ _ hb];have hsz := HI.out.2.2.2.2;exact ⟨by simp [hsz, hj], by simp [World.frozen?, hb]⟩
 have HW := zh hW1;have HB := zh hb;clear c0 c3 hb hW1;refine wp_region_noPanic ?_;refine wp_region_held_drew (S := fun W => W.cell? ⟨l, 0, none⟩ = some (.pointer (some ⟨g, 0, none⟩)) ∧ W.cell? ⟨l, 3, none⟩ = some (.int .i64 L.half) ∧ W.there w.heap.size 0 64) (by kernel_rfl) ⟨d0, d3, hth⟩ (fun hHeld => ?_);refine tq 0 (.pointer (some ⟨l, 0, none⟩)) ?_;refine tq 1 (.pointer (some ⟨l, 0, none⟩)) ?_;refine tq 2 (.pointer (some ⟨l, 0, none⟩)) ?_;refine tq 3 (.pointer (some ⟨g, 0, none⟩)) ?_;refine tq 4 (.pointer (some ⟨l, 0, none⟩)) ?_;refine tq 5 (.pointer (some ⟨l, 0, none⟩)) ?_;refine tq 6 (.pointer (some ⟨l, 3, none⟩)) ?_;refine tq 7 (.int .i64 L.half) ?_;refine tq 8 (.pointer (some ⟨l, 0, none⟩)) ?_;refine tq 9 (.pointer (some ⟨l, 0, none⟩)) ?_;refine tq 10 (.pointer (some ⟨l, 0, none⟩)) ?_;refine tq 11 (.pointer (some ⟨g, 0, none⟩)) ?_;refine tq 15 (.int .i64 i) ?_;refine wpAnyH_ready (rs := [12]) (by kernel_rfl) (by simp) (AllReadyH.cons rfl (fun K hK => ?_) AllReadyH.nil);go_simp;refine (zL7 base g kb D _ (HL1.out.ext ((xr W1).drew)).disk (by omega)).mono ?_;rintro e w2 ⟨rfl, rfl⟩;refine hK.out _ _ hHeld (fun hHeld2 => ?_);clear hK K
 try simp only [nf]
 refine tq 13 (.int .i64 (p0 : Int)) ?_;refine tq 14 (.int .i64 (p1 : Int)) ?_;refine tq 16 (.int .i64 (p2 : Int)) ?_;refine wpAnyH_ready (rs := [17]) (by kernel_rfl) (by simp) (AllReadyH.cons rfl (fun K hK => ?_) AllReadyH.nil);go_simp;refine (zN2 base g kb D (p2 : Int) _ (HL1.out.ext ((xr W1).drew)).disk).mono ?_;unfold zCt;rintro e w6 ⟨rfl, x6⟩;dsimp only;have x6' : Ext W1 w6 := (xr W1).drew.trans x6
 have hS6 : w6.cell? ⟨l, 0, none⟩ = some (.pointer (some ⟨g, 0, none⟩)) ∧ w6.cell? ⟨l, 3, none⟩ = some (.int .i64 L.half) ∧ w6.there w.heap.size 0 64 := ⟨x6'.cell d0, x6'.cell d3, fun j hj => by
  have hk := x6'.block w.heap.size (Array.getElem?_eq_some_iff.1 HB.out).1;rw [World.cell?_of_block (a := ⟨w.heap.size, 0 + j, none⟩) hk, World.frozen?_of_block (a := ⟨w.heap.size, 0 + j, none⟩) hk]
  exact hth j hj⟩
 refine hK.out _ _ hS6 (fun hHeld6 => ?_);clear hK K
 try simp only [nf]
 generalize hr : D.read (p2 : Int) = r at *;obtain ⟨sv, en⟩ := r;refine tq 18 (.agg (zAa sv).toArray) ?_;refine tq 19 (.int .i64 (en : Int)) ?_;refine wpAnyH_ready (rs := [20]) (by kernel_rfl) (by simp) (AllReadyH.cons rfl (fun K hK => ?_) AllReadyH.nil)
 have hsl : sv.length = 64 := by
  have := zGa (HL.out.disk.wf) (p2 : Int); rw [hr] at this; exact this
 refine wp_store_mid 288 _ _ rfl _ _ (zAa sv).toArray rfl rfl (by simpa [zAc, hsl] using hS6.2.2) (by simpa [zAc, hsl] using zAx) (all_oneCell_toArray (zAm sv)) ?_;simp only [List.toList_toArray] at *;have hE : Ext W1 w6 := x6';have hh6 : w6.heap[w.heap.size]? = some (.cells Z 288 (0, 0)) := (x6'.block w.heap.size (Array.getElem?_eq_some_iff.1 HB.out).1).trans HB.out;obtain ⟨k1, k2, k3, k4, k5⟩ := zDf w.heap.size (zAa sv) 0 w6;have hh7 := zF8 w.heap.size (zAa sv) 0 w6 _ _ _ hh6
 have hput : putAt Z 0 (zAa sv) = (zAa sv).toArray := by
  have := zHf (zAa sv) Z.toList [] [] (by simp [zAc, hsl, HI.out.2.2.2.2]);simpa using this
 rw [hput] at hh7;have hlw : l < w.heap.size := (Array.getElem?_eq_some_iff.1 HL.out.blk).1
 have hS7 : (w6.setCells w.heap.size 0 (zAa sv)).cell? ⟨l, 0, none⟩ = some (.pointer (some ⟨g, 0, none⟩)) ∧ (w6.setCells w.heap.size 0 (zAa sv)).cell? ⟨l, 3, none⟩ = some (.int .i64 L.half) ∧ (w6.setCells w.heap.size 0 (zAa sv)).there w.heap.size 0 64 := by
  refine ⟨?_, ?_, World.there_setCells hS6.2.2 _ _ _⟩
  ·exact (World.cell?_of_block (a := ⟨l, 0, none⟩) (k5 l (by omega))).trans hS6.1
  ·exact (World.cell?_of_block (a := ⟨l, 3, none⟩) (k5 l (by omega))).trans hS6.2.1
 have hX7 : Ext w (w6.setCells w.heap.size 0 (zAa sv)) := by
  have hx := x1.out.trans x6';exact Below.trans hx ⟨k1, k2, k3, by rw [k4]; exact Nat.le_refl _, fun k hk => k5 k (by omega)⟩
 generalize w6.setCells w.heap.size 0 (zAa sv) = w7 at *;refine hK.out _ _ hS7 (fun hHeld7 => ?_);clear hK K
 try simp only [nf]
 refine wpAnyH_ready (rs := [21]) (by kernel_rfl) (by simp) (AllReadyH.cons rfl (fun K hK => ?_) AllReadyH.nil);go_simp;refine hK.out _ _ hS7 (fun hHeld8 => ?_);clear hK K
 try simp only [nf]
 refine wpAnyH_done (by kernel_rfl) ?_ _;refine NoPanic.normal ?_
 go_wp2_with fail
 have hs64 : (zAa sv).toArray.size = 64 := by simp [zAc, hsl]
 refine bodyPost_ret (res75 _ _ w.heap.size _ _ rfl rfl hh7 hs64) rfl ?_;unfold zCt;rw [hr];exact ⟨rfl, hX7⟩
def zB1 (n : Int) : Array Value := (zAa (le4 (n % 4294967296).toNat)).toArray
theorem zNy (n : Int) (w : World) :
  Calls Tryz.prog 36 #[.int .i64 n] w fun e w' => e = .returned (.slice (some ⟨w.heap.size, 0, none⟩) 4 4) ∧ w.alloc (.cells (zB1 n) 5) = w' := by
 obtain ⟨k, hk⟩ : ∃ k : Nat, k = (n % 4294967296).toNat := ⟨_, rfl⟩
 have hb : k < 4294967296 := by omega
 have hc : n % 4294967296 = (k : Int) := by omega
 have Hc := zh hc
 have e : zB1 n = #[.int .u8 ((k : Int) % 256), .int .u8 ((k : Int) / 256 % 256), .int .u8 ((k : Int) / 65536 % 256), .int .u8 ((k : Int) / 16777216)] := by
  unfold zB1;rw [← hk];simp [zAa, le4]; omega
 rw [e];clear hc hk e;go_enter Tryz.func36, Tryz.ntmps36
 go_wp2_with fail
 rw [Hc.out]
 have key : Calls Tryz.prog 78 #[.int .u32 k] w fun e w' => e = .returned (.slice (some ⟨w.heap.size, 0, none⟩) 4 4) ∧ w.alloc (.cells #[.int .u8 ((k : Int) % 256), .int .u8 ((k : Int) / 256 % 256), .int .u8 ((k : Int) / 65536 % 256), .int .u8 ((k : Int) / 16777216)] 5) = w' := by
  clear Hc;go_enter Tryz.func78, Tryz.ntmps78
  go_wp2
  go_ret
  exact ⟨rfl, rfl⟩
 refine key.mono ?_;rintro e w' ⟨rfl, rfl⟩
 go_wp2
 go_ret
 exact ⟨rfl, rfl⟩
theorem zFv {W : World} {B : Nat} {n : Int} (k : Nat) (hn : n = (k : Int)) (hk : k < 4294967296) (h : W.heap[B]? = some (.cells (zB1 n) 5 (0, 0))) : Bytes W (.slice (some ⟨B, 0, none⟩) 4 4) (le4 k) := by
 subst hn;have e : ((k : Int) % 4294967296).toNat = k := by omega
 unfold zB1 at h;rw [e] at h;refine ⟨_, 4, rfl, Nat.le_refl _, by decide, (fun h => by cases h), fun i hi => ⟨B, 0, rfl, ?_⟩⟩;rw [Nat.zero_add, cell_of_row W B i _ 5 (0, 0) h, List.getElem?_toArray, zDd _ i hi]
theorem rows_lit2 {W : World} {g : Nat} {v u : Value} {l m : List UInt8} {t : TypeId} (hb : Bytes W v l) (hm : Bytes W u m) (hh : W.heap[g]? = some (.cells #[v, u] t (0, 0))) : Rows' W (.slice (some ⟨g, 0, none⟩) 2 2) [l, m] := by
 refine ⟨_, 2, rfl, by simp, fun i hi => ?_⟩
 match i, hi with
 | 0, _ => exact ⟨g, 0, v, rfl, by simp only [World.cell?, hh]; rfl, hb⟩
 | 1, _ => exact ⟨g, 0, u, rfl, by simp only [World.cell?, hh]; rfl, hm⟩
theorem rows_lit5 {W : World} {g : Nat} {v1 v2 v3 v4 v5 : Value} {l1 l2 l3 l4 l5 : List UInt8} {t : TypeId} (h1 : Bytes W v1 l1) (h2 : Bytes W v2 l2) (h3 : Bytes W v3 l3) (h4 : Bytes W v4 l4) (h5 : Bytes W v5 l5)
  (hh : W.heap[g]? = some (.cells #[v1, v2, v3, v4, v5] t (0, 0))) : Rows' W (.slice (some ⟨g, 0, none⟩) 5 5) [l1, l2, l3, l4, l5] := by
 refine ⟨_, 5, rfl, by simp, fun i hi => ?_⟩
 match i, hi with
 | 0, _ => exact ⟨g, 0, v1, rfl, by simp only [World.cell?, hh]; rfl, h1⟩
 | 1, _ => exact ⟨g, 0, v2, rfl, by simp only [World.cell?, hh]; rfl, h2⟩
 | 2, _ => exact ⟨g, 0, v3, rfl, by simp only [World.cell?, hh]; rfl, h3⟩
 | 3, _ => exact ⟨g, 0, v4, rfl, by simp only [World.cell?, hh]; rfl, h4⟩
 | 4, _ => exact ⟨g, 0, v5, rfl, by simp only [World.cell?, hh]; rfl, h5⟩
theorem zCl (w : World) (o : Obj) (k : Nat) (h : k = w.heap.size) : (w.alloc o).heap[k]? = some o := by subst h; exact heap_alloc_new w o
theorem zC8 (w : World) (o : Obj) (k : Nat) (h : k < w.heap.size) : (w.alloc o).heap[k]? = w.heap[k]? := Below.heap_alloc w o k h
theorem size_alloc (w : World) (o : Obj) : (w.alloc o).heap.size = w.heap.size + 1 := by simp
theorem hx0 (w : World) (a b c : Obj) : (((w.alloc a).alloc b).alloc c).heap[w.heap.size]? = some a :=
 ((zC8 _ _ _ (by simp; omega)).trans (zC8 _ _ _ (by simp))).trans (zCl _ _ _ rfl)
theorem hx1 (w : World) (a b c : Obj) : (((w.alloc a).alloc b).alloc c).heap[w.heap.size + 1]? = some b :=
 (zC8 _ _ _ (by simp)).trans (zCl _ _ _ (by simp))
theorem hx2 (w : World) (a b c : Obj) : (((w.alloc a).alloc b).alloc c).heap[w.heap.size + 1 + 1]? = some c := zCl _ _ _ (by simp)
theorem hx3 (w : World) (a b c d : Obj) : ((((w.alloc a).alloc b).alloc c).alloc d).heap[w.heap.size + 1 + 1 + 1]? = some d := zCl _ _ _ (by simp)
theorem hx4 (w : World) (a b c d e : Obj) : (((((w.alloc a).alloc b).alloc c).alloc d).alloc e).heap[w.heap.size + 1 + 1 + 1 + 1]? = some e := zCl _ _ _ (by simp)
theorem hxo (w : World) (x : Obj) {k : Nat} {o : Obj} (h : w.heap[k]? = some o) : (w.alloc x).heap[k]? = some o :=
 (zC8 _ _ _ (Array.getElem?_eq_some_iff.1 h).1).trans h
theorem hd0 (w : World) (a b c : Obj) : (((w.alloc a).alloc b).alloc c).drew.heap[w.heap.size]? = some a := hx0 w a b c
theorem hd1 (w : World) (a b c : Obj) : (((w.alloc a).alloc b).alloc c).drew.heap[w.heap.size + 1]? = some b := hx1 w a b c
theorem hd2 (w : World) (a b c : Obj) : (((w.alloc a).alloc b).alloc c).drew.heap[w.heap.size + 1 + 1]? = some c := hx2 w a b c
theorem hy (w : World) (a b c d e : Obj) : (((((w.alloc a).alloc b).alloc c).alloc d).alloc e).drew.heap[w.heap.size]? = some a ∧ (((((w.alloc a).alloc b).alloc c).alloc d).alloc e).drew.heap[w.heap.size + 1]? = some b ∧
  (((((w.alloc a).alloc b).alloc c).alloc d).alloc e).drew.heap[w.heap.size + 1 + 1]? = some c ∧ (((((w.alloc a).alloc b).alloc c).alloc d).alloc e).drew.heap[w.heap.size + 1 + 1 + 1]? = some d ∧ (((((w.alloc a).alloc b).alloc c).alloc d).alloc e).drew.heap[w.heap.size + 1 + 1 + 1 + 1]? = some e :=
 ⟨hxo _ _ (hxo _ _ (hx0 w a b c)), hxo _ _ (hxo _ _ (hx1 w a b c)), hxo _ _ (hxo _ _ (hx2 w a b c)), hxo _ _ (hx3 w a b c d), hx4 w a b c d e⟩
theorem zBa (n : Nat) : (le4 n).length = 4 := rfl
theorem zP7 (x y : Nat) (hx : x < 4294967296) (hy : y < 4294967296) (W : World) (g B1 B2 : Nat) (h1 : W.heap[B1]? = some (.cells (zB1 x) 5 (0, 0))) (h2 : W.heap[B2]? = some (.cells (zB1 y) 5 (0, 0)))
  (h3 : W.heap[g]? = some (.cells #[.slice (some ⟨B1, 0, none⟩) 4 4, .slice (some ⟨B2, 0, none⟩) 4 4] 108 (0, 0))) :
  Calls Tryz.prog 76 #[.slice (some ⟨g, 0, none⟩) 2 2] W fun e w' => ∃ a c, e = .returned (.slice a 8 c) ∧ Ext W w' ∧ Hid (Bytes w' (.slice a 8 c) (le4 x ++ le4 y)) := by
 refine (zGp [le4 x, le4 y] _ _ (rows_lit2 (zFv x rfl hx h1) (zFv y rfl hy h2) h3) (by simp [zBa])).mono ?_;rintro e w' ⟨v, rfl, f⟩;have e8 : ([le4 x, le4 y] : List (List UInt8)).flatten = le4 x ++ le4 y := by simp
 rw [e8] at f;have hb := f.bytes;have hb2 := zh hb;obtain ⟨a, c, rfl, -⟩ := hb;exact ⟨a, c, rfl, f.1, hb2⟩
theorem Pack_five (n x y z : Nat) (b : List UInt8) (bv : Value) (hn : n < 4294967296) (hx : x < 4294967296) (hy : y < 4294967296) (hz : z < 4294967296) (hbl : b.length ≤ 4096) (W : World) (g B1 B2 B3 B4 : Nat)
  (h1 : W.heap[B1]? = some (.cells (zB1 n) 5 (0, 0))) (h2 : W.heap[B2]? = some (.cells (zB1 x) 5 (0, 0))) (h3 : W.heap[B3]? = some (.cells (zB1 y) 5 (0, 0))) (h4 : W.heap[B4]? = some (.cells (zB1 z) 5 (0, 0)))
  (hb : Bytes W bv b)
  (h5 : W.heap[g]? = some (.cells #[.slice (some ⟨B1, 0, none⟩) 4 4, .slice (some ⟨B2, 0, none⟩) 4 4, .slice (some ⟨B3, 0, none⟩) 4 4, .slice (some ⟨B4, 0, none⟩) 4 4, bv] 108 (0, 0))) :
  Calls Tryz.prog 76 #[.slice (some ⟨g, 0, none⟩) 5 5] W fun e w' => ∃ v, e = .returned v ∧ Fresh W w' v (le4 n ++ le4 x ++ le4 y ++ le4 z ++ b) := by
 refine (zGp [le4 n, le4 x, le4 y, le4 z, b] _ _ (rows_lit5 (zFv n rfl hn h1) (zFv x rfl hx h2) (zFv y rfl hy h3) (zFv z rfl hz h4) hb h5) (by simp [zBa]; omega)).mono ?_;rintro e w' ⟨v, rfl, f⟩;have e8 : ([le4 n, le4 x, le4 y, le4 z, b] : List (List UInt8)).flatten = le4 n ++ le4 x ++ le4 y ++ le4 z ++ b := by simp
 rw [e8] at f;exact ⟨v, rfl, f⟩
end
end Go.Proofs.YtgnjjfdfoibdiaaGreatDoor
