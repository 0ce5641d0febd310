/- A part of the proof of WholeUsers. -/
import Derived.BigQuiet
import Derived.Deep.QuietTactic
import Derived.Laws.BytesArg
import Derived.Laws.IdiomStrings
import Derived.WalkLawsBesides
import Derived.Test.YtgnjjfdfoibdiaaGreatDoorUab
set_option linter.all false
namespace Go.Proofs.YtgnjjfdfoibdiaaGreatDoor
section
open Go.RowKit
set_option maxRecDepth 100000
def le4 (n : Nat) : List UInt8 := [UInt8.ofNat n, UInt8.ofNat (n / 256), UInt8.ofNat (n / 65536), UInt8.ofNat (n / 16777216)]
def Fresh (w w' : World) (v : Value) (l : List UInt8) : Prop := Ext w w' ∧ OwnBytes w' w.heap.size v l
theorem Fresh.bytes {w w' : World} {v : Value} {l : List UInt8} (h : Fresh w w' v l) : Bytes w' v l := h.2.bytes
theorem le4_own (n : Nat) (hn : n < 4294967296) (w : World) : OwnBytes (w.alloc (.cells #[.int .u8 ((n : Int) % 256), .int .u8 ((n : Int) / 256 % 256), .int .u8 ((n : Int) / 65536 % 256), .int .u8 ((n : Int) / 16777216)] 5)) w.heap.size (.slice (some ⟨w.heap.size, 0, none⟩) 4 4) (le4 n) := by
 have h := World.ownsRow_lit (base := w.heap.size) (e := 5) (size := 1) w #[.int .u8 ((n : Int) % 256), .int .u8 ((n : Int) / 256 % 256), .int .u8 ((n : Int) / 65536 % 256), .int .u8 ((n : Int) / 16777216)] 4 (Nat.le_refl _) (by decide) rfl;unfold OwnBytes
 have e : zAa (le4 n) = #[(.int .u8 ((n : Int) % 256) : Value), .int .u8 ((n : Int) / 256 % 256), .int .u8 ((n : Int) / 65536 % 256), .int .u8 ((n : Int) / 16777216)].toList := by
  simp [zAa, le4]; omega
 rw [e];exact h
theorem zOt (n : Nat) (hn : n < 4294967296) (w : World) :
  Calls Tryz.prog 78 #[.int .u32 n] w fun e w' => ∃ v, e = .returned v ∧ Fresh w w' v (le4 n) := by
 have own := zh (le4_own n hn w);go_enter Tryz.func78, Tryz.ntmps78
 go_wp2
 go_ret
 exact ⟨_, rfl, (xr w).alloc _, own.out⟩
theorem append_types {P : Program} (w : World) (t t2 ty e e2 : TypeId) (ht : P.underlying t = some (.slice e)) (h2 : P.underlying t2 = some (.slice e2)) (v u : Value) :
  (Builtin.append_ #[t, t2] ty #[v, u]).run P w = (Builtin.append_ #[t, t] ty #[v, u]).run P w := by
 cases v <;> simp [Builtin.append_, Sem.run_bind, run_underlying ht, run_underlying h2]
theorem Num_any (n : Int) (w : World) :
  Calls Tryz.prog 36 #[.int .i64 n] w fun e w' => ∃ v, e = .returned v ∧ Fresh w w' v (le4 (n % 4294967296).toNat) := by
 have hb : (n % 4294967296).toNat < 4294967296 := by omega
 have hc : n % 4294967296 = ((n % 4294967296).toNat : Int) := by omega
 have Hc := zh hc;clear hc;go_enter Tryz.func36, Tryz.ntmps36
 go_wp2_with fail
 rw [Hc.out];refine (zOt _ hb _).mono ?_;rintro e w' ⟨v, rfl, f⟩;have F := zh f;clear f
 go_wp2
 go_ret
 exact ⟨_, rfl, F.out⟩
theorem Raw_any (l : List UInt8) (v : Value) (w : World) (hb : Bytes w v l) (hl : l.length ≤ 16777216) :
  Calls Tryz.prog 75 #[v] w fun e w' => ∃ v, e = .returned v ∧ Fresh w w' v (le4 l.length ++ l) := by
 have hb0 := zh hb;obtain ⟨a, cap, rfl, hlc, hlm, -, -⟩ := hb;go_enter Tryz.func75, Tryz.ntmps75
 go_wp2_with fail
 refine (zOt l.length (by omega) _).mono ?_;rintro e w1 ⟨v1, rfl, f⟩;have F := zh f;have hsz := f.1.size;clear f
 go_wp2_with (at_builtin; refine zEr _ rfl (.tmp 6) (.tmp 7) 23 rfl Tryz.underlying23 w.heap.size _ _ rfl rfl (le4 l.length) l F.out.2 (hb0.out.below F.out.1 (Nat.le_refl _)) (by simp [le4]; omega) hsz ?_)
 intro v2 w2 o2 g2 n2;have E := zh (F.out.1.grown g2 hsz (fun k hk => (F.out.2.lt k hk).1));have O := zh o2;clear o2 g2 n2
 go_wp2
 go_ret
 exact ⟨_, rfl, E.out, O.out⟩
def Rows' (w : World) (v : Value) (ls : List (List UInt8)) : Prop :=
 ∃ a cap, v = .slice a ls.length cap ∧ ls.length ≤ 9223372036854775807 ∧ ∀ i, (h : i < ls.length) → ∃ b o u, a = some ⟨b, o, none⟩ ∧ w.cell? ⟨b, o + i, none⟩ = some u ∧ Bytes w u ls[i]
theorem Rows'.ext {w w' : World} {v : Value} {ls : List (List UInt8)} (h : Rows' w v ls) (hb : Ext w w') : Rows' w' v ls := by
 obtain ⟨a, cap, rfl, hl, hc⟩ := h;refine ⟨a, cap, rfl, hl, fun i hi => ?_⟩;obtain ⟨b, o, u, rfl, hcell, hu⟩ := hc i hi;exact ⟨b, o, u, rfl, hb.cell hcell, hu.below hb (Nat.le_refl _)⟩
theorem Bytes.ext {w w' : World} {v : Value} {l : List UInt8} (h : Bytes w v l) (hb : Ext w w') : Bytes w' v l := h.below hb (Nat.le_refl _)
theorem Fresh.after {a b c : World} {v : Value} {l : List UInt8} (h : Ext a b) (f : Fresh b c v l) : Fresh a c v l := ⟨h.trans f.1, f.2.le h.size⟩
theorem zEd (w : World) {ops : Array Oper} {rest : List Oper} {o : Oper} {a : Act} {Q : Exit → Act → World → Prop}
  (hg : o.guard = none) (s x : Operand) (t t2 : TypeId) (e2 : TypeId) (hop : o.op = Op.call { callee := Callee.builtin Builtin.append, args := #[s, x], argTypes := #[t, t2] })
  (ht : Tryz.prog.underlying t = some (.slice 5)) (ht2 : Tryz.prog.underlying t2 = some (.slice e2)) (base : Nat) (v u : Value) (hs : a.eval s = v) (hx : a.eval x = u) (l m : List UInt8) (hown : OwnBytes w base v l) (hb : Bytes w u m)
  (hlen : l.length + m.length ≤ 140737488355328) (hbase : base ≤ w.heap.size)
  (hK : ∀ v' w', OwnBytes w' base v' (l ++ m) → w.grownBy w' v.ownBlock → zB8 w v v' → wpList Tryz.prog ops Q rest (a.put o.dst v') w') :
  wpList Tryz.prog ops Q (o :: rest) a w := by
 obtain ⟨i0, hi, hz0, hz1, hz2⟩ := info_parts zF5;refine wpList_plain hg fun K hK' => ?_
 obtain ⟨v', w', hrun, r1, r2, r3⟩ := zFg (P := Tryz.prog) w base t o.type 5 i0 _ 1 1 ht hi hz0 hz1 hz2 rfl (by decide) v l.length (zAa l) hown u m.length (zAa m) (by simp [zAc]) hb.src (zAm m) (by unfold maxLen; omega) (by omega) hbase;rw [← append_types w t t2 o.type 5 e2 ht ht2] at hrun;unfold Oper.wp;simp [execOp, hop, resolve, invoke, builtin, hs, hx, hrun, Result.andThen];exact hK' _ _ (hK _ _ (by unfold OwnBytes; rw [List.length_append, zEw]; exact r1) r2 r3)
theorem zKh (ls : List (List UInt8)) (k : Nat) (h : k < ls.length) : (ls.take (k + 1)).flatten = (ls.take k).flatten ++ ls[k] := by
 rw [List.take_succ_eq_append_getElem h, List.flatten_append]; simp
theorem zM2 (ls : List (List UInt8)) (k : Nat) : (ls.take k).flatten.length ≤ ls.flatten.length := by
 conv => rhs; rw [← List.take_append_drop k ls, List.flatten_append, List.length_append]
 omega
set_option maxHeartbeats 1000000 in
theorem zGp (ls : List (List UInt8)) (v : Value) (w : World) (hr : Rows' w v ls) (hl : ls.flatten.length ≤ 16777216) :
  Calls Tryz.prog 76 #[v] w fun e w' => ∃ v, e = .returned v ∧ Fresh w w' v ls.flatten := by
 have hr0 := zh hr;obtain ⟨a, cap, rfl, hlm, -⟩ := hr;go_enter Tryz.func76, Tryz.ntmps76
 go_wp2
 go_loopw [3, 8] (fun v i wr => ∃ k : Nat, k ≤ ls.length ∧ i = .int .i64 k ∧ Fresh w wr v (ls.take k).flatten) (fun _ i _ => ls.length - (intOf i).toNat)
 case atStart => exact ⟨0, Nat.zero_le _, rfl, xr _, OwnBytes.nil _ _⟩
 case round =>
  obtain ⟨k, hk, rfl, f⟩ := hrel;have F := zh f;have hsz := f.1.size;clear f
  by_cases hlt : k < ls.length
  ·obtain ⟨a', cap', e1, -, hc⟩ := hr0.out.ext F.out.1;simp only [Value.slice.injEq] at e1;obtain ⟨rfl, -, rfl⟩ := e1;obtain ⟨b, o, u, rfl, hcell, hu⟩ := hc k hlt;have hs := zh (zKh ls k hlt);have h1 := zM2 ls (k + 1);rw [hs.out, List.length_append] at h1;have Hu := zh hu;have H1 := zh h1;obtain ⟨au, nu, cu, rfl⟩ : ∃ au nu cu, u = .slice au nu cu := by obtain ⟨x, y, rfl, _⟩ := hu; exact ⟨_, _, _, rfl⟩
   clear hc hu h1
   go_wp2_with (at_builtin; refine zEd _ rfl (.tmp 12) (.tmp 13) 23 108 5 rfl Tryz.underlying23 Tryz.underlying108 w.heap.size _ _ rfl rfl _ _ F.out.2 Hu.out (by have := H1.out; omega) hsz ?_)
   intro v2 w2 o2 g2 n2
   have f2 : Fresh w w2 v2 (ls.take (k + 1)).flatten := ⟨F.out.1.grown g2 hsz (fun q hq => (F.out.2.lt q hq).1), by rw [hs.out]; exact o2⟩
   clear o2 g2 n2
   go_wp2
   go_roundw
   case rel => exact ⟨k + 1, by omega, by go_num, f2⟩
   case measure => simp [intOf]; omega
  ·have hkl : k = ls.length := by omega
   subst hkl;have ht := zh (show (ls.take ls.length).flatten = ls.flatten by rw [List.take_length])
   go_wp2
   go_ret
   exact ⟨_, rfl, by rw [← ht.out]; exact F.out⟩
theorem zMm (w : World) (v : Value) (l : List UInt8) (hb : Bytes w v l) : (convert 23 9 v).run Tryz.prog w = .ok (.string ⟨l.toArray⟩) w := by
 obtain ⟨a, cap, rfl, hl, hm, hn, hc⟩ := hb
 cases a with
 | none =>
   obtain rfl := hn rfl;obtain rfl : l = [] := List.eq_nil_of_length_eq_zero (by omega);exact run_convert_bytes_nil w 23 5 Tryz.underlying23 Tryz.underlying5 _ _ 9 Tryz.underlying9
 | some ad =>
   refine run_convert_bytes_back w 23 9 5 ad cap l Tryz.underlying23 Tryz.underlying5 Tryz.underlying9 (fun j hj => ?_);obtain ⟨b, o, he, hcell⟩ := hc j hj;obtain rfl := Option.some.inj he;rw [Addr.add_lit]; exact hcell
theorem run_sb (w : World) (l : List UInt8) (hl : l.length ≤ 16777216) : ∃ v' w', (convert 9 23 (.string ⟨l.toArray⟩)).run Tryz.prog w = .ok v' w' ∧ Ext w w' ∧ Bytes w' v' l := by
 refine ⟨_, _, run_bytes_of_string w 9 23 5 ⟨l.toArray⟩ Tryz.underlying9 Tryz.underlying23 Tryz.underlying5, (xr w).drew.alloc _, ?_⟩;have hsz : (⟨l.toArray⟩ : ByteArray).size = l.length := by simp [ByteArray.size]
 have hge := grownCap_ge w l.length 0 5;have hcm := grownCap_le_maxLen w l.length 0 5 (by unfold maxLen; omega);rw [hsz];refine ⟨_, grownCap w l.length 0 5, rfl, hge, by unfold maxLen at hcm; omega, (fun h => by cases h), fun i hi => ⟨_, _, rfl, ?_⟩⟩
 have hh : (w.drew.alloc (.cells (bytesRow ⟨l.toArray⟩ (grownCap w l.length 0 5)) 5 ((bytesRow ⟨l.toArray⟩ (grownCap w l.length 0 5)).size, (bytesRow ⟨l.toArray⟩ (grownCap w l.length 0 5)).size + 1))).heap[w.heap.size]? =
   some (.cells (bytesRow ⟨l.toArray⟩ (grownCap w l.length 0 5)) 5 ((bytesRow ⟨l.toArray⟩ (grownCap w l.length 0 5)).size, (bytesRow ⟨l.toArray⟩ (grownCap w l.length 0 5)).size + 1)) := by
  show (w.heap.push _)[w.heap.size]? = _; simp
 simp only [World.cell?, hh, Nat.zero_add];simp [bytesRow, Array.getElem?_append, hi]
theorem wpList_sb (w : World) {ops : Array Oper} {rest : List Oper} {o : Oper} {a : Act} {Q : Exit → Act → World → Prop}
  (hg : o.guard = none) (x : Operand) (hop : o.op = .convert 9 23 x) (l : List UInt8) (hx : a.eval x = .string ⟨l.toArray⟩) (hl : l.length ≤ 16777216)
  (hK : ∀ v' w', Ext w w' → Bytes w' v' l → wpList Tryz.prog ops Q rest (a.put o.dst v') w') : wpList Tryz.prog ops Q (o :: rest) a w := by
 refine wpList_plain hg fun K hK' => ?_
 obtain ⟨v', w', hrun, r1, r2⟩ := run_sb w l hl;unfold Oper.wp;simp [execOp, hop, hx, hrun, Result.andThen];exact hK' _ _ (hK _ _ r1 r2)
theorem Text_any (l : List UInt8) (w : World) (hl : l.length ≤ 1048576) :
  Calls Tryz.prog 74 #[.string ⟨l.toArray⟩] w fun e w' => ∃ v, e = .returned v ∧ Fresh w w' v (le4 l.length ++ l) := by
 go_enter Tryz.func74, Tryz.ntmps74
 go_wp2_with (refine wpList_sb _ rfl (.tmp 3) rfl l rfl (by omega) ?_)
 intro v1 w1 x1 b1;have X1 := zh x1;have B1 := zh b1;clear x1 b1
 go_wp2_with fail
 refine (Raw_any l _ _ B1.out (by omega)).mono ?_;rintro e w2 ⟨v2, rfl, f⟩;have F := zh f;clear f
 go_wp2
 go_ret
 exact ⟨_, rfl, F.out.after X1.out⟩
theorem List_any (ls : List (List UInt8)) (v : Value) (w : World) (hr : Rows' w v ls) (hl : ls.flatten.length ≤ 16777216) :
  Calls Tryz.prog 77 #[v] w fun e w' => ∃ v, e = .returned v ∧ Fresh w w' v (le4 ls.flatten.length ++ ls.flatten) := by
 go_enter Tryz.func77, Tryz.ntmps77
 go_wp2_with fail
 refine (zGp ls v _ hr hl).mono ?_;rintro e w1 ⟨v1, rfl, f1⟩;have F1 := zh f1;clear f1
 go_wp2_with fail
 refine (Raw_any _ _ _ F1.out.bytes hl).mono ?_;rintro e w2 ⟨v2, rfl, f2⟩;have F2 := zh f2;clear f2
 go_wp2
 go_ret
 exact ⟨_, rfl, F2.out.after F1.out.1⟩
def ReaderAt (w : World) (g : Nat) (l : List UInt8) (bad : Bool) : Prop := ∃ v t, w.heap[g]? = some (.cells #[v, .bool bad] t (0, 0)) ∧ Bytes w v l
abbrev OnlyAt (g : Nat) (w w' : World) : Prop := w.grownBy w' (some g)
theorem OnlyAt.refl (g : Nat) (w : World) : OnlyAt g w w := World.grownBy.refl _ _
theorem OnlyAt.trans {g : Nat} {a b c : World} (h : OnlyAt g a b) (k : OnlyAt g b c) : OnlyAt g a c :=
 ⟨k.os.trans h.os, k.tape.trans h.tape, k.output.trans h.output, Nat.le_trans h.size k.size, fun i hi hne => (k.block i (Nat.lt_of_lt_of_le hi h.size) hne).trans (h.block i hi hne)⟩
theorem OnlyAt.drewN {g : Nat} {a b : World} (h : OnlyAt g a b) (n : Nat) : OnlyAt g a (b.drewN n) := ⟨h.os, h.tape, h.output, h.size, h.block⟩
theorem OnlyAt.set {g : Nat} {a b : World} (h : OnlyAt g a b) (i : Nat) (u : Value) : OnlyAt g a (b.setCell ⟨g, i, none⟩ u) :=
 h.trans ⟨rfl, rfl, rfl, by simp [World.setCell], fun k _ hk => Below.heap_setCell b _ u k (fun e => hk (by rw [e]))⟩
theorem OnlyAt.ext {g : Nat} {a b c : World} (h : OnlyAt g a b) (k : Ext b c) : OnlyAt g a c :=
 h.trans ⟨k.os, k.tape, k.output, k.size, fun i hi _ => k.block i hi⟩
theorem ReaderAt.bytes_ne {w : World} {g : Nat} {l m : List UInt8} {bad : Bool} {a : Option Addr} {n cap : Nat} (h : ReaderAt w g l bad) (hb : Bytes w (.slice a n cap) m) (i : Nat) (hi : i < m.length) : ∃ b o, a = some ⟨b, o, none⟩ ∧ b ≠ g ∧ w.cell? ⟨b, o + i, none⟩ = some (.int .u8 m[i].toNat) := by
 obtain ⟨b, o, rfl, hc⟩ := hb.at i hi;refine ⟨b, o, rfl, ?_, hc⟩;rintro rfl;obtain ⟨v, t, hh, ⟨a', cap', rfl, -⟩⟩ := h;simp only [World.cell?, hh] at hc
 match hq : o + i with
 | 0 => simp [hq] at hc
 | 1 => simp [hq] at hc
 | k + 2 => simp [hq] at hc
theorem Bytes.only {w w' : World} {g : Nat} {l m : List UInt8} {bad : Bool} {u : Value} (hr : ReaderAt w g l bad) (hb : Bytes w u m) (h : OnlyAt g w w') : Bytes w' u m := by
 have hb' := hb;obtain ⟨a, cap, rfl, h1, h2, h3, -⟩ := hb;refine ⟨a, cap, rfl, h1, h2, h3, fun i hi => ?_⟩;obtain ⟨b, o, rfl, hne, hc⟩ := hr.bytes_ne hb' i hi;exact ⟨b, o, rfl, h.cell hc (by simpa using hne)⟩
theorem ReaderAt.other {w w' : World} {g g' : Nat} {l m : List UInt8} {bad bad' : Bool} (hr : ReaderAt w g l bad) (hr' : ReaderAt w g' m bad') (hne : g' ≠ g) (h : OnlyAt g w w') : ReaderAt w' g' m bad' := by
 obtain ⟨v, t, hh, hb⟩ := hr';have hlt := (Array.getElem?_eq_some_iff.1 hh).1;exact ⟨v, t, (h.block g' hlt (by simpa using hne)).trans hh, hb.only hr h⟩
theorem ReaderAt.ext {w w' : World} {g : Nat} {l : List UInt8} {bad : Bool} (h : ReaderAt w g l bad) (k : Ext w w') : ReaderAt w' g l bad := by
 obtain ⟨v, t, hh, hb⟩ := h;exact ⟨v, t, (k.block g (Array.getElem?_eq_some_iff.1 hh).1).trans hh, hb.ext k⟩
theorem ReaderAt.lt {w : World} {g : Nat} {l : List UInt8} {bad : Bool} (h : ReaderAt w g l bad) : g < w.heap.size := by
 obtain ⟨v, t, hh, hb⟩ := h; exact (Array.getElem?_eq_some_iff.1 hh).1
theorem ReaderAt.open {w : World} {g : Nat} {l : List UInt8} {bad : Bool} (h : ReaderAt w g l bad) :
  ∃ a cap, w.cell? ⟨g, 0, none⟩ = some (.slice a l.length cap) ∧ w.cell? ⟨g, 1, none⟩ = some (.bool bad) ∧ w.frozen? ⟨g, 0, none⟩ = false ∧ w.frozen? ⟨g, 1, none⟩ = false ∧ Bytes w (.slice a l.length cap) l ∧ l.length ≤ 9223372036854775807 ∧ l.length ≤ cap := by
 obtain ⟨v, t, hh, hb⟩ := h;have hb' := hb;obtain ⟨a, cap, rfl, h1, h2, h3, -⟩ := hb;exact ⟨a, cap, by simp only [World.cell?, hh]; rfl, by simp only [World.cell?, hh]; rfl, by simp [World.frozen?, hh], by simp [World.frozen?, hh], hb', by omega, h1⟩
theorem zAd (w : World) (g i : Nat) (u : Value) (cs : Array Value) (t : TypeId) (fz : Nat × Nat) (h : w.heap[g]? = some (.cells cs t fz)) : (w.setCell ⟨g, i, none⟩ u).heap[g]? = some (.cells (cs.setIfInBounds i u) t fz) := by
 simp only [World.setCell, Array.getElem?_modify, if_true, h, Option.map_some]; rfl
theorem ReaderAt.set0 {w : World} {g : Nat} {l m : List UInt8} {bad : Bool} (h : ReaderAt w g l bad) (u : Value) (hu : Bytes w u m) : ReaderAt (w.setCell ⟨g, 0, none⟩ u) g m bad := by
 have h' := h;obtain ⟨v, t, hh, -⟩ := h;exact ⟨u, t, zAd w g 0 u _ t _ hh, hu.only h' ((OnlyAt.refl g w).set 0 u)⟩
theorem ReaderAt.set1 {w : World} {g : Nat} {l : List UInt8} {bad : Bool} (h : ReaderAt w g l bad) (b : Bool) : ReaderAt (w.setCell ⟨g, 1, none⟩ (.bool b)) g l b := by
 have h' := h;obtain ⟨v, t, hh, hb⟩ := h;exact ⟨v, t, zAd w g 1 _ _ t _ hh, hb.only h' ((OnlyAt.refl g w).set 1 _)⟩
theorem ReaderAt.new (w : World) (v : Value) (l : List UInt8) (bad : Bool) (hb : Bytes w v l) (t : TypeId) : ReaderAt (w.alloc (.cells #[v, .bool bad] t)) w.heap.size l bad :=
 ⟨v, t, by rw [alloc_get, if_pos rfl], hb.alloc _⟩
theorem zKv (w : World) : Bytes w (.slice none 0 0) [] := ⟨none, 0, rfl, by simp, by simp, fun _ => rfl, fun i hi => absurd hi (by simp)⟩
theorem zJv (l : List UInt8) (v : Value) (w : World) (hb : Bytes w v l) (hl : l.length ≤ 16777216) :
  Calls Tryz.prog 79 #[v] w fun e w' => ∃ g, e = .returned (.pointer (some ⟨g, 0, none⟩)) ∧ w.heap.size ≤ g ∧ Ext w w' ∧ ReaderAt w' g l false := by
 have hb0 := zh hb;obtain ⟨a, cap, rfl, -⟩ := hb;go_enter Tryz.func79, Tryz.ntmps79
 go_wp2_with (at_builtin; refine zA1 _ rfl (.const (.slice none 0 0)) (.tmp 3) 23 rfl Tryz.underlying23 _ _ rfl rfl l hb0.out (by omega) ?_)
 intro v1 w1 f1;have X1 : Hid (Ext w w1) := f1.below;have hsz := f1.grown.size;have B1 := zh f1.bytes;have F1 := B1.out;clear f1;obtain ⟨a1, c1, rfl, -⟩ := F1;have R := zh (ReaderAt.new w1 _ l false B1.out 239)
 go_wp2
 go_ret
 exact ⟨_, rfl, hsz, X1.out.alloc _, R.out⟩
theorem zH9 (g : Nat) (l : List UInt8) (bad : Bool) (w : World) (h : ReaderAt w g l bad) :
  Calls Tryz.prog 214 #[.pointer (some ⟨g, 0, none⟩)] w fun e w' => e = .returned (.bool (!bad)) ∧ w = w' := by
 obtain ⟨a, cap, c0, c1, -, -, -, hl, -⟩ := h.open;clear h;go_enter Tryz.func214, Tryz.ntmps214
 go_wp2
 go_ret
 exact ⟨rfl, rfl⟩
theorem zL9 (g : Nat) (l : List UInt8) (bad : Bool) (w : World) (h : ReaderAt w g l bad) :
  Calls Tryz.prog 149 #[.pointer (some ⟨g, 0, none⟩)] w fun e w' => e = .returned (.bool (!l.isEmpty)) ∧ w = w' := by
 obtain ⟨a, cap, c0, c1, -, -, -, hl, -⟩ := h.open;clear h
 have e : decide (0 < l.length) = !l.isEmpty := by cases l <;> simp
 have E := zh e;clear e;go_enter Tryz.func149, Tryz.ntmps149
 go_wp2
 go_ret
 exact ⟨congrArg (fun x => Ending.returned (.bool x)) E.out, rfl⟩
theorem Done_any (g : Nat) (l : List UInt8) (bad : Bool) (w : World) (h : ReaderAt w g l bad) :
  Calls Tryz.prog 92 #[.pointer (some ⟨g, 0, none⟩)] w fun e w' => e = .returned (.bool (!bad && l.isEmpty)) ∧ w = w' := by
 obtain ⟨a, cap, c0, c1, -, -, -, hl, -⟩ := h.open;clear h
 have e : ((l.length : Int) == 0) = l.isEmpty := by cases l <;> simp <;> omega
 have E := zh e;clear e;cases bad
 ·go_enter Tryz.func92, Tryz.ntmps92
  go_wp2
  go_ret
  exact ⟨by rw [← E.out]; simp, rfl⟩
 ·go_enter Tryz.func92, Tryz.ntmps92
  go_wp2
  go_ret
  exact ⟨rfl, rfl⟩
theorem zH8 (g : Nat) (l : List UInt8) (bad : Bool) (most : Int) (w : World) (h : ReaderAt w g l bad) (hl : l.length < 4) :
  Calls Tryz.prog 80 #[.pointer (some ⟨g, 0, none⟩), .int .i64 most] w fun e w' => e = .returned (.int .i64 0) ∧ (OnlyAt g w w' ∧ ReaderAt w' g [] true) ∧ w'.heap.size = w.heap.size := by
 have R := zh ((h.set1 true).set0 _ (zKv _));have O := zh (((OnlyAt.refl g w).set 1 (.bool true)).set 0 (.slice none 0 0));obtain ⟨a, cap, c0, c1, f0, f1, -, -, -⟩ := h.open;clear h;go_enter Tryz.func80, Tryz.ntmps80
 go_wp2
 go_ret
 exact ⟨rfl, ⟨O.out, R.out⟩, by simp [World.setCell]⟩
theorem or_le (a b c d : UInt8) : bits .or .u32 (bits .or .u32 (bits .or .u32 ((a.toNat : Int) % 4294967296) ((b.toNat : Int) % 4294967296 * 256 % 4294967296)) ((c.toNat : Int) % 4294967296 * 65536 % 4294967296)) ((d.toNat : Int) % 4294967296 * 16777216 % 4294967296) =
  ((a.toNat + 256 * b.toNat + 65536 * c.toNat + 16777216 * d.toNat : Nat) : Int) := by
 have ha := a.toNat_lt;have hb := b.toNat_lt;have hc := c.toNat_lt;have hd := d.toNat_lt
 have e1 : bits .or .u32 ((a.toNat : Int) % 4294967296) ((b.toNat : Int) % 4294967296 * 256 % 4294967296) = ((a.toNat + 256 * b.toNat : Nat) : Int) := by
  rw [show ((a.toNat : Int) % 4294967296) = (a.toNat : Int) by omega, show ((b.toNat : Int) % 4294967296 * 256 % 4294967296) = ((256 * b.toNat : Nat) : Int) by omega, u32_or_nat _ _ (by omega) (by omega), Nat.or_comm,
   nat_join 8 _ _ (by omega) (by omega)]
  omega
 have e2 : bits .or .u32 ((a.toNat + 256 * b.toNat : Nat) : Int) ((c.toNat : Int) % 4294967296 * 65536 % 4294967296) = ((a.toNat + 256 * b.toNat + 65536 * c.toNat : Nat) : Int) := by
  rw [show ((c.toNat : Int) % 4294967296 * 65536 % 4294967296) = ((65536 * c.toNat : Nat) : Int) by omega, u32_or_nat _ _ (by omega) (by omega), Nat.or_comm,
   nat_join 16 _ _ (by omega) (by omega)]
  omega
 have e3 : bits .or .u32 ((a.toNat + 256 * b.toNat + 65536 * c.toNat : Nat) : Int) ((d.toNat : Int) % 4294967296 * 16777216 % 4294967296) = ((a.toNat + 256 * b.toNat + 65536 * c.toNat + 16777216 * d.toNat : Nat) : Int) := by
  rw [show ((d.toNat : Int) % 4294967296 * 16777216 % 4294967296) = ((16777216 * d.toNat : Nat) : Int) by omega, u32_or_nat _ _ (by omega) (by omega), Nat.or_comm,
   nat_join 24 _ _ (by omega) (by omega)]
  omega
 rw [e1, e2, e3]
def num4 (a b c d : UInt8) : Nat := a.toNat + 256 * b.toNat + 65536 * c.toNat + 16777216 * d.toNat
theorem num4_lt (a b c d : UInt8) : num4 a b c d < 4294967296 := by
 have ha := a.toNat_lt;have hb := b.toNat_lt;have hc := c.toNat_lt;have hd := d.toNat_lt;unfold num4; omega
def numPost (g : Nat) (n : Nat) (r : List UInt8) (bad : Bool) (most : Int) (w : World) (e : Ending) (w' : World) : Prop :=
 OnlyAt g w w' ∧ (((n : Int) ≤ most ∧ e = .returned (.int .i64 n) ∧ ReaderAt w' g r bad) ∨ (most < (n : Int) ∧ e = .returned (.int .i64 0) ∧ ReaderAt w' g [] true))
def numPost2 (g : Nat) (n : Nat) (r : List UInt8) (bad : Bool) (most : Int) (w : World) (e : Ending) (w' : World) : Prop := numPost g n r bad most w e w' ∧ w'.heap.size = w.heap.size
set_option maxHeartbeats 1000000 in
theorem Num_long2 (g : Nat) (a b c d : UInt8) (r : List UInt8) (bad : Bool) (most : Int) (w : World) (h : ReaderAt w g (a :: b :: c :: d :: r) bad) (hm : 0 ≤ most ∧ most ≤ 9223372036854775807) :
  Calls Tryz.prog 80 #[.pointer (some ⟨g, 0, none⟩), .int .i64 most] w (numPost2 g (num4 a b c d) r bad most w) := by
 obtain ⟨ad, cap, c0, c1, f0, f1, hb, hlen, hcap⟩ := h.open;obtain ⟨bb, oo, rfl, hne, d0⟩ := h.bytes_ne hb 0 (by simp);obtain ⟨_, _, e1, -, d1⟩ := h.bytes_ne hb 1 (by simp);obtain ⟨_, _, e2, -, d2⟩ := h.bytes_ne hb 2 (by simp);obtain ⟨_, _, e3, -, d3⟩ := h.bytes_ne hb 3 (by simp);cases e1;cases e2;cases e3;simp only [List.getElem_cons_zero, List.getElem_cons_succ, Nat.add_zero] at d0 d1 d2 d3;have hn4 : (a :: b :: c :: d :: r).length = r.length + 4 := by simp
 have hdrop : r.length = 0 → Hid (cap = 4 → True) := fun _ _ => trivial
 have Hb := zh hb;have h0 := zh h;have hN := num4_lt a b c d;have hor : bits .or .u32 (bits .or .u32 (bits .or .u32 ((a.toNat : Int) % 4294967296) ((b.toNat : Int) % 4294967296 * 256 % 4294967296)) ((c.toNat : Int) % 4294967296 * 65536 % 4294967296)) ((d.toNat : Int) % 4294967296 * 16777216 % 4294967296) = (num4 a b c d : Int) := or_le a b c d;have Hor := zh hor;rw [hn4] at c0 hlen hcap;have q1 : (0 : Int) < ((r.length + 4 : Nat) : Int) := by omega
 have q2 : (1 : Int) < ((r.length + 4 : Nat) : Int) := by omega
 have q3 : (2 : Int) < ((r.length + 4 : Nat) : Int) := by omega
 have q4 : (3 : Int) < ((r.length + 4 : Nat) : Int) := by omega
 have q5 : ¬ ((r.length + 4 : Nat) : Int) < 4 := by omega
 have q6 : 4 ≤ r.length + 4 := by omega
 generalize num4 a b c d = N at *;generalize hln : r.length + 4 = n at c0 hlen hcap q1 q2 q3 q4 q5 q6;have Hln := zh hln
 obtain ⟨V, hV, hVb⟩ : ∃ V, V = Go.sliced (some ⟨bb, oo, none⟩) 4 n cap 1 ∧ Hid (ReaderAt (w.setCell ⟨g, 0, none⟩ V) g r bad) := by
  refine ⟨_, rfl, h.set0 _ ?_⟩;have := hb.sliced 4 n (by omega) (by simp; omega) _ rfl;rw [List.take_of_length_le (by simp; omega)] at this;simpa using this
 have O1 := zh (fun nq => ((OnlyAt.refl g w).drewN nq).set 0 V);have O2 := zh (fun nq => ((O1.out nq).set 1 (.bool true)).set 0 (.slice none 0 0));have R2 := zh ((hVb.out.set1 true).set0 _ (zKv _));clear h hb hor hn4 hln hdrop h0 Hb
 by_cases hc4 : cap = 4
 ·subst hc4;have hV2 : V = .slice (some ⟨bb, oo, none⟩) 0 0 := by rw [hV]; simp [Go.sliced]; omega
  clear hV;subst hV2
  by_cases hm : most < (N : Int)
  ·go_enter Tryz.func80, Tryz.ntmps80
   go_wp2_with fail
   go_quiet (fail)
   rw [Hor.out];clear d0 d1 d2 d3 q1 q2 q3 q4 q5
   go_wp2_with fail
   go_ret
   exact ⟨⟨O2.out _, Or.inr ⟨hm, rfl, R2.out⟩⟩, by simp [World.setCell, World.drewN]⟩
  ·go_enter Tryz.func80, Tryz.ntmps80
   go_wp2_with fail
   go_quiet (fail)
   rw [Hor.out];clear d0 d1 d2 d3 q1 q2 q3 q4 q5
   go_wp2_with fail
   go_ret
   exact ⟨⟨O1.out _, Or.inl ⟨by omega, rfl, hVb.out⟩⟩, by simp [World.setCell, World.drewN]⟩
 ·have hV2 : V = .slice (some ⟨bb, oo + 4, none⟩) (n - 4) (cap - 4) := by rw [hV]; simp [Go.sliced, hc4, Addr.add_lit]
  clear hV;subst hV2
  by_cases hm : most < (N : Int)
  ·go_enter Tryz.func80, Tryz.ntmps80
   go_wp2_with fail
   go_quiet (fail)
   rw [Hor.out];clear d0 d1 d2 d3 q1 q2 q3 q4 q5
   go_wp2_with fail
   go_ret
   exact ⟨⟨O2.out _, Or.inr ⟨hm, rfl, R2.out⟩⟩, by simp [World.setCell, World.drewN]⟩
  ·go_enter Tryz.func80, Tryz.ntmps80
   go_wp2_with fail
   go_quiet (fail)
   rw [Hor.out];clear d0 d1 d2 d3 q1 q2 q3 q4 q5
   go_wp2_with fail
   go_ret
   exact ⟨⟨O1.out _, Or.inl ⟨by omega, rfl, hVb.out⟩⟩, by simp [World.setCell, World.drewN]⟩
def zAh (l : List UInt8) (bad : Bool) (most : Int) : Nat × List UInt8 × Bool :=
 match l with
 | a :: b :: c :: d :: r => if (num4 a b c d : Int) ≤ most then (num4 a b c d, r, bad) else (0, [], true)
 | _ => (0, [], true)
theorem zFw (l : List UInt8) (bad : Bool) (most : Int) : (zAh l bad most).1 < 4294967296 := by
 unfold zAh
 split
 ·split
  ·exact num4_lt _ _ _ _
  ·simp
 ·simp
theorem numRes_len (l : List UInt8) (bad : Bool) (most : Int) : (zAh l bad most).2.1.length ≤ l.length := by
 unfold zAh
 split
 ·split
  ·simp; omega
  ·simp
 ·simp
theorem Num_all2 (g : Nat) (l : List UInt8) (bad : Bool) (most : Int) (w : World) (h : ReaderAt w g l bad) (hm : 0 ≤ most ∧ most ≤ 9223372036854775807) :
  Calls Tryz.prog 80 #[.pointer (some ⟨g, 0, none⟩), .int .i64 most] w fun e w' => e = .returned (.int .i64 ((zAh l bad most).1 : Nat)) ∧ (OnlyAt g w w' ∧ ReaderAt w' g (zAh l bad most).2.1 (zAh l bad most).2.2) ∧ w'.heap.size = w.heap.size := by
 match l, h with
 | a :: b :: c :: d :: r, h =>
   refine (Num_long2 g a b c d r bad most w h hm).mono ?_;rintro e w' ⟨⟨ho, ⟨hle, rfl, hr⟩ | ⟨hlt, rfl, hr⟩⟩, hz⟩
   ·simp only [zAh, if_pos hle]; exact ⟨trivial, ⟨ho, hr⟩, hz⟩
   ·simp only [zAh, if_neg (show ¬ (num4 a b c d : Int) ≤ most by omega)]; exact ⟨rfl, ⟨ho, hr⟩, hz⟩
 | [], h => exact zH8 g _ bad most w h (by simp)
 | [a], h => exact zH8 g _ bad most w h (by simp)
 | [a, b], h => exact zH8 g _ bad most w h (by simp)
 | [a, b, c], h => exact zH8 g _ bad most w h (by simp)
theorem zGq (g : Nat) (l : List UInt8) (bad : Bool) (most : Int) (w : World) (h : ReaderAt w g l bad) (hm : 0 ≤ most ∧ most ≤ 9223372036854775807) :
  Calls Tryz.prog 80 #[.pointer (some ⟨g, 0, none⟩), .int .i64 most] w fun e w' => e = .returned (.int .i64 ((zAh l bad most).1 : Nat)) ∧ OnlyAt g w w' ∧ ReaderAt w' g (zAh l bad most).2.1 (zAh l bad most).2.2 :=
 (Num_all2 g l bad most w h hm).mono fun _ _ ⟨h1, h2, _⟩ => ⟨h1, h2⟩
def zBz (l : List UInt8) (bad : Bool) (most : Int) : List UInt8 × List UInt8 × Bool :=
 if (zAh l bad most).1 ≤ (zAh l bad most).2.1.length then ((zAh l bad most).2.1.take (zAh l bad most).1, (zAh l bad most).2.1.drop (zAh l bad most).1, (zAh l bad most).2.2) else ([], [], true)
def Got (w w' : World) (v : Value) (l : List UInt8) : Prop :=
 (l = [] ∧ ∃ a, v = .slice a 0 0) ∨ ∃ gg cap, v = .slice (some ⟨gg, 0, none⟩) l.length cap ∧ w.heap.size ≤ gg ∧ OwnBytes w' w.heap.size v l
theorem Got.bytes {w w' : World} {v : Value} {l : List UInt8} (h : Got w w' v l) : Bytes w' v l := by
 rcases h with ⟨rfl, a, rfl⟩ | ⟨_, _, _, _, o⟩
 ·exact ⟨a, 0, rfl, by simp, by simp, fun _ => rfl, fun i hi => absurd hi (by simp)⟩
 ·exact o.bytes
theorem got_of {w w1 w2 : World} {a0 : Option Addr} {v : Value} {l : List UInt8} (f : FreshBytes w1 w2 (.slice a0 0 0) v l) (hs : w.heap.size ≤ w1.heap.size) : Got w w2 v l := by
 rcases f.own with ⟨rfl, rfl⟩ | ⟨_, o, gg, cap, rfl, h1, _⟩
 ·exact .inl ⟨rfl, a0, rfl⟩
 ·exact .inr ⟨gg, cap, rfl, by omega, o.le hs⟩
theorem Got.setOther {w w' : World} {v : Value} {l : List UInt8} (h : Got w w' v l) (g i : Nat) (hg : g < w.heap.size) (u : Value) : Got w (w'.setCell ⟨g, i, none⟩ u) v l := by
 rcases h with h | ⟨gg, cap, rfl, h1, o⟩
 ·exact .inl h
 ·exact .inr ⟨gg, cap, rfl, h1, o.other _ (by simp [Value.ownBlock]; omega) u⟩
def zPl (g : Nat) (l : List UInt8) (bad : Bool) (most : Int) (w : World) (e : Ending) (w' : World) : Prop :=
 ∃ v, e = .returned v ∧ OnlyAt g w w' ∧ Got w w' v (zBz l bad most).1 ∧ ReaderAt w' g (zBz l bad most).2.1 (zBz l bad most).2.2
def Older (B : Nat) (w : World) (g : Nat) (l : List UInt8) (bad : Bool) : Prop := ReaderAt w g l bad ∧ ∀ W, Below B w W → ReaderAt W g l bad
theorem Older.intro {B : Nat} {w1 w2 : World} {g : Nat} {l m : List UInt8} {bad : Bool} {u : Value} (h : ReaderAt w1 g m bad) (hu : Bytes w1 u l) (hB : w1.heap.size = B) (x : Ext w1 w2) : Older B (w2.setCell ⟨g, 0, none⟩ u) g l bad := by
 have hr := (h.ext x).set0 u (hu.ext x);refine ⟨hr, fun W hW => ?_⟩;have hg : g < B := hB ▸ h.lt;obtain ⟨v, t, hh, -⟩ := hr;have hh' := hh;obtain ⟨v1, t1, hh1, -⟩ := h.ext x;rw [zAd w2 g 0 u _ t1 _ hh1] at hh';have hv : v = u := by simp at hh'; exact hh'.1.symm
 subst hv;refine ⟨v, t, (hW.block g hg).trans hh, ?_⟩;have hu0 := hu;obtain ⟨a, cap, rfl, h1, h2, h3, -⟩ := hu;have hu2 := (hu0.ext x).only (h.ext x) ((OnlyAt.refl g w2).set 0 (.slice a l.length cap));refine ⟨a, cap, rfl, h1, h2, h3, fun i hi => ?_⟩;obtain ⟨b, o, e, hc⟩ := hu2.at i hi;obtain ⟨b', o', e', hc'⟩ := hu0.at i hi;subst e;cases e';exact ⟨b, o, rfl, (hW.cell (hB ▸ World.block_lt_of_cell? w1 _ hc')).trans hc⟩
def rawPost2 (g : Nat) (l : List UInt8) (bad : Bool) (most : Int) (w : World) (e : Ending) (w' : World) : Prop :=
 ∃ v, e = .returned v ∧ OnlyAt g w w' ∧ Got w w' v (zBz l bad most).1 ∧ Older w.heap.size w' g (zBz l bad most).2.1 (zBz l bad most).2.2
set_option maxHeartbeats 1000000 in
theorem RawR_any2 (g : Nat) (l : List UInt8) (bad : Bool) (most : Int) (w : World) (h : ReaderAt w g l bad) (hm : 0 ≤ most ∧ most ≤ 9223372036854775807) (hl : l.length ≤ 16777216) :
  Calls Tryz.prog 90 #[.pointer (some ⟨g, 0, none⟩), .int .i64 most] w (rawPost2 g l bad most w) := by
 have hg := h.lt;have hN := zFw l bad most;have hL := numRes_len l bad most;have hpost : ∀ e w', (∃ v, e = .returned v ∧ OnlyAt g w w' ∧ Got w w' v (zBz l bad most).1 ∧ Older w.heap.size w' g (zBz l bad most).2.1 (zBz l bad most).2.2) → rawPost2 g l bad most w e w' := fun _ _ h => h
 unfold zBz at hpost;have hnum := Num_all2 g l bad most w h hm;generalize (zAh l bad most).1 = n at *;generalize (zAh l bad most).2.1 = r at *;generalize (zAh l bad most).2.2 = b1 at *;have Hpost := zh hpost;have Hnum := zh hnum;clear hpost hnum h;go_enter Tryz.func90, Tryz.ntmps90
 go_wp2_with fail
 refine Hnum.out.mono ?_;rintro e w1 ⟨rfl, ⟨o1, r1⟩, hz1⟩;obtain ⟨a, cap, c0, c1, f0, f1, hb, hlen, hcap⟩ := r1.open;have R1 := zh r1;have O1 := zh o1;have B1 := zh hb;have hs1 := o1.size;clear r1 o1 hb
 by_cases hnr : n ≤ r.length
 ·rw [if_pos hnr] at Hpost;have T1 := zh (B1.out.take n hnr);have hnc : n ≤ cap := by omega
  obtain ⟨V, hV, hVb⟩ : ∃ V, V = Go.sliced a n r.length cap 1 ∧ Hid (Bytes w1 V (r.drop n)) := by
   refine ⟨_, rfl, ?_⟩;have := B1.out.sliced n r.length hnr (Nat.le_refl _) _ rfl;rw [List.take_length] at this;exact this
  by_cases hcn : cap = n
  ·have hrn : r.length - n = 0 := by omega
   have hV2 : V = .slice a 0 0 := by rw [hV]; simp [Go.sliced, hcn]; omega
   clear hV;subst hV2;subst hcn
   go_wp2_with (at_builtin; refine zA1 _ rfl (.const (.slice none 0 0)) (.tmp 28) 23 rfl Tryz.underlying23 _ _ rfl rfl _ T1.out (by simp; omega) ?_)
   intro v2 w2 f2;have X2 : Ext w1 w2 := f2.below;have c0' := X2.cell c0;have f0' := (Below.frozen X2 (World.block_lt_of_cell? w1 _ c0)).trans f0;have G2 := got_of f2 hs1;have R2 := zh (Older.intro R1.out hVb.out hz1 X2);have O2 := zh ((O1.out.ext X2).set 0 (.slice a 0 0));have G3 := zh (G2.setOther g 0 hg (.slice a 0 0));clear f2 X2 G2 c0 f0
   go_wp2_with fail
   go_ret
   exact Hpost.out _ _ ⟨_, rfl, O2.out, G3.out, R2.out⟩
  ·have hV2 : V = .slice (Option.map (fun x => x.add n) a) (r.length - n) (cap - n) := by rw [hV]; simp [Go.sliced, hcn]
   clear hV;subst hV2
   go_wp2_with (at_builtin; refine zA1 _ rfl (.const (.slice none 0 0)) (.tmp 28) 23 rfl Tryz.underlying23 _ _ rfl rfl _ T1.out (by simp; omega) ?_)
   intro v2 w2 f2;have X2 : Ext w1 w2 := f2.below;have c0' := X2.cell c0;have f0' := (Below.frozen X2 (World.block_lt_of_cell? w1 _ c0)).trans f0;have G2 := got_of f2 hs1;have R2 := zh (Older.intro R1.out hVb.out hz1 X2);have O2 := zh ((O1.out.ext X2).set 0 (.slice (Option.map (fun x => x.add n) a) (r.length - n) (cap - n)));have G3 := zh (G2.setOther g 0 hg (.slice (Option.map (fun x => x.add n) a) (r.length - n) (cap - n)));clear f2 X2 G2 c0 f0
   go_wp2_with fail
   go_ret
   exact Hpost.out _ _ ⟨_, rfl, O2.out, G3.out, R2.out⟩
 ·rw [if_neg hnr] at Hpost;have O2 := zh ((O1.out.set 1 (.bool true)).set 0 (.slice none 0 0));have R2 := zh (Older.intro (R1.out.set1 true) (zKv _) (B := w.heap.size) (by simpa [World.setCell] using hz1) (xr _))
  go_wp2_with fail
  go_ret
  exact Hpost.out _ _ ⟨_, rfl, O2.out, .inl ⟨rfl, _, rfl⟩, R2.out⟩
theorem zP6 (g : Nat) (l : List UInt8) (bad : Bool) (most : Int) (w : World) (h : ReaderAt w g l bad) (hm : 0 ≤ most ∧ most ≤ 9223372036854775807) (hl : l.length ≤ 16777216) :
  Calls Tryz.prog 90 #[.pointer (some ⟨g, 0, none⟩), .int .i64 most] w (zPl g l bad most w) :=
 (RawR_any2 g l bad most w h hm hl).mono fun _ _ ⟨v, h1, h2, h3, h4⟩ => ⟨v, h1, h2, h3, h4.1⟩
theorem TextR_any (g : Nat) (l : List UInt8) (bad : Bool) (most : Int) (w : World) (h : ReaderAt w g l bad) (hm : 0 ≤ most ∧ most ≤ 9223372036854775807) (hl : l.length ≤ 16777216) :
  Calls Tryz.prog 81 #[.pointer (some ⟨g, 0, none⟩), .int .i64 most] w fun e w' => e = .returned (.string ⟨(zBz l bad most).1.toArray⟩) ∧ OnlyAt g w w' ∧ ReaderAt w' g (zBz l bad most).2.1 (zBz l bad most).2.2 := by
 have hraw := zh (zP6 g l bad most w h hm hl);unfold zPl at hraw;generalize (zBz l bad most).1 = out at *;generalize (zBz l bad most).2.1 = r at *;generalize (zBz l bad most).2.2 = b1 at *;clear h;go_enter Tryz.func81, Tryz.ntmps81
 go_wp2_with fail
 refine hraw.out.mono ?_;rintro e w1 ⟨v, rfl, o1, g1, r1⟩;have hcv := zMm w1 v out g1.bytes;have H := zh (And.intro o1 r1);clear o1 r1 g1
 go_wp2_with fail
 go_ret
 exact ⟨rfl, H.out⟩
theorem ListR_any (g : Nat) (l : List UInt8) (bad : Bool) (w : World) (h : ReaderAt w g l bad) (hl : l.length ≤ 16777216) :
  Calls Tryz.prog 82 #[.pointer (some ⟨g, 0, none⟩)] w fun e w' => ∃ g', e = .returned (.pointer (some ⟨g', 0, none⟩)) ∧ w.heap.size ≤ g' ∧ OnlyAt g w w' ∧ ReaderAt w' g (zBz l bad 16777216).2.1 (zBz l bad 16777216).2.2 ∧ ReaderAt w' g' (zBz l bad 16777216).1 (zBz l bad 16777216).2.2 := by
 have hraw := zh (zP6 g l bad 16777216 w h (by omega) hl);unfold zPl at hraw;generalize (zBz l bad 16777216).1 = out at *;generalize (zBz l bad 16777216).2.1 = r at *;generalize (zBz l bad 16777216).2.2 = b1 at *;clear h;go_enter Tryz.func82, Tryz.ntmps82
 go_wp2_with fail
 refine hraw.out.mono ?_;rintro e w1 ⟨v, rfl, o1, g1, r1⟩;obtain ⟨a, cap, c0, c1, -, -, -, -, -⟩ := r1.open;have hs := o1.size;have RN := zh (ReaderAt.new w1 v out b1 g1.bytes 239);have O1 := zh (o1.ext ((xr w1).alloc (.cells #[v, .bool b1] 239)));have R1 := zh (r1.ext ((xr w1).alloc (.cells #[v, .bool b1] 239)));obtain ⟨av, nv, cv, rfl⟩ : ∃ av nv cv, v = .slice av nv cv := by obtain ⟨x, y, rfl, _⟩ := g1.bytes; exact ⟨_, _, _, rfl⟩
 clear o1 r1 g1
 go_wp2_with fail
 go_ret
 exact ⟨_, rfl, hs, O1.out, R1.out, RN.out⟩
theorem Truth_any (g : Nat) (l : List UInt8) (bad : Bool) (w : World) (h : ReaderAt w g l bad) :
  Calls Tryz.prog 89 #[.pointer (some ⟨g, 0, none⟩)] w fun e w' => e = .returned (.bool (((zAh l bad 1).1 : Int) == 1)) ∧ OnlyAt g w w' ∧ ReaderAt w' g (zAh l bad 1).2.1 (zAh l bad 1).2.2 := by
 have hnum := zh (zGq g l bad 1 w h (by omega));generalize (zAh l bad 1).1 = n at *;generalize (zAh l bad 1).2.1 = r at *;generalize (zAh l bad 1).2.2 = b1 at *;clear h;go_enter Tryz.func89, Tryz.ntmps89
 go_wp2_with fail
 refine hnum.out.mono ?_;rintro e w1 ⟨rfl, o1, r1⟩;have H := zh (And.intro o1 r1);clear o1 r1
 go_wp2_with fail
 go_ret
 exact ⟨rfl, H.out⟩
end
end Go.Proofs.YtgnjjfdfoibdiaaGreatDoor
