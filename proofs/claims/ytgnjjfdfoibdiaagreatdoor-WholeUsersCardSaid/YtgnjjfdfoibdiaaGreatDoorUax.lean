/- A part of the proof of WholeUsers. -/
import Derived.Test.YtgnjjfdfoibdiaaGreatDoorUaw
set_option linter.all false
namespace Go.Proofs.YtgnjjfdfoibdiaaGreatDoor
section
open Go.RowKit Go.Maps Go.Sort Go.Lib
set_option maxRecDepth 100000
def zN4 : Value := .slice none 0 0
def opsR (w : World) (pre : List (OpP × Value)) (l : List Str) (f : Str → OpP) (ov i : Value) (wr : World) : Prop :=
 ∃ (k : Nat) (a : Option Addr) (c : Nat), k ≤ l.length ∧ i = .int .i64 k ∧ ov = .slice a (pre.length + k) c ∧ Hid (ORow rOp wr w.heap.size (.slice a (pre.length + k) c) ((pre ++ (l.take k).map fun s => (f s, zN4)).map zAs)) ∧ Hid (Ext w wr)
theorem zI4 {pre : List (OpP × Value)} {l : List Str} {f : Str → OpP} {k : Nat} (hk : k < l.length) : (pre ++ (l.take (k + 1)).map fun s => (f s, zN4)).map zAs = (pre ++ (l.take k).map fun s => (f s, zN4)).map zAs ++ [zAs (f l[k], zN4)] := by
 simp only [List.take_succ_eq_append_getElem hk, List.map_append, List.map_cons, List.map_nil, List.append_assoc]
theorem zL3 {pre : List (OpP × Value)} {l : List Str} {f : Str → OpP} {k : Nat} (hk : k ≤ l.length) : ((pre ++ (l.take k).map fun s => (f s, zN4)).map zAs).length = pre.length + k := by
 simp; omega
theorem Commit_any (w : World) {cv gv : Value} {come gone : List Str} (hc : SRow w cv come) (hg : SRow w gv gone) (hl : come.length ≤ 24 ∧ gone.length ≤ 24) (hn : ∀ s ∈ come ++ gone, s.length ≤ 100) :
  Calls Tryz.prog 245 #[cv, gv] w (zC7 w ((come.map fun s => ⟨5, sub zIu s, sub pDb s, []⟩) ++ gone.map fun s => ⟨6, sub pDb s, [], []⟩)) := by
 have HC := zh hc;have HG := zh hg;have HN := zh hn;obtain ⟨ac, cc, rfl, -⟩ := hc.form;obtain ⟨ag, cg, rfl, -⟩ := hg.form;obtain ⟨hl1, hl2⟩ := hl;clear hc hg hn;go_enter Tryz.func245, Tryz.ntmps245
 go_wp2_with fail
 go_loopw [5, 12] (fun v i wr => opsR w [] come (fun s => ⟨5, sub zIu s, sub pDb s, []⟩) v i wr) (fun _ i _ => come.length - (intOf i).toNat)
 case atStart => exact ⟨0, none, 0, Nat.zero_le _, rfl, rfl, zh (ORow.nil _ _ _), zh (xr w)⟩
 case round =>
  obtain ⟨wq, rfl⟩ : ∃ x : World, x = wr := ⟨_, rfl⟩
  obtain ⟨k, a, c, hk, rfl, rfl, HR, HX⟩ := hrel
  by_cases hlt : k < come.length
  ·obtain ⟨b, o, rfl, hcs⟩ := (HC.out.ext HX.out).at k hlt;have HNX := zh (zI4 (pre := []) (f := fun s => ⟨5, sub zIu s, sub pDb s, []⟩) hlt);have HLN := zh (zL3 (pre := []) (f := fun s => ⟨5, sub zIu s, sub pDb s, []⟩) hk);have hsl := HN.out come[k] (List.mem_append_left _ (List.getElem_mem hlt));generalize come[k] = s at *;have E1 : Hid ((⟨#[47, 118, 97, 114, 47, 110, 101, 119, 47]⟩ : ByteArray) ++ ba s = ba (sub zIu s)) := ByteArray.mk_append_mk [47, 118, 97, 114, 47, 110, 101, 119, 47] s;have E2 : Hid ((⟨#[47, 118, 97, 114, 47, 100, 98, 47]⟩ : ByteArray) ++ ba s = ba (sub pDb s)) := ByteArray.mk_append_mk [47, 118, 97, 114, 47, 100, 98, 47] s;have b1 : 9 + s.length ≤ 9223372036854775807 := by omega
   have b2 : 8 + s.length ≤ 9223372036854775807 := by omega
   generalize hrows : List.map zAs ([] ++ List.map (fun s => ((⟨5, sub zIu s, sub pDb s, []⟩ : OpP), zN4)) (come.take k)) = rows at *;have hz0 : (List.length ([] : List (OpP × Value))) + k = k := by simp
   rw [hz0] at HR HLN;rw [hz0];clear hz0 hrows;have HLT := zh hlt
   go_wp2_with (at_builtin; refine zAr (wq.alloc (.cells #[.int .i64 5, .string (⟨#[47, 118, 97, 114, 47, 110, 101, 119, 47]⟩ ++ ba s), .string (⟨#[47, 118, 97, 114, 47, 100, 98, 47]⟩ ++ ba s), .slice none 0 0] 96)) (by rfl) (.tmp 16) (.tmp 22) rOp (by rfl) w.heap.size (.slice a k c) (.slice (some ⟨wq.heap.size, 0, none⟩) 1 1) rows [[.int .i64 5, .string (⟨#[47, 118, 97, 114, 47, 110, 101, 119, 47]⟩ ++ ba s), .string (⟨#[47, 118, 97, 114, 47, 100, 98, 47]⟩ ++ ba s), .slice none 0 0]] (by rfl) (by rfl) (HR.out.ext ((xr _).alloc _)) (zBi (heap_alloc_new wq _)) (by simp [rOp]) (by simp [Value.oneCell']) (by rw [HLN.out]; simp; omega) ?hB ?hK; (case hB => have := HX.out.sz; simp; omega); intro v8 w8 r8 g8 m8 n8; (obtain ⟨a8, c8, hv8⟩ := r8.form); (rw [List.length_append, HLN.out] at hv8); simp only [List.length_singleton] at hv8; subst hv8; have R8 := zh r8; have M8 := zh m8; clear r8 g8 m8 n8)
   go_roundw
   case rel =>
    refine ⟨k + 1, a8, c8, hlt, by go_num, by simp, zh ?_, zh ((HX.out.alloc _).then_mut M8.out (Nat.le_refl _))⟩;rw [HNX.out];have := R8.out;rw [E1.out, E2.out] at this;simpa [zAs, zN4] using this
   case measure => simp [intOf]; omega
  ·have hke : k = come.length := by omega
   obtain ⟨pre, hpre⟩ : ∃ pre : List (OpP × Value), pre = come.map fun s => ((⟨5, sub zIu s, sub pDb s, []⟩ : OpP), zN4) := ⟨_, rfl⟩
   have hpl : pre.length = k := by rw [hpre, List.length_map, hke]
   have HR2 := zh (show ORow rOp wq w.heap.size (.slice a (pre.length + 0) c) ((pre ++ (gone.take 0).map fun s => ((⟨6, sub pDb s, [], []⟩ : OpP), zN4)).map zAs) by
    have := HR.out;rw [hke, List.take_length, List.nil_append, ← hpre] at this;simp only [List.take_zero, List.map_nil, List.append_nil, Nat.add_zero];rw [hpl, hke]
    simpa using this)
   have hz0 : (List.length ([] : List (OpP × Value))) + k = k := by simp
   rw [hz0];have hv0 : (Value.slice a k c) = .slice a (pre.length + 0) c := by rw [hpl]; rfl
   have HPL := zh hpl;have HPRE := zh hpre;have HV0 := zh hv0;clear hz0 HR hpl hpre hv0 hke
   go_wp2_with fail
   go_loopw [5, 27] (fun v i wr => opsR w pre gone (fun s => ⟨6, sub pDb s, [], []⟩) v i wr) (fun _ i _ => gone.length - (intOf i).toNat)
   case atStart => exact ⟨0, a, c, Nat.zero_le _, rfl, HV0.out, HR2, HX⟩
   case round =>
    obtain ⟨wz, rfl⟩ : ∃ x : World, x = wr := ⟨_, rfl⟩
    obtain ⟨j, a2, c2, hj, rfl, rfl, HR3, HX3⟩ := hrel;clear HX HR2 hlt
    by_cases hlt2 : j < gone.length
    ·obtain ⟨b, o, rfl, hcs⟩ := (HG.out.ext HX3.out).at j hlt2;have HNX := zh (zI4 (pre := pre) (f := fun s => ⟨6, sub pDb s, [], []⟩) hlt2);have HLN := zh (zL3 (pre := pre) (f := fun s => ⟨6, sub pDb s, [], []⟩) hj);have hsl := HN.out gone[j] (List.mem_append_right _ (List.getElem_mem hlt2));have HPQ := zh (show pre.length + (j + 1) = pre.length + j + 1 by omega);have hN : pre.length + j ≤ 48 := by have := HPL.out; omega
     generalize gone[j] = s at *;have E2 : Hid ((⟨#[47, 118, 97, 114, 47, 100, 98, 47]⟩ : ByteArray) ++ ba s = ba (sub pDb s)) := ByteArray.mk_append_mk [47, 118, 97, 114, 47, 100, 98, 47] s;have b2 : 8 + s.length ≤ 9223372036854775807 := by omega
     generalize hrows : List.map zAs (pre ++ List.map (fun s => ((⟨6, sub pDb s, [], []⟩ : OpP), zN4)) (gone.take j)) = rows at *;generalize pre.length + j = N at *;clear hrows
     go_wp2_with (at_builtin; refine zAr (wz.alloc (.cells #[.int .i64 6, .string (⟨#[47, 118, 97, 114, 47, 100, 98, 47]⟩ ++ ba s), .string ⟨#[]⟩, .slice none 0 0] 96)) (by rfl) (.tmp 31) (.tmp 35) rOp (by rfl) w.heap.size (.slice a2 N c2) (.slice (some ⟨wz.heap.size, 0, none⟩) 1 1) rows [[.int .i64 6, .string (⟨#[47, 118, 97, 114, 47, 100, 98, 47]⟩ ++ ba s), .string ⟨#[]⟩, .slice none 0 0]] (by rfl) (by rfl) (HR3.out.ext ((xr _).alloc _)) (zBi (heap_alloc_new wz _)) (by simp [rOp]) (by simp [Value.oneCell']) (by rw [HLN.out]; simp; omega) ?hB2 ?hK2; (case hB2 => have := HX3.out.sz; simp; omega); intro v8 w8 r8 g8 m8 n8; (obtain ⟨a8, c8, hv8⟩ := r8.form); (rw [List.length_append, HLN.out] at hv8); simp only [List.length_singleton] at hv8; subst hv8; have R8 := zh r8; have M8 := zh m8; clear r8 g8 m8 n8)
     go_roundw
     case rel =>
      refine ⟨j + 1, a8, c8, hlt2, by go_num, by rw [HPQ.out], zh ?_, zh ((HX3.out.alloc _).then_mut M8.out (Nat.le_refl _))⟩;rw [HNX.out, HPQ.out];have := R8.out;rw [E2.out] at this;simpa [zAs, zN4, ba] using this
     case measure => simp [intOf]; omega
    ·have hje : j = gone.length := by omega
     go_wp2_with fail
     go_ret
     refine ⟨_, pre ++ gone.map fun s => ((⟨6, sub pDb s, [], []⟩ : OpP), zN4), rfl, ?_, ?_, HX3.out⟩
     ·have := HR3.out;rw [hje, List.take_length] at this
      exact zDq this (fun x hx => by
       rw [HPRE.out] at hx
       rcases List.mem_append.1 hx with hx | hx <;> obtain ⟨y, -, rfl⟩ := List.mem_map.1 hx <;> exact DataIs.nil _)
     ·rw [HPRE.out];simp [Function.comp_def]
def layOps : List OpP := [⟨0, [47, 118, 97, 114], [], []⟩, ⟨0, zB5, [], []⟩, ⟨0, zJz, [], []⟩, ⟨0, zIu, [], []⟩, ⟨0, pDb, [], []⟩]
def lays5 : List Str := [[47, 118, 97, 114], zB5, zJz, zIu, pDb]
theorem Layout_any (w : World) : Calls Tryz.prog 138 #[] w (zC7 w layOps) := by
 have hs := World.ownsRow_lit (base := w.heap.size) (size := 1) (e := 9) w (zBh lays5).toArray 5 (Nat.le_refl _) (by decide) rfl;have hs2 : OwnS (w.alloc (.cells (zBh lays5).toArray 9)) w.heap.size (.slice (some ⟨w.heap.size, 0, none⟩) 5 5) lays5 := hs
 obtain ⟨W, hW⟩ : ∃ W, W = w.alloc (.cells (zBh lays5).toArray 9) := ⟨_, rfl⟩
 rw [← hW] at hs2;have HRW := zh (OwnS.row hs2);have XW := zh (show Ext w W by rw [hW]; exact (xr w).alloc _);have hW2 : W = w.alloc (.cells #[.string (ba [47, 118, 97, 114]), .string (ba zB5), .string (ba zJz), .string (ba zIu), .string (ba pDb)] 9) := hW;clear hs hs2 hW;go_enter Tryz.func138, Tryz.ntmps138
 go_upto_region 3 with fail
 have e2 : w.alloc (.cells #[.string ⟨#[47, 118, 97, 114]⟩, .string ⟨#[47, 118, 97, 114, 47, 115, 116, 97, 103, 101]⟩, .string ⟨#[47, 118, 97, 114, 47, 111, 108, 100]⟩, .string ⟨#[47, 118, 97, 114, 47, 110, 101, 119]⟩, .string ⟨#[47, 118, 97, 114, 47, 100, 98]⟩] 9) = W := hW2.symm;rw [e2];clear e2 hW2
 go_wp2_with fail
 go_loopw [1, 6] (fun v i wr => opsR W [] lays5 (fun s => ⟨0, s, [], []⟩) v i wr) (fun _ i _ => 5 - (intOf i).toNat)
 case atStart => exact ⟨0, none, 0, Nat.zero_le _, rfl, rfl, zh (ORow.nil _ _ _), zh (xr W)⟩
 case round =>
  obtain ⟨wq, rfl⟩ : ∃ x : World, x = wr := ⟨_, rfl⟩
  obtain ⟨k, a, c, hk, rfl, rfl, HR, HX⟩ := hrel;have hk5 : k ≤ 5 := hk
  by_cases hlt : k < 5
  ·obtain ⟨b, o, he, hcs⟩ := (HRW.out.ext HX.out).at k hlt;cases he;rw [Nat.zero_add] at hcs;have HNX := zh (zI4 (pre := []) (f := fun s => ⟨0, s, [], []⟩) (l := lays5) (k := k) hlt);have HLN := zh (zL3 (pre := []) (f := fun s => ⟨0, s, [], []⟩) hk);generalize lays5[k] = s at *;generalize hrows : List.map zAs ([] ++ List.map (fun s => ((⟨0, s, [], []⟩ : OpP), zN4)) (lays5.take k)) = rows at *;have hz0 : (List.length ([] : List (OpP × Value))) + k = k := by simp
   rw [hz0] at HR HLN;rw [hz0];clear hz0 hrows hk
   go_wp2_with (at_builtin; refine zAr (wq.alloc (.cells #[.int .i64 0, .string (ba s), .string ⟨#[]⟩, .slice none 0 0] 96)) (by rfl) (.tmp 10) (.tmp 13) rOp (by rfl) W.heap.size (.slice a k c) (.slice (some ⟨wq.heap.size, 0, none⟩) 1 1) rows [[.int .i64 0, .string (ba s), .string ⟨#[]⟩, .slice none 0 0]] (by rfl) (by rfl) (HR.out.ext ((xr _).alloc _)) (zBi (heap_alloc_new wq _)) (by simp [rOp]) (by simp [Value.oneCell']) (by rw [HLN.out]; simp; omega) ?hB ?hK; (case hB => have := HX.out.sz; simp; omega); intro v8 w8 r8 g8 m8 n8; (obtain ⟨a8, c8, hv8⟩ := r8.form); (rw [List.length_append, HLN.out] at hv8); simp only [List.length_singleton] at hv8; subst hv8; have R8 := zh r8; have M8 := zh m8; clear r8 g8 m8 n8)
   go_roundw
   case rel =>
    refine ⟨k + 1, a8, c8, hlt, by go_num, by simp, zh ?_, zh ((HX.out.alloc _).then_mut M8.out (Nat.le_refl _))⟩;rw [HNX.out];have := R8.out;simpa [zAs, zN4, ba] using this
   case measure => simp [intOf]; omega
  ·have hke : k = 5 := by omega
   have hz0 : (List.length ([] : List (OpP × Value))) + k = k := by simp
   go_wp2_with fail
   go_ret
   refine ⟨_, lays5.map fun s => ((⟨0, s, [], []⟩ : OpP), zN4), rfl, ?_, rfl, XW.out.trans HX.out⟩;subst hke
   exact zDq (HR.out.le XW.out.sz) (fun x hx => by
    obtain ⟨y, -, rfl⟩ := List.mem_map.1 hx
    exact DataIs.nil _)
def dirs3 : List Str := [zB5, zJz, zIu]
def zJa (d n : Str) : OpP := ⟨6, sub d n, [], []⟩
def zBp (ls : Str → List Str) (m : Nat) : List (OpP × Value) := (dirs3.take m).flatMap fun d => (ls d).map fun n => (zJa d n, zN4)
def cleanRel (W : World) (ls : Str → List Str) (v i : Value) (wr : World) : Prop :=
 ∃ (m : Nat) (a : Option Addr) (c : Nat), m ≤ 3 ∧ i = .int .i64 m ∧ v = .slice a (zBp ls m).length c ∧ Hid (ORow rOp wr W.heap.size (.slice a (zBp ls m).length c) ((zBp ls m).map zAs)) ∧ Hid (Ext W wr)
theorem zP0 {ls : Str → List Str} {m : Nat} (hm : m < dirs3.length) : zBp ls (m + 1) = zBp ls m ++ (ls dirs3[m]).map fun n => (zJa dirs3[m] n, zN4) := by
 unfold zBp;rw [List.take_succ_eq_append_getElem hm, List.flatMap_append];simp
def zDk (ls : Str → List Str) (tx : Bool) : List OpP := (zBp ls 3).map Prod.fst ++ if tx then [⟨6, zCa, [], []⟩] else []
set_option maxHeartbeats 2000000 in
theorem Clean_any {w : World} {t : Nat} {V : List (Pth × Nd)} {sh : List Pth} (ht : TreeV w t V sh) (ls : Str → List Str) (hL : ∀ d ∈ dirs3, ∀ W, Ext w W → Calls Tryz.prog 217 #[.pointer (some ⟨t, 0, none⟩), .string (ba d)] W fun e w' => ∃ v, e = .returned (.tuple #[v, .int .i64 0]) ∧ OwnS w' W.heap.size v (ls d) ∧ Ext W w')
  (hn : ∀ d ∈ dirs3, (ls d).length ≤ 40 ∧ ∀ s ∈ ls d, s.length ≤ 100) (hP : ∀ m, m ≤ 3 → (zBp ls m).length ≤ 120) (htx : SplitOk zCa zI6) {mx : Int} (hmx : w.cell? ⟨0, 0, none⟩ = some (.int .i64 mx)) :
  Calls Tryz.prog 246 #[.pointer (some ⟨t, 0, none⟩)] w (zC7 w (zDk ls (look V zI6).isSome)) := by
 have hs := World.ownsRow_lit (base := w.heap.size) (size := 1) (e := 9) w (zBh dirs3).toArray 3 (Nat.le_refl _) (by decide) rfl;have hs2 : OwnS (w.alloc (.cells (zBh dirs3).toArray 9)) w.heap.size (.slice (some ⟨w.heap.size, 0, none⟩) 3 3) dirs3 := hs
 obtain ⟨W, hW⟩ : ∃ W, W = w.alloc (.cells (zBh dirs3).toArray 9) := ⟨_, rfl⟩
 rw [← hW] at hs2;have HRW := zh (OwnS.row hs2);have XW := zh (show Ext w W by rw [hW]; exact (xr w).alloc _);have hW2 : W = w.alloc (.cells #[.string (ba zB5), .string (ba zJz), .string (ba zIu)] 9) := hW;have HL := zh hL;have HN := zh hn;have HPP := zh hP;have HF : Hid (∀ U, Ext w U → Calls Tryz.prog 27 #[.pointer (some ⟨t, 0, none⟩), .string (ba zCa)] U (zIw U (look V zI6).isSome)) := fun U x => zJl (ht.ext x) htx (x.cell hmx)
 clear hs hs2 hW hL hn hP ht htx hmx;generalize (look V zI6).isSome = tx at *;go_enter Tryz.func246, Tryz.ntmps246
 go_upto_region 3 with fail
 have e2 : w.alloc (.cells #[.string ⟨#[47, 118, 97, 114, 47, 115, 116, 97, 103, 101]⟩, .string ⟨#[47, 118, 97, 114, 47, 111, 108, 100]⟩, .string ⟨#[47, 118, 97, 114, 47, 110, 101, 119]⟩] 9) = W := hW2.symm;rw [e2];clear e2 hW2
 go_wp2_with fail
 go_loopw [3, 14] (fun v i wr => cleanRel W ls v i wr) (fun _ i _ => 3 - (intOf i).toNat)
 case atStart => exact ⟨0, none, 0, Nat.zero_le _, rfl, rfl, zh (ORow.nil _ _ _), zh (xr W)⟩
 case round =>
  obtain ⟨wq, rfl⟩ : ∃ x : World, x = wr := ⟨_, rfl⟩
  obtain ⟨m, a, c, hm, rfl, rfl, HR, HX⟩ := hrel
  by_cases hlt : m < 3
  ·obtain ⟨b, o, he, hcs⟩ := (HRW.out.ext HX.out).at m hlt;cases he;rw [Nat.zero_add] at hcs;have HNX := zh (zP0 (ls := ls) (m := m) hlt);have HLd := zh (HL.out _ (List.getElem_mem (show m < dirs3.length from hlt)));have hdl : dirs3[m].length ≤ 40 := (show ∀ d ∈ dirs3, d.length ≤ 40 by decide) _ (List.getElem_mem (show m < dirs3.length from hlt));have HNd := zh (HN.out _ (List.getElem_mem (show m < dirs3.length from hlt)));generalize dirs3[m] = d at *;have hls := HNd.out.1;have HPm := zh (HPP.out m hm);generalize zBp ls m = pre at *
   go_wp2_with (go_at_call 217; refine (HLd.out _ (XW.out.trans HX.out)).mono ?_; rintro e w2 ⟨v2, rfl, o2, x2⟩; (obtain ⟨a2, c2, rfl⟩ := zAj o2); have X2 := zh (HX.out.trans x2); have Y2 := zh x2; have O2 := zh o2; clear x2 o2)
   go_loopw [3, 26] (fun v i wr => opsR W pre (ls d) (zJa d) v i wr ∧ Hid (Mut W.heap.size [98] w2 wr)) (fun _ i _ => (ls d).length - (intOf i).toNat)
   case atStart => exact ⟨⟨0, a, c, Nat.zero_le _, rfl, rfl, zh (by
    simp only [List.take_zero, List.map_nil, List.append_nil, Nat.add_zero]
    exact HR.out.ext Y2.out), X2⟩, zh (Mut.refl _ _ _)⟩
   case round =>
    obtain ⟨wz, rfl⟩ : ∃ x : World, x = wr := ⟨_, rfl⟩
    obtain ⟨⟨j, a3, c3, hj, rfl, rfl, HR3, HX3⟩, HM3⟩ := hrel;clear HR
    by_cases hlt2 : j < (ls d).length
    ·obtain ⟨b4, o4, rfl, hc4⟩ := (OwnS.row (HM3.out.own O2.out (by simp))).at j hlt2;have HNX2 := zh (zI4 (pre := pre) (f := zJa d) hlt2);have HLN := zh (zL3 (pre := pre) (f := zJa d) hj);have hsl := HNd.out.2 (ls d)[j] (List.getElem_mem hlt2);have HPQ := zh (show pre.length + (j + 1) = pre.length + j + 1 by omega);have hN2 : pre.length + j ≤ 160 := by have := HPm.out; omega
     generalize (ls d)[j] = s at *
     have E2 := zh (show (ba d ++ (⟨#[47]⟩ : ByteArray)) ++ ba s = ba (sub d s) by
      have h1 : ba d ++ (⟨#[47]⟩ : ByteArray) = ba (d ++ [47]) := ByteArray.mk_append_mk d [47];rw [h1]
      exact ByteArray.mk_append_mk (d ++ [47]) s)
     have b1 : d.length + 1 ≤ 9223372036854775807 := by omega
     have b2 : d.length + 1 + s.length ≤ 9223372036854775807 := by omega
     generalize hrows : List.map zAs (pre ++ List.map (fun s => (zJa d s, zN4)) ((ls d).take j)) = rows at *;generalize pre.length + j = N at *;clear hrows
     go_wp2_with (at_builtin; refine zAr (wz.alloc (.cells #[.int .i64 6, .string (ba d ++ ⟨#[47]⟩ ++ ba s), .string ⟨#[]⟩, .slice none 0 0] 96)) (by rfl) (.tmp 30) (.tmp 36) rOp (by rfl) W.heap.size (.slice a3 N c3) (.slice (some ⟨wz.heap.size, 0, none⟩) 1 1) rows [[.int .i64 6, .string (ba d ++ ⟨#[47]⟩ ++ ba s), .string ⟨#[]⟩, .slice none 0 0]] (by rfl) (by rfl) (HR3.out.ext ((xr _).alloc _)) (zBi (heap_alloc_new wz _)) (by simp [rOp]) (by simp [Value.oneCell']) (by rw [HLN.out]; simp; omega) ?hB ?hK; (case hB => have := HX3.out.sz; simp; omega); intro v8 w8 r8 g8 m8 n8; (obtain ⟨a8, c8, hv8⟩ := r8.form); (rw [List.length_append, HLN.out] at hv8); simp only [List.length_singleton] at hv8; subst hv8; have R8 := zh r8; have M8 := zh m8; clear r8 g8 m8 n8)
     go_roundw
     case rel =>
      refine ⟨⟨j + 1, a8, c8, hlt2, by go_num, by rw [HPQ.out], zh ?_, zh ((HX3.out.alloc _).then_mut M8.out (Nat.le_refl _))⟩, zh ((HM3.out.alloc _).trans (M8.out.weak (Nat.le_refl _) (by simp [rOp])))⟩;rw [HNX2.out, HPQ.out];have := R8.out;rw [E2.out] at this;simpa [zAs, zN4, ba, zJa] using this
     case measure => simp [intOf]; omega
    ·have hje : j = (ls d).length := by omega
     have HR5 := zh (show ORow rOp wz W.heap.size (.slice a3 (pre.length + j) c3) ((pre ++ (ls d).map fun s => (zJa d s, zN4)).map zAs) by
      have := HR3.out
      rwa [hje, List.take_length, ← hje] at this)
     have HLE := zh (show (pre ++ (ls d).map fun s => (zJa d s, zN4)).length = pre.length + j by rw [List.length_append, List.length_map, hje]);clear HR3
     go_wp2_with fail
     go_roundw
     case rel =>
      refine ⟨m + 1, a3, c3, hlt, by go_num, ?_, ?_, HX3⟩
      ·rw [HNX.out, HLE.out]
      ·rw [HNX.out, HLE.out];exact HR5
     case measure => simp [intOf]; omega
  ·have hme : m = 3 := by omega
   subst hme;have HP3 := HPP.out 3 (Nat.le_refl _);have HLN := zh (show ((zBp ls 3).map zAs).length = (zBp ls 3).length by rw [List.length_map]);have HCO : Hid (zDk ls tx = (zBp ls 3).map Prod.fst ++ if tx then [⟨6, zCa, [], []⟩] else []) := rfl
   have HDT : Hid (∀ U, ∀ x ∈ zBp ls 3, DataIs U x.2 x.1.data) := fun U x hx => by
    unfold zBp at hx;obtain ⟨d, -, hx⟩ := List.mem_flatMap.1 hx;obtain ⟨n, -, rfl⟩ := List.mem_map.1 hx;exact DataIs.nil _
   generalize zBp ls 3 = pre at *;generalize hrows : List.map zAs pre = rows at *;generalize hNN : pre.length = N at *;have HRS := zh hrows;clear hrows hNN
   cases tx with
   | false =>
     go_wp2_with (go_at_call 27; refine (HF.out _ (XW.out.trans HX.out)).mono ?_; rintro e w3 ⟨fi, rfl, x3⟩; have X3 := zh x3; clear x3)
     go_ret
     exact ⟨_, pre, rfl, zDq (by rw [HRS.out]; exact (HR.out.ext X3.out).le XW.out.sz) (fun x hx => HDT.out _ x hx), by rw [HCO.out]; simp, (XW.out.trans HX.out).trans X3.out⟩
   | true =>
     go_wp2_with (first
      | (go_at_call 27; refine (HF.out _ (XW.out.trans HX.out)).mono ?_; rintro e w3 ⟨fi, rfl, x3⟩; have X3 := zh x3; clear x3)
      | (at_builtin; refine zAr (w3.alloc (.cells #[.int .i64 6, .string (ba zCa), .string ⟨#[]⟩, .slice none 0 0] 96)) (by rfl) (.tmp 46) (.tmp 48) rOp (by rfl) W.heap.size (.slice a N c) (.slice (some ⟨w3.heap.size, 0, none⟩) 1 1) rows [[.int .i64 6, .string (ba zCa), .string ⟨#[]⟩, .slice none 0 0]] (by rfl) (by rfl) (HR.out.ext (X3.out.alloc _)) (zBi (heap_alloc_new w3 _)) (by simp [rOp]) (by simp [Value.oneCell']) (by rw [HLN.out]; simp; omega) ?hB7 ?hK7; (case hB7 => have := (HX.out.trans X3.out).sz; simp; omega); intro v8 w8 r8 g8 m8 n8; (obtain ⟨a8, c8, hv8⟩ := r8.form); (rw [List.length_append, HLN.out] at hv8); simp only [List.length_singleton] at hv8; subst hv8; have R8 := zh r8; have M8 := zh m8; clear r8 g8 m8 n8))
     go_ret
     refine ⟨_, pre ++ [(⟨6, zCa, [], []⟩, zN4)], rfl, zDq ?_ (fun x hx => ?_), by rw [HCO.out]; simp, ((XW.out.trans HX.out).trans (X3.out.alloc _)).then_mut M8.out XW.out.sz⟩
     ·rw [List.map_append, HRS.out];exact R8.out.le XW.out.sz
     ·rcases List.mem_append.1 hx with hx | hx
      ·exact HDT.out _ x hx
      ·rw [List.mem_singleton] at hx;subst hx;exact DataIs.nil _
end
end Go.Proofs.YtgnjjfdfoibdiaaGreatDoor
