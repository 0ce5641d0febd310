/- A part of the proof of WholeUsers. -/
import Derived.ChangeArms
import Derived.ChangeOld
import Derived.ChangeSlices
import Derived.Handed
import Derived.LaidMore
import Derived.Lay
import Derived.OpenShut
import Derived.ProofKit
import Derived.SevenTiedAt
import Derived.Shelf.Vars
import Derived.SizedLaws
import Derived.Stop.Joined
import Derived.Test.YtgnjjfdfoibdiaaGreatDoorCards
import Derived.Test.YtgnjjfdfoibdiaaGreatDoorTie
import Derived.Test.YtgnjjfdfoibdiaaGreatDoorUaq
set_option linter.all false
namespace Go.Proofs.YtgnjjfdfoibdiaaGreatDoor
section
set_option maxRecDepth 100000
def zB5 : Str := [47, 118, 97, 114, 47, 115, 116, 97, 103, 101]
def zJz : Str := [47, 118, 97, 114, 47, 111, 108, 100]
def zIu : Str := [47, 118, 97, 114, 47, 110, 101, 119]
def pDb : Str := [47, 118, 97, 114, 47, 100, 98]
def zCa : Str := [47, 118, 97, 114, 47, 116, 120, 110]
def sub (d n : Str) : Str := d ++ [47] ++ n
def zG6 (i : Nat) : Str := [UInt8.ofNat (48 + i)]
structure Mv where
 kind : Nat
 path : Str
structure Tx where
 phase : Nat
 at_ : Nat
 mv : List Mv
 come : List Str
 gone : List Str
def zD8 (m : Mv) : List (List UInt8) := [zE9 m.kind, zBk m.path]
def zJ2 (t : Tx) : List (List UInt8) := [zE9 t.phase, zE9 t.at_, zCz (t.mv.flatMap zD8), zCz (t.come.map zBk), zCz (t.gone.map zBk)]
def txB (t : Tx) : List UInt8 := (zJ2 t).flatten
def zI6 : Pth := [[118, 97, 114], [116, 120, 110]]
def zFn (V : List (Pth × Nd)) (t : Tx) : OpP := ⟨if (look V zI6).isSome then 3 else 2, zCa, [], txB t⟩
def zDm (i : Nat) (m : Mv) (data : List UInt8) : List OpP := if m.kind = 1 then [⟨2, sub zB5 (zG6 i), [], data⟩] else []
def zJf (V : List (Pth × Nd)) (i : Nat) (m : Mv) : List OpP :=
 if m.kind = 0 then [⟨0, m.path, [], []⟩] else if m.kind = 2 then [⟨5, m.path, sub zJz (zG6 i), []⟩] else
  (if (look V (names m.path)).isSome then [⟨4, m.path, sub zJz (zG6 i), []⟩] else []) ++ [⟨5, sub zB5 (zG6 i), m.path, []⟩]
def zJg (fs : List Af) (p : Str) : List UInt8 := ((fs.find? fun f => decide (f.path = p)).map (·.data)).getD []
structure DoOk (V : List (Pth × Nd)) (sh : List Pth) (ops : List OpP) (V' : List (Pth × Nd)) (sh' : List Pth) : Prop where
 ok : ∀ o ∈ ops, OpOk o
 step : opsV V sh ops = some (V', sh')
 few : V.length + ops.length ≤ 40
 len : (zC6 ops).length ≤ 799
end
section
open Go.RowKit
theorem Tryz.info3 : (Tryz.prog.info? 3).map (fun i => (i.zero, i.size, i.bytes)) = some (some (.int .i64 0), 1, 8) := by kernel_rfl
set_option maxRecDepth 100000 in
set_option maxHeartbeats 2000000 in
theorem ref_of (l : List UInt8) (v : Value) (w : World) (hl : l.length ≤ 300) (hb : Bytes w v l) :
  Calls Tryz.prog 6 #[v] w fun e w' => e = .returned (.int .u32 (refSum l : Nat)) ∧ Below w.heap.size w w' := by
 obtain ⟨i0, hi, hz0, hz1, hz2⟩ := info_parts Tryz.info3;obtain ⟨a, cap', rfl, hlc', _, _, hc⟩ := hb;have hlen : l.length ≤ 9223372036854775807 := by omega
 clear hlc';have hown0 : (w.alloc (.cells #[] 3)).ownsRow w.heap.size 3 1 (.slice (some ⟨w.heap.size, 0, none⟩) 0 0) 0 [] := World.ownsRow_lit w #[] 0 (Nat.le_refl _) (by decide) rfl;have hB0 : Below w.heap.size w (w.alloc (.cells #[] 3)) := (Below.refl _ _).alloc (Nat.le_refl _) _;go_enter Tryz.func6, Tryz.ntmps6
 go_wp2
 go_loopw [3, 4] (fun v i wr => ∃ k : Nat, k ≤ l.length ∧ i = .int .i64 k ∧ wr.ownsRow w.heap.size 3 1 v (8 * k) (zEx (zG5 l) (8 * k)) ∧ Below w.heap.size w wr) (fun _ i _ => l.length - (intOf i).toNat)
 case atStart => exact ⟨0, Nat.zero_le _, rfl, hown0, hB0⟩
 case round =>
  obtain ⟨k, hk, rfl, hown, hbel⟩ := hrel;clear hown0 hB0
  by_cases hlt : k < l.length
  ·have hbits := zh (mnum_bit l k hlt);obtain ⟨b', o', rfl, hcell⟩ := hc k hlt;have hb8 : l[k].toNat < 256 := l[k].toNat_lt;have hbk := hbel.cell (World.block_lt_of_cell? w _ hcell);rw [hcell] at hbk;have Hcell := zh hcell;generalize l[k].toNat = x at *;clear hcell hc
   go_wp2
   go_loopw [3, 5] (fun v i wr => ∃ j : Nat, j ≤ 8 ∧ i = .int .i64 j ∧ wr.ownsRow w.heap.size 3 1 v (8 * k + j) (zEx (zG5 l) (8 * k + j)) ∧ Below w.heap.size w wr) (fun _ i _ => 8 - (intOf i).toNat)
   case atStart => exact ⟨0, Nat.zero_le _, rfl, hown, hbel⟩
   case round =>
    obtain ⟨j, hj, rfl, hown1, hbel1⟩ := hrel;clear hown hbel hbk
    by_cases hltj : j < 8
    ·have hcell1 := hbel1.cell (World.block_lt_of_cell? w _ Hcell.out);rw [Hcell.out] at hcell1;have hsz := hbel1.size;have hv : ((x : Int) / 2 ^ j).tmod 2 = (bit (zG5 l) (8 * k + j) : Nat) := by rw [hbits.out j hltj]; exact shr_mod x j
     go_wp2_with (at_builtin; refine zDu _ rfl _ _ 68 rfl w.heap.size 3 i0 _ 8 Tryz.underlying68 hi hz0 hz1 hz2 rfl _ _ _ rfl hown1 _ rfl rfl (by unfold maxLen; omega) (by omega) hsz ?_)
     ·intro v' w' hown' hgrow;have hbel2 := zGv hbel1 hsz (Nat.le_refl _) hown1 hgrow;rw [zLa] at hown';clear hgrow hown1 hcell1 hbel1 hv
      go_wp2
      go_roundw
      case rel => exact ⟨j + 1, by omega, by go_num, hown', hbel2⟩
      case measure => simp [intOf]; omega
    ·have hj8 : j = 8 := by omega
     subst hj8
     go_wp2
     go_roundw
     case rel => exact ⟨k + 1, by omega, by go_num, hown1, hbel1⟩
     case measure => simp [intOf]; omega
  ·have hkl : k = l.length := by omega
   subst hkl;clear hc
   obtain ⟨wo, rfl⟩ : ∃ wo : World, wo = wr := ⟨_, rfl⟩
   go_wp2
   go_loopw [3, 6] (fun v i wr => ∃ j : Nat, j ≤ 32 ∧ i = .int .i64 j ∧ wr.ownsRow w.heap.size 3 1 v (8 * l.length + j) (zEx (zG5 l) (8 * l.length + j)) ∧ Below w.heap.size w wr) (fun _ i _ => 32 - (intOf i).toNat)
   case atStart => exact ⟨0, Nat.zero_le _, rfl, hown, hbel⟩
   case round =>
    obtain ⟨j, hj, rfl, hown1, hbel1⟩ := hrel;clear hown hbel
    by_cases hltj : j < 32
    ·have hsz := hbel1.size;have hz := zh (mnum_bit_hi l (8 * l.length + j) (by omega))
     go_wp2_with (at_builtin; refine zDu _ rfl _ _ 68 rfl w.heap.size 3 i0 _ 8 Tryz.underlying68 hi hz0 hz1 hz2 rfl _ _ _ rfl hown1 _ rfl rfl (by unfold maxLen; omega) (by omega) hsz ?_)
     ·intro v' w' hown' hgrow;have hbel2 := zGv hbel1 hsz (Nat.le_refl _) hown1 hgrow
      have hown2 : w'.ownsRow w.heap.size 3 1 v' (8 * l.length + (j + 1)) (zEx (zG5 l) (8 * l.length + (j + 1))) := by
       have := hown';rw [show (Value.int .i64 0) = .int .i64 (bit (zG5 l) (8 * l.length + j) : Nat) by rw [hz.out]; rfl, zLa] at this;exact this
      clear hgrow hown1 hown' hbel1
      go_wp2
      go_roundw
      case rel => exact ⟨j + 1, by omega, by go_num, hown2, hbel2⟩
      case measure => simp [intOf]; omega
    ·have hj32 : j = 32 := by omega
     subst hj32;obtain ⟨g, cap, rfl, hbg, hgs⟩ := owns_some hown1 (by omega);have hrow := zIj hown1;clear hown1;have hmb : 8 * l.length ≤ 2400 := by omega
     generalize hm : 8 * l.length = m at *;have Hm := zh hm;clear hm
     obtain ⟨wo1, rfl⟩ : ∃ wo : World, wo = wr := ⟨_, rfl⟩
     go_wp2
     go_loopw [7] (fun i wr => ∃ j : Nat, j ≤ 32 ∧ i = .int .i64 j ∧ BitRow wr g (zG2 (zG5 l) j) (m + 32) ∧ g < wr.heap.size ∧ Below w.heap.size w wr) (fun i _ => 32 - (intOf i).toNat)
     case atStart => exact ⟨0, Nat.zero_le _, rfl, by rw [flipN_zero]; exact hrow, hgs, hbel1⟩
     case round =>
      obtain ⟨j, hj, rfl, hrow1, hgs1, hbel2⟩ := hrel;clear hrow hgs hbel1
      by_cases hltj : j < 32
      ·have hcl := hrow1.cell j (by omega);have hfz := hrow1.frozen j;have hle := zPa (zG2 (zG5 l) j) j;have hnew := hrow1.set j (by omega) (zG2 (zG5 l) (j + 1)) (.int .i64 (1 - (bit (zG2 (zG5 l) j) j : Nat))) (by rw [flipN_bit]; go_num) (fun i hi => flipN_other _ _ _ hi);have hbel3 : Below w.heap.size w (wr.setCell ⟨g, j, none⟩ (.int .i64 (1 - (bit (zG2 (zG5 l) j) j : Nat)))) := hbel2.setCell hbg _
       go_wp2
       go_roundw
       case rel => exact ⟨j + 1, by omega, by go_num, hnew, by simpa [World.setCell] using hgs1, hbel3⟩
       case measure => simp [intOf]; omega
      ·have hj32 : j = 32 := by omega
       subst hj32
       obtain ⟨wo2, rfl⟩ : ∃ wo : World, wo = wr := ⟨_, rfl⟩
       have hp := BitRow.poly wo2;have hrow2 := hrow1.alloc hgs1 (.cells polyCells 3);have hbel3 : Below w.heap.size w (wo2.alloc (.cells polyCells 3)) := hbel2.alloc hbel2.size _;have hsz0 := hbel2.size;unfold polyCells at hp hrow2 hbel3;generalize hF : zG2 (zG5 l) 32 = F at *;have HF := zh hF;clear hF hrow1 hbel2
       go_wp2
       go_loopw [9] (fun i wr => ∃ k : Nat, k ≤ m ∧ i = .int .i64 k ∧ BitRow wr g (zL2 F k) (m + 32) ∧ BitRow wr wo2.heap.size poly33 33 ∧ wo2.heap.size < wr.heap.size ∧ Below w.heap.size w wr) (fun i _ => m - (intOf i).toNat)
       case atStart => exact ⟨0, Nat.zero_le _, rfl, hrow2, hp, by simp, hbel3⟩
       case round =>
        obtain ⟨k, hk, rfl, hrow3, hp1, hps, hbel4⟩ := hrel;clear hrow2 hp hbel3
        obtain ⟨wo3, rfl⟩ : ∃ wo : World, wo = wr := ⟨_, rfl⟩
        by_cases hltk : k < m
        ·have hcl := hrow3.cell k (by omega);have hred : Hid (zL2 F (k + 1) = if bit (zL2 F k) k = 1 then zL2 F k ^^^ (poly33 * 2 ^ k) else zL2 F k) := rfl
         rcases Nat.le_one_iff_eq_zero_or_eq_one.1 (zPa (zL2 F k) k) with hz | hz
         ·rw [hz] at hcl;have Hz := zh hz;clear hz;generalize zL2 F k = R at *
          go_wp2
          go_roundw
          case rel => exact ⟨k + 1, by omega, by go_num, by rw [hred.out, Hz.out]; exact hrow3, hp1, hps, hbel4⟩
          case measure => simp [intOf]; omega
         ·rw [hz] at hcl;have Hz := zh hz;clear hz;generalize zL2 F k = R at *
          go_wp2
          go_loopw [10] (fun i wr => ∃ j : Nat, j ≤ 33 ∧ i = .int .i64 j ∧ BitRow wr g (addN R k j) (m + 32) ∧ BitRow wr wo2.heap.size poly33 33 ∧ wo2.heap.size < wr.heap.size ∧ Below w.heap.size w wr) (fun i _ => 33 - (intOf i).toNat)
          case atStart => exact ⟨0, Nat.zero_le _, rfl, by rw [addN_zero]; exact hrow3, hp1, hps, hbel4⟩
          case round =>
           obtain ⟨j, hj, rfl, hrow4, hp2, hps2, hbel5⟩ := hrel;clear hrow3 hp1 hps hbel4 hcl
           by_cases hltj : j < 33
           ·have hc1 := hrow4.cell (k + j) (by omega);have hf1 := hrow4.frozen (k + j);have hc2 := hp2.cell j hltj;have hv : Hid ((((bit (addN R k j) (k + j) : Nat) : Int) + (bit poly33 j : Nat)) % 2 = (bit (addN R k (j + 1)) (k + j) : Nat)) := by show _ = _; rw [addN_bit]; omega
            have hle1 := zPa (addN R k j) (k + j);have hle2 := zPa poly33 j;have hnew := fun u hu => hrow4.set (k + j) (by omega) (addN R k (j + 1)) u hu (fun i hi => addN_other _ _ _ _ hi)
            have hp3 := fun u => hp2.other ⟨g, k + j, none⟩ (by simp; omega) u
            have hbel6 := fun u => hbel5.setCell (p := ⟨g, k + j, none⟩) hbg u
            have Hnew := zh hnew;have Hp3 := zh hp3;have Hbel6 := zh hbel6;clear hnew hp3 hbel6 hrow4 hp2 hbel5;generalize bit (addN R k j) (k + j) = x at *;generalize bit poly33 j = y at *
            go_wp2
            go_region
            go_wp2
            go_roundw
            case rel => exact ⟨j + 1, by omega, by go_num, (Hnew.out _ (by rw [← hv.out])).drew, (Hp3.out _).drew, by simpa [World.setCell] using hps2, (Hbel6.out _).drew⟩
            case measure => simp [intOf]; omega
           ·have hj33 : j = 33 := by omega
            subst hj33
            go_wp2
            go_roundw
            case rel => exact ⟨k + 1, by omega, by go_num, by rw [hred.out, if_pos Hz.out, ← addN_end]; exact hrow4, hp2, hps2, hbel5⟩
            case measure => simp [intOf]; omega
        ·have hkm : k = m := by omega
         subst hkm
         go_wp2
         go_loopw [11, 12] (fun c i wr => ∃ j : Nat, j ≤ 32 ∧ i = .int .i64 j ∧ c = .int .u32 (outN (zL2 F k) k j : Nat) ∧ BitRow wr g (zL2 F k) (k + 32) ∧ Below w.heap.size w wr) (fun _ i _ => 32 - (intOf i).toNat)
         case atStart => exact ⟨0, Nat.zero_le _, rfl, rfl, hrow3, hbel4⟩
         case round =>
          obtain ⟨j, hj, rfl, rfl, hrow4, hbel5⟩ := hrel;clear hrow3 hbel4 hp1
          by_cases hltj : j < 32
          ·have hc1 := hrow4.cell (k + j) (by omega);have hlt1 := zPo (zL2 F k) k j;have hle1 := zPa (zL2 F k) (k + j);have Hs := zh (outN_step (zL2 F k) k j hltj)
           go_wp2
           go_roundw
           case rel => exact ⟨j + 1, by omega, by go_num, by rw [← Hs.out], hrow4, hbel5⟩
           case measure => simp [intOf]; omega
          ·have hj32 : j = 32 := by omega
           subst hj32
           go_wp2
           go_ret
           exact ⟨ret_int (by rw [refSum, Hm.out, HF.out]), hbel5⟩
end
section
open Go.ChangeShapes Go.WideShapes Go.ChangeAt Go.RowKit
set_option maxRecDepth 100000
theorem cellsOf5 : Tryz.prog.cellsOf 5 = 1 := by kernel_rfl
def Within {H : Type} (t : TypeId) (d : DataW H) : Prop := ∀ n ∈ d.weights Tryz.prog t, n ≤ 140737488355328
theorem within_all {H : Type} (t : TypeId) (l : List (DataW H)) (h : ∀ n ∈ DataW.weightsAll Tryz.prog t l, n ≤ 140737488355328) : ∀ d ∈ l, Within t d := by
 induction l with
 | nil => intro d hd; cases hd
 | cons x r ih =>
   intro d hd n hn
   rcases List.mem_cons.1 hd with rfl | hd
   ·exact h n (by simp only [DataW.weightsAll, List.mem_append]; exact .inl hn)
   ·exact ih (fun n hn => h n (by simp only [DataW.weightsAll, List.mem_append]; exact .inr hn)) d hd n hn
theorem Within.elems {H : Type} {t e : TypeId} {l r : List (DataW H)} (ht : Tryz.prog.underlying t = some (.slice e)) (h : Within t (.slice l r)) : (l.length + r.length) * Tryz.prog.bytesOf e ≤ 140737488355328 ∧ ∀ d ∈ l, Within e d := by
 unfold Within at h;simp only [DataW.weights, ht] at h;refine ⟨h _ (by simp), within_all e l fun n hn => h n ?_⟩;simp only [List.mem_cons, List.mem_append];exact .inr (.inl hn)
theorem Within.of {H : Type} {ts : List TypeId} {ds : List (DataW H)} (h : (DataW.weightsEach Tryz.prog ts ds).all (· ≤ reachBytes) = true) (j : Nat) (t : TypeId) (d : DataW H) (ht : ts[j]? = some t) (hd : ds[j]? = some d) : Within t d := by
 intro n hn;have h1 := List.all_eq_true.1 h n (DataW.weights_mem_each ht hd n hn);have h2 := reachBytes_lt;simp at h1;omega
theorem bytesOf5 : Tryz.prog.bytesOf 5 = 1 := by kernel_rfl
theorem open_b {H : Type} {enc : TypeId × Value → H} {W : World} {base : Nat} {held : Bool} {fuel : Nat} {cs : List Value} {x : DataW H × List MemPlace}
  (h : DataW.trod enc Tryz.prog W base (fun _ => true) held fuel 23 cs = some x) (hw : Within 23 x.1) : ∃ v l, cs = [v] ∧ Bytes W v l ∧ l.length ≤ 140737488355328 := by
 rcases open_ints Tryz.underlying23 Tryz.underlying5 cellsOf5 h with ⟨rfl, _⟩ | ⟨a, len, cap, zs, rfl, _, hl, hm, hz, rfl, hcell, hwz⟩
 ·exact ⟨_, [], rfl, ⟨none, 0, rfl, by simp, by simp, fun _ => rfl, fun i hi => absurd hi (by simp)⟩, by simp⟩
 ·rw [if_pos rfl] at hz;have hr := (hw.elems Tryz.underlying23).1
  have hr1 : len * 1 ≤ 140737488355328 := by
   refine Nat.le_trans ?_ hr;rw [bytesOf5];simp [lits];omega
  obtain ⟨l, hll, hb⟩ := IsRow.bytes (.inr ⟨a, rfl, hl, hm, hz, hcell, hwz⟩ : IsRow .u8 W (some a) len cap zs);exact ⟨_, l, rfl, hb, by omega⟩
set_option maxRecDepth 100000 in
theorem open_sl {H : Type} {enc : TypeId × Value → H} {W : World} {base : Nat} {held : Bool} {fuel : Nat} {t e : TypeId} {cs : List Value} {x : DataW H × List MemPlace} (ht : Tryz.prog.underlying t = some (.slice e)) (hb : 1 ≤ Tryz.prog.bytesOf e)
  (hc : 1 ≤ Tryz.prog.cellsOf e) (h : DataW.trod enc Tryz.prog W base (fun _ => true) held fuel t cs = some x) (hw : Within t x.1) :
  ∃ a len cap m, cs = [.slice a len cap] ∧ len ≤ cap ∧ cap ≤ 9223372036854775807 ∧ len ≤ 140737488355328 ∧ fuel = m + 1 ∧ (a = none → len = 0 ∧ cap = 0) ∧
   ∀ i, i < len → ∃ bb o es y, a = some ⟨bb, o, none⟩ ∧ es.length = Tryz.prog.cellsOf e ∧ (∀ j, j < Tryz.prog.cellsOf e → W.cell? ⟨bb, o + i * Tryz.prog.cellsOf e + j, none⟩ = es[j]?) ∧ DataW.trod enc Tryz.prog W base (fun _ => true) held m e es = some y ∧ Within e y.1 := by
 have hfu : ∃ m, fuel = m + 1 := by
  cases fuel with
  | zero => simp [DataW.trod] at h
  | succ m => exact ⟨m, rfl⟩
 rcases DataW.trod_slice ht h with ⟨rfl, _⟩ | ⟨a, len, cap, elems, rest, n, rfl, rfl, rfl, hbl, hl, hm, hel, hx, -, -⟩
 ·obtain ⟨m, hm⟩ := hfu;exact ⟨none, 0, 0, m, rfl, by simp, by simp, by simp, hm, fun _ => ⟨rfl, rfl⟩, fun i hi => absurd hi (by simp)⟩
 ·obtain ⟨hr, he⟩ := hw.elems ht
  have hlen : len ≤ 140737488355328 := by
   refine Nat.le_trans ?_ hr;simp only [List.length_map, hel];exact Nat.le_trans (by omega) (Nat.le_mul_of_pos_right _ hb)
  refine ⟨some a, len, cap, n, rfl, hl, by unfold maxLen at hm; omega, hlen, rfl, (fun h => by cases h), fun i hi => ?_⟩;have h1 := hx i hi;rw [List.getElem?_eq_getElem (show i < elems.length by omega)] at h1;obtain ⟨es, h2, h3⟩ := Option.bind_eq_some_iff.1 h1;obtain ⟨-, h4, h5⟩ := World.cells?_some h2
  have hsp : a.spot = none := by
   have g1 := hx 0 (by omega);rw [List.getElem?_eq_getElem (show 0 < elems.length by omega)] at g1;obtain ⟨es0, g2, g3⟩ := Option.bind_eq_some_iff.1 g1;obtain ⟨-, g4, g5⟩ := World.cells?_some g2;have h6 := g5 0 (by omega);rw [List.getElem?_eq_getElem (show 0 < es0.length by omega), Nat.zero_mul] at h6;have h7 := World.cell?_spot h6;simpa [Addr.add] using h7
  obtain ⟨bb, o, sp⟩ := a;simp only at hsp;subst hsp;refine ⟨bb, o, es, elems[i], rfl, h4, fun j hj => ?_, h3, he _ (List.mem_map_of_mem (List.getElem_mem _))⟩;have := h5 j hj;rw [Addr.add_lit, Addr.add_lit] at this;exact this
def ListAt {α : Type} (c : Nat) (R : Nat → Nat → α → Prop) (v : Value) (l : List α) : Prop :=
 ∃ a cap, v = .slice a l.length cap ∧ l.length ≤ 140737488355328 ∧ ∀ i, (h : i < l.length) → ∃ bb o, a = some ⟨bb, o, none⟩ ∧ R bb (o + i * c) l[i]
theorem listAt_of {α : Type} {c : Nat} {R : Nat → Nat → α → Prop} {a : Option Addr} {len cap : Nat} (hl : len ≤ 140737488355328) (h : ∀ i, i < len → ∃ x bb o, a = some ⟨bb, o, none⟩ ∧ R bb (o + i * c) x) : ∃ l, ListAt c R (.slice a len cap) l := by
 have hp : ∀ i : Fin len, ∃ x bb o, a = some ⟨bb, o, none⟩ ∧ R bb (o + i * c) x := fun i => h i i.2
 refine ⟨List.ofFn fun i : Fin len => Classical.choose (hp i), a, cap, by rw [List.length_ofFn], by rw [List.length_ofFn]; exact hl, fun i hi => ?_⟩;rw [List.length_ofFn] at hi;have := Classical.choose_spec (hp ⟨i, hi⟩);simpa using this
theorem ListAt.at {α : Type} {c : Nat} {R : Nat → Nat → α → Prop} {a : Option Addr} {n cap : Nat} {l : List α} (h : ListAt c R (.slice a n cap) l) (i : Nat) (hi : i < l.length) : ∃ bb o, a = some ⟨bb, o, none⟩ ∧ R bb (o + i * c) l[i] := by
 obtain ⟨a', c', e, -, hc⟩ := h;simp only [Value.slice.injEq] at e;obtain ⟨rfl, -, -⟩ := e;exact hc i hi
def zE5 (w : World) (b o : Nat) (x : List UInt8) : Prop := ∃ u, w.cell? ⟨b, o, none⟩ = some u ∧ Bytes w u x ∧ x.length ≤ 140737488355328
section
variable {H : Type} {enc : TypeId × Value → H} {W : World} {base : Nat} {held : Bool} {fuel : Nat}
theorem cells23' : Tryz.prog.cellsOf 23 = 1 := by kernel_rfl
theorem bytes23' : Tryz.prog.bytesOf 23 = 24 := by kernel_rfl
theorem one_of_len {es : List Value} (h : es.length = 1) : ∃ v, es = [v] := by
 match es, h with
 | [v], _ => exact ⟨v, rfl⟩
set_option maxRecDepth 100000 in
theorem zMr {e : List Value} {y : DataW H × List MemPlace} {bb o : Nat} (hel : e.length = 1) (hec : W.cell? ⟨bb, o, none⟩ = e[0]?) (ht : DataW.trod enc Tryz.prog W base (fun _ => true) held fuel 23 e = some y) (hw : Within 23 y.1) : ∃ x, zE5 W bb o x := by
 obtain ⟨v, rfl⟩ := one_of_len hel;obtain ⟨v', l, e', hb, hl⟩ := open_b ht hw;simp only [List.cons.injEq, and_true] at e';subst e';exact ⟨l, v, by rw [hec]; rfl, hb, hl⟩
set_option maxRecDepth 100000 in
theorem open_rows {cs : List Value} {x : DataW H × List MemPlace} (h : DataW.trod enc Tryz.prog W base (fun _ => true) held fuel 22 cs = some x) (hw : Within 22 x.1) : ∃ v l, cs = [v] ∧ ListAt 1 (zE5 W) v l := by
 obtain ⟨a, len, cap, m, rfl, -, -, hlm, -, -, hi⟩ := open_sl Tryz.underlying22 (by rw [bytes23']; decide) (by rw [cells23']; decide) h hw;rw [cells23'] at hi
 obtain ⟨l, hl⟩ := listAt_of (R := zE5 W) (c := 1) (a := a) (cap := cap) hlm (fun i hii => by
  obtain ⟨bb, o, es, y, he, hel, hec, ht, hwy⟩ := hi i hii;obtain ⟨z, hz⟩ := zMr hel (by simpa using hec 0 (by decide)) ht hwy
  exact ⟨z, bb, o, he, by simpa using hz⟩)
 exact ⟨_, l, rfl, hl⟩
end
end
section
open Go.ChangeShapes Go.WideShapes Go.ChangeAt Go.RowKit
set_option linter.unusedVariables false
set_option maxRecDepth 100000
theorem own : ownKnob Tryz.prog.godebug = none := by kernel_rfl
theorem laidOut : laidOutB Tryz.prog = true := by kernel_rfl
def WalkIs : Prop := ∀ (rows : List (List UInt8)) (rv : Value) (mine : List UInt8) (mv : Value) (w : World) (mx : Int), ListAt 1 (zE5 w) rv rows → Bytes w mv mine → mine.length ≤ 140737488355328 → w.cell? ⟨0, 0, none⟩ = some (.int .i64 mx) →
 Calls Tryz.prog 3 #[rv, mv] w fun e w' => e = .returned (.bool true) ∧ Ext w w'
theorem max_cell {w : World} (h : w.ShapedOpen Tryz.prog) : ∃ m, w.cell? ⟨0, 0, none⟩ = some (.int .i64 m) :=
 cell_of_shapedOpen_int (zero := #[.int .i64 0]) (t := 3) h (of_decide_eq_true (by kernel_rfl)) (by kernel_rfl) rfl (by kernel_rfl) (by kernel_rfl) Tryz.underlying3
section
variable {H : Type} {enc : TypeId × Value → H}
theorem zKd {a : Assume} {C : Checked} {os : Os} {f : FuncId} {fn : Func} {s : ChangeSpec} {conds : List PathCond} {apart fresh handsOn again : Bool} {X : World → Array Value → Prop}
  (own : ownKnob C.prog.godebug = none) (started : os.Started) (noInit : C.prog.inits.idxOf? f = none) (hfn : C.prog.funcs[f]? = some fn)
  (witness : ∃ (w : World) (tape : Tape) (i : Input), w.os = os ∧ (w.forCall tape i).Shaped C.prog ∧ i.vars = [] ∧ Input.okWide C.prog (w.forCall tape i) .any w.heap.size f i ∧
   ((s.pre enc C.prog fn conds apart (w.forCall tape i).memory i.args ∧ X (w.forCall tape i).memory i.args) ∧ sizedMet enc C.prog fn (OpenSpec.ofChange s) apart (w.forCall tape i).memory i.args) ∧ a.holds C.prog (lone (Frame.enter C.prog f i.args .normal) [] (w.forCall tape i)))
  (contract : ∀ (W : World) (base : Nat) (args : Array Value) (ds gs : List (DataW H)) (before : List MemPlace),
   (∀ (j : Nat) t v, fn.params[j]? = some t → args[j]? = some v → Value.okWide C.prog W .any base t v) →
   DataW.Whole enc C.prog fn.params.toList s.vars apart W args.toList ds gs before →
   (DataW.weightsEach C.prog (fn.params.toList ++ s.plain.varTypes C.prog) (ds ++ gs)).all (· ≤ reachBytes) = true →
   W.ShapedOpen C.prog →
   Calls C.prog f args W fun e W' => ∃ v, e = .returned v ∧ s.post enc C.prog fn apart fresh handsOn again W args v W') :
  ReturnsInHanded a C os f .any (fun w args => (s.pre enc C.prog fn conds apart w args ∧ X w args) ∧ sizedMet enc C.prog fn (OpenSpec.ofChange s) apart w args) (s.post enc C.prog fn apart fresh handsOn again) := by
 refine returnsInHanded_of_calls own started noInit witness ?_;intro w tape i _ hsh _ hok hpre hholds;obtain ⟨_, _, _, fn', hfn', _, _, _, _, hval⟩ := hok;have e : fn' = fn := Option.some.inj (hfn'.symm.trans hfn);subst e;obtain ⟨⟨⟨ds, gs, before, hw, hc⟩, hx⟩, hz⟩ := hpre;have hw' := DataW.Whole.of_heap (w' := w.forCall tape i) (by rfl) hw;refine (contract (w.forCall tape i) w.heap.size i.args ds gs before hval hw' (hz.weights hw) hsh).mono fun e W' ⟨v, he, hp⟩ => ?_
 subst he;exact ChangeSpec.post_blind hp
end
theorem zJo : Tryz.f3.params = #[22, 23] := by kernel_rfl
theorem zKn : Tryz.prog.underlying 4 = some .bool := by kernel_rfl
set_option maxRecDepth 100000 in
theorem lifted (walk : WalkIs) (os : Os) (started : os.Started) (H : Type) (enc : TypeId × Value → H) :
  ReturnsInHanded {} Tryz.checked os 3 .any (fun w args => (Rows.wholeUsersSpec.pre enc Tryz.prog Tryz.f3 Rows.wholeUsersRow.domain false w args ∧ laidMetH Tryz.prog Rows.wholeUsersRow.laid w) ∧ sizedMet enc Tryz.prog Tryz.f3 (OpenSpec.ofChange Rows.wholeUsersSpec) false w args)
   (Rows.wholeUsersSpec.post enc Tryz.prog Tryz.f3 false true false false) := by
 refine zKd (C := Tryz.checked) (X := fun w _ => laidMetH Tryz.prog Rows.wholeUsersRow.laid w) own started (by kernel_rfl) Tryz.func3
  (ChangeSpec.witness_shaped (enc := enc) (C := Tryz.checked) (os := os) (X := fun w _ => laidMetH Tryz.prog Rows.wholeUsersRow.laid w) false (World.laidAll Tryz.prog os Rows.wholeUsersRow.laid) #[.slice none 0 0, .slice none 0 0] 8 (World.laidAll_os _ _ _)
   (World.shaped_of_ZipB (by kernel_rfl) (by kernel_rfl)) (by kernel_rfl) (by kernel_rfl) (by kernel_rfl)
   (by rw [MakeChecks.laidMetH_plain _ _ _ (by kernel_rfl)]; exact laidMet_laidAll _ (by kernel_rfl) (by kernel_rfl))) ?_
 intro W base args ds gs before hval0 hW hsz hsh;have hval : ∀ (j : Nat) t v, Tryz.f3.params[j]? = some t → args[j]? = some v → Value.okWide Tryz.prog W .any base t v := hval0;have hW' := hW;obtain ⟨p, q, hA0, hV, rfl, hfz, hnd⟩ := hW;have hA : DataW.TrodAll enc Tryz.prog W 0 (fun _ => true) true Tryz.f3.params.toList args.toList ds p := hA0;have hsz : (DataW.weightsEach Tryz.prog (Tryz.f3.params.toList ++ Rows.wholeUsersSpec.plain.varTypes Tryz.prog) (ds ++ gs)).all (· ≤ reachBytes) = true := hsz;rw [zJo] at hA hval hsz;obtain ⟨v0, vs0, d0, ds0, p0, q0, hargs, rfl, rfl, h0, r0⟩ := trodAll_cons hA;obtain ⟨v1, vs1, d1, ds1, p1, q1, rfl, rfl, rfl, h1, r1⟩ := trodAll_cons r0;obtain ⟨rfl, rfl, rfl⟩ := trodAll_nil r1;obtain rfl : args = #[v0, v1] := by cases args; simp_all
 obtain ⟨rfl, rfl⟩ := trodVars_none hV;have k0 := h0;have k1 := h1;have lt0 : ∀ x ∈ p0, x.block < W.heap.size := by obtain ⟨m, hm⟩ := k0; exact DataW.trod_lt m _ _ _ hm
 have lt1 : ∀ x ∈ p1, x.block < W.heap.size := by obtain ⟨m, hm⟩ := k1; exact DataW.trod_lt m _ _ _ hm
 obtain ⟨a0, len0, cap0, rfl⟩ := okWide_slice Tryz.underlying22 (hval 0 22 v0 rfl rfl);obtain ⟨a1, len1, cap1, rfl⟩ := okWide_slice Tryz.underlying23 (hval 1 23 v1 rfl rfl)
 obtain ⟨l, hp⟩ : ∃ l, ListAt 1 (zE5 W) (.slice a0 len0 cap0) l := by
  obtain ⟨fuel, hf⟩ := h0;obtain ⟨v, l, hv, hp⟩ := open_rows hf (Within.of hsz 0 22 d0 rfl rfl);simp [Value.cells] at hv;subst hv;exact ⟨l, hp⟩
 obtain ⟨m, hm, hml⟩ : ∃ m, Bytes W (.slice a1 len1 cap1) m ∧ m.length ≤ 140737488355328 := by
  obtain ⟨fuel, hf⟩ := h1;obtain ⟨v, l, hv, hp, hl⟩ := open_b hf (Within.of hsz 1 23 d1 rfl rfl);simp [Value.cells] at hv;subst hv;exact ⟨l, hp, hl⟩
 obtain ⟨mx, hmx⟩ := max_cell hsh;clear hA0 hval0;refine (walk l _ m _ W mx hp hm hml hmx).mono fun e W' ⟨he, bel⟩ => ?_
 subst he;exact ⟨_, rfl, _, _, _, [], _, [], hW', trodAll_mk1 (shut_bool zKn _), (trodAll_cons_mk (Below.trod laidOut (by kernel_rfl) (of_decide_eq_true (by kernel_rfl)) k0 bel lt0) (trodAll_cons_mk (Below.trod laidOut (by kernel_rfl) (of_decide_eq_true (by kernel_rfl)) k1 bel lt1) trodAll_mk0)), rfl, (show Below W.heap.size W W' from bel).frame _, fun h => by cases h⟩
theorem j_wf : Rows.wholeUsersRow.wf (OpenSpec.ofChange Rows.wholeUsersSpec) = true := by kernel_rfl
theorem j_laid : laidOutB Tryz.prog = true := by kernel_rfl
theorem j_maps : mapsRowed Tryz.prog = true := by kernel_rfl
theorem j_read : Tryz.f3.params.all (Tryz.prog.readableRec ·) = true := by kernel_rfl
theorem j_tie : namedTie Tryz.prog Rows.wholeUsersRow.named Rows.wholeUsersSpec.vars = true := by kernel_rfl
theorem j_st1 : (Rows.wholeUsersRow.stops == []) = true := by kernel_rfl
theorem j_st2 : (Tryz.prog.stops == []) = true := by kernel_rfl
theorem j_kn1 : (Rows.wholeUsersRow.knobs == []) = true := by kernel_rfl
theorem j_kn2 : (Tryz.prog.stopKnobs == []) = true := by kernel_rfl
theorem j_inPlace : (Rows.wholeUsersRow.inPlace == Tryz.prog.inPlace 3) = true := by kernel_rfl
theorem j_unf : (Rows.wholeUsersRow.unfollowed == Tryz.prog.unfollowed 3) = true := by kernel_rfl
theorem j_rec : (Rows.wholeUsersRow.recurses == Tryz.prog.recurses 3) = true := by kernel_rfl
theorem j_named : (Rows.wholeUsersRow.named == Tryz.prog.varsNamed 3) = true := by kernel_rfl
theorem j_m1 : (Rows.wholeUsersRow.maps == (Tryz.f3.params.toList ++ Rows.wholeUsersSpec.plain.varTypes Tryz.prog).any (Tryz.prog.mapsRec ·)) = true := by kernel_rfl
theorem j_m2 : (Rows.wholeUsersRow.ifaces == (Tryz.f3.params.toList ++ Rows.wholeUsersSpec.plain.varTypes Tryz.prog).any (Tryz.prog.ifacesRec ·)) = true := by kernel_rfl
theorem j_m3 : (Rows.wholeUsersRow.mapsOut == Tryz.prog.mapsAmong Tryz.f3.resultTypes.toList) = true := by kernel_rfl
theorem j_m4 : (Rows.wholeUsersRow.loops == (Tryz.f3.params.toList ++ Rows.wholeUsersSpec.plain.varTypes Tryz.prog).any (Tryz.prog.loopsFrom ·)) = true := by kernel_rfl
theorem j_m5 : (Rows.wholeUsersRow.wideKeys == (Tryz.f3.params.toList ++ Rows.wholeUsersSpec.plain.varTypes Tryz.prog ++ Tryz.f3.resultTypes.toList).any (Tryz.prog.wideKeysFrom ·)) = true := by kernel_rfl
theorem j_m6 : Rows.wholeUsersSpec.vars.all (Tryz.prog.varReadable ·) = true := by kernel_rfl
theorem j_m7 : Tryz.f3.resultTypes.all (fun t => Tryz.prog.readableRec t && decide (t < Tryz.prog.types.size)) = true := by kernel_rfl
theorem j_m8 : (Rows.wholeUsersRow.ifacesOut == Tryz.f3.resultTypes.toList.any (Tryz.prog.ifacesRec ·)) = true := by kernel_rfl
theorem j_m9 : (Rows.wholeUsersRow.loopsOut == Tryz.f3.resultTypes.toList.any (Tryz.prog.loopsFrom ·)) = true := by kernel_rfl
theorem j_m10 : (Rows.wholeUsersRow.plainKeys == Tryz.prog.plainKeys) = true := by kernel_rfl
theorem j_m11 : Rows.wholeUsersRow.shortTexts.isNone = true := by kernel_rfl
theorem j_m12 : Tryz.prog.stopsHeard = true := by kernel_rfl
theorem j_m13 : Tryz.prog.mayEnter = true := by kernel_rfl
theorem j_m14 : (Rows.wholeUsersRow.lifted == Tryz.prog.liftsFinal) = true := by kernel_rfl
theorem j_m15 : (Tryz.prog.make == some Rows.wholeUsersRow.make) = true := by kernel_rfl
theorem j_m16 : (Rows.wholeUsersRow.kinds == (if Rows.wholeUsersRow.domain.isEmpty then [] else Tryz.f3.params.toList.map fun t => match Tryz.prog.underlying t with | some (.int k) => some k | _ => none)) = true := by kernel_rfl
theorem j_m17 : (Rows.wholeUsersRow.pinned == Rows.wholeUsersRow.pinnedBy) = true := by kernel_rfl
theorem j_m18 : (Rows.wholeUsersRow.veiled == (Tryz.f3.params.toList ++ Rows.wholeUsersSpec.plain.varTypes Tryz.prog ++ Tryz.f3.resultTypes.toList).any (Tryz.prog.veiledRec ·)) = true := by kernel_rfl
theorem j_m19 : Rows.wholeUsersRow.veiledFits Tryz.prog Tryz.f3.params.toList (Tryz.f3.params.toList ++ Rows.wholeUsersSpec.plain.varTypes Tryz.prog ++ Tryz.f3.resultTypes.toList) = true := by kernel_rfl
theorem joined : joinedFacts Tryz.prog 3 Tryz.f3 Rows.wholeUsersSpec Rows.wholeUsersRow = true := by
 simp only [joinedFacts, Bool.and_eq_true];exact ⟨⟨⟨⟨⟨⟨⟨⟨⟨⟨⟨⟨⟨⟨⟨⟨⟨⟨⟨⟨⟨⟨⟨⟨⟨⟨⟨⟨⟨⟨⟨j_wf, j_laid⟩, j_maps⟩, j_read⟩, j_tie⟩, j_st1⟩, j_st2⟩, j_kn1⟩, j_kn2⟩, j_inPlace⟩, j_unf⟩, j_rec⟩, j_named⟩, j_m1⟩, j_m2⟩, j_m3⟩, j_m4⟩, j_m5⟩, j_m6⟩, j_m7⟩, j_m8⟩, j_m9⟩, j_m10⟩, j_m11⟩, j_m12⟩, j_m13⟩, j_m14⟩, j_m15⟩, j_m16⟩, j_m17⟩, j_m18⟩, j_m19⟩
theorem o_named : Tryz.prog.funcNamed "farrier/farriertop.WholeUsers" = some 3 := by kernel_rfl
theorem o_inst : Tryz.f3.isInstance Tryz.prog Rows.wholeUsersRow.origin Rows.wholeUsersRow.targs := of_decide_eq_true (by kernel_rfl)
theorem o_wrap : Tryz.f3.isWrapper Tryz.prog Rows.wholeUsersRow.wrapper Rows.wholeUsersRow.mainSum := by unfold Func.isWrapper; first | (rw [if_pos (by decide +kernel)]; kernel_rfl) | (rw [if_neg (by decide +kernel)]; exact ⟨rfl, rfl⟩)
theorem o_wf : Rows.wholeUsersRow.wfByText (OpenSpec.ofChange Rows.wholeUsersSpec) = true := by kernel_rfl
theorem o_main : Tryz.prog.mainIs = some (true, "637972f0dd40a1dab0841b16398cf5fd59e7d4a5c4751ab4b1198be4f4678b18".toList) := by kernel_rfl
theorem o_looks : true = Tryz.prog.looks [] := by kernel_rfl
theorem o_stand : ([22, 23].all fun u => !Tryz.prog.wantsStandIn u) = true := by kernel_rfl
theorem o_goes : false = Rows.wholeUsersRow.goesBy Tryz.prog := by kernel_rfl
theorem over (walk : WalkIs) : Rows.WholeUsersSaid :=
 OpenClaim.holds_of_wide 3 Tryz.f3 rfl rfl rfl rfl rfl rfl rfl ⟨rfl, rfl, rfl, rfl, rfl⟩ rfl rfl rfl rfl rfl o_named Tryz.func3 joined o_inst o_wrap
  (fun os started H enc _ => lifted walk os started H enc)
theorem card_of (walk : WalkIs) : Rows.WholeUsersCardSaid :=
 Claim7.holds_tied_plain_at .later [] [.data, .data, .data, .data, .sentinel, .sentinel, .pinned] true (true, "637972f0dd40a1dab0841b16398cf5fd59e7d4a5c4751ab4b1198be4f4678b18") true (over walk) (fun _ h => by cases h) o_wf (fun _ h => by cases h) wholeUsers_row_tie rfl ⟨rfl, rfl⟩ o_main rfl
  (fun f fn hf hfn => by
   obtain rfl : f = 3 := Option.some.inj (o_named.symm.trans hf) |>.symm
   obtain rfl : fn = Tryz.f3 := (Option.some.inj (Tryz.func3.symm.trans hfn)).symm
   exact ⟨o_looks, fun j t ht => by
    rw [zJo] at ht;have hm : t ∈ [22, 23] := by simpa using Array.mem_of_getElem? ht
    exact (show Tryz.prog.wantsStandIn t = false by simpa using List.all_eq_true.1 o_stand t hm)⟩)
  o_goes
end
end Go.Proofs.YtgnjjfdfoibdiaaGreatDoor
