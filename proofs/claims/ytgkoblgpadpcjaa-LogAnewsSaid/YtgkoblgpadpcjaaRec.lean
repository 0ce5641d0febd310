/- Numbers, bytes and lists as bytes: what package rec packs. -/
import Derived.Test.YtgkoblgpadpcjaaNums
import Derived.WalkLawsBesides
import Derived.Laws.IdiomStrings
import Derived.Laws.BytesArg
namespace Go.Proofs.Ytgkoblgpadpcjaa
open Go.RowKit

/-- A number's four bytes, the lowest first. -/
def le4 (n : Nat) : List UInt8 := [UInt8.ofNat n, UInt8.ofNat (n / 256), UInt8.ofNat (n / 65536), UInt8.ofNat (n / 16777216)]
/-- Bytes that a call has made. -/
def Fresh (w w' : World) (v : Value) (l : List UInt8) : Prop := Ext w w' ∧ OwnBytes w' w.heap.size v l
theorem Fresh.bytes {w w' : World} {v : Value} {l : List UInt8} (h : Fresh w w' v l) : Bytes w' v l := h.2.bytes

theorem u32_shr (n k : Nat) : ((n : Int) / (k : Int)) = ((n / k : Nat) : Int) := by simp

theorem le4_own (n : Nat) (hn : n < 4294967296) (w : World) : OwnBytes (w.alloc (.cells #[.int .u8 ((n : Int) % 256), .int .u8 ((n : Int) / 256 % 256), .int .u8 ((n : Int) / 65536 % 256), .int .u8 ((n : Int) / 16777216)] 5)) w.heap.size (.slice (some ⟨w.heap.size, 0, none⟩) 4 4) (le4 n) := by
  have h := World.ownsRow_lit (base := w.heap.size) (e := 5) (size := 1) w #[.int .u8 ((n : Int) % 256), .int .u8 ((n : Int) / 256 % 256), .int .u8 ((n : Int) / 65536 % 256), .int .u8 ((n : Int) / 16777216)] 4 (Nat.le_refl _) (by decide) rfl
  unfold OwnBytes
  have e : byteVals (le4 n) = #[(.int .u8 ((n : Int) % 256) : Value), .int .u8 ((n : Int) / 256 % 256), .int .u8 ((n : Int) / 65536 % 256), .int .u8 ((n : Int) / 16777216)].toList := by
    simp [byteVals, le4]; omega
  rw [e]
  exact h
theorem number_any (n : Nat) (hn : n < 4294967296) (w : World) :
    Calls Try.prog 64 #[.int .u32 n] w fun e w' => ∃ v, e = .returned v ∧ Fresh w w' v (le4 n) := by
  have own := Lib.hid (le4_own n hn w)
  go_enter Try.func64, Try.ntmps64
  go_wp2
  go_ret
  exact ⟨_, rfl, (Ext.refl w).alloc _, own.out⟩

/-- append to a row that the call holds, of bytes of another slice type. -/
theorem append_types {P : Program} (w : World) (t t2 ty e e2 : TypeId) (ht : P.underlying t = some (.slice e)) (h2 : P.underlying t2 = some (.slice e2)) (v u : Value) :
    (Builtin.append_ #[t, t2] ty #[v, u]).run P w = (Builtin.append_ #[t, t] ty #[v, u]).run P w := by
  cases v <;> simp [Builtin.append_, Sem.run_bind, run_underlying ht, run_underlying h2]
theorem Num_any (n : Int) (w : World) :
    Calls Try.prog 62 #[.int .i64 n] w fun e w' => ∃ v, e = .returned v ∧ Fresh w w' v (le4 (n % 4294967296).toNat) := by
  have hb : (n % 4294967296).toNat < 4294967296 := by omega
  have hc : n % 4294967296 = ((n % 4294967296).toNat : Int) := by omega
  have Hc := Lib.hid hc
  clear hc
  go_enter Try.func62, Try.ntmps62
  go_wp2_with fail
  rw [Hc.out]
  refine (number_any _ hb _).mono ?_
  rintro e w' ⟨v, rfl, f⟩
  have F := Lib.hid f
  clear f
  go_wp2
  go_ret
  exact ⟨_, rfl, F.out⟩
theorem Raw_any (l : List UInt8) (v : Value) (w : World) (hb : Bytes w v l) (hl : l.length ≤ 16777216) :
    Calls Try.prog 22 #[v] w fun e w' => ∃ v, e = .returned v ∧ Fresh w w' v (le4 l.length ++ l) := by
  have hb0 := Lib.hid hb
  obtain ⟨a, cap, rfl, hlc, hlm, -, -⟩ := hb
  go_enter Try.func22, Try.ntmps22
  go_wp2_with fail
  refine (number_any l.length (by omega) _).mono ?_
  rintro e w1 ⟨v1, rfl, f⟩
  have F := Lib.hid f
  have hsz := f.1.size
  clear f
  go_wp2_with (at_builtin; refine wpList_append_bytes _ rfl (.tmp 6) (.tmp 7) 22 rfl Try.underlying22 w.heap.size _ _ rfl rfl (le4 l.length) l F.out.2 (hb0.out.below F.out.1 (Nat.le_refl _)) (by simp [le4]; omega) hsz ?_)
  intro v2 w2 o2 g2 n2
  have E := Lib.hid (F.out.1.grown g2 hsz (fun k hk => (F.out.2.lt k hk).1))
  have O := Lib.hid o2
  clear o2 g2 n2
  go_wp2
  go_ret
  exact ⟨_, rfl, E.out, O.out⟩

/-- A row of slices of bytes. -/
def Rows' (w : World) (v : Value) (ls : List (List UInt8)) : Prop :=
  ∃ a cap, v = .slice a ls.length cap ∧ ls.length ≤ 9223372036854775807 ∧ ∀ i, (h : i < ls.length) → ∃ b o u, a = some ⟨b, o, none⟩ ∧ w.cell? ⟨b, o + i, none⟩ = some u ∧ Bytes w u ls[i]
theorem Rows'.ext {w w' : World} {v : Value} {ls : List (List UInt8)} (h : Rows' w v ls) (hb : Ext w w') : Rows' w' v ls := by
  obtain ⟨a, cap, rfl, hl, hc⟩ := h
  refine ⟨a, cap, rfl, hl, fun i hi => ?_⟩
  obtain ⟨b, o, u, rfl, hcell, hu⟩ := hc i hi
  exact ⟨b, o, u, rfl, hb.cell hcell, hu.below hb (Nat.le_refl _)⟩
theorem Bytes.ext {w w' : World} {v : Value} {l : List UInt8} (h : Bytes w v l) (hb : Ext w w') : Bytes w' v l := h.below hb (Nat.le_refl _)
theorem Ext.trans {a b c : World} (h : Ext a b) (k : Ext b c) : Ext a c := Below.trans h (Below.mono k h.size)
theorem Fresh.after {a b c : World} {v : Value} {l : List UInt8} (h : Ext a b) (f : Fresh b c v l) : Fresh a c v l := ⟨h.trans f.1, f.2.le h.size⟩
theorem Fresh.before {a b c : World} {v : Value} {l : List UInt8} (f : Fresh a b v l) (h : Ext b c) : Fresh a c v l := ⟨f.1.trans h, f.2.keptBelow h (fun k hk => (f.2.lt k hk).2)⟩
theorem wpList_append_bytes2 (w : World) {ops : Array Oper} {rest : List Oper} {o : Oper} {a : Act} {Q : Exit → Act → World → Prop}
    (hg : o.guard = none) (s x : Operand) (t t2 : TypeId) (e2 : TypeId) (hop : o.op = Op.call { callee := Callee.builtin Builtin.append, args := #[s, x], argTypes := #[t, t2] })
    (ht : Try.prog.underlying t = some (.slice 5)) (ht2 : Try.prog.underlying t2 = some (.slice e2)) (base : Nat) (v u : Value) (hs : a.eval s = v) (hx : a.eval x = u) (l m : List UInt8) (hown : OwnBytes w base v l) (hb : Bytes w u m)
    (hlen : l.length + m.length ≤ 140737488355328) (hbase : base ≤ w.heap.size)
    (hK : ∀ v' w', OwnBytes w' base v' (l ++ m) → w.grownBy w' v.ownBlock → NewOrSame w v v' → wpList Try.prog ops Q rest (a.put o.dst v') w') :
    wpList Try.prog ops Q (o :: rest) a w := by
  obtain ⟨i0, hi, hz0, hz1, hz2⟩ := info_parts Try.info5
  refine wpList_plain hg fun K hK' => ?_
  obtain ⟨v', w', hrun, r1, r2, r3⟩ := run_append_src (P := Try.prog) w base t o.type 5 i0 _ 1 1 ht hi hz0 hz1 hz2 rfl (by decide) v l.length (byteVals l) hown u m.length (byteVals m) (by simp [byteVals_length]) hb.src (byteVals_oneCell m) (by unfold maxLen; omega) (by omega) hbase
  rw [← append_types w t t2 o.type 5 e2 ht ht2] at hrun
  unfold Oper.wp
  simp [execOp, hop, resolve, invoke, builtin, hs, hx, hrun, Result.andThen]
  exact hK' _ _ (hK _ _ (by unfold OwnBytes; rw [List.length_append, byteVals_append]; exact r1) r2 r3)

theorem flatten_take_succ (ls : List (List UInt8)) (k : Nat) (h : k < ls.length) : (ls.take (k + 1)).flatten = (ls.take k).flatten ++ ls[k] := by
  rw [List.take_succ_eq_append_getElem h, List.flatten_append]; simp
theorem flatten_take_le (ls : List (List UInt8)) (k : Nat) : (ls.take k).flatten.length ≤ ls.flatten.length := by
  conv => rhs; rw [← List.take_append_drop k ls, List.flatten_append, List.length_append]
  omega

set_option maxHeartbeats 1000000 in
theorem Pack_any (ls : List (List UInt8)) (v : Value) (w : World) (hr : Rows' w v ls) (hl : ls.flatten.length ≤ 16777216) :
    Calls Try.prog 21 #[v] w fun e w' => ∃ v, e = .returned v ∧ Fresh w w' v ls.flatten := by
  have hr0 := Lib.hid hr
  obtain ⟨a, cap, rfl, hlm, -⟩ := hr
  go_enter Try.func21, Try.ntmps21
  go_wp2
  go_loopw [3, 8] (fun v i wr => ∃ k : Nat, k ≤ ls.length ∧ i = .int .i64 k ∧ Fresh w wr v (ls.take k).flatten) (fun _ i _ => ls.length - (intOf i).toNat)
  case atStart => exact ⟨0, Nat.zero_le _, rfl, Ext.refl _, OwnBytes.nil _ _⟩
  case round =>
    obtain ⟨k, hk, rfl, f⟩ := hrel
    have F := Lib.hid f
    have hsz := f.1.size
    clear f
    by_cases hlt : k < ls.length
    · obtain ⟨a', cap', e1, -, hc⟩ := hr0.out.ext F.out.1
      simp only [Value.slice.injEq] at e1
      obtain ⟨rfl, -, rfl⟩ := e1
      obtain ⟨b, o, u, rfl, hcell, hu⟩ := hc k hlt
      have hs := Lib.hid (flatten_take_succ ls k hlt)
      have h1 := flatten_take_le ls (k + 1)
      rw [hs.out, List.length_append] at h1
      have Hu := Lib.hid hu
      have H1 := Lib.hid h1
      obtain ⟨au, nu, cu, rfl⟩ : ∃ au nu cu, u = .slice au nu cu := by obtain ⟨x, y, rfl, _⟩ := hu; exact ⟨_, _, _, rfl⟩
      clear hc hu h1
      go_wp2_with (at_builtin; refine wpList_append_bytes2 _ rfl (.tmp 12) (.tmp 13) 22 32 5 rfl Try.underlying22 Try.underlying32 w.heap.size _ _ rfl rfl _ _ F.out.2 Hu.out (by have := H1.out; omega) hsz ?_)
      intro v2 w2 o2 g2 n2
      have f2 : Fresh w w2 v2 (ls.take (k + 1)).flatten := ⟨F.out.1.grown g2 hsz (fun q hq => (F.out.2.lt q hq).1), by rw [hs.out]; exact o2⟩
      clear o2 g2 n2
      go_wp2
      go_roundw
      case rel => exact ⟨k + 1, by omega, by go_num, f2⟩
      case measure => simp [intOf]; omega
    · have hkl : k = ls.length := by omega
      subst hkl
      have ht := Lib.hid (show (ls.take ls.length).flatten = ls.flatten by rw [List.take_length])
      go_wp2
      go_ret
      exact ⟨_, rfl, by rw [← ht.out]; exact F.out⟩

theorem run_bs (w : World) (v : Value) (l : List UInt8) (hb : Bytes w v l) : (convert 22 9 v).run Try.prog w = .ok (.string ⟨l.toArray⟩) w := by
  obtain ⟨a, cap, rfl, hl, hm, hn, hc⟩ := hb
  cases a with
  | none =>
    obtain rfl := hn rfl
    obtain rfl : l = [] := List.eq_nil_of_length_eq_zero (by omega)
    exact run_convert_bytes_nil w 22 5 Try.underlying22 Try.underlying5 _ _ 9 Try.underlying9
  | some ad =>
    refine run_convert_bytes_back w 22 9 5 ad cap l Try.underlying22 Try.underlying5 Try.underlying9 (fun j hj => ?_)
    obtain ⟨b, o, he, hcell⟩ := hc j hj
    obtain rfl := Option.some.inj he
    rw [Addr.add_lit]; exact hcell
theorem run_sb (w : World) (l : List UInt8) (hl : l.length ≤ 16777216) : ∃ v' w', (convert 9 22 (.string ⟨l.toArray⟩)).run Try.prog w = .ok v' w' ∧ Ext w w' ∧ Bytes w' v' l := by
  refine ⟨_, _, run_bytes_of_string w 9 22 5 ⟨l.toArray⟩ Try.underlying9 Try.underlying22 Try.underlying5, (Ext.refl w).drew.alloc _, ?_⟩
  have hsz : (⟨l.toArray⟩ : ByteArray).size = l.length := by simp [ByteArray.size]
  have hge := grownCap_ge w l.length 0 5
  have hcm := grownCap_le_maxLen w l.length 0 5 (by unfold maxLen; omega)
  rw [hsz]
  refine ⟨_, grownCap w l.length 0 5, rfl, hge, by unfold maxLen at hcm; omega, (fun h => by cases h), fun i hi => ⟨_, _, rfl, ?_⟩⟩
  have hh : (w.drew.alloc (.cells (bytesRow ⟨l.toArray⟩ (grownCap w l.length 0 5)) 5 ((bytesRow ⟨l.toArray⟩ (grownCap w l.length 0 5)).size, (bytesRow ⟨l.toArray⟩ (grownCap w l.length 0 5)).size + 1))).heap[w.heap.size]? =
      some (.cells (bytesRow ⟨l.toArray⟩ (grownCap w l.length 0 5)) 5 ((bytesRow ⟨l.toArray⟩ (grownCap w l.length 0 5)).size, (bytesRow ⟨l.toArray⟩ (grownCap w l.length 0 5)).size + 1)) := by
    show (w.heap.push _)[w.heap.size]? = _; simp
  simp only [World.cell?, hh, Nat.zero_add]
  simp [bytesRow, Array.getElem?_append, hi]
theorem wpList_sb (w : World) {ops : Array Oper} {rest : List Oper} {o : Oper} {a : Act} {Q : Exit → Act → World → Prop}
    (hg : o.guard = none) (x : Operand) (hop : o.op = .convert 9 22 x) (l : List UInt8) (hx : a.eval x = .string ⟨l.toArray⟩) (hl : l.length ≤ 16777216)
    (hK : ∀ v' w', Ext w w' → Bytes w' v' l → wpList Try.prog ops Q rest (a.put o.dst v') w') : wpList Try.prog ops Q (o :: rest) a w := by
  refine wpList_plain hg fun K hK' => ?_
  obtain ⟨v', w', hrun, r1, r2⟩ := run_sb w l hl
  unfold Oper.wp
  simp [execOp, hop, hx, hrun, Result.andThen]
  exact hK' _ _ (hK _ _ r1 r2)
theorem Text_any (l : List UInt8) (w : World) (hl : l.length ≤ 1048576) :
    Calls Try.prog 24 #[.string ⟨l.toArray⟩] w fun e w' => ∃ v, e = .returned v ∧ Fresh w w' v (le4 l.length ++ l) := by
  go_enter Try.func24, Try.ntmps24
  go_wp2_with (refine wpList_sb _ rfl (.tmp 3) rfl l rfl (by omega) ?_)
  intro v1 w1 x1 b1
  have X1 := Lib.hid x1
  have B1 := Lib.hid b1
  clear x1 b1
  go_wp2_with fail
  refine (Raw_any l _ _ B1.out (by omega)).mono ?_
  rintro e w2 ⟨v2, rfl, f⟩
  have F := Lib.hid f
  clear f
  go_wp2
  go_ret
  exact ⟨_, rfl, F.out.after X1.out⟩
theorem List_any (ls : List (List UInt8)) (v : Value) (w : World) (hr : Rows' w v ls) (hl : ls.flatten.length ≤ 16777216) :
    Calls Try.prog 23 #[v] w fun e w' => ∃ v, e = .returned v ∧ Fresh w w' v (le4 ls.flatten.length ++ ls.flatten) := by
  go_enter Try.func23, Try.ntmps23
  go_wp2_with fail
  refine (Pack_any ls v _ hr hl).mono ?_
  rintro e w1 ⟨v1, rfl, f1⟩
  have F1 := Lib.hid f1
  clear f1
  go_wp2_with fail
  refine (Raw_any _ _ _ F1.out.bytes hl).mono ?_
  rintro e w2 ⟨v2, rfl, f2⟩
  have F2 := Lib.hid f2
  clear f2
  go_wp2
  go_ret
  exact ⟨_, rfl, F2.out.after F1.out.1⟩
end Go.Proofs.Ytgkoblgpadpcjaa
