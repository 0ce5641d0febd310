/- A part of the proof of WholeUsers. -/
import Derived.StillTail
import Derived.Test.YtgnjjfdfoibdiaaGreatDoorUan
set_option linter.all false
namespace Go.Proofs.YtgnjjfdfoibdiaaGreatDoor
section
open Go.RowKit Go.Maps Go.Sort Go.Lib
set_option maxRecDepth 100000
structure RT where
 st : TypeId
 et : TypeId
 s : Nat
 nb : Nat
 z : Value
 und : Tryz.prog.underlying st = some (.slice et)
 info : (Tryz.prog.info? et).map (fun i => (i.zero, i.size, i.bytes)) = some (some z, s, nb)
 zs : z.cells.size = s
 pos : 0 < s
 le : nb ≤ 128
def rNeed : RT := ⟨32, 158, 3, 40, .agg #[.string ⟨#[]⟩, .int .i64 0, .string ⟨#[]⟩], by kernel_rfl, by kernel_rfl, rfl, by decide, by decide⟩
def rFile : RT := ⟨31, 30, 3, 48, .agg #[.string ⟨#[]⟩, .bool false, .slice none 0 0], by kernel_rfl, by kernel_rfl, rfl, by decide, by decide⟩
def rPkg : RT := ⟨40, 35, 6, 128, .agg #[.string ⟨#[]⟩, .string ⟨#[]⟩, .slice none 0 0, .slice none 0 0, .slice none 0 0, .slice none 0 0], by kernel_rfl, by kernel_rfl, rfl, by decide, by decide⟩
def rBFile : RT := ⟨101, 258, 3, 24, .agg #[.string ⟨#[]⟩, .bool false, .int .u32 0], by kernel_rfl, by kernel_rfl, rfl, by decide, by decide⟩
def zEi : RT := ⟨114, 262, 2, 24, .agg #[.int .i64 0, .string ⟨#[]⟩], by kernel_rfl, by kernel_rfl, rfl, by decide, by decide⟩
def zCv : RT := ⟨65, 194, 4, 40, .agg #[.int .i64 0, .int .i64 0, .int .i64 0, .string ⟨#[]⟩], by kernel_rfl, by kernel_rfl, rfl, by decide, by decide⟩
def rOp : RT := ⟨139, 96, 4, 64, .agg #[.int .i64 0, .string ⟨#[]⟩, .string ⟨#[]⟩, .slice none 0 0], by kernel_rfl, by kernel_rfl, rfl, by decide, by decide⟩
structure ORow (R : RT) (w : World) (base : Nat) (v : Value) (rs : List (List Value)) : Prop where
 own : w.ownsRow base R.et R.s v rs.length rs.flatten
 len : ∀ r ∈ rs, r.length = R.s
 one : ∀ r ∈ rs, ∀ u ∈ r, u.oneCell' = true
section
variable {R : RT} {w w' : World} {base : Nat} {v : Value} {rs : List (List Value)}
theorem ORow.nil (R : RT) (w : World) (base : Nat) : ORow R w base (.slice none 0 0) [] := ⟨World.ownsRow_nil _ _ _ _, (fun _ h => by cases h), (fun _ h => by cases h)⟩
theorem ORow.ext (h : ORow R w base v rs) (x : Ext w w') : ORow R w' base v rs := ⟨x.own h.own, h.len, h.one⟩
theorem ORow.mut {B : Nat} {S : List Nat} (h : ORow R w base v rs) (x : Mut B S w w') (hn : R.et + 2 ∉ S := by decide) : ORow R w' base v rs := ⟨x.own h.own hn, h.len, h.one⟩
theorem ORow.form (h : ORow R w base v rs) : ∃ a c, v = .slice a rs.length c := by
 rcases h.own.2 with ⟨rfl, h0⟩ | ⟨g, cap, cur, rfl, _⟩
 ·exact ⟨_, _, by rw [h0]⟩
 ·exact ⟨_, _, rfl⟩
theorem ORow.le (h : ORow R w base v rs) {b : Nat} (hb : b ≤ base) : ORow R w b v rs := ⟨zBm h.own hb, h.len, h.one⟩
theorem ORow.based (h : ORow R w base v rs) {b : Nat} (hb : b ≤ base) : ORow R w b v rs := h.le hb
theorem flat_idx (n : Nat) : ∀ (rs : List (List Value)) (_ : ∀ r ∈ rs, r.length = n) (k j : Nat) (hk : k < rs.length) (_ : j < n), rs.flatten[k * n + j]? = rs[k][j]?
 | [], _, k, j, hk, _ => absurd hk (by simp)
 | r :: rs, h, 0, j, _, hj => by
   have := h r (by simp);simp only [List.flatten_cons, Nat.zero_mul, Nat.zero_add, List.getElem_cons_zero];rw [List.getElem?_append_left (by omega)]
 | r :: rs, h, k + 1, j, hk, hj => by
   have h1 := h r (by simp);simp only [List.flatten_cons, List.getElem_cons_succ];rw [List.getElem?_append_right (by rw [h1, Nat.add_one_mul]; omega), h1, show (k + 1) * n + j - n = k * n + j by rw [Nat.add_one_mul]; omega];exact flat_idx n rs (fun x hx => h x (by simp [hx])) k j (by simpa using hk) hj
theorem ORow.at {a : Option Addr} {n c : Nat} (h : ORow R w base (.slice a n c) rs) (k : Nat) (hk : k < rs.length) : ∃ b, a = some ⟨b, 0, none⟩ ∧ ∀ j, j < R.s → w.cell? ⟨b, k * R.s + j, none⟩ = rs[k][j]? := by
 rcases h.own.2 with ⟨e, h0⟩ | ⟨g, cap, cur, e, hb, hg, hn, hm, hs, ht⟩
 ·omega
 ·cases e;refine ⟨g, rfl, fun j hj => ?_⟩;have hle : (k + 1) * R.s ≤ rs.length * R.s := Nat.mul_le_mul_right _ hk;rw [Nat.add_one_mul] at hle;rw [zAb hg, ← flat_idx R.s rs h.len k j hk hj, ← ht, List.getElem?_take, if_pos (by omega), Array.getElem?_toList]
theorem ORow.flat_len (h : ORow R w base v rs) : rs.flatten.length = rs.length * R.s := by
 have h1 := h.len;clear h
 induction rs with
 | nil => simp
 | cons r rs ih => rw [List.flatten_cons, List.length_append, ih (fun x hx => h1 x (by simp [hx])), h1 r (by simp), List.length_cons, Nat.add_one_mul]; omega
theorem ORow.src (h : ORow R w base v rs) : Src w v rs.length rs.flatten := by
 rcases h.own.2 with ⟨rfl, h0⟩ | ⟨g, cap, cur, rfl, hb, hg, hn, hm, hs, ht⟩
 ·exact ⟨_, _, by rw [h0], (fun _ => ⟨rfl, h0⟩), (fun ad h => by cases h)⟩
 ·refine ⟨_, _, rfl, (fun h => by cases h), fun ad had j y hy => ?_⟩;cases had
  have hj : j < rs.length * R.s := by
   rw [← h.flat_len];exact (List.getElem?_eq_some_iff.1 hy).1
  rw [Addr.add_lit, Nat.zero_add, zAb hg, ← Array.getElem?_toList, ← hy, ← ht, List.getElem?_take, if_pos hj]
theorem zMq {us : List (List Value)} {v' : Value} (h : ORow R w base v rs) (hl : ∀ r ∈ us, r.length = R.s) (ho : ∀ r ∈ us, ∀ u ∈ r, u.oneCell' = true) (r1 : w'.ownsRow base R.et R.s v' (rs.length + us.length) (rs.flatten ++ us.flatten)) : ORow R w' base v' (rs ++ us) :=
 ⟨by rw [List.length_append, List.flatten_append]; exact r1, fun r hr => by
  rcases List.mem_append.1 hr with hr | hr
  ·exact h.len r hr
  ·exact hl r hr, fun r hr => by
  rcases List.mem_append.1 hr with hr | hr
  ·exact h.one r hr
  ·exact ho r hr⟩
theorem zEv {n : Nat} : ∀ {us : List (List Value)} (_ : ∀ r ∈ us, r.length = n), us.flatten.length = us.length * n
 | [], _ => by simp
 | r :: us, h => by
   have e := zEv (us := us) fun x hx => h x (by simp [hx])
   rw [List.flatten_cons, List.length_append, e, h r (by simp), List.length_cons, Nat.add_one_mul]; omega
theorem zAr (w : World) {ops : Array Oper} {rest : List Oper} {o : Oper} {a : Act} {Q : Exit → Act → World → Prop}
  (hg : o.guard = none) (s x : Operand) (R : RT) (hop : o.op = Op.call { callee := Callee.builtin Builtin.append, args := #[s, x], argTypes := #[R.st, R.st] })
  (base : Nat) (v u : Value) (rs us : List (List Value)) (hs : a.eval s = v) (hx : a.eval x = u) (hown : ORow R w base v rs) (hsrc : Src w u us.length us.flatten) (hlen : ∀ r ∈ us, r.length = R.s) (hone : ∀ r ∈ us, ∀ u ∈ r, u.oneCell' = true)
  (hl : rs.length + us.length ≤ 1000000) (hbase : base ≤ w.heap.size)
  (hK : ∀ v' w', ORow R w' base v' (rs ++ us) → w.grownBy w' v.ownBlock → Mut base [R.et + 2] w w' → zB8 w v v' → wpList Tryz.prog ops Q rest (a.put o.dst v') w') :
  wpList Tryz.prog ops Q (o :: rest) a w := by
 obtain ⟨i0, hi, hz0, hz1, hz2⟩ := info_parts R.info;have hle := R.le
 refine zBu w hg s x R.st hop base R.et i0 _ R.s R.nb R.und hi hz0 hz1 hz2 R.zs R.pos v u hs hx rs.length rs.flatten hown.own us.length us.flatten (zEv hlen) hsrc (fun u hu => by
   obtain ⟨r, hr, hu⟩ := List.mem_flatten.1 hu
   exact hone r hr u hu) (by unfold maxLen; omega) ?_ hbase
  (fun v' w' r1 r2 r3 => hK v' w' (zMq hown hlen hone r1) r2 (zIl hown.own r2) r3)
 exact Nat.le_trans (Nat.mul_le_mul hl hle) (by decide)
theorem zA9 {ops : Array Oper} {o : Oper} {a : Act} {w : World} {K : Act → World → Prop} {Q : Exit → Act → World → Prop} {E : Prop}
  (hg : o.guard = none) (s x : Operand) (R : RT) (hop : o.op = Op.call { callee := Callee.builtin Builtin.append, args := #[s, x], argTypes := #[R.st, R.st] })
  (base : Nat) (v u : Value) (rs us : List (List Value)) (hs : a.eval s = v) (hx : a.eval x = u) (hown : ORow R w base v rs) (hsrc : Src w u us.length us.flatten) (hlen : ∀ r ∈ us, r.length = R.s) (hone : ∀ r ∈ us, ∀ u ∈ r, u.oneCell' = true)
  (hl : rs.length + us.length ≤ 1000000) (hbase : base ≤ w.heap.size)
  (hK : ∀ v' w', ORow R w' base v' (rs ++ us) → w.grownBy w' v.ownBlock → Mut base [R.et + 2] w w' → zB8 w v v' → K (a.put o.dst v') w') :
  if Region.wanted o (yielded ops a.tmps) = true then Oper.wp Tryz.prog o a w K Q else E := by
 obtain ⟨i0, hi, hz0, hz1, hz2⟩ := info_parts R.info;have hle := R.le
 refine zA8 hg s x R.st hop base R.et i0 _ R.s R.nb R.und hi hz0 hz1 hz2 R.zs R.pos v u hs hx rs.length rs.flatten hown.own us.length us.flatten (zEv hlen) hsrc (fun u hu => by
   obtain ⟨r, hr, hu⟩ := List.mem_flatten.1 hu
   exact hone r hr u hu) (by unfold maxLen; omega) ?_ hbase
  (fun v' w' r1 r2 r3 => hK v' w' (zMq hown hlen hone r1) r2 (zIl hown.own r2) r3)
 exact Nat.le_trans (Nat.mul_le_mul hl hle) (by decide)
theorem zBi {W : World} {g c : Nat} {r : List Value} {t : TypeId} {fz : Nat × Nat} (h : W.heap[g]? = some (.cells r.toArray t fz)) : Src W (.slice (some ⟨g, 0, none⟩) 1 c) [r].length [r].flatten := by
 simpa using zMi (m := 1) (c := c) h
theorem zCw (w : World) {ops : Array Oper} {rest : List Oper} {o : Oper} {a : Act} {Q : Exit → Act → World → Prop}
  (hg : o.guard = none) (s x : Operand) (R : RT) (hop : o.op = Op.call { callee := Callee.builtin Builtin.append, args := #[s, x], argTypes := #[R.st, R.st] })
  (a0 : Option Addr) (u : Value) (us : List (List Value)) (hs : a.eval s = .slice a0 0 0) (hx : a.eval x = u) (hsrc : Src w u us.length us.flatten) (hlen : ∀ r ∈ us, r.length = R.s) (hone : ∀ r ∈ us, ∀ u ∈ r, u.oneCell' = true)
  (hl : us.length ≤ 1000000)
  (hK : ∀ v' w', FreshRow R.et R.s w w' (.slice a0 0 0) v' us.length us.flatten → wpList Tryz.prog ops Q rest (a.put o.dst v') w') :
  wpList Tryz.prog ops Q (o :: rest) a w := by
 obtain ⟨i0, hi, hz0, hz1, hz2⟩ := info_parts R.info;have hle := R.le
 refine zEq w hg s x R.st hop R.et i0 _ R.s R.nb R.und hi hz0 hz1 hz2 R.zs R.pos a0 u hs hx us.length us.flatten (zEv hlen) hsrc (fun u hu => by
   obtain ⟨r, hr, hu⟩ := List.mem_flatten.1 hu
   exact hone r hr u hu) (by unfold maxLen; omega) ?_ hK
 exact Nat.le_trans (Nat.mul_le_mul hl hle) (by decide)
theorem FreshRow.row {R : RT} {w w1 w' : World} {base g : Nat} {v v0 : Value} {rs : List (List Value)} (f : FreshRow R.et R.s w1 w' (.slice (some ⟨g, 0, none⟩) 0 0) v rs.length rs.flatten) (hb : w1.heap[g]? = some (.cells #[] R.et)) (hg : g < w1.heap.size) (h : ORow R w base v0 rs) : ORow R w' g v rs := by
 refine ⟨?_, h.len, h.one⟩
 rcases f.own with ⟨h0, rfl⟩ | ⟨_, ho, _⟩
 ·obtain rfl : rs = [] := List.eq_nil_of_length_eq_zero h0;exact ⟨by simp, .inr ⟨g, 0, #[], rfl, Nat.le_refl _, (f.grown.block g hg (by simp)).trans hb, by simp, by decide, by simp, by simp⟩⟩
 ·exact zBm ho (Nat.le_of_lt hg)
def zF1 (R : RT) (w : World) (rs : List (List Value)) (e : Ending) (w' : World) : Prop := ∃ v, e = .returned v ∧ ORow R w' w.heap.size v rs ∧ Ext w w'
end
theorem Clone_227 {w : World} {base : Nat} {v : Value} {rs : List (List Value)} (h : ORow rBFile w base v rs) (hl : rs.length ≤ 1000000) : Calls Tryz.prog 227 #[v] w (zF1 rBFile w rs) := by
 rcases h.own.2 with ⟨rfl, h0⟩ | ⟨g, cap, cur, rfl, _⟩
 ·obtain rfl : rs = [] := List.eq_nil_of_length_eq_zero h0;have heq := fun W : World => Lib.run_eql_slice_nil (P := Tryz.prog) W 101 258 none 0 0 0 0 rBFile.und
  go_enter Tryz.func227, Tryz.ntmps227
  go_wp2_with fail
  go_ret
  exact ⟨_, rfl, ORow.nil _ _ _, xr _⟩
 ·have heq := fun W : World => Lib.run_eql_slice_nil (P := Tryz.prog) W 101 258 (some ⟨g, 0, none⟩) rs.length cap 0 0 rBFile.und
  have HB := zh (h.ext ((xr w).alloc (.cells #[] 258)));have H := zh h;clear h;go_enter Tryz.func227, Tryz.ntmps227
  go_wp2_with (at_builtin; refine zCw (w.alloc (.cells #[] 258)) rfl _ _ rBFile rfl _ _ rs rfl rfl HB.out.src HB.out.len HB.out.one hl ?_; intro v' w' f; have F := zh f; clear f)
  go_ret
  exact ⟨_, rfl, F.out.row (heap_alloc_new w _) (by simp) H.out, ((xr w).alloc _).grow F.out.grown (fun k hk => by cases hk)⟩
theorem Clone_166 {w : World} {base : Nat} {v : Value} {rs : List (List Value)} (h : ORow rPkg w base v rs) (hl : rs.length ≤ 1000000) : Calls Tryz.prog 166 #[v] w (zF1 rPkg w rs) := by
 rcases h.own.2 with ⟨rfl, h0⟩ | ⟨g, cap, cur, rfl, _⟩
 ·obtain rfl : rs = [] := List.eq_nil_of_length_eq_zero h0;have heq := fun W : World => Lib.run_eql_slice_nil (P := Tryz.prog) W 40 35 none 0 0 0 0 rPkg.und
  go_enter Tryz.func166, Tryz.ntmps166
  go_wp2_with fail
  go_ret
  exact ⟨_, rfl, ORow.nil _ _ _, xr _⟩
 ·have heq := fun W : World => Lib.run_eql_slice_nil (P := Tryz.prog) W 40 35 (some ⟨g, 0, none⟩) rs.length cap 0 0 rPkg.und
  have HB := zh (h.ext ((xr w).alloc (.cells #[] 35)));have H := zh h;clear h;go_enter Tryz.func166, Tryz.ntmps166
  go_wp2_with (at_builtin; refine zCw (w.alloc (.cells #[] 35)) rfl _ _ rPkg rfl _ _ rs rfl rfl HB.out.src HB.out.len HB.out.one hl ?_; intro v' w' f; have F := zh f; clear f)
  go_ret
  exact ⟨_, rfl, F.out.row (heap_alloc_new w _) (by simp) H.out, ((xr w).alloc _).grow F.out.grown (fun k hk => by cases hk)⟩
theorem Clone_167 {w : World} {base : Nat} {v : Value} {rs : List (List Value)} (h : ORow rFile w base v rs) (hl : rs.length ≤ 1000000) : Calls Tryz.prog 167 #[v] w (zF1 rFile w rs) := by
 rcases h.own.2 with ⟨rfl, h0⟩ | ⟨g, cap, cur, rfl, _⟩
 ·obtain rfl : rs = [] := List.eq_nil_of_length_eq_zero h0;have heq := fun W : World => Lib.run_eql_slice_nil (P := Tryz.prog) W 31 30 none 0 0 0 0 rFile.und
  go_enter Tryz.func167, Tryz.ntmps167
  go_wp2_with fail
  go_ret
  exact ⟨_, rfl, ORow.nil _ _ _, xr _⟩
 ·have heq := fun W : World => Lib.run_eql_slice_nil (P := Tryz.prog) W 31 30 (some ⟨g, 0, none⟩) rs.length cap 0 0 rFile.und
  have HB := zh (h.ext ((xr w).alloc (.cells #[] 30)));have H := zh h;clear h;go_enter Tryz.func167, Tryz.ntmps167
  go_wp2_with (at_builtin; refine zCw (w.alloc (.cells #[] 30)) rfl _ _ rFile rfl _ _ rs rfl rfl HB.out.src HB.out.len HB.out.one hl ?_; intro v' w' f; have F := zh f; clear f)
  go_ret
  exact ⟨_, rfl, F.out.row (heap_alloc_new w _) (by simp) H.out, ((xr w).alloc _).grow F.out.grown (fun k hk => by cases hk)⟩
structure Bf where
 path : Str
 cfg : Bool
 sum : Nat
structure En where
 ver : Str
 fs : List Bf
def nmA : Str := [97]
def zEz (f : Bf) : List Value := [.string (ba f.path), .bool f.cfg, .int .u32 (f.sum : Int)]
def zBn (ver : Str) (fv : Value) : Array Value := #[.string (ba nmA), .string (ba ver), .slice none 0 0, .slice none 0 0, fv, .slice none 0 0]
def FilesV (w : World) (fv : Value) (fs : List Bf) : Prop := ORow rBFile w 0 fv (fs.map zEz) ∧ fs.length ≤ 1000
def EntV (w : World) (val : Value) (e : En) : Prop := ∃ fv, val = .agg (zBn e.ver fv) ∧ FilesV w fv e.fs
def EntO (w : World) : Option Value → Option En → Prop
 | none, none => True
 | some v, some e => EntV w v e
 | _, _ => False
def zIn (vo : Option Value) : Str → Option Value := fun k => if k = nmA then vo else none
def BaseM (w : World) (b : Nat) (o : Option En) : Prop := ∃ n vo, n ≤ 2 ∧ MapK strK w b n (zIn vo) ∧ EntO w vo o
def BaseV (w : World) (bv : Value) (o : Option En) : Prop := (bv = .agg #[.map none] ∧ o = none) ∨ ∃ b, bv = .agg #[.map (some b)] ∧ BaseM w b o
section
variable {w w' : World} {o : Option En} {vo : Option Value}
theorem FilesV.mut {B : Nat} {S : List Nat} {fv : Value} {fs : List Bf} (h : FilesV w fv fs) (x : Mut B S w w') (h1 : 260 ∉ S := by decide) : FilesV w' fv fs := ⟨h.1.mut x h1, h.2⟩
theorem FilesV.form {fv : Value} {fs : List Bf} (h : FilesV w fv fs) : ∃ a c, fv = .slice a fs.length c := by
 obtain ⟨a, c, e⟩ := h.1.form;rw [List.length_map] at e;exact ⟨a, c, e⟩
theorem EntO.mut {B : Nat} {S : List Nat} (h : EntO w vo o) (x : Mut B S w w') (h1 : 260 ∉ S := by decide) : EntO w' vo o := by
 cases vo <;> cases o <;> first | exact h | skip
 obtain ⟨fv, e, h⟩ := h;exact ⟨fv, e, h.mut x h1⟩
theorem EntO.ext (h : EntO w vo o) (x : Ext w w') : EntO w' vo o := h.mut (B := 0) (S := []) x.mut (by simp)
theorem BaseM.mut {B : Nat} {S : List Nat} {b : Nat} (h : BaseM w b o) (x : Mut B S w w') (h0 : 0 ∉ S := by decide) (h1 : 260 ∉ S := by decide) : BaseM w' b o := by
 obtain ⟨n, vo, hn, hm, he⟩ := h;exact ⟨n, vo, hn, hm.mut x (.inr h0), he.mut x h1⟩
theorem BaseM.ext {b : Nat} (h : BaseM w b o) (x : Ext w w') : BaseM w' b o := by
 obtain ⟨n, vo, hn, hm, he⟩ := h;exact ⟨n, vo, hn, hm.ext x, he.ext x⟩
end
theorem zEs : strK.ok nmA := by show nmA.length ≤ maxLen; decide
theorem zA0 : Tryz.prog.underlying 50 = some (.map 9 103) := by kernel_rfl
theorem zL8 : strK.enc nmA = .string (ba nmA) := rfl
theorem zGi {a b c : World} {row row2 : Option Nat} (h : a.grownBy b row) (g : b.grownBy c row2) (hr : ∀ k, row2 = some k → row = some k ∨ a.heap.size ≤ k) : a.grownBy c row :=
 ⟨g.os.trans h.os, g.tape.trans h.tape, g.output.trans h.output, Nat.le_trans h.size g.size, fun k hk hne => by
  refine (g.block k (Nat.lt_of_lt_of_le hk h.size) fun e => ?_).trans (h.block k hk hne)
  rcases hr k e.symm with h1 | h1
  ·exact hne h1.symm
  ·omega⟩
def copyRel (w : World) (d b n : Nat) (vo : Option Value) (wr : World) : Prop :=
 ∃ (left : Str → Bool) (c m : Nat), Hid (RngK strK wr b w.heap.size n (zIn vo) left c) ∧ Hid (w.grownBy wr (some d)) ∧ w.heap.size < wr.heap.size ∧ m ≤ 1 ∧ Hid (MapK strK wr d m (zIn (if left nmA = true then none else vo))) ∧ Hid ((left nmA = true → m = 0) ∧ ∀ x, left x = true → x = nmA)
def copyPost (w : World) (d : Nat) (vo : Option Value) (e : Ending) (w' : World) : Prop := e = .returned (.tuple #[]) ∧ w.grownBy w' (some d) ∧ ∃ m, m ≤ 1 ∧ MapK strK w' d m (zIn vo)
theorem Copy_nil (w : World) (d : Nat) : Calls Tryz.prog 233 #[.map (some d), .map none] w fun e w' => e = .returned (.tuple #[]) ∧ Ext w w' := by
 have hrg : ∀ wx : World, (Instr.range 50 (.map none)).run Tryz.prog wx = _ := fun wx => run_range_nilMap wx 50 9 103 zA0
 have hnx := fun (wx : World) (ty : TypeId) => run_next_nilMap (P := Tryz.prog) wx ty 0 0 #[]
 go_enter Tryz.func233, Tryz.ntmps233
 go_wp2_with fail
 go_loopw [] (fun wr => wr = w.alloc (.mapIter none 0 #[] 0)) (fun _ => 0)
 case atStart => rfl
 case round =>
  subst hrel
  go_wp2_with fail
  go_end0
  exact ⟨rfl, (xr w).alloc _⟩
theorem Copy_any {w : World} {d b n : Nat} {vo : Option Value} {o : Option En} (hd : MapK strK w d 0 fun _ => none) (hb : MapK strK w b n (zIn vo)) (hne : d ≠ b) (he : EntO w vo o) :
  Calls Tryz.prog 233 #[.map (some d), .map (some b)] w (copyPost w d vo) := by
 have HB := zh hb;have HD := zh hd;have hdl := hd.lt;have HE := zh he;have HNE := zh hne;clear hd hb hne he;go_enter Tryz.func233, Tryz.ntmps233
 go_wp2_with (refine zCq _ rfl _ 50 rfl 103 zA0 strK b n _ rfl HB.out ?_; intro w2 cnt0 r2 x2 z2; have R2 := zh r2; have X2 := zh x2; have Z2 := zh z2; clear r2 x2 z2)
 go_frame
 go_loopw [] (fun wr => copyRel w d b n vo wr) (fun wr => wr.rangeLeft b w.heap.size)
 case atStart =>
  refine ⟨_, cnt0, 0, R2, zh (below_grown X2.out _), by have := Z2.out; omega, by omega, zh ?_, zh ⟨fun _ => rfl, fun x hx => ?_⟩⟩
  ·refine (HD.out.ext X2.out).congr fun k => ?_
   unfold zIn;simp only [if_pos rfl]
   cases vo <;> simp
  ·unfold zIn at hx
   split at hx
   ·assumption
   ·cases hx
 case round =>
  obtain ⟨wq, rfl⟩ : ∃ x : World, x = wr := ⟨_, rfl⟩
  obtain ⟨left, c, m, HR, HG, hsz, hm, HM, HL⟩ := hrel;have hml := HM.out.lt
  go_wp2_with (refine zG8 _ rfl _ rfl b w.heap.size n _ left c rfl HR.out ?_ ?_)
  ·intro hdone;have HMD := zh (show MapK strK wq d m (zIn vo) by have := HM.out; rw [if_neg (by rw [hdone]; simp)] at this; exact this);clear hdone
   go_wp2_with fail
   go_end0
   exact ⟨rfl, HG.out, m, hm, HMD.out⟩
  ·intro x v w3 c3' hok hl hx r3 hlt g3 s3 hen;obtain rfl := HL.out.2 x hl;have hm0 := HL.out.1 hl;subst hm0;simp only [zIn, if_pos] at hx;subst hx
   obtain ⟨e, rfl⟩ : ∃ e, o = some e := by
    cases o with
    | none => exact HE.out.elim
    | some e => exact ⟨e, rfl⟩
   obtain ⟨fv, hv, hfv⟩ := HE.out;obtain ⟨fa, fc, rfl⟩ := hfv.form;simp only [zBn] at hv;subst hv;have HR3 := zh r3;have G3 := zh g3;have S3 := zh s3;clear r3 g3 s3 hfv;have HM3 := zh (HM.out.grown G3.out (fun e => by have := Option.some.inj e; omega));have HMX : Hid (∀ W, Ext w3 W → MapK strK W d 0 _) := fun W x => HM3.out.ext x
   have hmx : 0 < maxLen := by decide
   go_wp2_with (refine zMe _ rfl _ _ _ 50 rfl 103 zA0 strK d 0 _ rfl (HMX.out _ ((xr w3).alloc _)) hmx nmA rfl zEs (.agg #[.string (ba nmA), .string (ba e.ver), .slice none 0 0, .slice none 0 0, .slice fa e.fs.length fc, .slice none 0 0]) rfl ?_; intro w4 m4 g4 s4; have M4 := zh m4; have G4 := zh g4; have S4 := zh s4; clear m4 g4 s4)
   have hr4 := (HR3.out.ext ((xr w3).alloc _)).kept G4.out (fun e => by have := Option.some.inj e; exact HNE.out this.symm) (fun e => by have := Option.some.inj e; omega)
   go_roundw
   case rel =>
    refine ⟨_, c3', 1, zh hr4, zh ?_, ?_, by omega, zh ?_, zh ⟨fun h => ?_, fun x hx => ?_⟩⟩
    ·exact zGi (zGi (zGi HG.out G3.out fun k e => .inr (by cases e; exact Nat.le_refl _)) (zHk ((xr w3).alloc _)) fun k e => by cases e) G4.out fun k e => .inl e
    ·have h1 := G4.out.size;have h2 := S3.out;simp at h1; omega
    ·refine M4.out.congr fun k => ?_
     unfold putK zIn
     by_cases hk : k = nmA
     ·simp [hk]
     ·simp [hk]
    ·simp at h
    ·simp at hx;exact HL.out.2 x hx.1
   case measure =>
    rw [HR.out.left_eq, hr4.left_eq];exact hlt
end
section
open Go
section
variable {P : Program} {md : Region.Mode}
def zLp (P : Program) (l : List Oper) (n : Nat) (Q : Exit → Act → World → Prop) : Exit → Act → World → Prop
 | .normal, a, w => wpList P l.toArray Q (l.drop n) a w
 | e, a, w => Q e a w
def partB (md : Region.Mode) (ops : Array Oper) (n : Nat) : Bool :=
 decide (n < ops.size) && Region.sinkB md ops n && Region.chainB md ops n && ((ops.toList.take n).all fun o => o.guard.isNone) && ((List.range n).all fun i => (ops[i]?.map fun o => o.after.all fun e => decide (e.on < i)).getD false) && Region.seqB md ops (ops.size - n) n ((Array.replicate n true) ++ Array.replicate (ops.size - n) false)
theorem Oper.wp_part {o : Oper} {a : Act} {w : World} {K : Act → World → Prop} {l : List Oper} {n : Nat} {Q : Exit → Act → World → Prop} (h : o.wp P a w K (zLp P l n Q)) : o.wp P a w K Q := by
 unfold Oper.wp at *;generalize (execOp a.eval o).run P w = r at *
 cases r with
 | ok n w' =>
   cases n <;> simp only [Oper.upon] at h ⊢ <;>
    first
     | exact h
     | exact Calls.mono h (fun e w'' he => by cases e <;> exact he)
 | halt x w' => cases x <;> simp only [Oper.upon] at h ⊢ <;> exact h
theorem zOo {l : List Oper} {n : Nat} {lh : Array Bool} (hn : n ≤ l.length) (hs : lh.size = n) (hlt : ∀ i, i < n → ∀ o, l[i]? = some o → ∀ e ∈ o.after, e.on < n) (i : Nat) (hi : i < n) :
  i ∈ Region.ready md l.toArray (lh ++ Array.replicate (l.length - n) false) ↔ i ∈ Region.ready md (l.take n).toArray lh := by
 have hg : ∀ (j : Nat) (d : Bool), j < n → (lh ++ Array.replicate (l.length - n) false).getD j d = lh.getD j d := fun j d hj => by
  simp [Array.getElem?_append_left (show j < lh.size by omega)]
 rw [mem_ready, mem_ready, hg i _ hi];have e1 : l.toArray[i]? = (l.take n).toArray[i]? := by simp [List.getElem?_take, hi]
 rw [← e1];constructor
 ·rintro ⟨h1, o, h2, h3⟩;refine ⟨h1, o, h2, fun e he hb => ?_⟩;rw [← hg e.on _ (hlt i hi o (by simpa using h2) e he)];exact h3 e he hb
 ·rintro ⟨h1, o, h2, h3⟩;refine ⟨h1, o, h2, fun e he hb => ?_⟩;rw [hg e.on _ (hlt i hi o (by simpa using h2) e he)];exact h3 e he hb
theorem wpOp_part {l : List Oper} {n i : Nat} {Q : Exit → Act → World → Prop} {K K' : Act → World → Prop} {a : Act} {w : World} (hi : i < n) (hg : ∀ o ∈ l.take n, o.guard = none) (hK : ∀ a w, K a w → K' a w)
  (h : wpOp P (l.take n).toArray (zLp P l n Q) i K a w) : wpOp P l.toArray Q i K' a w := by
 have e1 : (l.take n).toArray[i]? = l.toArray[i]? := by simp [List.getElem?_take, hi]
 unfold wpOp at *;rw [e1] at h
 cases ho : l.toArray[i]? with
 | none => rw [ho] at h; exact hK _ _ h
 | some o =>
   rw [ho] at h
   have hw : ∀ ops t, Region.wanted o (yielded ops t) = true := fun ops t => by
    have : o.guard = none := hg o (by
     have h1 : (l.take n)[i]? = some o := by rw [List.getElem?_take, if_pos hi]; simpa using ho
     exact List.mem_of_getElem? h1)
    simp [Region.wanted, this]
   simp only [hw, if_true] at h ⊢
   rcases h with h | h
   ·exact .inl (Oper.wp_mono hK (Oper.wp_part h))
   ·exact .inr h
theorem set_app {lh b : Array Bool} {i : Nat} (hi : i < lh.size) : (lh ++ b).setIfInBounds i true = lh.setIfInBounds i true ++ b := by
 apply Array.ext';simp [List.set_append, hi]
theorem least_nat (p : Nat → Prop) : ∀ i, p i → ∃ k, p k ∧ ∀ j, j < k → ¬ p j := fun i => by
 induction i using Nat.strongRecOn with
 | _ i ih =>
   intro hi
   by_cases h : ∃ j, j < i ∧ p j
   ·obtain ⟨j, hj, hp⟩ := h;exact ih j hj hp
   ·exact ⟨i, hi, fun j hj hp => h ⟨j, hj, hp⟩⟩
theorem zKz {l : List Oper} {n : Nat} {Q : Exit → Act → World → Prop} (hn : n < l.length) (hs : Region.sinkB md l.toArray n = true) (hc : Region.chainB md l.toArray n = true) (hg : ∀ o ∈ l.take n, o.guard = none)
  (hlt : ∀ i, i < n → ∀ o, l[i]? = some o → ∀ e ∈ o.after, e.on < i) (hq : Region.seqB md l.toArray (l.length - n) n (Array.replicate n true ++ Array.replicate (l.length - n) false) = true) :
  ∀ (fuel : Nat) (lh : Array Bool) (a : Act) (w : World), lh.size = n → HeadInv md l.toArray n (lh ++ Array.replicate (l.length - n) false) → lh.toList.countP (fun b => !b) = fuel →
   wpAny P md (l.take n).toArray (zLp P l n Q) fuel lh a w → wpAny P md l.toArray Q (fuel + (l.length - n)) (lh ++ Array.replicate (l.length - n) false) a w
 | 0, lh, a, w, hsz, inv, hcnt, h => by
   have hall : lh = Array.replicate n true := by
    apply Array.ext';rw [Array.toList_replicate];rw [List.countP_eq_zero] at hcnt;exact List.eq_replicate_iff.2 ⟨by simpa using hsz, fun b hb => by simpa using hcnt b hb⟩
   subst hall;rw [Nat.zero_add];have := wpAny_of_seq (P := P) (md := md) (ops := l.toArray) (Q' := Q) (l.drop n) n _ a w (fun j => by simp [List.getElem?_drop]) (by rw [List.length_drop]; exact hq) h.2
   rwa [List.length_drop] at this
 | f + 1, lh, a, w, hsz, inv, hcnt, h => by
   obtain ⟨i0, hi0, hun, hmin⟩ : ∃ i0, i0 < n ∧ lh.getD i0 true = false ∧ ∀ j, j < i0 → lh.getD j true = true := by
    have hex : ∃ b ∈ lh.toList, (!b) = true := by
     have : 0 < lh.toList.countP (fun b => !b) := by omega
     obtain ⟨b, h1, h2⟩ := List.countP_pos_iff.1 this;exact ⟨b, h1, h2⟩
    have hex2 : ∃ i, i < n ∧ lh.getD i true = false := by
     obtain ⟨b, hb, hb2⟩ := hex;obtain ⟨i, hi, e⟩ := List.getElem_of_mem hb;have hi' : i < lh.size := by simpa using hi
     refine ⟨i, by omega, ?_⟩;simp [Array.getD, hi'];simp at e;rw [e]; simpa using hb2
    obtain ⟨x, hx⟩ := hex2;obtain ⟨k, hk, hmin⟩ := least_nat (fun i => i < n ∧ lh.getD i true = false) x hx;refine ⟨k, hk.1, hk.2, fun j hj => ?_⟩
    cases hb : lh.getD j true with
    | true => rfl
    | false => exact absurd ⟨Nat.lt_trans hj hk.1, hb⟩ (hmin j hj)
   have hle : n ≤ l.length := Nat.le_of_lt hn;have hlt' : ∀ i, i < n → ∀ o, l[i]? = some o → ∀ e ∈ o.after, e.on < n := fun i hi o ho e he => Nat.lt_trans (hlt i hi o ho e he) hi
   have hr0 : i0 ∈ Region.ready md (l.take n).toArray lh := by
    obtain ⟨o, ho⟩ : ∃ o, l[i0]? = some o := ⟨_, List.getElem?_eq_getElem (by omega)⟩
    refine mem_ready.2 ⟨hun, o, by simp [List.getElem?_take, hi0, ho], fun e he _ => ?_⟩;have h1 := hlt i0 hi0 o ho e he;have h2 := hmin e.on h1;have h3 : e.on < lh.size := by omega
    simp [Array.getD, h3] at h2 ⊢;exact h2
   have hall : ∀ i ∈ Region.ready md l.toArray (lh ++ Array.replicate (l.length - n) false), i < n := fun i hi => by
    rcases Nat.lt_or_ge i n with h1 | h1
    ·exact h1
    ·refine absurd hi (tail_waits hs hc (by simpa using hn) inv (n - i0) i0 rfl hi0 ?_ i h1);simpa [Array.getD, show i0 < lh.size by omega, show i0 < lh.size + (l.length - n) by omega, Array.getElem_append_left (show i0 < lh.size by omega)] using hun
   rw [show f + 1 + (l.length - n) = (f + (l.length - n)) + 1 by omega];refine ⟨fun h0 => ?_, fun i hi => ?_⟩
   ·have := (zOo (md := md) hle hsz hlt' i0 hi0).2 hr0;rw [h0] at this;cases this
   ·have hin := hall i hi;have hi2 := (zOo (md := md) hle hsz hlt' i hin).1 hi;have hil : i < lh.size := by omega
    refine wpOp_part hin hg (fun a' w' h' => ?_) (h.2 i hi2);rw [set_app hil];refine zKz hn hs hc hg hlt hq f _ a' w' (by simpa using hsz) ?_ ?_ h'
    ·rw [← set_app hil]; exact inv.set hi hin
    ·have hun2 := (mem_ready.1 hi2).1;simp [Array.getD, hil] at hun2;rw [Array.toList_setIfInBounds, List.countP_set (by simpa using hil)];have e1 : lh.toList[i]'(by simpa using hil) = false := by simpa using hun2
     rw [e1];simp only [Bool.not_false, Bool.not_true, if_true];rw [hcnt];simp
theorem countP_rep (n : Nat) : (Array.replicate n false).toList.countP (fun b => !b) = n := by
 rw [Array.toList_replicate, List.countP_replicate]; simp
theorem zBc {S : World → Prop} {id : Nat} {Q : Exit → Act → World → Prop} {a : Act} {w : World} {l : List Oper} (n : Nat) (hm : P.follows .mixedOrders = true) (hB : partB .any l.toArray n = true) (hS : S w.drew)
  (h : S w.drew → wpAnyH P .any (l.take n).toArray (zLp P l n Q) S n (Array.replicate n false) a w.drew) : (Code.region id l.toArray true).wp P Q a w := by
 simp only [partB, Bool.and_eq_true, decide_eq_true_eq] at hB;obtain ⟨⟨⟨⟨⟨hn, hs⟩, hc⟩, hg⟩, hlt⟩, hq⟩ := hB;have hn' : n < l.length := by simpa using hn
 have inv0 : HeadInv .any l.toArray n (Array.replicate n false ++ Array.replicate (l.length - n) false) := by
  have e : Array.replicate n false ++ Array.replicate (l.length - n) false = Array.replicate l.length false := by
   rw [Array.replicate_append_replicate]; congr 1; omega
  rw [e];exact ⟨by simp, fun j oj _ hl => (by rw [getD_replicate_false] at hl; cases hl), fun t _ ht => getD_in (by simpa using ht) (getD_replicate_false _ _)⟩
 have H := zKz (P := P) (md := .any) (Q := Q) hn' hs hc (fun o ho => by
   have := List.all_eq_true.1 hg o (by simpa using ho)
   simpa using this) (fun i hi o ho e he => by
   have := List.all_eq_true.1 hlt i (List.mem_range.2 hi);rw [show l.toArray[i]? = some o by simpa using ho] at this;simp only [Option.map_some, Option.getD_some, Array.all_eq_true_iff_forall_mem] at this
   simpa using this e he) (by simpa using hq) n (Array.replicate n false) a w.drew (by simp) inv0 (countP_rep n) (wpAny_of_held _ _ _ _ (h hS))
 refine wp_region_any hm ?_
 have e : Array.replicate n false ++ Array.replicate (l.length - n) false = Array.replicate l.length false := by
  rw [Array.replicate_append_replicate]; congr 1; omega
 rw [e, show n + (l.length - n) = l.length by omega] at H;simpa using H
end
end
section
open Go.RowKit Go.Maps Go.Sort Go.Lib
set_option maxRecDepth 100000
theorem zGt (w : World) : Calls Tryz.prog 163 #[.slice none 0 0] w fun e w' => e = .returned (.slice none 0 0) ∧ w' = w := by
 have heq := fun W : World => Lib.run_eql_slice_nil (P := Tryz.prog) W 32 158 none 0 0 0 0 rNeed.und
 go_enter Tryz.func163, Tryz.ntmps163
 go_wp2_with fail
 go_ret
 exact ⟨rfl, rfl⟩
theorem zCp (w : World) : Calls Tryz.prog 96 #[.slice none 0 0] w fun e w' => e = .returned (.slice none 0 0) ∧ w' = w := Tryz.slices_Clone_string_nil _ _ w
def zKk (w W : World) (d : Nat) (o : Option En) (e : Ending) (w' : World) : Prop := e = .returned (.tuple #[]) ∧ W.grownBy w' (some d) ∧ ∃ m vo, m ≤ 1 ∧ MapK strK w' d m (zIn vo) ∧ EntO w vo o
theorem BaseV.copy {w : World} {bv : Value} {o : Option En} (h : BaseV w bv o) : ∃ x, bv = .agg #[.map x] ∧ ∀ W d, Ext w W → MapK strK W d 0 (fun _ => none) → w.heap.size ≤ d → Calls Tryz.prog 233 #[.map (some d), .map x] W (zKk w W d o) := by
 rcases h with ⟨rfl, rfl⟩ | ⟨b, rfl, n, vo, hn, hm, he⟩
 ·refine ⟨none, rfl, fun W d x hd hsz => (Copy_nil W d).mono fun e w' ⟨h1, h2⟩ => ⟨h1, ?_, 0, none, by omega, ?_, trivial⟩⟩
  ·have := zHk h2;exact ⟨this.os, this.tape, this.output, this.size, fun k hk _ => this.block k hk (by simp)⟩
  ·refine (hd.ext h2).congr fun k => ?_
   unfold zIn; simp
 ·refine ⟨some b, rfl, fun W d x hd hsz => (Copy_any (o := o) hd (hm.ext x) (fun e => by have := hm.lt; omega) (he.ext x)).mono fun e w' ⟨h1, h2, m, h3, h4⟩ => ⟨h1, h2, m, vo, h3, h4, he⟩⟩
def zCc (w : World) (o : Option En) (e : Ending) (w' : World) : Prop := ∃ d, e = .returned (.agg #[.map (some d)]) ∧ BaseM w' d o ∧ w.heap.size ≤ d ∧ Ext w w'
theorem cells6 {V : World} {b : Nat} {v0 v1 v2 v3 v4 v5 : Value} {t : TypeId} (h : V.heap[b]? = some (.cells #[v0, v1, v2, v3, v4, v5] t (0, 0))) :
  V.cell? ⟨b, 0, none⟩ = some v0 ∧ V.cell? ⟨b, 1, none⟩ = some v1 ∧ V.cell? ⟨b, 2, none⟩ = some v2 ∧ V.cell? ⟨b, 3, none⟩ = some v3 ∧ V.cell? ⟨b, 4, none⟩ = some v4 ∧ V.cell? ⟨b, 5, none⟩ = some v5 ∧ ∀ i, V.frozen? ⟨b, i, none⟩ = false :=
 ⟨by rw [zAb h]; rfl, by rw [zAb h]; rfl, by rw [zAb h]; rfl, by rw [zAb h]; rfl, by rw [zAb h]; rfl, by rw [zAb h]; rfl, zAl h⟩
theorem set4 {V : World} {b : Nat} (u2 u3 u4 u5 : Value) {cs : Array Value} {t : TypeId} (h : V.heap[b]? = some (.cells cs t (0, 0))) :
  Mut b [t + 2] V ((((V.setCell ⟨b, 2, none⟩ u2).setCell ⟨b, 3, none⟩ u3).setCell ⟨b, 4, none⟩ u4).setCell ⟨b, 5, none⟩ u5) :=
 ⟨rfl, rfl, rfl, by simp [World.setCell], fun k o hk hn => by
  have hkb : k ≠ b := by
   rintro rfl;rw [h] at hk;cases hk
   rcases hn with h | h
   ·omega
   ·simp [tagOf] at h
  exact (Below.heap_setCell _ _ _ k hkb).trans ((Below.heap_setCell _ _ _ k hkb).trans ((Below.heap_setCell _ _ _ k hkb).trans ((Below.heap_setCell _ _ _ k hkb).trans hk)))⟩
theorem grown_map {W w9 : World} {d n : Nat} {get : Str → Option Value} (h : MapK strK W d n get) (g : W.grownBy w9 (some d)) : Mut d [0] W w9 :=
 (Mut.refl d [0] W).grow g fun k hk => by
  cases hk;exact ⟨Nat.le_refl _, fun o ho => by obtain ⟨o', h1, h2⟩ := h.tag; rw [h1] at ho; cases ho; simp [h2]⟩
def withRel (w : World) (o l : Option En) (i : Value) (wr : World) : Prop :=
 wr.heap[w.heap.size + 1]? = some (.cells #[.map none] 52 (0, 0)) ∧ wr.heap[w.heap.size + 1 + 1 + 1]? = some (.cells #[.map (some (w.heap.size + 1 + 1))] 52 (0, 0)) ∧ Hid (Ext w wr) ∧
 ((i = .int .i64 0 ∧ Hid (∃ m vo, m ≤ 1 ∧ MapK strK wr (w.heap.size + 1 + 1) m (zIn vo) ∧ EntO w vo o)) ∨ (i = .int .i64 1 ∧ l.isSome = true ∧ Hid (BaseM wr (w.heap.size + 1 + 1) l)))
theorem with_rel {w wq ww w9 : World} {o : Option En} {e : En} {m B : Nat} {vo : Option Value} {a7 : Option Addr} {c7 : Nat} {cs : Array Value}
  (b1 : wq.heap[w.heap.size + 1]? = some (.cells #[.map none] 52 (0, 0))) (b3 : wq.heap[w.heap.size + 1 + 1 + 1]? = some (.cells #[.map (some (w.heap.size + 1 + 1))] 52 (0, 0))) (XQ : Ext w wq) (x : Ext wq ww) (hb7 : ww.heap[wq.heap.size]? = some (.cells cs 103 (0, 0)))
  (u2 u3 u4 u5 : Value) (hmx : MapK strK ((((ww.setCell ⟨wq.heap.size, 2, none⟩ u2).setCell ⟨wq.heap.size, 3, none⟩ u3).setCell ⟨wq.heap.size, 4, none⟩ u4).setCell ⟨wq.heap.size, 5, none⟩ u5) (w.heap.size + 1 + 1) m (zIn vo)) (hm : m ≤ 1)
  (G9 : ((((ww.setCell ⟨wq.heap.size, 2, none⟩ u2).setCell ⟨wq.heap.size, 3, none⟩ u3).setCell ⟨wq.heap.size, 4, none⟩ u4).setCell ⟨wq.heap.size, 5, none⟩ u5).grownBy w9 (some (w.heap.size + 1 + 1)))
  (M9 : MapK strK w9 (w.heap.size + 1 + 1) (m + 1) (putK (zIn vo) nmA (.agg #[.string (ba nmA), .string (ba e.ver), .slice none 0 0, .slice none 0 0, .slice a7 e.fs.length c7, .slice none 0 0])))
  (O7 : ORow rBFile ww B (.slice a7 e.fs.length c7) (e.fs.map zEz)) (hfl : e.fs.length ≤ 1000) : withRel w o (some e) (.int .i64 1) w9 := by
 have hsz := XQ.sz;have hw3 := (Array.getElem?_eq_some_iff.1 b3).1;have hmut := ((set4 u2 u3 u4 u5 hb7).weak (B' := w.heap.size) (T' := [105, 0]) hsz (by simp)).trans ((grown_map hmx G9).weak (B' := w.heap.size) (T' := [105, 0]) (by omega) (by simp));refine ⟨hmut.get (x.get b1) (by simp), hmut.get (x.get b3) (by simp), zh ((XQ.trans x).then_mut hmut (Nat.le_refl _)), .inr ⟨rfl, rfl, zh ⟨m + 1, some (.agg (zBn e.ver (.slice a7 e.fs.length c7))), by omega, M9.congr fun k => ?_, .slice a7 e.fs.length c7, rfl, ?_⟩⟩⟩
 ·unfold putK zIn
  by_cases hk : k = nmA
  ·simp [hk, zBn]
  ·simp [hk]
 ·exact ⟨(O7.le (Nat.zero_le _)).mut hmut, hfl⟩
theorem with_done {w wq : World} {o : Option En} (b1 : wq.heap[w.heap.size + 1]? = some (.cells #[.map none] 52 (0, 0))) (XQ : Ext w wq) (h : BaseM wq (w.heap.size + 1 + 1) o) (u : Value) : zCc w o (.returned (.agg #[.map (some (w.heap.size + 1 + 1))])) (wq.setCell ⟨w.heap.size + 1, 0, none⟩ u) :=
 ⟨_, rfl, h.mut (zAi (B := 0) (T := [54]) wq b1 u (by simp) (Nat.zero_le _)) (by simp) (by simp), by omega, XQ.setCell (by show w.heap.size ≤ w.heap.size + 1; omega) u⟩
theorem zP2 {w : World} {bv : Value} {o : Option En} (h : BaseV w bv o) : Calls Tryz.prog 154 #[bv, .slice none 0 0] w (zCc w o) := by
 have hmm := @run_makeMap Tryz.prog;obtain ⟨x, rfl, hc⟩ := h.copy
 obtain ⟨W, hW⟩ : ∃ W, W = ((((w.alloc (.cells #[.map x] 52)).alloc (.cells #[.map none] 52)).alloc (.map #[] 0)).alloc (.cells #[.map (some (w.heap.size + 1 + 1))] 52)) := ⟨_, rfl⟩
 have XW := zh (show Ext w W by rw [hW]; exact ((((xr w).alloc _).alloc _).alloc _).alloc _)
 have HC : Hid (Calls Tryz.prog 233 #[.map (some (w.heap.size + 1 + 1)), .map x] W (zKk w W (w.heap.size + 1 + 1) o)) := hc W _ XW.out (by
  have := (MapK.made strK ((w.alloc (.cells #[.map x] 52)).alloc (.cells #[.map none] 52))).ext ((xr _).alloc (.cells #[.map (some (w.heap.size + 1 + 1))] 52));rw [World.size_alloc, World.size_alloc] at this
  rw [hW]; exact this) (by omega)
 have B1 := zh (show W.heap[w.heap.size + 1]? = some (.cells #[.map none] 52 (0, 0)) by
  have := heap_alloc_new (w.alloc (.cells #[.map x] 52)) (.cells #[.map none] 52);rw [World.size_alloc] at this
  rw [hW]; exact (((xr _).alloc _).alloc _).get this)
 have B3 := zh (show W.heap[w.heap.size + 1 + 1 + 1]? = some (.cells #[.map (some (w.heap.size + 1 + 1))] 52 (0, 0)) by
  have := heap_alloc_new (((w.alloc (.cells #[.map x] 52)).alloc (.cells #[.map none] 52)).alloc (.map #[] 0)) (.cells #[.map (some (w.heap.size + 1 + 1))] 52);rw [World.size_alloc, World.size_alloc, World.size_alloc] at this
  rw [hW]; exact this)
 clear h hc;go_enter Tryz.func154, Tryz.ntmps154
 go_wp2_with (rw [← hW]; go_at_call 233; refine HC.out.mono ?_; rintro e w4 ⟨rfl, g4, k4⟩; have G4 := zh g4; have K4 := zh k4; clear g4 k4)
 have X4 := zh (XW.out.grow G4.out fun k hk => by cases hk; omega);clear hW
 go_loopw [17] (fun i wr => withRel w o none i wr) (fun i _ => 0 - (intOf i).toNat)
 case atStart =>
  refine ⟨(G4.out.block _ (Array.getElem?_eq_some_iff.1 B1.out).1 (fun e => by have := Option.some.inj e; omega)).trans B1.out, (G4.out.block _ (Array.getElem?_eq_some_iff.1 B3.out).1 (fun e => by have := Option.some.inj e; omega)).trans B3.out, X4, .inl ⟨rfl, K4⟩⟩
 case round =>
  obtain ⟨wq, rfl⟩ : ∃ x : World, x = wr := ⟨_, rfl⟩
  obtain ⟨b1, b3, XQ, hcase⟩ := hrel
  rcases hcase with ⟨rfl, HK⟩ | ⟨rfl, hls, HM⟩
  ·have hc1 : wq.cell? ⟨w.heap.size + 1, 0, none⟩ = some (.map none) := by rw [zAb b1]; rfl
   have hc3 : wq.cell? ⟨w.heap.size + 1 + 1 + 1, 0, none⟩ = some (.map (some (w.heap.size + 1 + 1))) := by rw [zAb b3]; rfl
   have hf1 : wq.frozen? ⟨w.heap.size + 1, 0, none⟩ = false := by simp [World.frozen?, b1]
   go_wp2_with fail
   refine bodyPost_ret (v := .agg #[.map (some (w.heap.size + 1 + 1))]) (by simp [results, Tryz.results154, World.cell?_setCell_same _ _ _ hc1, go_sem]) rfl ?_;refine with_done b1 XQ.out ?_ _;obtain ⟨m, vo, hm, h1, h2⟩ := HK.out;exact ⟨m, vo, by omega, h1, h2.ext XQ.out⟩
  ·cases hls
set_option maxHeartbeats 4000000 in
theorem With_one {w : World} {bv fv : Value} {g c : Nat} {o : Option En} {e : En} (h : BaseV w bv o) (hg : w.heap[g]? = some (.cells (zBn e.ver fv) 103 (0, 0))) (hfv : FilesV w fv e.fs) : Calls Tryz.prog 154 #[bv, .slice (some ⟨g, 0, none⟩) 1 c] w (zCc w (some e)) := by
 have hmm := @run_makeMap Tryz.prog;obtain ⟨x, rfl, hc⟩ := h.copy
 obtain ⟨W, hW⟩ : ∃ W, W = ((((w.alloc (.cells #[.map x] 52)).alloc (.cells #[.map none] 52)).alloc (.map #[] 0)).alloc (.cells #[.map (some (w.heap.size + 1 + 1))] 52)) := ⟨_, rfl⟩
 have XW := zh (show Ext w W by rw [hW]; exact ((((xr w).alloc _).alloc _).alloc _).alloc _)
 have HC : Hid (Calls Tryz.prog 233 #[.map (some (w.heap.size + 1 + 1)), .map x] W (zKk w W (w.heap.size + 1 + 1) o)) := hc W _ XW.out (by
  have := (MapK.made strK ((w.alloc (.cells #[.map x] 52)).alloc (.cells #[.map none] 52))).ext ((xr _).alloc (.cells #[.map (some (w.heap.size + 1 + 1))] 52));rw [World.size_alloc, World.size_alloc] at this
  rw [hW]; exact this) (by omega)
 have B1 := zh (show W.heap[w.heap.size + 1]? = some (.cells #[.map none] 52 (0, 0)) by
  have := heap_alloc_new (w.alloc (.cells #[.map x] 52)) (.cells #[.map none] 52);rw [World.size_alloc] at this
  rw [hW]; exact (((xr _).alloc _).alloc _).get this)
 have B3 := zh (show W.heap[w.heap.size + 1 + 1 + 1]? = some (.cells #[.map (some (w.heap.size + 1 + 1))] 52 (0, 0)) by
  have := heap_alloc_new (((w.alloc (.cells #[.map x] 52)).alloc (.cells #[.map none] 52)).alloc (.map #[] 0)) (.cells #[.map (some (w.heap.size + 1 + 1))] 52);rw [World.size_alloc, World.size_alloc, World.size_alloc] at this
  rw [hW]; exact this)
 obtain ⟨fa, fc, rfl⟩ := hfv.form;have HG := zh hg;have FV := zh hfv;clear h hc hg hfv;go_enter Tryz.func154, Tryz.ntmps154
 go_wp2_with (rw [← hW]; go_at_call 233; refine HC.out.mono ?_; rintro e w4 ⟨rfl, g4, k4⟩; have G4 := zh g4; have K4 := zh k4; clear g4 k4)
 have X4 := zh (XW.out.grow G4.out fun k hk => by cases hk; omega);clear hW
 go_loopw [17] (fun i wr => withRel w o (some e) i wr) (fun i _ => 1 - (intOf i).toNat)
 case atStart =>
  refine ⟨(G4.out.block _ (Array.getElem?_eq_some_iff.1 B1.out).1 (fun e => by have := Option.some.inj e; omega)).trans B1.out, (G4.out.block _ (Array.getElem?_eq_some_iff.1 B3.out).1 (fun e => by have := Option.some.inj e; omega)).trans B3.out, X4, .inl ⟨rfl, K4⟩⟩
 case round =>
  obtain ⟨wq, rfl⟩ : ∃ x : World, x = wr := ⟨_, rfl⟩
  obtain ⟨b1, b3, XQ, hcase⟩ := hrel
  rcases hcase with ⟨rfl, HK⟩ | ⟨rfl, hls, HM⟩
  ·have hgq := XQ.out.get HG.out;simp only [zBn] at hgq;have hbl : ∀ (j : Nat), wq.cell? ⟨g, j, none⟩ = _ := fun j => zAb hgq j
   have c0 := hbl 0;have c1 := hbl 1;have c2 := hbl 2;have c3 := hbl 3;have c4 := hbl 4;have c5 := hbl 5;clear hbl;simp at c0 c1 c2 c3 c4 c5;obtain ⟨m, vo, hm, hmk, -⟩ := HK.out;have HMK := zh hmk
   have HMS : Hid (∀ (V : World) (u2 u3 u4 u5 : Value), Ext wq V → MapK strK ((((V.setCell ⟨wq.heap.size, 2, none⟩ u2).setCell ⟨wq.heap.size, 3, none⟩ u3).setCell ⟨wq.heap.size, 4, none⟩ u4).setCell ⟨wq.heap.size, 5, none⟩ u5) (w.heap.size + 1 + 1) m (zIn vo)) := fun V u2 u3 u4 u5 x => by
    have hlt : w.heap.size + 1 + 1 ≠ wq.heap.size := by have := HMK.out.lt; omega
    exact ((((HMK.out.ext x).setCell hlt _).setCell hlt _).setCell hlt _).setCell hlt _
   have hmm1 : m < maxLen := by unfold maxLen; omega
   clear hmk;have HC3 : Hid (∀ W, Ext wq W → W.cell? ⟨w.heap.size + 1 + 1 + 1, 0, none⟩ = some (.map (some (w.heap.size + 1 + 1)))) := fun W x => by rw [zAb (x.get b3)]; rfl
   have HCL : Hid (∀ W, Ext wq W → Calls Tryz.prog 227 #[.slice fa e.fs.length fc] W (zF1 rBFile W (e.fs.map zEz))) := fun W x => Clone_227 (((FV.out.mut XQ.out.mut (B := 0) (S := []) (by simp)).mut x.mut (B := 0) (S := []) (by simp))).1 (by rw [List.length_map]; have := FV.out.2; omega)
   have hne : wq.heap.size ≠ w.heap.size + 1 + 1 + 1 := by have := (Array.getElem?_eq_some_iff.1 b3).1; omega
   have KT : Hid (∀ V, Ext (wq.alloc (.cells #[.string (ba nmA), .string (ba e.ver), .slice none 0 0, .slice none 0 0, .slice fa e.fs.length fc, .slice none 0 0] 103)).drew V → _) := fun V x => (fun (h : V.heap[wq.heap.size]? = _) => And.intro h (cells6 h)) (x.get (heap_alloc_new wq _))
   go_wp2_with fail
   refine zBc (S := (fun V => V.cell? ⟨wq.heap.size, 2, none⟩ = some (.slice none 0 0) ∧ V.cell? ⟨wq.heap.size, 3, none⟩ = some (.slice none 0 0) ∧ V.cell? ⟨wq.heap.size, 4, none⟩ = some (.slice fa e.fs.length fc) ∧ V.cell? ⟨wq.heap.size, 5, none⟩ = some (.slice none 0 0))) 13 (by kernel_rfl) (by kernel_rfl) (by simp [*]) fun _ => ?_
   simp only [List.take_succ_cons, List.take_zero];refine tk 0 ?_;refine tk 3 ?_;refine tk 6 ?_;refine tk 9 ?_;refine tk 1 ?_;refine tk 4 ?_;refine tk 7 ?_;refine tk 10 ?_;refine rd 2 fun K hK => ?_
   go_simp
   (go_at_call 163; refine (zGt _).mono ?_; rintro e ww ⟨rfl, rfl⟩)
   go_wp2_with fail
   refine hK.out _ _ ?_ fun _ => ?_
   ·simp [*]
   clear hK K;refine tk 12 ?_;refine rd 5 fun K hK => ?_
   go_simp
   (go_at_call 96; refine (zCp _).mono ?_; rintro e ww ⟨rfl, rfl⟩)
   go_wp2_with fail
   refine hK.out _ _ ?_ fun _ => ?_
   ·simp [*]
   clear hK K
   try simp only [nf]
   refine rd 8 fun K hK => ?_
   go_simp
   (go_at_call 227; refine (HCL.out _ ((xr wq).alloc _).drew).mono ?_; rintro e ww ⟨v7, rfl, o7, x7⟩; (obtain ⟨a7, c7, rfl⟩ := o7.form); (obtain ⟨hb7, d0, d1, d2, d3, d4, d5, f7⟩ := KT.out _ x7); have HB7 := zh hb7; clear hb7; have XX : Hid (Ext wq ww) := ((xr wq).alloc _).drew.trans x7; have hc3 := HC3.out _ XX.out; (rw [List.length_map] at o7 ⊢); have O7 := zh o7; clear o7 x7)
   go_wp2_with fail
   refine hK.out _ _ ?_ fun _ => ?_
   ·simp [*]
   clear hK K
   try simp only [nf]
   refine rd 11 fun K hK => ?_
   go_simp
   (go_at_call 96; refine (zCp _).mono ?_; rintro e ww ⟨rfl, rfl⟩)
   go_wp2_with fail
   refine hK.out _ _ ?_ fun _ => ?_
   ·simp [*]
   clear hK K
   try simp only [nf]
   refine wpAnyH_done (by kernel_rfl) ?_ _;simp only [zLp, List.drop_succ_cons, List.drop_zero]
   go_wp2_with (refine zMe _ (by rfl) _ _ _ 50 (by rfl) 103 zA0 strK (w.heap.size + 1 + 1) m (zIn vo) (by rfl) ?hM hmm1 nmA (by rfl) zEs (.agg #[.string (ba nmA), .string (ba e.ver), .slice none 0 0, .slice none 0 0, .slice a7 e.fs.length c7, .slice none 0 0]) (by rfl) ?hK; (case hM => exact HMS.out ww _ _ _ _ XX.out); intro w9 m9 g9 s9; have M9 := zh m9; have G9 := zh g9; clear m9 g9 s9)
   go_roundw
   case rel =>
    exact with_rel b1 b3 XQ.out XX.out HB7.out _ _ _ _ (HMS.out _ _ _ _ _ XX.out) hm G9.out M9.out O7.out FV.out.2
   case measure => simp [intOf]
  ·have hc1 : wq.cell? ⟨w.heap.size + 1, 0, none⟩ = some (.map none) := by rw [zAb b1]; rfl
   have hc3 : wq.cell? ⟨w.heap.size + 1 + 1 + 1, 0, none⟩ = some (.map (some (w.heap.size + 1 + 1))) := by rw [zAb b3]; rfl
   have hf1 : wq.frozen? ⟨w.heap.size + 1, 0, none⟩ = false := by simp [World.frozen?, b1]
   go_wp2_with fail
   refine bodyPost_ret (v := .agg #[.map (some (w.heap.size + 1 + 1))]) (by simp [results, Tryz.results154, World.cell?_setCell_same _ _ _ hc1, go_sem]) rfl ?_;exact with_done b1 XQ.out HM.out _
theorem new_done {w w2 : World} {d : Nat} {o : Option En} {cs : Array Value} (m2 : BaseM w2 d o) (hd : (w.alloc (.cells cs 52)).heap.size ≤ d) (x2 : Ext (w.alloc (.cells cs 52)) w2) (u : Value) : zCc w o (.returned (.agg #[.map (some d)])) (w2.setCell ⟨w.heap.size, 0, none⟩ u) := by
 rw [World.size_alloc] at hd;exact ⟨d, rfl, m2.mut (zAi (B := 0) (T := [54]) w2 (x2.get (heap_alloc_new w _)) u (by simp) (Nat.zero_le _)) (by simp) (by simp), by omega, (((xr w).alloc _).trans x2).setCell (Nat.le_refl _) u⟩
theorem New_nil (w : World) : Calls Tryz.prog 97 #[.slice none 0 0] w (zCc w none) := by
 have HW : Hid (∀ W, Ext w W → Calls Tryz.prog 154 #[.agg #[.map none], .slice none 0 0] W (zCc W none)) := fun W x => zP2 (.inl ⟨rfl, rfl⟩)
 go_enter Tryz.func97, Tryz.ntmps97
 go_wp2_with (go_at_call 154; refine (HW.out _ ((xr w).alloc _)).mono ?_; rintro e w2 ⟨d, rfl, m2, hd, x2⟩; have M2 := zh m2; have HD := zh hd; have X2 := zh x2; (have hb2 := x2.get (heap_alloc_new w _)); (have hc2 := zAb hb2 0); (have hf2 := zAl hb2 0); clear m2 hd x2)
 refine bodyPost_ret (v := .agg #[.map (some d)]) (by simp [results, Tryz.results97, World.cell?_setCell_same _ _ _ hc2, go_sem]) rfl ?_;exact new_done M2.out HD.out X2.out _
theorem New_one {w : World} {fv : Value} {g c : Nat} {e : En} (hg : w.heap[g]? = some (.cells (zBn e.ver fv) 103 (0, 0))) (hfv : FilesV w fv e.fs) : Calls Tryz.prog 97 #[.slice (some ⟨g, 0, none⟩) 1 c] w (zCc w (some e)) := by
 have HW : Hid (∀ W, Ext w W → Calls Tryz.prog 154 #[.agg #[.map none], .slice (some ⟨g, 0, none⟩) 1 c] W (zCc W (some e))) := fun W x => With_one (.inl ⟨rfl, rfl⟩) (x.get hg) (hfv.mut (B := 0) (S := []) x.mut (by simp))
 go_enter Tryz.func97, Tryz.ntmps97
 go_wp2_with (go_at_call 154; refine (HW.out _ ((xr w).alloc _)).mono ?_; rintro e w2 ⟨d, rfl, m2, hd, x2⟩; have M2 := zh m2; have HD := zh hd; have X2 := zh x2; (have hb2 := x2.get (heap_alloc_new w _)); (have hc2 := zAb hb2 0); (have hf2 := zAl hb2 0); clear m2 hd x2)
 refine bodyPost_ret (v := .agg #[.map (some d)]) (by simp [results, Tryz.results97, World.cell?_setCell_same _ _ _ hc2, go_sem]) rfl ?_;exact new_done M2.out HD.out X2.out _
def zCy (o : Option En) : List Str := if o.isSome then [nmA] else []
def enNamesPost (w : World) (o : Option En) (e : Ending) (w' : World) : Prop := ∃ v, e = .returned v ∧ OwnS w' w.heap.size v (zCy o) ∧ Ext w w'
theorem sortS_names (o : Option En) : zCx (zCy o) = zCy o := by
 cases o <;> simp [zCy, zCx]
theorem BaseM.has {w : World} {b n : Nat} {o : Option En} {vo : Option Value} (he : EntO w vo o) (x : Str) : x ∈ zCy o ↔ (zIn vo x).isSome = true := by
 unfold zCy zIn
 cases vo <;> cases o <;> first | exact he.elim | simp
theorem zE4 {w : World} {b : Nat} {o : Option En} (h : BaseM w b o) : Calls Tryz.prog 13 #[.agg #[.map (some b)]] w (enNamesPost w o) := by
 obtain ⟨n, vo, hn, hm, he⟩ := h
 have HK := zh (show Calls Tryz.prog 30 #[.func (.func 58) #[] #[.pointer (some ⟨(w.alloc (.cells #[.map (some b)] 52)).heap.size, 0, none⟩)]] ((w.alloc (.cells #[.map (some b)] 52)).alloc (.cells #[.map (some b)] 50)) (zDi (w.alloc (.cells #[.map (some b)] 52)) (zCy o)) from
  sortedK_31 (hm.ext ((xr w).alloc _)) (by cases o <;> simp [zCy]) (fun x => BaseM.has (b := b) (n := n) he x) (by cases o <;> simp [zCy]))
 rw [World.size_alloc] at HK;clear hm he;go_enter Tryz.func13, Tryz.ntmps13
 go_wp2_with (first
  | (go_at_call 31; refine (keysK_31 _ _).mono ?_; rintro e w3 ⟨rfl, rfl⟩)
  | (go_at_call 30; refine HK.out.mono ?_; rintro e w4 ⟨v, rfl, o4, x4⟩; have X4 := zh x4; have O4 := zh o4; clear o4 x4))
 go_ret
 have o4 := O4.out;rw [sortS_names] at o4;exact ⟨v, rfl, o4.base (by simp), ((xr w).alloc _).trans X4.out⟩
theorem zK0 {w wq : World} {d : Nat} {o : Option En} (b1 : wq.heap[w.heap.size + 1]? = some (.cells #[.map none] 52 (0, 0))) (XQ : Ext w wq) (h : BaseM wq d o) (hd : w.heap.size ≤ d) (u : Value) : zCc w o (.returned (.agg #[.map (some d)])) (wq.setCell ⟨w.heap.size + 1, 0, none⟩ u) :=
 ⟨_, rfl, h.mut (zAi (B := 0) (T := [54]) wq b1 u (by simp) (Nat.zero_le _)) (by simp) (by simp), hd, XQ.setCell (by show w.heap.size ≤ w.heap.size + 1; omega) u⟩
theorem Without_nil {w : World} {b : Nat} {o : Option En} (h : BaseM w b o) : Calls Tryz.prog 153 #[.agg #[.map (some b)], .slice none 0 0] w (zCc w o) := by
 have HW : Hid (∀ W, Ext w W → Calls Tryz.prog 154 #[.agg #[.map (some b)], .slice none 0 0] W (zCc W o)) := fun W x => zP2 (.inr ⟨b, rfl, h.ext x⟩)
 clear h;go_enter Tryz.func153, Tryz.ntmps153
 go_wp2_with (go_at_call 154; refine (HW.out _ (((xr w).alloc _).alloc _)).mono ?_; rintro e w2 ⟨d, rfl, m2, hd, x2⟩; have M2 := zh m2; have HD := zh hd; have X2 := zh x2; clear m2 hd x2)
 obtain ⟨W3, hW3⟩ : ∃ W3, W3 = w2.alloc (.cells #[.map (some d)] 52) := ⟨_, rfl⟩
 have X3 := zh (show Ext w2 W3 by rw [hW3]; exact (xr w2).alloc _)
 have B1 := zh (show W3.heap[w.heap.size + 1]? = some (.cells #[.map none] 52 (0, 0)) by
  have := heap_alloc_new (w.alloc (.cells #[.map (some b)] 52)) (.cells #[.map none] 52);rw [World.size_alloc] at this
  exact X3.out.get (X2.out.get this))
 have B5 := zh (show W3.heap[w2.heap.size]? = some (.cells #[.map (some d)] 52 (0, 0)) by rw [hW3]; exact heap_alloc_new w2 _);have XW : Hid (Ext w W3) := ((((xr w).alloc _).alloc _).trans X2.out).trans X3.out;have HD2 := zh (show w.heap.size ≤ d by have := HD.out; simp at this; omega);rw [← hW3];clear hW3
 go_loopw [12] (fun i wr => zBo W3 i wr) (fun _ _ => 0)
 case atStart => exact ⟨rfl, rfl⟩
 case round =>
  obtain ⟨rfl, rfl⟩ := hrel;have b1 := B1.out;have b5 := B5.out;have hc1 : wr.cell? ⟨w.heap.size + 1, 0, none⟩ = some (.map none) := by rw [zAb b1]; rfl
  have hc5 : wr.cell? ⟨w2.heap.size, 0, none⟩ = some (.map (some d)) := by rw [zAb b5]; rfl
  have hf1 : wr.frozen? ⟨w.heap.size + 1, 0, none⟩ = false := zAl b1 0
  go_wp2_with fail
  refine bodyPost_ret (v := .agg #[.map (some d)]) (by simp [results, Tryz.results153, World.cell?_setCell_same _ _ _ hc1, go_sem]) rfl ?_;exact zK0 B1.out XW.out (M2.out.ext X3.out) HD2.out _
def withoutRel (w W3 : World) (d w2s : Nat) (i : Value) (wr : World) : Prop :=
 (i = .int .i64 0 ∧ wr = W3) ∨ (i = .int .i64 1 ∧ Hid (BaseM wr d none) ∧ Hid (Ext w wr) ∧ wr.heap[w.heap.size + 1]? = some (.cells #[.map none] 52 (0, 0)) ∧ wr.heap[w2s]? = some (.cells #[.map (some d)] 52 (0, 0)))
theorem Without_a {w : World} {b g c : Nat} {o : Option En} (h : BaseM w b o) (hc : w.cell? ⟨g, 0, none⟩ = some (.string (ba nmA))) : Calls Tryz.prog 153 #[.agg #[.map (some b)], .slice (some ⟨g, 0, none⟩) 1 c] w (zCc w none) := by
 have HCA : Hid (∀ W, Ext w W → W.cell? ⟨g, 0, none⟩ = some (.string (ba nmA))) := fun W x => x.cell hc
 clear hc;have HW : Hid (∀ W, Ext w W → Calls Tryz.prog 154 #[.agg #[.map (some b)], .slice none 0 0] W (zCc W o)) := fun W x => zP2 (.inr ⟨b, rfl, h.ext x⟩)
 clear h;go_enter Tryz.func153, Tryz.ntmps153
 go_wp2_with (go_at_call 154; refine (HW.out _ (((xr w).alloc _).alloc _)).mono ?_; rintro e w2 ⟨d, rfl, m2, hd, x2⟩; have M2 := zh m2; have HD := zh hd; have X2 := zh x2; clear m2 hd x2)
 obtain ⟨W3, hW3⟩ : ∃ W3, W3 = w2.alloc (.cells #[.map (some d)] 52) := ⟨_, rfl⟩
 have X3 := zh (show Ext w2 W3 by rw [hW3]; exact (xr w2).alloc _)
 have B1 := zh (show W3.heap[w.heap.size + 1]? = some (.cells #[.map none] 52 (0, 0)) by
  have := heap_alloc_new (w.alloc (.cells #[.map (some b)] 52)) (.cells #[.map none] 52);rw [World.size_alloc] at this
  exact X3.out.get (X2.out.get this))
 have B5 := zh (show W3.heap[w2.heap.size]? = some (.cells #[.map (some d)] 52 (0, 0)) by rw [hW3]; exact heap_alloc_new w2 _);have XW : Hid (Ext w W3) := ((((xr w).alloc _).alloc _).trans X2.out).trans X3.out;have HD2 := zh (show w.heap.size ≤ d by have := HD.out; simp at this; omega);rw [← hW3];clear hW3
 go_loopw [12] (fun i wr => withoutRel w W3 d w2.heap.size i wr) (fun i _ => 1 - (intOf i).toNat)
 case atStart => exact .inl ⟨rfl, rfl⟩
 case round =>
  rcases hrel with ⟨rfl, rfl⟩ | ⟨rfl, MB, XR, b1, b5⟩
  ·have hca := HCA.out _ XW.out;have hc5 : wr.cell? ⟨w2.heap.size, 0, none⟩ = some (.map (some d)) := by rw [zAb B5.out]; rfl
   obtain ⟨m, vo, hm, hmk, -⟩ := M2.out.ext X3.out;have HMK := zh hmk;clear hmk
   go_wp2_with (refine zKy _ (by rfl) _ _ 50 (by rfl) 103 zA0 strK d m (zIn vo) (by rfl) HMK.out nmA (by rfl) zEs ?_; intro w9 m9 g9 s9; have M9 := zh m9; have G9 := zh g9; clear m9 g9 s9)
   go_roundw
   case rel =>
    have hmut := grown_map HMK.out G9.out;refine .inr ⟨rfl, zh ⟨m, none, hm, M9.out.congr fun k => ?_, trivial⟩, zh (XW.out.then_mut hmut HD2.out), hmut.get B1.out (by simp), hmut.get B5.out (by simp)⟩;unfold delK zIn
    by_cases hk : k = nmA <;> simp [hk]
   case measure => simp [intOf]
  ·obtain ⟨wq, rfl⟩ : ∃ x : World, x = wr := ⟨_, rfl⟩
   have hc1 : wq.cell? ⟨w.heap.size + 1, 0, none⟩ = some (.map none) := by rw [zAb b1]; rfl
   have hc5 : wq.cell? ⟨w2.heap.size, 0, none⟩ = some (.map (some d)) := by rw [zAb b5]; rfl
   have hf1 : wq.frozen? ⟨w.heap.size + 1, 0, none⟩ = false := zAl b1 0
   go_wp2_with fail
   refine bodyPost_ret (v := .agg #[.map (some d)]) (by simp [results, Tryz.results153, World.cell?_setCell_same _ _ _ hc1, go_sem]) rfl ?_;exact zK0 b1 XR.out MB.out HD2.out _
end
end Go.Proofs.YtgnjjfdfoibdiaaGreatDoor
