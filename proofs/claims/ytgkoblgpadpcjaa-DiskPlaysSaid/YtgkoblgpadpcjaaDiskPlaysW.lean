/- DiskPlays: the walk. -/
import Derived.Test.YtgkoblgpadpcjaaDiskJ
import Derived.Test.YtgkoblgpadpcjaaDiskKeepsW
import Derived.Deep.CutBlock
import Derived.Deep.QuietTactic
import Derived.BigQuiet
namespace Go.Proofs.Ytgkoblgpadpcjaa.diskPlays
open Go.RowKit

theorem same76 {W W' : World} {b base e s n : Nat} {v : Value} {xs cs : _} (h : W.ownsRow base e s v n xs) (hb : W.heap[b]? = some (.cells cs 76 (0, 0))) (he : e ≠ 76) (ho : ∀ k, k ≠ b → W'.heap[k]? = W.heap[k]?) : W'.ownsRow base e s v n xs := by
  refine row_same h fun k hk => ho k fun e2 => ?_
  subst e2
  rcases h.2 with ⟨rfl, _⟩ | ⟨g, cap, cur, rfl, -, hh, -⟩
  · cases hk
  · simp only [Value.ownBlock, Option.some.injEq] at hk
    subst hk
    have := hb.symm.trans hh
    simp only [Option.some.injEq, Obj.cells.injEq] at this
    exact he this.2.1.symm
theorem disk76 {W W' : World} {b base g kb : Nat} {D : Dk} {cs : Array Value} (h : Disk base W g kb D) (hb : W.heap[b]? = some (.cells cs 76 (0, 0))) (ho : ∀ k, k ≠ b → W'.heap[k]? = W.heap[k]?) : Disk base W' g kb D := by
  obtain ⟨cv, h⟩ := h
  have hg : g ≠ b := by rintro rfl; have := hb.symm.trans h.blk; simp at this
  have hk : kb ≠ b := by rintro rfl; have := hb.symm.trans h.row; simp at this
  exact ⟨cv, h.hg, h.hk, (ho g hg).trans h.blk, (ho kb hk).trans h.row, same76 h.cache hb (by decide) ho, h.wf⟩
theorem refis76 {W W' : World} {b kp : Nat} {kv cv : Value} {D : Dk} {cs : Array Value} (h : RefIs W kv cv kp D) (hb : W.heap[b]? = some (.cells cs 76 (0, 0))) (ho : ∀ k, k ≠ b → W'.heap[k]? = W.heap[k]?) : RefIs W' kv cv kp D :=
  ⟨same76 h.kept hb (by decide) ho, same76 h.cache hb (by decide) ho, h.keeps, h.same, h.wf⟩
theorem only_row {w w' : World} {base g kb e s n base' : Nat} {v : Value} {xs : List Value} {D : Dk} (h : w.ownsRow base' e s v n xs) (d : Disk base w g kb D) (o : DOnly base g kb w w') (h1 : e ≠ 113) (h2 : e ≠ 111) (h3 : e ≠ 63) : w'.ownsRow base' e s v n xs := by
  obtain ⟨cv, d⟩ := d
  refine row_same h fun k hk => ?_
  rcases h.2 with ⟨rfl, _⟩ | ⟨q, cap, cur, rfl, -, hh, -⟩
  · cases hk
  · simp only [Value.ownBlock, Option.some.injEq] at hk
    subst hk
    refine (o.keep hh h1 ?_ ?_).trans hh.symm
    · rintro rfl; have := hh.symm.trans d.blk; simp only [Option.some.injEq, Obj.cells.injEq] at this; exact h2 this.2.1
    · rintro rfl; have := hh.symm.trans d.row; simp only [Option.some.injEq, Obj.cells.injEq] at this; exact h3 this.2.1
theorem only_ref {w w' : World} {base g kb kp : Nat} {kv cv : Value} {D E : Dk} (h : RefIs w kv cv kp E) (d : Disk base w g kb D) (o : DOnly base g kb w w') : RefIs w' kv cv kp E :=
  ⟨only_row h.kept d o (by decide) (by decide) (by decide), only_row h.cache d o (by decide) (by decide) (by decide), h.keeps, h.same, h.wf⟩
theorem only_box {w w' : World} {base g kb b : Nat} {cs : Array Value} {D : Dk} (h : w.heap[b]? = some (.cells cs 76 (0, 0))) (d : Disk base w g kb D) (o : DOnly base g kb w w') : w'.heap[b]? = some (.cells cs 76 (0, 0)) := by
  obtain ⟨cv, d⟩ := d
  refine o.keep h (by decide) ?_ ?_
  · rintro rfl; have := h.symm.trans d.blk; simp at this
  · rintro rfl; have := h.symm.trans d.row; simp at this
/-- Both disks are at D. -/
structure Both (B base g kb b6 c : Nat) (w : World) (D : Dk) (kv cv : Value) (kp : Nat) (wr : World) : Prop where
  frame : Below B w wr
  disk : Disk base wr g kb D
  box : wr.heap[b6]? = some (.cells #[kv, cv, .bool D.down, .int .i64 D.fate, .int .u64 kp, .int .i64 D.steps] 76 (0, 0))
  ref : RefIs wr kv cv kp D
  steps : D.steps ≤ c
  cache : D.cache.length ≤ c
theorem step_steps (D : Dk) : (Dk.step D).1.steps ≤ D.steps + 1 := by
  unfold Dk.step
  split
  · split
    · exact Nat.le_refl _
    · exact Nat.le_refl _
  · exact Nat.le_refl _
theorem write_bounds (D : Dk) (a : Int) (s : List UInt8) : (D.write a s).1.steps ≤ D.steps + 1 ∧ (D.write a s).1.cache.length ≤ D.cache.length + 1 := by
  unfold Dk.write
  split
  · exact ⟨Nat.le_succ _, Nat.le_succ _⟩
  · split
    · exact ⟨Nat.le_succ _, Nat.le_succ _⟩
    · have h1 := step_steps { D with cache := D.cache ++ [(a.toNat, s)] }
      have h2 := step_cache { D with cache := D.cache ++ [(a.toNat, s)] }
      simp only [List.length_append, List.length_singleton] at h1 h2
      split
      · exact ⟨h1, h2⟩
      · exact ⟨h1, h2⟩
theorem flush_bounds (D : Dk) : (D.flush).1.steps ≤ D.steps + 1 ∧ (D.flush).1.cache.length ≤ D.cache.length + 1 := by
  unfold Dk.flush
  split
  · exact ⟨Nat.le_succ _, Nat.le_succ _⟩
  · have h1 := step_steps D
    have h2 := step_cache D
    split
    · exact ⟨h1, Nat.zero_le _⟩
    · exact ⟨h1, by show (Dk.step D).1.cache.length ≤ _; omega⟩
/-- The real disk is at D, the document's at D2. -/
structure Half (B base g kb b6 : Nat) (w : World) (D D2 : Dk) (kv cv : Value) (kp : Nat) (wr : World) : Prop where
  frame : Below B w wr
  disk : Disk base wr g kb D
  box : wr.heap[b6]? = some (.cells #[kv, cv, .bool D2.down, .int .i64 D2.fate, .int .u64 kp, .int .i64 D2.steps] 76 (0, 0))
  ref : RefIs wr kv cv kp D2
section
variable {B base g kb b6 c kp kp2 : Nat} {w wr w4 : World} {D D2 : Dk} {kv cv kv2 cv2 : Value}
theorem Both.ext (h : Both B base g kb b6 c w D kv cv kp wr) (hB : B ≤ wr.heap.size) (x : Ext wr w4) : Both B base g kb b6 c w D kv cv kp w4 :=
  ⟨h.frame.trans (x.mono hB), h.disk.ext x, x.keep h.box, h.ref.ext x, h.steps, h.cache⟩
theorem Both.more {c2 : Nat} (h : Both B base g kb b6 c w D kv cv kp wr) (hc : c ≤ c2) : Both B base g kb b6 c2 w D kv cv kp wr :=
  ⟨h.frame, h.disk, h.box, h.ref, Nat.le_trans h.steps hc, Nat.le_trans h.cache hc⟩
theorem Both.size (h : Both B base g kb b6 c w D kv cv kp wr) : b6 < wr.heap.size := (Array.getElem?_eq_some_iff.1 h.box).1
theorem Both.half (h : Both B base g kb b6 c w D kv cv kp wr) (hB : B ≤ b6) (x : Ext wr w4) (r : RefIs w4 kv2 cv2 kp2 D2) (R0 : Array Value) (hR : R0 = #[kv2, cv2, .bool D2.down, .int .i64 D2.fate, .int .u64 kp2, .int .i64 D2.steps]) :
    Half B base g kb b6 w D D2 kv2 cv2 kp2 (w4.setRow b6 R0) := by
  have hb := x.keep h.box
  have ho : ∀ k, k ≠ b6 → (w4.setRow b6 R0).heap[k]? = w4.heap[k]? := fun k hk => setRow_other w4 b6 k R0 hk
  have hs := h.size
  refine ⟨below_setRow (h.frame.trans (x.mono (by omega))) hB R0, disk76 (h.disk.ext x) hb ho, ?_, refis76 r hb ho⟩
  rw [setRow_heap w4 b6 _ R0 _ _ hb, hR]
theorem Half.size (h : Half B base g kb b6 w D D2 kv cv kp wr) : b6 < wr.heap.size := (Array.getElem?_eq_some_iff.1 h.box).1
theorem Half.both (h : Half B base g kb b6 w D D2 kv cv kp wr) (hB : B ≤ base) (hb6 : base ≤ b6) (hg : base ≤ g) (hk : base ≤ kb) (o : DOnly base g kb wr w4) (d : Disk base w4 g kb D2) (hs : D2.steps ≤ c) (hc : D2.cache.length ≤ c) : Both B base g kb b6 c w D2 kv cv kp w4 :=
  ⟨h.frame.trans ((o.below hg hk (by have := h.size; omega)).mono hB), d, only_box h.box h.disk o, only_ref h.ref h.disk o, hs, hc⟩
end
theorem built_sec2b (b c : UInt8) : Try.prog.built 62 [(0, .int .u8 b.toNat), (1, .int .u8 c.toNat)] = some (byteVals (diskKeeps.sec2 b c)).toArray := by
  obtain ⟨i0, hi, hz0, hz1, hz2⟩ := info_parts Try.zero62
  obtain ⟨i5, h5, h50, h51, h52⟩ := info_parts Try.info5
  unfold Program.built
  rw [hi, Try.underlying62]
  simp only [hz0, h5, h51]
  have e := putAt_mid [.int .u8 b.toNat] [.int .u8 0] [] (List.replicate 63 (Value.int IntKind.u8 0)) rfl
  have e2 := putAt_mid [.int .u8 c.toNat] [.int .u8 0] [.int .u8 b.toNat] (List.replicate 62 (Value.int IntKind.u8 0)) rfl
  unfold Instr.fill
  simp only [Nat.zero_mul]
  rw [if_neg (by rw [show (Value.int IntKind.u8 (b.toNat : Int)).cells.size = 1 from rfl]; decide)]
  rw [show ((Value.int IntKind.u8 (b.toNat : Int)).cells.zipIdx.foldl (fun cs (x : Value × Nat) => cs.setIfInBounds (0 + x.2) x.1) (Value.agg (byteVals zero64).toArray).cells) = putAt (byteVals zero64).toArray 0 [.int .u8 b.toNat] from fold_putAt' 0 #[_] _]
  have hz64 : byteVals zero64 = [] ++ [.int .u8 0] ++ List.replicate 63 (Value.int IntKind.u8 0) := rfl
  have e' : putAt (byteVals zero64).toArray 0 [Value.int .u8 (b.toNat : Int)] = ([Value.int .u8 (b.toNat : Int)] ++ [Value.int .u8 0] ++ List.replicate 62 (Value.int IntKind.u8 0)).toArray := by
    rw [hz64]; exact e
  rw [e']
  unfold Instr.fill
  simp only [Nat.one_mul]
  rw [if_neg (by rw [show (Value.int IntKind.u8 (c.toNat : Int)).cells.size = 1 from rfl]; simp [Value.cells])]
  rw [show ((Value.int IntKind.u8 (c.toNat : Int)).cells.zipIdx.foldl (fun cs (x : Value × Nat) => cs.setIfInBounds (1 + x.2) x.1) ([Value.int .u8 (b.toNat : Int)] ++ [Value.int .u8 0] ++ List.replicate 62 (Value.int IntKind.u8 0)).toArray) = putAt ([Value.int .u8 (b.toNat : Int)] ++ [Value.int .u8 0] ++ List.replicate 62 (Value.int IntKind.u8 0)).toArray 1 [.int .u8 c.toNat] from fold_putAt' 1 #[_] _]
  exact congrArg some e2
theorem wpList_sec2b {ops : Array Oper} {rest : List Oper} {o : Oper} {a : Act} {w : World} {Q : Exit → Act → World → Prop} (hg : o.guard = none) (x y : Operand) (ho : o.op = .build 62 #[(0, x), (1, y)]) (b c : UInt8)
    (hx : a.eval x = .int .u8 b.toNat) (hy : a.eval y = .int .u8 c.toNat) (h : wpList Try.prog ops Q rest (a.put o.dst (.agg (byteVals (diskKeeps.sec2 b c)).toArray)) w) : wpList Try.prog ops Q (o :: rest) a w := by
  have hb := built_sec2b b c
  refine wpList_build hg 62 #[(0, x), (1, y)] ho (by simp [hx, hy, hb]) ?_
  simpa [hx, hy, hb] using h

theorem half_on {B base g kb b6 c kp : Nat} {w wr : World} {D : Dk} {kv cv : Value} (h : Both B base g kb b6 c w D kv cv kp wr) (hB : B ≤ b6) : Half B base g kb b6 w D { D with down := false } kv cv kp (wr.setCell ⟨b6, 2, none⟩ (.bool false)) := by
  have ho : ∀ k, k ≠ b6 → (wr.setCell ⟨b6, 2, none⟩ (.bool false)).heap[k]? = wr.heap[k]? := fun k hk => Below.heap_setCell wr _ _ k hk
  refine ⟨⟨h.frame.os, h.frame.tape, h.frame.output, by simp [World.setCell]; exact h.frame.size, fun k hk => (ho k (by omega)).trans (h.frame.block k hk)⟩, disk76 h.disk h.box ho, ?_, ?_⟩
  · rw [setCell_get wr b6 2 _ _ _ _ h.box]; rfl
  · have r := refis76 h.ref h.box ho
    exact ⟨r.kept, r.cache, r.keeps, r.same, r.wf.on false⟩
theorem half_plan {B base g kb b6 c kp keeps : Nat} {n : Int} {w wr : World} {D : Dk} {kv cv : Value} (h : Both B base g kb b6 c w D kv cv kp wr) (hB : B ≤ b6) (hk : keeps < 18446744073709551616) (hn : n ≤ 9223372036854775807) : Half B base g kb b6 w D { D with fate := n, keeps := keeps } kv cv keeps ((wr.drew.setCell ⟨b6, 3, none⟩ (.int .i64 n)).setCell ⟨b6, 4, none⟩ (.int .u64 keeps)) := by
  have ho : ∀ k, k ≠ b6 → ((wr.drew.setCell ⟨b6, 3, none⟩ (.int .i64 n)).setCell ⟨b6, 4, none⟩ (.int .u64 keeps)).heap[k]? = wr.heap[k]? := fun k hk => (Below.heap_setCell _ _ _ k hk).trans (Below.heap_setCell wr.drew _ _ k hk)
  refine ⟨⟨h.frame.os, h.frame.tape, h.frame.output, Nat.le_trans h.frame.size (by first | (simp [World.setCell]; done) | (simp [World.setCell]; rfl)), fun k hk => (ho k (by omega)).trans (h.frame.block k hk)⟩, disk76 h.disk h.box ho, ?_, ?_⟩
  · rw [setCell_get _ b6 4 _ _ _ _ (setCell_get wr.drew b6 3 _ _ _ _ h.box)]; rfl
  · have r := refis76 h.ref h.box ho
    exact ⟨r.kept, r.cache, hk, fun _ => rfl, r.wf.plan n keeps hk hn⟩
theorem disk_drewN {base g kb : Nat} {w : World} {D : Dk} (h : Disk base w g kb D) (m : Nat) : Disk base (w.drewN m) g kb D := by
  obtain ⟨cv, h⟩ := h; exact ⟨cv, h.same fun _ _ => rfl⟩
theorem both_drewN {B base g kb b6 c kp : Nat} {w wr : World} {D : Dk} {kv cv : Value} (h : Both B base g kb b6 c w D kv cv kp wr) (m : Nat) : Both B base g kb b6 c w D kv cv kp (wr.drewN m) :=
  ⟨⟨h.frame.os, h.frame.tape, h.frame.output, h.frame.size, h.frame.block⟩, disk_drewN h.disk m, h.box, ⟨row_same h.ref.kept fun _ _ => rfl, row_same h.ref.cache fun _ _ => rfl, h.ref.keeps, h.ref.same, h.ref.wf⟩, h.steps, h.cache⟩
def RI (B base g kb b6 c : Nat) (w : World) (D : Dk) (kv cv : Value) (kp : Nat) (i : Value) (wr : World) : Prop :=
  ∃ j : Nat, i = .int .i64 ((j : Int) - 1) ∧ j ≤ D.kept.length + 2 ∧ Hid (Both B base g kb b6 c w D kv cv kp wr)
theorem wpList_load_sec62 {ops : Array Oper} {rest : List Oper} {o : Oper} {a : Act} {w : World} {Q : Exit → Act → World → Prop} (hw : Region.wanted o (yielded ops a.tmps) = true) (x : Operand) (ho : o.op = .load 62 x)
    (b : Nat) (hx : a.eval x = .pointer (some ⟨b, 0, none⟩)) (s : List UInt8) (hs : s.length = 64) (hb : w.heap[b]? = some (.cells (byteVals s).toArray 62 (0, 0)))
    (h : wpList Try.prog ops Q rest (a.put o.dst (.agg (byteVals s).toArray)) w) : wpList Try.prog ops Q (o :: rest) a w := by
  refine wpList_value hw _ ?_ h
  have hi : (Try.prog.info? 62).map (·.size) = some (byteVals s).length := by rw [byteVals_length, hs]; exact Try.info62
  unfold execOp
  simp only [ho, hx, Instr.loadAt, Instr.sureAddr, Sem.run_bind, Sem.run_pure, Result.andThen_ok, run_loadVar_mid w b 0 62 (byteVals s) _ (diskKeeps.row_range hb) Try.underlying62 rfl hi]
theorem wpList_neq_sec {ops : Array Oper} {rest : List Oper} {o : Oper} {a : Act} {w : World} {Q : Exit → Act → World → Prop} (hw : Region.wanted o (yielded ops a.tmps) = true) (x y : Operand) (ho : o.op = .binOp .neq 63 x y 63)
    (s : List UInt8) (hs : s.length = 64) (hx : a.eval x = .agg (byteVals s).toArray) (hy : a.eval y = .agg (byteVals s).toArray)
    (h : wpList Try.prog ops Q rest (a.put o.dst (.bool false)) w) : wpList Try.prog ops Q (o :: rest) a w := by
  refine wpList_value hw _ ?_ h
  have heq : (Op.equalIn 10000 63 (.agg (byteVals s).toArray) (.agg (byteVals s).toArray)).run Try.prog w = .ok true w := by rw [sec_eq s s hs hs w]; simp
  have heq2 : (Op.equal 63 (.agg (byteVals s).toArray) (.agg (byteVals s).toArray)).run Try.prog w = .ok true w := heq
  simp [execOp, ho, hx, hy, eqGuard, binOp, run_underlying Try.underlying63, heq, heq2]
theorem read_len {D : Dk} (h : Wf D) (a : Int) : (D.read a).1.length = 64 := by
  unfold Dk.read
  split
  · rfl
  · split
    · rfl
    · split
      · rename_i s hs
        obtain ⟨c, hc, e⟩ := lastAt_mem _ _ s hs
        show s.length = 64
        rw [← e]; exact (h.cache c hc).2
      · have : a.toNat < D.kept.length := by omega
        simp only [List.getD, List.getElem?_eq_getElem this, Option.getD_some]
        exact h.kept _ (List.getElem_mem this)
theorem hE_both {B base g kb b6 kp k : Nat} {w wr w4 : World} {D E : Dk} {kv cv : Value} (h : Half B base g kb b6 w D E kv cv kp wr) (hg : base ≤ g) (hk : base ≤ kb) (hB : B ≤ base) (hb6 : base ≤ b6) (o : DOnly base g kb wr w4) (d : Disk base w4 g kb E)
    (hbd : E.steps ≤ D.steps + 1 ∧ E.cache.length ≤ D.cache.length + 1) (hs : D.steps ≤ k) (hc : D.cache.length ≤ k) : Both B base g kb b6 (k + 1) w E kv cv kp w4 :=
  h.both hB hb6 hg hk o d (by omega) (by omega)
def RM (B base g kb b6 c : Nat) (w : World) (u v : Value) (wc : World) : Prop :=
  ∃ (D : Dk) (kv cv : Value) (kp e : Nat), u = .int .i64 e ∧ v = .int .i64 e ∧ Hid (Both B base g kb b6 c w D kv cv kp wc)
def RO (B base g kb b6 len : Nat) (w : World) (i : Value) (wr : World) : Prop :=
  ∃ (k : Nat) (D : Dk) (kv cv : Value) (kp : Nat), i = .int .i64 k ∧ k ≤ len ∧ Hid (Both B base g kb b6 k w D kv cv kp wr)
set_option maxRecDepth 100000 in
set_option maxHeartbeats 4000000 in
theorem walk_main (n : Int) (ops : List Opv) (ov : Value) (w : World) (hops : OpsAt w ov ops) (hl : ops.length ≤ 200) :
    Calls Try.prog 11 #[.int .i64 n, ov] w fun e w' => e = .returned (.bool true) ∧ Below w.heap.size w w' := by
  have HOPS := Lib.hid hops
  obtain ⟨oa, ocap, rfl, -, -⟩ := hops
  obtain ⟨q, hq31, eq⟩ := and_i64_mask n 31 (by decide)
  have eq' : bits BinOp.and IntKind.i64 n 31 = (q : Int) := eq
  clear eq
  go_enter Try.func11, Try.ntmps11
  go_wp2_with fail
  refine (diskAlive_any _).mono ?_
  rintro e w1 ⟨rfl, x1⟩
  have X1 := Lib.hid x1
  clear x1
  go_wp2_with fail
  refine (New_any (q : Int) _).mono ?_
  rintro e w2 ⟨g, kb, rfl, hg, hkb, x2, d2⟩
  have X2 := Lib.hid (X1.out.trans x2)
  have D2 := Lib.hid d2
  have HG := Lib.hid hg
  have HK := Lib.hid hkb
  have HBS := Lib.hid x2.size
  clear x2 d2 hg hkb
  go_wp2_with fail
  refine (RNew_any q _ hq31).mono ?_
  rintro e w3 ⟨v, rfl, x3, r3⟩
  obtain ⟨kv, cv, kp, rfl, r3⟩ := r3
  obtain ⟨ka, kcap, rfl, -, -⟩ := own_form r3.kept
  obtain ⟨ca, ccap, rfl, -, -⟩ := own_form r3.cache
  have XN := Lib.hid ((Ext.refl w3).alloc (.cells #[.slice ka (Dk.new (q : Int)).kept.length kcap, .slice ca (Dk.new (q : Int)).cache.length ccap, .bool (Dk.new (q : Int)).down, .int .i64 (Dk.new (q : Int)).fate, .int .u64 kp, .int .i64 (Dk.new (q : Int)).steps] 76))
  have BN := Lib.hid (heap_alloc_new w3 (.cells #[.slice ka (Dk.new (q : Int)).kept.length kcap, .slice ca (Dk.new (q : Int)).cache.length ccap, .bool (Dk.new (q : Int)).down, .int .i64 (Dk.new (q : Int)).fate, .int .u64 kp, .int .i64 (Dk.new (q : Int)).steps] 76))
  have HB6 := Lib.hid (show w.heap.size ≤ w3.heap.size from Nat.le_trans X2.out.size x3.size)
  have HB7 := Lib.hid (show w1.heap.size ≤ w3.heap.size from Nat.le_trans HBS.out x3.size)
  have BO := Lib.hid (show Both w.heap.size w1.heap.size g kb w3.heap.size 0 w (Dk.new (q : Int)) _ _ kp _ from ⟨X2.out.trans (x3.trans XN.out), D2.out.ext (x3.trans XN.out), BN.out, r3.ext XN.out, Nat.le_refl _, Nat.le_refl _⟩)
  clear r3 x3 BN XN
  go_wp2_with fail
  go_loopw [29] (fun i wr => RO w.heap.size w1.heap.size g kb w3.heap.size ops.length w i wr) (fun i _ => ops.length - (intOf i).toNat)
  case atStart => exact ⟨0, _, _, _, kp, rfl, Nat.zero_le _, BO⟩
  clear BO D2
  case round =>
    obtain ⟨k, D, kv, cv, kp, rfl, hk, hb⟩ := hrel
    by_cases hlt : k < ops.length
    · obtain ⟨bb, o, rfl, e0, e1, e2, e3, hfit⟩ := HOPS.out.at hb.out.frame k hlt
      generalize ops[k] = op at *
      obtain ⟨okd, opl, oby, okp⟩ := op
      simp only at e0 e1 e2 e3
      go_upto_block 2 with fail
      go_cut [9, 10] from 33 to 92 (fun u v wc => RM w.heap.size w1.heap.size g kb w3.heap.size (k + 1) w u v wc)
      case first =>
        have HF := Lib.hid hfit
        have XA := Lib.hid ((Ext.refl wr).alloc (.cells #[.int .i64 okd, .int .i64 opl, .int .u8 oby.toNat, .int .u64 okp] 60))
        have HN := Lib.hid (heap_alloc_new wr (.cells #[.int .i64 okd, .int .i64 opl, .int .u8 oby.toNat, .int .u64 okp] 60))
        have hBs := Lib.hid (show w.heap.size ≤ wr.heap.size from hb.out.frame.size)
        have hB2 := Lib.hid (hb.out.ext hBs.out XA.out)
        obtain ⟨ka, kcap, rfl, -, -⟩ := own_form hB2.out.ref.kept
        obtain ⟨ca, ccap, rfl, -, -⟩ := own_form hB2.out.ref.cache
        have HI6 := Lib.hid (show (Try.prog.info? 76).map (·.size) = some (#[.slice ka D.kept.length kcap, .slice ca D.cache.length ccap, .bool D.down, .int .i64 D.fate, .int .u64 kp, .int .i64 D.steps] : Array Value).size from Try.info76)
        have hst := Lib.hid (Nat.le_trans hB2.out.steps (show k ≤ 1000000000 by omega))
        have hca := Lib.hid (Nat.le_trans hB2.out.cache (show k ≤ 500000000 by omega))
        generalize wr.alloc (.cells #[.int .i64 okd, .int .i64 opl, .int .u8 oby.toNat, .int .u64 okp] 60) = W at *
        have p1 := block_cell (l := [.int .i64 okd, .int .i64 opl, .int .u8 oby.toNat, .int .u64 okp]) HN.out 1 (.int .i64 opl) rfl
        have p2 := block_cell (l := [.int .i64 okd, .int .i64 opl, .int .u8 oby.toNat, .int .u64 okp]) HN.out 2 (.int .u8 oby.toNat) rfl
        have p3 := block_cell (l := [.int .i64 okd, .int .i64 opl, .int .u8 oby.toNat, .int .u64 okp]) HN.out 3 (.int .u64 okp) rfl
        have HLT := Lib.hid hb.out.size
        clear e0 e1 e2 e3 hfit hb XA
        by_cases h0 : okd = 0
        · subst h0
          go_upto_region 14 with (first
            | (refine wpList_load_row rfl 76 (.tmp 6) rfl w3.heap.size rfl 76 _ (0, 0) _ hB2.out.box Try.underlying76 rfl HI6.out ?_)
            | (refine wpList_sec2b rfl _ _ rfl oby 7 rfl rfl ?_))
          refine (RPut_any D _ _ kp opl (diskKeeps.sec2 oby 7) _ hB2.out.ref hca.out hst.out rfl).mono ?_
          rintro e w4 ⟨v4, rfl, x4, r4⟩
          obtain ⟨kv4, cv4, kp4, rfl, r4⟩ := r4
          obtain ⟨ka4, kcap4, rfl, -, -⟩ := own_form r4.kept
          obtain ⟨ca4, ccap4, rfl, -, -⟩ := own_form r4.cache
          obtain ⟨E, hE⟩ : ∃ E : Dk, E = (D.write opl (diskKeeps.sec2 oby 7)).1 := ⟨_, rfl⟩
          have HBD := Lib.hid (write_bounds D opl (diskKeeps.sec2 oby 7))
          rw [← hE] at r4 HBD ⊢
          obtain ⟨R0, hR0⟩ : ∃ R0 : Array Value, R0 = #[.slice ka4 E.kept.length kcap4, .slice ca4 E.cache.length ccap4, .bool E.down, .int .i64 E.fate, .int .u64 kp4, .int .i64 E.steps] := ⟨_, rfl⟩
          have HI7 : Hid ((Try.prog.info? 76).map (·.size) = some R0.size) := by rw [hR0]; exact Try.info76
          have HAL : Hid (R0.all (·.oneCell') = true) := by rw [hR0]; exact six_one _ _ _ _ _ _ _ _ _ _
          have HSZ : Hid (R0.size = 6) := by rw [hR0]; exact rfl
          have HH := Lib.hid (hB2.out.half HB6.out x4 r4 R0 hR0)
          have BX := Lib.hid (x4.keep hB2.out.box)
          have HN5 := Lib.hid ((setRow_other w4 w3.heap.size wr.heap.size R0 (by have := HLT.out; omega)).trans (x4.keep HN.out))
          have HBE := Lib.hid (show w1.heap.size ≤ (w4.setRow w3.heap.size R0).heap.size by have := HH.out.size; have := HB7.out; omega)
          rw [← hR0]
          clear hR0 x4 r4 p1 p2 p3
          go_upto_region 14 with (refine wpList_store_row rfl 76 (.tmp 6) (.tmp 45) rfl w3.heap.size R0 rfl rfl 76 _ BX.out HI7.out HSZ.out.symm HAL.out ?_)
          have p1 := block_cell (l := [.int .i64 0, .int .i64 opl, .int .u8 oby.toNat, .int .u64 okp]) HN5.out 1 (.int .i64 opl) rfl
          have p2 := block_cell (l := [.int .i64 0, .int .i64 opl, .int .u8 oby.toNat, .int .u64 okp]) HN5.out 2 (.int .u8 oby.toNat) rfl
          generalize w4.setRow w3.heap.size R0 = W5 at *
          go_wp2_with (refine diskKeeps.wpList_sec2 rfl _ _ rfl oby 7 rfl rfl ?_)
          refine (Write_any w1.heap.size g kb D opl (diskKeeps.sec2 oby 7) _ HH.out.disk hst.out (Nat.le_trans hca.out (by decide)) rfl HBE.out).mono ?_
          rintro e w6 ⟨rfl, o6, d6⟩
          rw [← hE] at d6
          have BB := Lib.hid (hE_both HH.out HG.out HK.out X1.out.size HB7.out o6 d6 HBD.out hB2.out.steps hB2.out.cache)
          clear o6 d6
          go_wp2_with fail
          go_meet
          exact ⟨E, _, _, _, _, rfl, rfl, BB⟩
        · by_cases h1 : okd = 1
          · subst h1
            go_upto_region 17 with (refine wpList_load_row rfl 76 (.tmp 6) rfl w3.heap.size rfl 76 _ (0, 0) _ hB2.out.box Try.underlying76 rfl HI6.out ?_)
            refine (RFlush_any D _ _ kp _ hB2.out.ref hca.out hst.out).mono ?_
            rintro e w4 ⟨v4, rfl, x4, r4⟩
            obtain ⟨kv4, cv4, kp4, rfl, r4⟩ := r4
            obtain ⟨ka4, kcap4, rfl, -, -⟩ := own_form r4.kept
            obtain ⟨ca4, ccap4, rfl, -, -⟩ := own_form r4.cache
            obtain ⟨E, hE⟩ : ∃ E : Dk, E = (D.flush).1 := ⟨_, rfl⟩
            have HBD : Hid (E.steps ≤ D.steps + 1 ∧ E.cache.length ≤ D.cache.length + 1) := by rw [hE]; exact flush_bounds D
            rw [← hE] at r4 ⊢
            obtain ⟨R0, hR0⟩ : ∃ R0 : Array Value, R0 = #[.slice ka4 E.kept.length kcap4, .slice ca4 E.cache.length ccap4, .bool E.down, .int .i64 E.fate, .int .u64 kp4, .int .i64 E.steps] := ⟨_, rfl⟩
            have HI7 : Hid ((Try.prog.info? 76).map (·.size) = some R0.size) := by rw [hR0]; exact Try.info76
            have HAL : Hid (R0.all (·.oneCell') = true) := by rw [hR0]; exact six_one _ _ _ _ _ _ _ _ _ _
            have HSZ : Hid (R0.size = 6) := by rw [hR0]; exact rfl
            have HH := Lib.hid (hB2.out.half HB6.out x4 r4 R0 hR0)
            have BX := Lib.hid (x4.keep hB2.out.box)
            have HN5 := Lib.hid ((setRow_other w4 w3.heap.size wr.heap.size R0 (by have := HLT.out; omega)).trans (x4.keep HN.out))
            have HBE := Lib.hid (show w1.heap.size ≤ (w4.setRow w3.heap.size R0).heap.size by have := HH.out.size; have := HB7.out; omega)
            rw [← hR0]
            clear hR0 x4 r4 p1 p2 p3
            go_upto_region 17 with (refine wpList_store_row rfl 76 (.tmp 6) (.tmp 59) rfl w3.heap.size R0 rfl rfl 76 _ BX.out HI7.out HSZ.out.symm HAL.out ?_)
            generalize w4.setRow w3.heap.size R0 = W5 at *
            go_wp2_with fail
            refine (Flush_any w1.heap.size g kb D _ HH.out.disk hst.out HBE.out).mono ?_
            rintro e w6 ⟨rfl, o6, d6⟩
            rw [← hE] at d6
            have BB := Lib.hid (hE_both HH.out HG.out HK.out X1.out.size HB7.out o6 d6 HBD.out hB2.out.steps hB2.out.cache)
            clear o6 d6
            go_wp2_with fail
            go_meet
            exact ⟨E, _, _, _, _, rfl, rfl, BB⟩
          · by_cases h2 : okd = 2
            · subst h2
              go_upto_region 20 with (refine wpList_load_row rfl 76 (.tmp 6) rfl w3.heap.size rfl 76 _ (0, 0) _ hB2.out.box Try.underlying76 rfl HI6.out ?_)
              refine (RCrash_any D _ _ kp okp _ hB2.out.ref HF.out.2.2 (Nat.le_trans hca.out (by decide))).mono ?_
              rintro e w4 ⟨v4, rfl, x4, r4⟩
              obtain ⟨kv4, cv4, kp4, rfl, r4⟩ := r4
              obtain ⟨ka4, kcap4, rfl, -, -⟩ := own_form r4.kept
              obtain ⟨ca4, ccap4, rfl, -, -⟩ := own_form r4.cache
              obtain ⟨E, hE⟩ : ∃ E : Dk, E = D.crash okp := ⟨_, rfl⟩
              have HBD : Hid (E.steps ≤ D.steps + 1 ∧ E.cache.length ≤ D.cache.length + 1) := by rw [hE]; exact ⟨Nat.le_succ _, Nat.zero_le _⟩
              rw [← hE] at r4 ⊢
              obtain ⟨R0, hR0⟩ : ∃ R0 : Array Value, R0 = #[.slice ka4 E.kept.length kcap4, .slice ca4 E.cache.length ccap4, .bool E.down, .int .i64 E.fate, .int .u64 kp4, .int .i64 E.steps] := ⟨_, rfl⟩
              have HI7 : Hid ((Try.prog.info? 76).map (·.size) = some R0.size) := by rw [hR0]; exact Try.info76
              have HAL : Hid (R0.all (·.oneCell') = true) := by rw [hR0]; exact six_one _ _ _ _ _ _ _ _ _ _
              have HSZ : Hid (R0.size = 6) := by rw [hR0]; exact rfl
              have HH := Lib.hid (hB2.out.half HB6.out x4 r4 R0 hR0)
              have BX := Lib.hid (x4.keep hB2.out.box)
              have HN5 := Lib.hid ((setRow_other w4 w3.heap.size wr.heap.size R0 (by have := HLT.out; omega)).trans (x4.keep HN.out))
              have HBE := Lib.hid (show w1.heap.size ≤ (w4.setRow w3.heap.size R0).heap.size by have := HH.out.size; have := HB7.out; omega)
              rw [← hR0]
              clear hR0 x4 r4 p1 p2 p3
              go_upto_region 20 with (refine wpList_store_row rfl 76 (.tmp 6) (.tmp 68) rfl w3.heap.size R0 rfl rfl 76 _ BX.out HI7.out HSZ.out.symm HAL.out ?_)
              have p3 := block_cell (l := [.int .i64 2, .int .i64 opl, .int .u8 oby.toNat, .int .u64 okp]) HN5.out 3 (.int .u64 okp) rfl
              generalize w4.setRow w3.heap.size R0 = W5 at *
              go_wp2_with fail
              refine (Crash_any w1.heap.size g kb D okp _ HH.out.disk HF.out.2.2 HBE.out).mono ?_
              rintro e w6 ⟨⟨v6, rfl⟩, o6, d6⟩
              rw [← hE] at d6
              have BB := Lib.hid (hE_both HH.out HG.out HK.out X1.out.size HB7.out o6 d6 HBD.out hB2.out.steps hB2.out.cache)
              clear o6 d6
              go_wp2_with fail
              go_meet
              exact ⟨E, _, _, _, 0, rfl, rfl, BB⟩
            · by_cases h3 : okd = 3
              · subst h3
                have b2 : W.cell? ⟨w3.heap.size, 2, none⟩ = some (.bool D.down) := by rw [cell_of_row _ _ _ _ _ _ hB2.out.box]; rfl
                have f2 : W.frozen? ⟨w3.heap.size, 2, none⟩ = false := by simp [World.frozen?, hB2.out.box]
                obtain ⟨E, hE⟩ : ∃ E : Dk, E = { D with down := false } := ⟨_, rfl⟩
                have HBD : Hid (E.steps ≤ D.steps + 1 ∧ E.cache.length ≤ D.cache.length + 1) := by rw [hE]; exact ⟨Nat.le_succ _, Nat.le_succ _⟩
                have HH : Hid (Half w.heap.size w1.heap.size g kb w3.heap.size w D E (.slice ka D.kept.length kcap) (.slice ca D.cache.length ccap) kp (W.setCell ⟨w3.heap.size, 2, none⟩ (.bool false))) := by rw [hE]; exact half_on hB2.out HB6.out
                have HBE := Lib.hid (show w1.heap.size ≤ (W.setCell ⟨w3.heap.size, 2, none⟩ (.bool false)).heap.size by have := HH.out.size; have := HB7.out; omega)
                clear p1 p2 p3
                go_wp2_with fail
                refine (On_any w1.heap.size g kb D _ HH.out.disk).mono ?_
                rintro e w6 ⟨⟨v6, rfl⟩, o6, d6⟩
                rw [← hE] at d6
                have BB := Lib.hid (hE_both HH.out HG.out HK.out X1.out.size HB7.out o6 d6 HBD.out hB2.out.steps hB2.out.cache)
                clear o6 d6
                go_wp2_with fail
                go_meet
                exact ⟨E, _, _, _, 0, rfl, rfl, BB⟩
              · by_cases h4 : okd = 4
                · subst h4
                  have b3 : W.cell? ⟨w3.heap.size, 3, none⟩ = some (.int .i64 D.fate) := by rw [cell_of_row _ _ _ _ _ _ hB2.out.box]; rfl
                  have b4 : W.cell? ⟨w3.heap.size, 4, none⟩ = some (.int .u64 kp) := by rw [cell_of_row _ _ _ _ _ _ hB2.out.box]; rfl
                  have f3 : W.frozen? ⟨w3.heap.size, 3, none⟩ = false := by simp [World.frozen?, hB2.out.box]
                  have f4 : W.frozen? ⟨w3.heap.size, 4, none⟩ = false := by simp [World.frozen?, hB2.out.box]
                  obtain ⟨E, hE⟩ : ∃ E : Dk, E = { D with fate := opl, keeps := okp } := ⟨_, rfl⟩
                  have HBD : Hid (E.steps ≤ D.steps + 1 ∧ E.cache.length ≤ D.cache.length + 1) := by rw [hE]; exact ⟨Nat.le_succ _, Nat.le_succ _⟩
                  have HH : Hid (Half w.heap.size w1.heap.size g kb w3.heap.size w D E (.slice ka D.kept.length kcap) (.slice ca D.cache.length ccap) okp ((W.setCell ⟨w3.heap.size, 3, none⟩ (.int .i64 opl)).setCell ⟨w3.heap.size, 4, none⟩ (.int .u64 okp)).drew) := by rw [hE]; exact half_plan hB2.out HB6.out HF.out.2.2 HF.out.2.1.2
                  have HBE := Lib.hid (show w1.heap.size ≤ ((W.setCell ⟨w3.heap.size, 3, none⟩ (.int .i64 opl)).setCell ⟨w3.heap.size, 4, none⟩ (.int .u64 okp)).drew.heap.size by have := HH.out.size; have := HB7.out; omega)
                  have KS : Hid (∀ i u (W' : World), W'.cell? ⟨wr.heap.size, 1, none⟩ = some (.int .i64 opl) ∧ W'.cell? ⟨wr.heap.size, 3, none⟩ = some (.int .u64 okp) → (W'.setCell ⟨w3.heap.size, i, none⟩ u).cell? ⟨wr.heap.size, 1, none⟩ = some (.int .i64 opl) ∧ (W'.setCell ⟨w3.heap.size, i, none⟩ u).cell? ⟨wr.heap.size, 3, none⟩ = some (.int .u64 okp)) := fun i u W' h => ⟨(World.cell?_setCell_far W' _ _ u (by show w3.heap.size ≠ wr.heap.size; have := HLT.out; omega)).trans h.1, (World.cell?_setCell_far W' _ _ u (by show w3.heap.size ≠ wr.heap.size; have := HLT.out; omega)).trans h.2⟩
                  have S0 : Hid (W.drew.cell? ⟨wr.heap.size, 1, none⟩ = some (.int .i64 opl) ∧ W.drew.cell? ⟨wr.heap.size, 3, none⟩ = some (.int .u64 okp)) := ⟨p1, p3⟩
                  have HN5 : Hid (((W.setCell ⟨w3.heap.size, 3, none⟩ (.int .i64 opl)).setCell ⟨w3.heap.size, 4, none⟩ (.int .u64 okp)).drew.heap[wr.heap.size]? = some (.cells #[.int .i64 4, .int .i64 opl, .int .u8 oby.toNat, .int .u64 okp] 60 (0, 0))) := ((Below.heap_setCell (W.setCell ⟨w3.heap.size, 3, none⟩ (.int .i64 opl)) ⟨w3.heap.size, 4, none⟩ (.int .u64 okp) wr.heap.size (by show wr.heap.size ≠ w3.heap.size; have := HLT.out; omega)).trans (Below.heap_setCell W ⟨w3.heap.size, 3, none⟩ (.int .i64 opl) wr.heap.size (by show wr.heap.size ≠ w3.heap.size; have := HLT.out; omega))).trans HN.out
                  go_upto_region 25 with fail
                  go_region_held3 (fun W => W.cell? ⟨wr.heap.size, 1, none⟩ = some (.int .i64 opl) ∧ W.cell? ⟨wr.heap.size, 3, none⟩ = some (.int .u64 okp))
                    (first | exact S0.out | exact KS.out _ _ _ (KS.out _ _ _ S0.out) | exact KS.out _ _ _ S0.out) (fail)
                  clear p1 p2 p3 b3 b4 f3 f4
                  have p1 := block_cell (l := [.int .i64 4, .int .i64 opl, .int .u8 oby.toNat, .int .u64 okp]) HN5.out 1 (.int .i64 opl) rfl
                  have p3 := block_cell (l := [.int .i64 4, .int .i64 opl, .int .u8 oby.toNat, .int .u64 okp]) HN5.out 3 (.int .u64 okp) rfl
                  generalize ((W.setCell ⟨w3.heap.size, 3, none⟩ (.int .i64 opl)).setCell ⟨w3.heap.size, 4, none⟩ (.int .u64 okp)).drew = W5 at *
                  go_wp2_with fail
                  refine (Plan_any w1.heap.size g kb D opl okp _ HH.out.disk HF.out.2.2 HF.out.2.1.2).mono ?_
                  rintro e w6 ⟨⟨v6, rfl⟩, o6, d6⟩
                  rw [← hE] at d6
                  have BB := Lib.hid (hE_both HH.out HG.out HK.out X1.out.size HB7.out o6 d6 HBD.out hB2.out.steps hB2.out.cache)
                  clear o6 d6
                  go_wp2_with fail
                  go_meet
                  exact ⟨E, _, _, _, 0, rfl, rfl, BB⟩
                · have q0 : (okd == 0) = false := by rw [beq_eq_false_iff_ne]; exact h0
                  have q1 : (okd == 1) = false := by rw [beq_eq_false_iff_ne]; exact h1
                  have q2 : (okd == 2) = false := by rw [beq_eq_false_iff_ne]; exact h2
                  have q3 : (okd == 3) = false := by rw [beq_eq_false_iff_ne]; exact h3
                  have q4 : (okd == 4) = false := by rw [beq_eq_false_iff_ne]; exact h4
                  have BB := Lib.hid (hB2.out.more (Nat.le_succ k))
                  go_wp2_with fail
                  go_meet
                  exact ⟨D, _, _, _, 0, rfl, rfl, BB⟩
      obtain ⟨D2, kv2, cv2, kp2, e, rfl, rfl, hb2⟩ := hcut
      obtain ⟨ka2, kcap2, rfl, hk3, hk4⟩ := own_form hb2.out.ref.kept
      obtain ⟨ca2, ccap2, rfl, -, -⟩ := own_form hb2.out.ref.cache
      have b0 : wc.cell? ⟨w3.heap.size, 0, none⟩ = some (.slice ka2 D2.kept.length kcap2) := by rw [cell_of_row _ _ _ _ _ _ hb2.out.box]; rfl
      have b2 : wc.cell? ⟨w3.heap.size, 2, none⟩ = some (.bool D2.down) := by rw [cell_of_row _ _ _ _ _ _ hb2.out.box]; rfl
      have b5 : wc.cell? ⟨w3.heap.size, 5, none⟩ = some (.int .i64 D2.steps) := by rw [cell_of_row _ _ _ _ _ _ hb2.out.box]; rfl
      clear e0 e1 e2 e3 hfit hb
      go_upto_region 27 with fail
      have hd1 : ((e : Int) != (e : Int)) = false := by simp
      have hd2 : (D2.down != D2.down) = false := by simp
      have hd3 : ((D2.steps : Int) != (D2.steps : Int)) = false := by simp
      have hd4 : ((D2.kept.length : Int) != (D2.kept.length : Int)) = false := by simp
      go_quiet (first
        | ((go_at_call 47); exact Calls.quiet_of_same ((Down_any w1.heap.size g kb D2 _ (disk_drewN hb2.out.disk _)).mono fun e w' h => ⟨h.1, h.2.symm⟩))
        | ((go_at_call 46); exact Calls.quiet_of_same ((Steps_any w1.heap.size g kb D2 _ (disk_drewN hb2.out.disk _)).mono fun e w' h => ⟨h.1, h.2.symm⟩))
        | ((go_at_call 42); exact Calls.quiet_of_same ((Len_any w1.heap.size g kb D2 _ (disk_drewN hb2.out.disk _)).mono fun e w' h => ⟨h.1, h.2.symm⟩)))
      have hb3 := Lib.hid (both_drewN hb2.out nq)
      generalize wc.drewN nq = W1 at *
      have HML := Lib.hid hb2.out.ref.wf.most
      clear hb2 b0 b2 b5 hd1 hd2 hd3 hd4
      go_wp2_with fail
      go_loopw [11] (fun i wr => RI w.heap.size w1.heap.size g kb w3.heap.size (k + 1) w D2 (.slice ka2 D2.kept.length kcap2) (.slice ca2 D2.cache.length ccap2) kp2 i wr) (fun i _ => D2.kept.length + 2 - (intOf i + 1).toNat)
      case atStart => exact ⟨0, rfl, Nat.zero_le _, hb3⟩
      clear hb3
      case round =>
        obtain ⟨j, rfl, hj, hb⟩ := hrel
        have hm4 := HML.out
        go_wp2_with fail
        refine (Len_any w1.heap.size g kb D2 _ hb.out.disk).mono ?_
        rintro e w5 ⟨rfl, rfl⟩
        by_cases hle : (j : Int) - 1 ≤ (D2.kept.length : Int)
        · have HI6 := Lib.hid (show (Try.prog.info? 76).map (·.size) = some (#[.slice ka2 D2.kept.length kcap2, .slice ca2 D2.cache.length ccap2, .bool D2.down, .int .i64 D2.fate, .int .u64 kp2, .int .i64 D2.steps] : Array Value).size from Try.info76)
          have HR64 := Lib.hid (read_len hb.out.ref.wf ((j : Int) - 1))
          have HBB := Lib.hid hb.out.frame.size
          obtain ⟨Z, hZ⟩ : ∃ Z, Z = (byteVals zero64).toArray := ⟨_, rfl⟩
          have HI : Hid (ZFacts Z) := by rw [hZ]; exact zfacts
          have HI2 : Hid (ZFacts2 Z) := by rw [hZ]; exact zfacts2
          clear hZ
          go_wp2_with fail
          refine (DRead_any w1.heap.size g kb D2 ((j : Int) - 1) _ hb.out.disk).mono ?_
          unfold readPost
          rintro e2 w6 ⟨rfl, x6⟩
          have HBX := Lib.hid (hb.out.ext HBB.out (x6.trans ((Ext.refl w6).alloc (.cells (byteVals (D2.read ((j : Int) - 1)).1).toArray 63))))
          have HN6 := Lib.hid (heap_alloc_new w6 (.cells (byteVals (D2.read ((j : Int) - 1)).1).toArray 63))
          obtain ⟨rs, er⟩ : ∃ rs, rs = D2.read ((j : Int) - 1) := ⟨_, rfl⟩
          have HER := Lib.hid er
          rw [← er] at HBX HR64 HN6 ⊢
          clear er x6
          obtain ⟨sv, en⟩ := rs
          simp only at HR64 HN6 HBX ⊢
          have HS := Lib.hid HR64.out
          go_upto_region 33 with (first
            | (refine wpList_alloc_z rfl 63 rfl Z HI.out.1 ?_)
            | (refine wpList_store_new rfl 63 (.tmp 12) (.tmp 127) rfl w6 63 Z (byteVals sv).toArray rfl rfl (size63 _ HS.out) (zsize Z HI.out _ HS.out) (all_oneCell_toArray (byteVals_oneCell _)) ?_))
          have hsz7 : (w6.alloc (.cells (byteVals sv).toArray 63)).heap.size = w6.heap.size + 1 := by simp
          generalize w6.alloc (.cells (byteVals sv).toArray 63) = W7 at *
          go_wp2_with (refine wpList_load_row rfl 76 (.tmp 6) rfl w3.heap.size rfl 76 _ (0, 0) _ HBX.out.box Try.underlying76 rfl HI6.out ?_)
          refine (RRead_any D2 _ _ kp2 ((j : Int) - 1) _ HBX.out.ref).mono ?_
          unfold readPost
          rw [← HER.out]
          rintro e3 w8 ⟨rfl, x8⟩
          have HB9 := Lib.hid (HBX.out.ext HBX.out.frame.size (x8.trans ((Ext.refl w8).alloc (.cells (byteVals sv).toArray 62))))
          have HM9 := Lib.hid ((x8.trans ((Ext.refl w8).alloc (.cells (byteVals sv).toArray 62))).keep HN6.out)
          have HN9 := Lib.hid (heap_alloc_new w8 (.cells (byteVals sv).toArray 62))
          clear x8 HBX HN6 hsz7
          go_upto_region 34 with (first
            | (refine wpList_alloc_z rfl 62 rfl Z HI2.out.1 ?_)
            | (refine wpList_store_new rfl 62 (.tmp 14) (.tmp 133) rfl w8 62 Z (byteVals sv).toArray rfl rfl (by rw [List.size_toArray, byteVals_length, HS.out]; exact Try.info62) (zsize Z HI.out _ HS.out) (all_oneCell_toArray (byteVals_oneCell _)) ?_))
          generalize w8.alloc (.cells (byteVals sv).toArray 62) = W9 at *
          go_wp2_with (first
            | (refine diskKeeps.wpList_load_sec rfl _ rfl w6.heap.size rfl sv HS.out HM9.out ?_)
            | (refine wpList_load_sec62 rfl _ rfl w8.heap.size rfl sv HS.out HN9.out ?_)
            | (refine wpList_neq_sec rfl _ _ rfl sv HS.out rfl rfl ?_))
          go_roundw
          case rel => exact ⟨j + 1, by rw [show (((j + 1 : Nat) : Int) - 1) = (j : Int) by omega], by omega, HB9⟩
          case measure => simp [intOf]; omega
        · go_wp2_with fail
          go_roundw
          case rel => exact ⟨k + 1, D2, _, _, kp2, by go_num, by omega, hb⟩
          case measure => simp [intOf]; omega
    · go_wp2_with fail
      go_ret
      exact ⟨rfl, hb.out.frame⟩
end Go.Proofs.Ytgkoblgpadpcjaa.diskPlays
