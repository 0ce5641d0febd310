/- A graph in memory: Lean. -/
import Derived.Test.YtobdjfibaemmhaaGj
namespace Go.Proofs.Ytobdjfibaemmhaa
open Go.RowKit Go.Maps Go.Lib

theorem LeanIn.mono {us : List Un} {l m : List Str} (h : ∀ x ∈ l, x ∈ m) {x : Str} (k : LeanIn us l x) : LeanIn us m x := by
  induction k with
  | base hx ht => exact .base (h _ hx) ht
  | step _ hu hx ih => exact .step ih hu hx
theorem LeanSt.keep {us : List Un} {l S : List Str} {n : Str} (h : LeanSt us l S) (hn : there us n = false ∨ n ∈ S) : LeanSt us (l ++ [n]) S := by
  refine ⟨h.nodup, fun x hx => (h.sound x hx).mono (fun y hy => by simp [hy]), fun x hx ht => ?_⟩
  rcases List.mem_append.1 hx with hx | hx
  · exact h.base x hx ht
  · rw [List.mem_singleton] at hx
    subst hx
    rcases hn with hn | hn
    · rw [hn] at ht; cases ht
    · exact hn
theorem LeanSt.first {us : List Un} {l S : List Str} {n : Str} (h : LeanSt us l S) (ht : there us n = true) (hn : n ∉ S) : LeanSt us (l ++ [n]) (S ++ [n]) := by
  refine ⟨?_, fun x hx => ?_, fun x hx htx => ?_⟩
  · rw [List.nodup_append]
    refine ⟨h.nodup, by simp, fun a ha b hb e => ?_⟩
    rw [List.mem_singleton] at hb
    subst hb
    subst e
    exact hn ha
  · rcases List.mem_append.1 hx with hx | hx
    · exact (h.sound x hx).mono (fun y hy => by simp [hy])
    · rw [List.mem_singleton] at hx
      rw [hx]
      exact .base (by simp) ht
  · rcases List.mem_append.1 hx with hx | hx
    · simp [h.base x hx htx]
    · rw [List.mem_singleton] at hx
      simp [hx]
theorem LeanSt.nil (us : List Un) : LeanSt us [] [] := ⟨List.nodup_nil, fun x hx => (by cases hx), fun x hx => (by cases hx)⟩
structure LeanAt (w : World) (us : List Un) (l : List Str) (n : Nat) (S : List Str) (wr : World) : Prop where
  x : Ext w wr
  map : MapIs wr w.heap.size n (boolGet S)
  var : wr.heap[w.heap.size + 1]? = some (.cells #[.map (some w.heap.size)] 74 (0, 0))
  st : LeanSt us l S
theorem LeanAt.ext {w wr w' : World} {us : List Un} {l : List Str} {n : Nat} {S : List Str} (h : LeanAt w us l n S wr) (x : Ext wr w') : LeanAt w us l n S w' := ⟨h.x.trans x, h.map.ext x, x.get h.var, h.st⟩
theorem LeanAt.far {w wr w' : World} {us : List Un} {l : List Str} {n r : Nat} {S : List Str} (h : LeanAt w us l n S wr) (g : wr.grownBy w' (some r)) (hr : w.heap.size + 1 < r) : LeanAt w us l n S w' := by
  refine ⟨h.x.grow g (fun k hk => by cases hk; omega), h.map.grown g (fun e => by have := Option.some.inj e; omega), ?_, h.st⟩
  rw [g.block _ (Array.getElem?_eq_some_iff.1 h.var).1 (fun e => by have := Option.some.inj e; omega)]
  exact h.var
theorem LeanAt.put {w wr : World} {us : List Un} {l l' : List Str} {n : Nat} {S S' : List Str} (h : LeanAt w us l n S wr) (hn : n < maxLen) {k : Str} (hk : k.length ≤ maxLen) (e : putK (boolGet S) k (.bool true) = boolGet S') (hs : LeanSt us l' S') :
    ∃ w6, (Instr.mapUpdate 74 (.map (some w.heap.size)) (.string (ba k)) (.bool true)).run Try.prog wr = .ok () w6 ∧ LeanAt w us l' (n + 1) S' w6 ∧ wr.grownBy w6 (some w.heap.size) := by
  obtain ⟨w6, h1, h2, h3⟩ := h.map.put (t := 74) (e := 4) Try.underlying74 hn hk (.bool true)
  rw [e] at h2
  refine ⟨w6, h1, ⟨h.x.grow h3 (fun k hk => by cases hk; exact Nat.le_refl _), h2, ?_, hs⟩, h3⟩
  rw [h3.block _ (Array.getElem?_eq_some_iff.1 h.var).1 (fun e => by have := Option.some.inj e; omega)]
  exact h.var
def leanRel1 (w : World) (us : List Un) (l : List Str) (i : Value) (wr : World) : Prop :=
  ∃ k n S, k ≤ l.length ∧ i = .int .i64 k ∧ n ≤ k ∧ Hid (LeanAt w us (l.take k) n S wr)
def leanRel2 (w : World) (us : List Un) (l : List Str) (f : Nat) (v : Value) (wr : World) : Prop :=
  ∃ b n S, v = .bool b ∧ n ≤ l.length + S.length ∧ Hid (LeanAt w us l n S wr) ∧ Hid (b = true → us.length + 1 - S.length ≤ f) ∧ Hid (b = false → ∀ n, there us n = true → LeanClosed us S n)
def leanRel3 (w : World) (us : List Un) (l S0 : List Str) (get : Str → Option Value) (ub r nu : Nat) (v : Value) (wr : World) : Prop :=
  ∃ b n S left cnt, v = .bool b ∧ n ≤ l.length + S.length ∧ Hid (LeanAt w us l n S wr) ∧ Hid (Rng wr ub r nu get left cnt) ∧ Hid (b = false → S = S0 ∧ ∀ x, (get x).isSome = true → left x = false → LeanClosed us S x) ∧ Hid (b = true → S0.length < S.length)
def leanPost (w : World) (us : List Un) (l : List Str) (e : Ending) (w' : World) : Prop := ∃ v r, e = .returned v ∧ OwnS w' w.heap.size v r ∧ Ext w w' ∧ ListOf (LeanIn us l) r
set_option maxRecDepth 100000 in
set_option maxHeartbeats 4000000 in
theorem Lean_any {w : World} {g ub nu : Nat} {bv ov nv : Value} {us : List Un} {l : List Str} (hg : w.heap[g]? = some (.cells #[.map (some ub), bv, ov] 57 (0, 0))) (hu : UnitsAt w ub nu us) (hs : SmallU us) (hn : SRow w nv l) (hl : l.length ≤ 1000) (hsl : ShortAll l) :
    Calls Try.prog 24 #[.pointer (some ⟨g, 0, none⟩), nv] w (leanPost w us l) := by
  have hmm := @run_makeMap Try.prog
  have HU := Lib.hid hu
  have HG := Lib.hid (show w.cell? ⟨g, 0, none⟩ = some (.map (some ub)) by rw [cell_blk hg]; rfl)
  have HN := Lib.hid hn
  have HSL := Lib.hid hsl
  obtain ⟨an, cn, rfl, -⟩ := hn.form
  have HS := Lib.hid hs
  have hub : ub < w.heap.size := by obtain ⟨get, hm, -⟩ := hu; exact hm.lt
  have hus := hs.len
  clear hg hu hn hsl
  go_enter Try.func24, Try.ntmps24
  go_wp2_with fail
  go_loopw [16] (fun i wr => leanRel1 w us l i wr) (fun i _ => l.length - (intOf i).toNat)
  case atStart =>
    refine ⟨0, 0, [], Nat.zero_le _, rfl, Nat.le_refl _, Lib.hid ⟨((Ext.refl w).alloc _).alloc _, (MapIs.made w).ext ((Ext.refl _).alloc _), ?_, LeanSt.nil us⟩⟩
    rw [← World.size_alloc w (.map #[] 0)]
    exact heap_alloc_new _ _
  case round =>
    obtain ⟨k, n, S, hk, rfl, hnk, HA⟩ := hrel
    by_cases hlt : k < l.length
    · obtain ⟨b, o, rfl, e1⟩ := (HN.out.ext HA.out.x).at k hlt
      have hxl := HSL.out l[k] (List.getElem_mem hlt)
      have HTK := Lib.hid (List.take_succ_eq_append_getElem hlt)
      generalize l[k] = x at *
      have hg1 := HA.out.x.cell HG.out
      have hv1 : wr.cell? ⟨w.heap.size + 1, 0, none⟩ = some (.map (some w.heap.size)) := by rw [cell_blk HA.out.var]; rfl
      obtain ⟨v5, hu5, hl5, -⟩ := (HU.out.ext HA.out.x).look hxl
      obtain ⟨s0, a0, n0, c0', a1, n1, c1', a2, n2, c2, a3, n3, c3, a4, n4, c4, a5, n5, c5, r0, rfl⟩ := hu5.like
      have hl50 := hl5 wr (Ext.refl wr)
      clear hl5 hu5
      cases ht : there us x with
      | false =>
        rw [ht] at hl50
        have HT := Lib.hid ht
        clear ht
        go_wp2_with fail
        go_roundw
        case rel => exact ⟨k + 1, n, S, by omega, by go_num, by omega, by rw [HTK.out]; exact Lib.hid ((show LeanAt w us (l.take k ++ [x]) n S wr from ⟨HA.out.x, HA.out.map, HA.out.var, HA.out.st.keep (.inl HT.out)⟩).ext ((Ext.refl wr).alloc _))⟩
        case measure => simp [intOf]; omega
      | true =>
        rw [ht] at hl50
        have HT := Lib.hid ht
        clear ht
        obtain ⟨S', hS1, hS2⟩ : ∃ S', putK (boolGet S) x (.bool true) = boolGet S' ∧ LeanSt us (l.take k ++ [x]) S' := by
          by_cases hx : x ∈ S
          · exact ⟨S, boolGet_same S x hx, HA.out.st.keep (.inr hx)⟩
          · exact ⟨S ++ [x], boolGet_put S x, HA.out.st.first HT.out hx⟩
        obtain ⟨w6, h6, p6, -⟩ := (HA.out.ext ((Ext.refl wr).alloc (.cells #[Value.string s0, Value.slice a0 n0 c0', Value.slice a1 n1 c1', Value.slice a2 n2 c2, Value.slice a3 n3 c3, Value.slice a4 n4 c4, Value.slice a5 n5 c5, Value.int IntKind.i64 r0] 45))).put (by unfold maxLen; omega) hxl hS1 hS2
        have P6 := Lib.hid p6
        have hv2 := ((Ext.refl wr).alloc (.cells #[Value.string s0, Value.slice a0 n0 c0', Value.slice a1 n1 c1', Value.slice a2 n2 c2, Value.slice a3 n3 c3, Value.slice a4 n4 c4, Value.slice a5 n5 c5, Value.int IntKind.i64 r0] 45)).cell hv1
        clear hS1 hS2 p6
        go_wp2_with fail
        go_roundw
        case rel => exact ⟨k + 1, n + 1, S', by omega, by go_num, by omega, by rw [HTK.out]; exact P6⟩
        case measure => simp [intOf]; omega
    · have hkl : k = l.length := by omega
      subst hkl
      rw [List.take_length] at HA
      obtain ⟨w0, rfl⟩ : ∃ x : World, x = wr := ⟨_, rfl⟩
      go_wp2_with fail
      go_loopg [10] (us.length + 1) (fun f v wr => leanRel2 w us l f v wr)
      case atStart => exact ⟨true, n, S, rfl, by omega, HA, Lib.hid (fun _ => Nat.sub_le _ _), Lib.hid (fun e => by cases e)⟩
      case round =>
        obtain ⟨wl, rfl⟩ : ∃ x : World, x = wr := ⟨_, rfl⟩
        obtain ⟨b, n, S, rfl, hnS, HA, hf, HC⟩ := hrel
        have hSl := HA.out.st.len
        cases b with
        | false =>
          have HCC := Lib.hid (HC.out rfl)
          have hv1 : wl.cell? ⟨w.heap.size + 1, 0, none⟩ = some (.map (some w.heap.size)) := by rw [cell_blk HA.out.var]; rfl
          have HK := keys45 w.heap.size wl
          have HQ := keys_bools HA.out.map HA.out.st.nodup (boolGet_isSome S) (by omega)
          go_wp2_with (first
            | (go_at_call 45; refine HK.mono ?_; rintro e w' ⟨rfl, rfl⟩; clear HK)
            | (go_at_call 41; refine HQ.mono ?_; rintro e w7 ⟨v7, rfl, o7, x7⟩; have O7 := Lib.hid o7; have X7 := Lib.hid x7; clear o7 x7 HQ))
          go_ret
          exact ⟨_, _, rfl, O7.out.base HA.out.x.sz, HA.out.x.trans X7.out, ListOf.sort HA.out.st.nodup (HA.out.st.done HCC.out)⟩
        | true =>
          have hf1 := hf.out rfl
          have hg1 := HA.out.x.cell HG.out
          obtain ⟨get, hm, hget⟩ := HU.out
          have HM := Lib.hid (hm.ext HA.out.x)
          have HGT := Lib.hid hget
          have HF1 := Lib.hid hf1
          clear hm hget hf hf1
          go_wp2_with (refine wpList_range_str _ rfl _ 54 rfl 45 Try.underlying54 ub nu get rfl HM.out ?_; intro w2 cnt0 r2 x2; have R2 := Lib.hid r2; have X2 := Lib.hid x2; clear r2 x2)
          go_frame
          have hwl : w.heap.size + 1 < wl.heap.size := (Array.getElem?_eq_some_iff.1 HA.out.var).1
          have XG := Lib.hid (HA.out.x.trans X2.out)
          go_loopw [10] (fun v wr3 => leanRel3 w us l S get ub wl.heap.size nu v wr3) (fun _ wr3 => wr3.rangeLeft ub wl.heap.size)
          case atStart =>
            refine ⟨false, n, S, _, cnt0, rfl, hnS, Lib.hid (HA.out.ext X2.out), R2, Lib.hid (fun _ => ⟨rfl, fun x h1 h2 => ?_⟩), Lib.hid (fun e => by cases e)⟩
            rw [h1] at h2
            cases h2
          case round =>
            obtain ⟨wi, rfl⟩ : ∃ x : World, x = wr := ⟨_, rfl⟩
            obtain ⟨b, n3, S3, left, cnt, rfl, hn3, HA3, HR3, HB, HT⟩ := hrel
            have hS3 := HA3.out.st.len
            go_wp2_with (refine wpList_next_str _ rfl _ rfl ub wl.heap.size nu get left cnt rfl HR3.out ?_ ?_)
            · intro hd
              have HD := Lib.hid hd
              clear hd
              go_wp2_with fail
              cases b with
              | false =>
                go_roundg 0
                case measure => have := HF1.out; omega
                case rel =>
                  obtain ⟨e1, e2⟩ := HB.out rfl
                  refine ⟨false, n3, S3, rfl, hn3, HA3, Lib.hid (fun e => by cases e), Lib.hid (fun _ z hz => e2 z ?_ (HD.out z))⟩
                  rw [UnitsAt.mem HGT.out]
                  exact hz
              | true =>
                have hlt := HT.out rfl
                go_roundg (us.length + 1 - S3.length)
                case measure => have := HF1.out; omega
                case rel => exact ⟨true, n3, S3, rfl, hn3, HA3, Lib.hid (fun _ => Nat.le_refl _), Lib.hid (fun e => by cases e)⟩
            · intro x v w3 cnt3 hxl hlx hgx hr3 hlt3 hg3 hs3 hen
              have hth : there us x = true := by rw [← UnitsAt.mem HGT.out x, hgx]; rfl
              obtain ⟨u, hfu⟩ := Option.isSome_iff_exists.1 hth
              have hgu := HGT.out x
              rw [hfu] at hgu
              simp only at hgu
              obtain ⟨v', hv', hui⟩ := hgu
              rw [hgx] at hv'
              cases hv'
              have hum := findU_name hfu
              have HLS := Lib.hid (HS.out.lists u hum.1)
              obtain ⟨p0, q0, r0, p1, q1, r1, p2, q2, r2, p3, q3, r3, p4, q4, r4, p5, q5, r5, rfl, -, -, -, sr, -, sp⟩ := hui.shape
              have HA4 := HA3.out.far hg3 hwl
              have HF := Lib.hid hfu
              have SR := Lib.hid (sr.ext HA4.x)
              have SP := Lib.hid (sp.ext HA4.x)
              have hb4 := (HLS.out u.requires (by simp [listsOf])).1
              have hb6 := (HLS.out u.partOf (by simp [listsOf])).1
              have HGX := Lib.hid hgx
              have HTH := Lib.hid hth
              have HR4 := Lib.hid hr3
              have HL4 := Lib.hid (hr3.left_eq)
              have HL3 := Lib.hid (HR3.out.left_eq)
              have HA4 := Lib.hid HA4
              have HLX := Lib.hid hlx
              have HUN := Lib.hid hum.2
              clear hr3 hgx hth hfu hum hg3 hs3 hui sr sp hlx
              have kv := fun o => by have := (HA4.out.ext ((Ext.refl w3).alloc o)).var; exact (cell_blk this 0)
              have klk := fun o => (HA4.out.ext ((Ext.refl w3).alloc o)).map.look (t := 74) (e := 4) Try.underlying74 (Try.zeroValue4 _) hxl
              by_cases hin : x ∈ S3
              · have hb : (boolGet S3 x).getD (.bool false) = .bool true := by unfold boolGet; rw [if_pos hin]; rfl
                rw [hb] at klk
                have HIN := Lib.hid hin
                clear hb hin
                go_wp2_with fail
                go_roundw
                case rel =>
                  refine ⟨b, n3, S3, fun z => left z && (z != x), cnt3, rfl, hn3, Lib.hid (HA4.out.ext ((Ext.refl w3).alloc _)), Lib.hid (HR4.out.ext ((Ext.refl w3).alloc _)), Lib.hid (fun e => ?_), HT⟩
                  obtain ⟨e1, e2⟩ := HB.out e
                  refine ⟨e1, fun y hy hl => ?_⟩
                  by_cases hyx : y = x
                  · rw [hyx]; exact .inl HIN.out
                  · exact e2 y hy (by simpa [hyx] using hl)
                case measure => rw [(HR4.out.ext ((Ext.refl w3).alloc _)).left_eq, HL3.out]; exact hlt3
              · have hb : (boolGet S3 x).getD (.bool false) = .bool false := by unfold boolGet; rw [if_neg hin]; rfl
                rw [hb] at klk
                have HIN := Lib.hid hin
                clear hb hin
                go_upto_region 15 with fail
                obtain ⟨W5, hW⟩ : ∃ W : World, W = w3.alloc (.cells #[Value.string (ba u.name), Value.slice p0 q0 r0, Value.slice p1 q1 r1, Value.slice p2 q2 r2, Value.slice p3 q3 r3, Value.slice p4 q4 r4, Value.slice p5 q5 r5, Value.int IntKind.i64 u.retry] 45) := ⟨_, rfl⟩
                have xW : Ext w3 W5 := by rw [hW]; exact (Ext.refl w3).alloc _
                have bW : W5.heap[w3.heap.size]? = some (.cells #[Value.string (ba u.name), Value.slice p0 q0 r0, Value.slice p1 q1 r1, Value.slice p2 q2 r2, Value.slice p3 q3 r3, Value.slice p4 q4 r4, Value.slice p5 q5 r5, Value.int IntKind.i64 u.retry] 45 (0, 0)) := by rw [hW]; exact heap_alloc_new _ _
                have kv5 := kv (.cells #[Value.string (ba u.name), Value.slice p0 q0 r0, Value.slice p1 q1 r1, Value.slice p2 q2 r2, Value.slice p3 q3 r3, Value.slice p4 q4 r4, Value.slice p5 q5 r5, Value.int IntKind.i64 u.retry] 45)
                have kl5 := klk (.cells #[Value.string (ba u.name), Value.slice p0 q0 r0, Value.slice p1 q1 r1, Value.slice p2 q2 r2, Value.slice p3 q3 r3, Value.slice p4 q4 r4, Value.slice p5 q5 r5, Value.int IntKind.i64 u.retry] 45)
                rw [← hW] at kv5 kl5
                have c4 : W5.cell? ⟨w3.heap.size, 4, none⟩ = some (.slice p3 q3 r3) := by rw [cell_blk bW]; rfl
                have c6 : W5.cell? ⟨w3.heap.size, 6, none⟩ = some (.slice p5 q5 r5) := by rw [cell_blk bW]; rfl
                obtain ⟨l2, hl2⟩ : ∃ l2, l2 = u.requires ++ u.partOf := ⟨_, rfl⟩
                have HL2 := Lib.hid hl2
                have HSH := Lib.hid (show ShortAll l2 from fun y hy => by
                  rw [hl2] at hy
                  unfold maxLen
                  rcases List.mem_append.1 hy with hy | hy
                  · have := (HLS.out u.requires (by simp [listsOf])).2 y hy; omega
                  · have := (HLS.out u.partOf (by simp [listsOf])).2 y hy; omega)
                have hnm : n3 < maxLen := by unfold maxLen; omega
                have HA5 := Lib.hid (HA4.out.ext xW)
                have HR5 := Lib.hid (HR4.out.ext xW)
                have XW := Lib.hid xW
                rw [← hW]
                clear hW xW bW kv klk hl2
                obtain ⟨t, ht⟩ : ∃ t, t = l2.any (fun y => decide (y ∈ S3)) := ⟨_, rfl⟩
                have HTT := Lib.hid ht
                clear ht
                cases t with
                | false =>
                  go_wp2_with (first
                    | (go_at_call 31; refine (concat_any (SRows.two0 (SR.out.ext (XW.out.alloc _)) (SP.out.ext (XW.out.alloc _))) (by simp; omega)).mono ?_; rintro e w6 ⟨v6, rfl, o6, x6⟩; rw [flat2, ← HL2.out] at o6; have X6 := Lib.hid (show Ext W5 w6 from ((Ext.refl W5).alloc _).trans x6); have HA6 := Lib.hid (HA5.out.ext X6.out);
                        have HCF := cfunc_any o6.row HSH.out (fun y => decide (y ∈ S3)) 44 #[.pointer (some ⟨w.heap.size + 1, 0, none⟩)] (enters_of Try.func44 (by kernel_rfl) rfl) (fun V y hb => lean44 (HA6.out.ext hb).var (HA6.out.ext hb).map y.2); rw [← HTT.out] at HCF; have HCF := Lib.hid HCF; (obtain ⟨a6, c6, rfl, -⟩ := o6.row.form); clear o6 x6)
                    | (go_at_call 43; refine HCF.out.mono ?_; rintro e w7 ⟨rfl, q, rfl⟩))
                  go_roundw
                  case rel =>
                    refine ⟨b, n3, S3, fun z => left z && (z != x), cnt3, rfl, hn3, Lib.hid (HA6.out.ext ((Ext.refl w6).drewN q)), Lib.hid (HR5.out.ext (X6.out.drewN q)), Lib.hid (fun e => ?_), HT⟩
                    obtain ⟨e1, e2⟩ := HB.out e
                    refine ⟨e1, fun y hy hl => ?_⟩
                    by_cases hyx : y = x
                    · rw [hyx]
                      refine .inr fun u' hu' z hz hz2 => ?_
                      rw [HF.out] at hu'
                      cases hu'
                      have h1 := HTT.out.symm
                      rw [List.any_eq_false] at h1
                      rw [← HL2.out] at hz
                      exact h1 z hz (by simpa using hz2)
                    · exact e2 y hy (by simpa [hyx] using hl)
                  case measure => rw [(HR5.out.ext (X6.out.drewN q)).left_eq, HL3.out]; exact hlt3
                | true =>
                  obtain ⟨y, hy, hy2⟩ := List.any_eq_true.1 HTT.out.symm
                  have HST := Lib.hid (HA5.out.st.add HF.out HIN.out (by rw [← HL2.out]; exact hy) (by simpa using hy2))
                  clear hy hy2
                  go_wp2_with (first
                    | (go_at_call 31; refine (concat_any (SRows.two0 (SR.out.ext (XW.out.alloc _)) (SP.out.ext (XW.out.alloc _))) (by simp; omega)).mono ?_; rintro e w6 ⟨v6, rfl, o6, x6⟩; rw [flat2, ← HL2.out] at o6; have X6 := Lib.hid (show Ext W5 w6 from ((Ext.refl W5).alloc _).trans x6); have HA6 := Lib.hid (HA5.out.ext X6.out);
                        have HCF := cfunc_any o6.row HSH.out (fun y => decide (y ∈ S3)) 44 #[.pointer (some ⟨w.heap.size + 1, 0, none⟩)] (enters_of Try.func44 (by kernel_rfl) rfl) (fun V y hb => lean44 (HA6.out.ext hb).var (HA6.out.ext hb).map y.2); rw [← HTT.out] at HCF; have HCF := Lib.hid HCF; (obtain ⟨a6, c6, rfl, -⟩ := o6.row.form); clear o6 x6)
                    | (go_at_call 43; refine HCF.out.mono ?_; rintro e w7 ⟨rfl, q, rfl⟩; have kv7 := (cell_blk (HA6.out.ext ((Ext.refl w6).drewN q)).var 0); (obtain ⟨w8, hr8, p8, g8⟩ := (HA6.out.ext ((Ext.refl w6).drewN q)).put hnm hxl (boolGet_put S3 x) HST.out); have P8 := Lib.hid p8; have G8 := Lib.hid g8; clear p8 g8))
                  go_roundw
                  case rel =>
                    refine ⟨true, n3 + 1, S3 ++ [x], fun z => left z && (z != x), cnt3, rfl, ?_, P8, Lib.hid ?_, Lib.hid (fun e => by cases e), Lib.hid (fun _ => ?_)⟩
                    · rw [List.length_append, List.length_singleton]; omega
                    · exact (HR5.out.ext (X6.out.drewN q)).kept G8.out (fun e => by have := Option.some.inj e; omega) (fun e => by have := Option.some.inj e; omega)
                    · rw [List.length_append, List.length_singleton]
                      cases b with
                      | true => have := HT.out rfl; omega
                      | false => rw [(HB.out rfl).1]; omega
                  case measure =>
                    rw [((HR5.out.ext (X6.out.drewN q)).kept G8.out (fun e => by have := Option.some.inj e; omega) (fun e => by have := Option.some.inj e; omega)).left_eq, HL3.out]
                    exact hlt3
end Go.Proofs.Ytobdjfibaemmhaa
