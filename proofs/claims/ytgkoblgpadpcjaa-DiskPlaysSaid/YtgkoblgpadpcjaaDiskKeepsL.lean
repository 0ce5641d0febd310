/- DiskKeeps: what may be in each sector, and how it is kept in maps. -/
import Derived.Test.YtgkoblgpadpcjaaDiskMap
import Derived.Test.YtgkoblgpadpcjaaDiskPowerW
namespace Go.Proofs.Ytgkoblgpadpcjaa.diskKeeps
open Go.RowKit Go.Proofs.Ytgkoblgpadpcjaa.diskPower

def sec2 (b c : UInt8) : List UInt8 := b :: c :: List.replicate 62 0
theorem sec2_len (b c : UInt8) : (sec2 b c).length = 64 := rfl
theorem built_sec2 (b c : UInt8) : Try.prog.built 63 [(0, .int .u8 b.toNat), (1, .int .u8 c.toNat)] = some (byteVals (sec2 b c)).toArray := by
  obtain ⟨i0, hi, hz0, hz1, hz2⟩ := info_parts Try.zero63
  obtain ⟨i5, h5, h50, h51, h52⟩ := info_parts Try.info5
  unfold Program.built
  rw [hi, Try.underlying63]
  simp only [hz0, h5, h51]
  have e := putAt_mid [.int .u8 b.toNat] [.int .u8 0] [] (List.replicate 63 (Value.int IntKind.u8 0)) rfl
  have e2 := putAt_mid [.int .u8 c.toNat] [.int .u8 0] [.int .u8 b.toNat] (List.replicate 62 (Value.int IntKind.u8 0)) rfl
  unfold Instr.fill
  simp only [Nat.zero_mul]
  rw [if_neg (by rw [show (Value.int IntKind.u8 (b.toNat : Int)).cells.size = 1 from rfl]; decide)]
  rw [show ((Value.int IntKind.u8 (b.toNat : Int)).cells.zipIdx.foldl (fun cs (x : Value × Nat) => cs.setIfInBounds (0 + x.2) x.1) (Value.agg (byteVals zero64).toArray).cells) = putAt (byteVals zero64).toArray 0 [.int .u8 b.toNat] from fold_putAt' 0 #[_] _]
  have hz64 : byteVals zero64 = [] ++ [.int .u8 0] ++ List.replicate 63 (Value.int IntKind.u8 0) := rfl
  have e' : putAt (byteVals zero64).toArray 0 [Value.int .u8 (b.toNat : Int)] = ([Value.int .u8 (b.toNat : Int)] ++ [Value.int .u8 0] ++ List.replicate 62 (Value.int IntKind.u8 0)).toArray := by
    rw [hz64]; exact e
  rw [e']
  unfold Instr.fill
  simp only [Nat.one_mul]
  rw [if_neg (by rw [show (Value.int IntKind.u8 (c.toNat : Int)).cells.size = 1 from rfl]; simp [Value.cells])]
  rw [show ((Value.int IntKind.u8 (c.toNat : Int)).cells.zipIdx.foldl (fun cs (x : Value × Nat) => cs.setIfInBounds (1 + x.2) x.1) ([Value.int .u8 (b.toNat : Int)] ++ [Value.int .u8 0] ++ List.replicate 62 (Value.int IntKind.u8 0)).toArray) = putAt ([Value.int .u8 (b.toNat : Int)] ++ [Value.int .u8 0] ++ List.replicate 62 (Value.int IntKind.u8 0)).toArray 1 [.int .u8 c.toNat] from fold_putAt' 1 #[_] _]
  exact congrArg some e2
theorem wpList_sec2 {ops : Array Oper} {rest : List Oper} {o : Oper} {a : Act} {w : World} {Q : Exit → Act → World → Prop} (hg : o.guard = none) (x y : Operand) (ho : o.op = .build 63 #[(0, x), (1, y)]) (b c : UInt8)
    (hx : a.eval x = .int .u8 b.toNat) (hy : a.eval y = .int .u8 c.toNat) (h : wpList Try.prog ops Q rest (a.put o.dst (.agg (byteVals (sec2 b c)).toArray)) w) : wpList Try.prog ops Q (o :: rest) a w := by
  have hb := built_sec2 b c
  refine wpList_build hg 63 #[(0, x), (1, y)] ho (by simp [hx, hy, hb]) ?_
  simpa [hx, hy, hb] using h

/-- The maps: at ob a map from numbers to those at ibs; each holds its sectors, with 1. -/
structure MapsAt (B : Nat) (w : World) (ob : Nat) (ibs : List Nat) (M : List (List (List UInt8))) : Prop where
  obj : w.heap[ob]? = some (.map (outer ibs 0).toArray ibs.length)
  len : ibs.length = M.length
  out : ob ∉ ibs
  dup : ibs.Nodup
  inner : ∀ i (h : i < M.length) (h' : i < ibs.length), w.heap[ibs[i]]? = some (.map (secEntries M[i] 0).toArray M[i].length)
  secs : ∀ L ∈ M, ∀ t ∈ L, t.length = 64
  base : B ≤ ob ∧ ∀ b ∈ ibs, B ≤ b
theorem MapsAt.same {B : Nat} {w w' : World} {ob : Nat} {ibs : List Nat} {M : List (List (List UInt8))} (h : MapsAt B w ob ibs M) (hs : ∀ (k : Nat) (es : Array MapEntry) (c : Nat), w.heap[k]? = some (.map es c) → w'.heap[k]? = w.heap[k]?) : MapsAt B w' ob ibs M :=
  ⟨(hs _ _ _ h.obj).trans h.obj, h.len, h.out, h.dup, fun i hi hi' => (hs _ _ _ (h.inner i hi hi')).trans (h.inner i hi hi'), h.secs, h.base⟩
theorem MapsAt.ext {B : Nat} {w w' : World} {ob : Nat} {ibs : List Nat} {M : List (List (List UInt8))} (h : MapsAt B w ob ibs M) (x : Ext w w') : MapsAt B w' ob ibs M :=
  h.same fun k _ _ hk => x.block k (Array.getElem?_eq_some_iff.1 hk).1
theorem MapsAt.only {B base g kb : Nat} {w w' : World} {ob : Nat} {ibs : List Nat} {M : List (List (List UInt8))} {D : Dk} (h : MapsAt B w ob ibs M) (d : Disk base w g kb D) (o : DOnly base g kb w w') : MapsAt B w' ob ibs M := by
  obtain ⟨cv, d⟩ := d
  refine h.same fun k es c hk => o.block k (Array.getElem?_eq_some_iff.1 hk).1 ?_ ?_ (.inr fun cs fz e => ?_)
  · rintro rfl; have := hk.symm.trans d.blk; simp at this
  · rintro rfl; have := hk.symm.trans d.row; simp at this
  · rw [hk] at e; simp at e
theorem Disk.setMap {base g kb r : Nat} {w : World} {D : Dk} {es : Array MapEntry} {c : Nat} (h : Disk base w g kb D) (hr : w.heap[r]? = some (.map es c)) (o : Obj) : Disk base (setMap w r o) g kb D := by
  obtain ⟨cv, h⟩ := h
  refine ⟨cv, h.same fun k hk => setMap_other ?_⟩
  rintro rfl
  rcases hk with rfl | rfl | hk
  · have := hr.symm.trans h.blk; simp at this
  · have := hr.symm.trans h.row; simp at this
  · rcases h.cache.2 with ⟨rfl, _⟩ | ⟨q, cap, cur, rfl, _, hh, -⟩
    · simp [Value.ownBlock] at hk
    · simp only [Value.ownBlock, Option.some.injEq] at hk
      subst hk
      have := hr.symm.trans hh; simp at this
theorem MapsAt.add {B : Nat} {w : World} {ob : Nat} {ibs : List Nat} {M : List (List (List UInt8))} (h : MapsAt B w ob ibs M) (k : Nat) (hk : k < M.length) (s : List UInt8) (hs : s.length = 64) :
    MapsAt B (setMap w (ibs[k]'(by have := h.len; omega)) (.map (secEntries (addSec s M[k]) 0).toArray (addSec s M[k]).length)) ob ibs (M.set k (addSec s M[k])) := by
  have hk' : k < ibs.length := by have := h.len; omega
  refine ⟨?_, by rw [List.length_set]; exact h.len, h.out, h.dup, fun i hi hi' => ?_, fun L hL t ht => ?_, h.base⟩
  · rw [setMap_other (fun e => h.out (by rw [e]; exact List.getElem_mem hk'))]; exact h.obj
  · rw [List.length_set] at hi
    by_cases he : i = k
    · subst he
      rw [setMap_heap (h.inner i hk hk')]
      simp
    · have hne : ibs[i] ≠ ibs[k] := fun e => he ((List.getElem_inj h.dup).1 e)
      rw [setMap_other hne, h.inner i hi hi']
      simp [List.getElem_set_ne (Ne.symm he)]
  · rcases List.mem_or_eq_of_mem_set hL with h1 | h1
    · exact h.secs L h1 t ht
    · subst h1
      unfold addSec at ht
      split at ht
      · exact h.secs _ (List.getElem_mem hk) t ht
      · rcases List.mem_append.1 ht with ht | ht
        · exact h.secs _ (List.getElem_mem hk) t ht
        · simp at ht; subst ht; exact hs
theorem MapsAt.push {B : Nat} {w : World} {ob : Nat} {ibs : List Nat} {M : List (List (List UInt8))} (h : MapsAt B w ob ibs M) (hB : B ≤ w.heap.size) (s : List UInt8) (hs : s.length = 64) :
    MapsAt B (setMap (setMap (w.alloc (.map #[] 0)) w.heap.size (.map (secEntries (addSec s []) 0).toArray (addSec s []).length)) ob (.map (outer (ibs ++ [w.heap.size]) 0).toArray (ibs ++ [w.heap.size]).length)) ob (ibs ++ [w.heap.size]) (M ++ [[s]]) := by
  have hob : ob < w.heap.size := (Array.getElem?_eq_some_iff.1 h.obj).1
  have hlt : ∀ b ∈ ibs, b < w.heap.size := by
    intro b hb
    obtain ⟨i, hi, rfl⟩ := List.getElem_of_mem hb
    exact (Array.getElem?_eq_some_iff.1 (h.inner i (by have := h.len; omega) hi)).1
  have hadd : addSec s [] = [s] := rfl
  rw [hadd]
  have hnew : (w.alloc (.map #[] 0)).heap[w.heap.size]? = some (.map #[] 0) := heap_alloc_new w _
  refine ⟨?_, by simp [h.len], ?_, ?_, fun i hi hi' => ?_, fun L hL t ht => ?_, ⟨h.base.1, fun b hb => ?_⟩⟩
  · refine setMap_heap (p := .map (outer ibs 0).toArray ibs.length) ?_
    rw [setMap_other (by omega), heap_alloc_old _ _ (by omega)]
    exact h.obj
  · intro hm
    rcases List.mem_append.1 hm with hm | hm
    · exact h.out hm
    · simp at hm; omega
  · rw [List.nodup_append]
    refine ⟨h.dup, by simp, fun a ha b hb => ?_⟩
    simp at hb; subst hb
    have := hlt a ha; omega
  · by_cases hil : i < ibs.length
    · have hM : i < M.length := by have := h.len; omega
      have e1 : (ibs ++ [w.heap.size])[i] = ibs[i] := List.getElem_append_left hil
      have e2 : (M ++ [[s]])[i] = M[i] := List.getElem_append_left hM
      have hl := hlt ibs[i] (List.getElem_mem hil)
      rw [e1, e2, setMap_other (fun e => h.out (by rw [← e]; exact List.getElem_mem hil)), setMap_other (by omega), heap_alloc_old _ _ hl]
      exact h.inner i hM hil
    · have hie : i = ibs.length := by simp at hi'; omega
      subst hie
      have e1 : (ibs ++ [w.heap.size])[ibs.length] = w.heap.size := by simp
      have e2 : (M ++ [[s]])[ibs.length] = [s] := by simp [h.len]
      rw [e1, e2, setMap_other (by omega), setMap_heap hnew]
  · rcases List.mem_append.1 hL with hL | hL
    · exact h.secs L hL t ht
    · simp at hL; subst hL; simp at ht; subst ht; exact hs
  · rcases List.mem_append.1 hb with hb | hb
    · exact h.base.2 b hb
    · simp at hb; subst hb; exact hB

/-- Of what is written behind the flush: each sector that may be kept is in its map. -/
def Held (M : List (List (List UInt8))) (D : Dk) : Prop :=
  M.length = D.kept.length ∧ (∀ i (h : i < D.kept.length) (h' : i < M.length), D.kept[i] ∈ M[i]) ∧ ∀ c ∈ D.cache, ∀ (h : c.1 < M.length), c.2 ∈ M[c.1]
theorem held_lay (p : Nat → Bool) (M : List (List (List UInt8))) : ∀ (c : List (Nat × List UInt8)) (j : Nat) (K : List (List UInt8)) (_ : M.length = K.length) (_ : ∀ i (h : i < K.length) (h' : i < M.length), K[i] ∈ M[i]) (_ : ∀ x ∈ c, ∀ (h : x.1 < M.length), x.2 ∈ M[x.1]),
    ∀ i (h : i < (lay p c j K).length) (h' : i < M.length), (lay p c j K)[i] ∈ M[i]
  | [], _, _, _, hK, _, i, h, h' => hK i h h'
  | x :: r, j, K, hl, hK, hc, i, h, h' => by
    have hK2 : ∀ i (h : i < (if p j then K.set x.1 x.2 else K).length) (h' : i < M.length), (if p j then K.set x.1 x.2 else K)[i] ∈ M[i] := by
      intro i h h'
      by_cases hp : p j
      · simp only [hp, if_true] at h ⊢
        rw [List.getElem_set]
        split
        · rename_i e
          subst e
          exact hc x (by simp) h'
        · exact hK i (by simpa using h) h'
      · simp only [hp] at h ⊢
        exact hK i h h'
    have hl2 : M.length = (if p j then K.set x.1 x.2 else K).length := by split <;> simp [hl]
    have := held_lay p M r (j + 1) _ hl2 hK2 (fun y hy => hc y (by simp [hy])) i
    exact this h h'
theorem Held.crash {M : List (List (List UInt8))} {D : Dk} (h : Held M D) (keeps i : Nat) (hi : i < (D.crash keeps).kept.length) (hi' : i < M.length) : (D.crash keeps).kept[i] ∈ M[i] :=
  held_lay (bitOf keeps) M D.cache 0 D.kept h.1 h.2.1 h.2.2 i hi hi'
theorem calm_flush {D : Dk} {m c : Nat} (h : diskPower.Calm D m c) : D.flush.2 = 0 ∧ diskPower.Calm D.flush.1 m (c + 1) ∧ D.flush.1.cache = [] := by
  have hs : Dk.step D = ({ D with steps := D.steps + 1 }, true) := by
    unfold Dk.step
    rw [if_neg (by have := h.fate; omega)]
  unfold Dk.flush
  rw [if_neg (by rw [h.down]; decide), hs]
  refine ⟨rfl, ⟨h.down, ?_, h.fate, Nat.succ_le_succ h.steps, Nat.zero_le _⟩, rfl⟩
  show (lay _ _ _ _).length = m
  rw [lay_length]; exact h.len
/-- A write: it goes well, and is in the cache; or it is refused, and nothing turns. -/
theorem calm_cases {D : Dk} {m c : Nat} (h : diskPower.Calm D m c) (a : Int) (s : List UInt8) :
    (∃ k : Nat, a = (k : Int) ∧ k < m ∧ D.write a s = ({ D with cache := D.cache ++ [(k, s)], steps := D.steps + 1 }, 0)) ∨ D.write a s = (D, 2) := by
  by_cases hr : a < 0 ∨ (D.kept.length : Int) ≤ a
  · right
    unfold Dk.write
    rw [if_neg (by rw [h.down]; decide), if_pos hr]
  · left
    obtain ⟨k, rfl⟩ : ∃ k : Nat, a = (k : Int) := ⟨a.toNat, by omega⟩
    have hl := h.len
    refine ⟨k, rfl, by omega, ?_⟩
    have hs : Dk.step { D with cache := D.cache ++ [(k, s)] } = ({ D with cache := D.cache ++ [(k, s)], steps := D.steps + 1 }, true) := by
      unfold Dk.step
      rw [if_neg (by show ¬ 0 < D.fate; have := h.fate; omega)]
    unfold Dk.write
    rw [if_neg (by rw [h.down]; decide), if_neg hr]
    simp only [Int.toNat_natCast, hs]
    rfl
theorem Held.write {M : List (List (List UInt8))} {D : Dk} (h : Held M D) (k n : Nat) (hk : k < M.length) (s : List UInt8) : Held (M.set k (addSec s M[k])) { D with cache := D.cache ++ [(k, s)], steps := n } := by
  have hsub : ∀ (i : Nat) (h1 : i < M.length) (h2 : i < (M.set k (addSec s M[k])).length) (x : List UInt8), x ∈ M[i] → x ∈ (M.set k (addSec s M[k]))[i] := by
    intro i h1 h2 x hx
    rw [List.getElem_set]
    split
    · rename_i e
      subst e
      unfold addSec
      split
      · exact hx
      · exact List.mem_append.2 (.inl hx)
    · exact hx
  refine ⟨by rw [List.length_set]; exact h.1, fun i h1 h2 => ?_, fun c hc h1 => ?_⟩
  · rw [List.length_set] at h2
    exact hsub i h2 _ _ (h.2.1 i h1 h2)
  · rcases List.mem_append.1 hc with hc | hc
    · rw [List.length_set] at h1
      exact hsub c.1 h1 _ _ (h.2.2 c hc h1)
    · simp at hc
      subst hc
      simp only [List.getElem_set_self]
      unfold addSec
      split
      · assumption
      · simp
end Go.Proofs.Ytgkoblgpadpcjaa.diskKeeps
