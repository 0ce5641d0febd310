/- RecApart: the plain laws, and the steps of the two loops. -/
import Derived.Test.YtgkoblgpadpcjaaRecAlive
namespace Go.Proofs.Ytgkoblgpadpcjaa.recApart
open Go.RowKit

def inner (a b : List UInt8) : List UInt8 := [le4 b.length ++ b, le4 a.length ++ a].flatten
def packed (x a b : List UInt8) : List UInt8 := [le4 x.length ++ x, le4 (inner a b).length ++ inner a b].flatten
theorem inner_len (a b : List UInt8) (ha : a.length ≤ 100) (hb : b.length ≤ 100) : (inner a b).length ≤ 208 := by
  simp [inner, le4]; omega
theorem packed_len (x a b : List UInt8) (hx : x.length ≤ 100) (ha : a.length ≤ 100) (hb : b.length ≤ 100) : (packed x a b).length ≤ 316 := by
  have := inner_len a b ha hb
  simp [packed, le4]; omega
theorem num4_le4 (n : Nat) (h : n < 4294967296) : num4 (UInt8.ofNat n) (UInt8.ofNat (n / 256)) (UInt8.ofNat (n / 65536)) (UInt8.ofNat (n / 16777216)) = n := by
  unfold num4; simp; omega
theorem rawRes_le4 (l r : List UInt8) (bad : Bool) (most : Int) (h : (l.length : Int) ≤ most) (h2 : l.length < 4294967296) : rawRes (le4 l.length ++ l ++ r) bad most = (l, r, bad) := by
  have e : numRes (le4 l.length ++ l ++ r) bad most = (l.length, l ++ r, bad) := by
    simp only [numRes, le4, List.cons_append, List.nil_append, num4_le4 _ h2, if_pos h]
  unfold rawRes; rw [e]; simp
theorem raw1 (a b : List UInt8) (ha : a.length ≤ 100) : rawRes (packed a a b) false 200 = (a, le4 (inner a b).length ++ inner a b, false) := by
  have := rawRes_le4 a (le4 (inner a b).length ++ inner a b) false 200 (by omega) (by omega)
  simpa [packed] using this
theorem raw2 (a b : List UInt8) (ha : a.length ≤ 100) (hb : b.length ≤ 100) : rawRes (le4 (inner a b).length ++ inner a b) false 16777216 = (inner a b, [], false) := by
  have h := inner_len a b ha hb
  have := rawRes_le4 (inner a b) [] false 16777216 (by omega) (by omega)
  simpa using this
theorem raw3 (a b : List UInt8) (hb : b.length ≤ 100) : rawRes (inner a b) false 200 = (b, le4 a.length ++ a, false) := by
  have := rawRes_le4 b (le4 a.length ++ a) false 200 (by omega) (by omega)
  simpa [inner] using this
theorem raw4 (a : List UInt8) (ha : a.length ≤ 100) : rawRes (le4 a.length ++ a) false 200 = (a, [], false) := by
  have := rawRes_le4 a [] false 200 (by omega) (by omega)
  simpa using this
theorem Fresh.shape {w w' : World} {v : Value} {l : List UInt8} (h : Fresh w w' v l) : ∃ a c, v = .slice a l.length c := by
  obtain ⟨x, y, rfl, _⟩ := h.bytes; exact ⟨_, _, rfl⟩
theorem Bytes.shape {w : World} {v : Value} {l : List UInt8} (h : Bytes w v l) : ∃ a c, v = .slice a l.length c := by
  obtain ⟨x, y, rfl, _⟩ := h; exact ⟨_, _, rfl⟩
theorem Fresh.parts {w w' : World} {v : Value} {l : List UInt8} (h : Fresh w w' v l) : ∃ a n c, v = .slice a n c := by
  obtain ⟨x, y, rfl, _⟩ := h.bytes; exact ⟨_, _, _, rfl⟩
theorem lit2 {W w0 : World} {g : Nat} {v u : Value} {l m : List UInt8} {t : TypeId} (hb : Bytes w0 v l) (hm : Bytes w0 u m) (hx : Ext w0 W) (hh : W.heap[g]? = some (.cells #[v, u] t (0, 0))) : Rows' W (.slice (some ⟨g, 0, none⟩) 2 2) [l, m] := by
  refine ⟨_, 2, rfl, by simp, fun i hi => ?_⟩
  match i, hi with
  | 0, _ => exact ⟨g, 0, v, rfl, by simp only [World.cell?, hh]; rfl, hb.ext hx⟩
  | 1, _ => exact ⟨g, 0, u, rfl, by simp only [World.cell?, hh]; rfl, hm.ext hx⟩

/-- A row of n bytes that is the call's own, in a block at or above B; nothing below B has turned. -/
def Mine (B n : Nat) (w0 W : World) (v : Value) : Prop :=
  Below B w0 W ∧ B ≤ w0.heap.size ∧ (n = 0 ∨ ∃ l, l.length = n ∧ OwnBytes W B v l)
theorem Mine.step {B n c : Nat} {w0 W : World} {a : Option Addr} (h : Mine B n w0 W (.slice a n c)) (k : Nat) (hk : k < n) :
    ∃ g z : Nat, a = some ⟨g, 0, none⟩ ∧ B ≤ g ∧ W.cell? ⟨g, k, none⟩ = some (.int .u8 (z : Int)) ∧ W.frozen? ⟨g, k, none⟩ = false ∧ Mine B n w0 (W.setCell ⟨g, k, none⟩ (.int .u8 (((z : Int) + 1) % 256))) (.slice a n c) := by
  obtain ⟨hb, hB, h | ⟨l, rfl, o⟩⟩ := h
  · omega
  have o' := o
  rcases o.2 with ⟨_, h0⟩ | ⟨g, cap, cur, hv, hbg, -⟩
  · omega
  simp only [Value.slice.injEq] at hv
  obtain ⟨rfl, -, rfl⟩ := hv
  have hs := o'.set rfl k (l[k] + 1) (.int .u8 (((l[k].toNat : Int) + 1) % 256)) (by rw [UInt8.toNat_add]; simp)
  exact ⟨g, l[k].toNat, rfl, hbg, o'.cell rfl k hk, o'.frozen rfl k, hb.setCell hbg _, hB, .inr ⟨_, by simp, hs⟩⟩
theorem mine_fresh {B : Nat} {w0 w1 W : World} {a0 : Option Addr} {v : Value} {l : List UInt8} (hb : Below B w0 W) (hB : B ≤ w0.heap.size) (f : FreshBytes w1 W (.slice a0 0 0) v l) (h1 : B ≤ w1.heap.size) : Mine B l.length w0 W v := by
  refine ⟨hb, hB, ?_⟩
  rcases f.own with ⟨rfl, _⟩ | ⟨_, o, _⟩
  · exact .inl rfl
  · exact .inr ⟨l, rfl, o.le h1⟩
theorem mine_got {w0 W : World} {v : Value} {l : List UInt8} (h : Got w0 W v l) : Mine w0.heap.size l.length W W v ∨ W.heap.size < w0.heap.size := by
  by_cases hs : w0.heap.size ≤ W.heap.size
  · refine .inl ⟨Below.refl _ _, hs, ?_⟩
    rcases h with ⟨rfl, _⟩ | ⟨_, _, _, _, o⟩
    · exact .inl rfl
    · exact .inr ⟨l, rfl, o⟩
  · exact .inr (by omega)
def Inv (B B2 n : Nat) (w0 W : World) (v p q : Value) (P : List UInt8) : Prop := Mine B n w0 W v ∧ OwnBytes W B2 p P ∧ OwnBytes W B2 q P
theorem Inv.step {B B2 n c : Nat} {w0 W : World} {a : Option Addr} {p q : Value} {P : List UInt8} (h : Inv B B2 n w0 W (.slice a n c) p q P) (hx : ∀ g, a = some ⟨g, 0, none⟩ → g < B2) (k : Nat) (hk : k < n) :
    ∃ g z : Nat, a = some ⟨g, 0, none⟩ ∧ W.cell? ⟨g, k, none⟩ = some (.int .u8 (z : Int)) ∧ W.frozen? ⟨g, k, none⟩ = false ∧ Inv B B2 n w0 (W.setCell ⟨g, k, none⟩ (.int .u8 (((z : Int) + 1) % 256))) (.slice a n c) p q P := by
  obtain ⟨g, z, rfl, -, hc, hf, hm⟩ := h.1.step k hk
  have hg := hx g rfl
  refine ⟨g, z, rfl, hc, hf, hm, h.2.1.other _ (fun e => ?_) _, h.2.2.other _ (fun e => ?_) _⟩
  · have := (h.2.1.lt g e).1; omega
  · have := (h.2.2.lt g e).1; omega
theorem fresh_lt {w1 w2 : World} {a0 a : Option Addr} {n c : Nat} {l : List UInt8} (f : FreshBytes w1 w2 (.slice a0 0 0) (.slice a n c) l) (h0 : ∀ g, a0 = some ⟨g, 0, none⟩ → g < w2.heap.size) : ∀ g, a = some ⟨g, 0, none⟩ → g < w2.heap.size := by
  rintro g rfl
  rcases f.own with ⟨_, e⟩ | ⟨_, _, gg, cap, e, _, h2⟩
  · cases e; exact h0 g rfl
  · cases e; exact h2
theorem inv_start {w1 w2 wc wd : World} {a0 : Option Addr} {x p q : Value} {l P : List UInt8} {o : Obj} (f : FreshBytes (w1.alloc o) w2 (.slice a0 0 0) x l) (hx : Ext w1 w2) (fp : Fresh w2 wc p P) (fq : Fresh wc wd q P) : Inv w1.heap.size w2.heap.size l.length w1 wd x p q P := by
  have hm := mine_fresh (B := w1.heap.size) hx (Nat.le_refl _) f (by simp)
  have s1 := hx.size
  have s2 := fp.1.size
  have X : Ext w2 wd := fp.1.trans fq.1
  refine ⟨⟨hx.trans X, Nat.le_refl _, ?_⟩, (fp.before fq.1).2, (fq.2.le s2)⟩
  rcases hm.2.2 with h | ⟨m, hl, h⟩
  · exact .inl h
  · exact .inr ⟨m, hl, h.keptBelow X (fun k hk => (h.lt k hk).2)⟩
end Go.Proofs.Ytgkoblgpadpcjaa.recApart
