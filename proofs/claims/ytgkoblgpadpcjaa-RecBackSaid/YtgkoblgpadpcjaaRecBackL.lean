/- RecBack: pieces, their bytes, how they lie in memory; the plain laws. -/
import Derived.Test.YtgkoblgpadpcjaaRecApartL
namespace Go.Proofs.Ytgkoblgpadpcjaa.recBack
open Go.RowKit Go.Proofs.Ytgkoblgpadpcjaa.recApart

/-- A piece: its kind, its number, its bytes, its list. -/
inductive Pc where
  | mk (k : Int) (n : Nat) (b : List UInt8) (l : List Pc)
/-- A piece's bytes, lists being taken so many deep. -/
def pk : Nat → Pc → List UInt8
  | 0, .mk k n b _ => if k = 1 then le4 b.length ++ b else le4 n
  | d + 1, .mk k n b l => if k = 1 then le4 b.length ++ b else if k = 2 then le4 ((l.map (pk d)).flatten).length ++ (l.map (pk d)).flatten else le4 n
/-- How many pieces and bytes there are, so many deep. -/
def wt : Nat → Pc → Nat
  | 0, _ => 0
  | d + 1, .mk _ _ b l => 1 + b.length + (l.map (wt d)).sum

theorem le4_len (n : Nat) : (le4 n).length = 4 := rfl
theorem flat_len (g : Pc → List UInt8) (t : Pc → Nat) (l : List Pc) (h : ∀ p ∈ l, (g p).length ≤ 4 * t p) : (l.map g).flatten.length ≤ 4 * (l.map t).sum := by
  induction l with
  | nil => simp
  | cons p l ih =>
    have h1 := h p (by simp)
    have h2 := ih (fun q hq => h q (by simp [hq]))
    simp only [List.map_cons, List.flatten_cons, List.length_append, List.sum_cons]
    omega
theorem pk_len : ∀ (d : Nat) (p : Pc), (pk d p).length ≤ 4 * wt (d + 1) p
  | 0, .mk k n b l => by
    unfold pk wt
    split <;> simp [le4_len] <;> omega
  | d + 1, .mk k n b l => by
    have h := flat_len (pk d) (wt (d + 1)) l (fun p _ => pk_len d p)
    unfold pk
    rw [wt]
    split
    · simp [le4_len]; omega
    · split
      · rw [List.length_append, le4_len]; omega
      · simp [le4_len]; omega
theorem pk_pos (d : Nat) (p : Pc) : 4 ≤ (pk d p).length := by
  cases d <;> cases p <;> unfold pk
  · split <;> simp [le4_len]
  · split
    · simp [le4_len]
    · split
      · rw [List.length_append, le4_len]; omega
      · simp [le4_len]
theorem wt_mono : ∀ (d : Nat) (p : Pc), wt d p ≤ wt (d + 1) p
  | 0, p => by simp [wt]
  | d + 1, .mk k n b l => by
    rw [wt, wt]
    have : (l.map (wt d)).sum ≤ (l.map (wt (d + 1))).sum := by
      induction l with
      | nil => simp
      | cons p l ih =>
        have := wt_mono d p
        simp only [List.map_cons, List.sum_cons]
        omega
    omega

/-- A piece lies in the world: four cells. -/
def PcAt (w : World) : Nat → Value → Value → Value → Value → Pc → Prop
  | 0, _, _, _, _, _ => False
  | f + 1, c0, c1, c2, c3, .mk k n b l =>
    c0 = .int .i64 k ∧ c1 = .int .u32 n ∧ n < 4294967296 ∧ Bytes w c2 b ∧ b.length ≤ 140737488355328 ∧
      ∃ a cap, c3 = .slice a l.length cap ∧ l.length ≤ 140737488355328 ∧ ∀ i, (h : i < l.length) → ∃ bb o d0 d1 d2 d3, a = some ⟨bb, o, none⟩ ∧
        w.cell? ⟨bb, o + i * 4, none⟩ = some d0 ∧ w.cell? ⟨bb, o + i * 4 + 1, none⟩ = some d1 ∧ w.cell? ⟨bb, o + i * 4 + 2, none⟩ = some d2 ∧ w.cell? ⟨bb, o + i * 4 + 3, none⟩ = some d3 ∧ PcAt w f d0 d1 d2 d3 l[i]
/-- A list of pieces. -/
def PcsAt (w : World) (f : Nat) (v : Value) (l : List Pc) : Prop :=
  ∃ a cap, v = .slice a l.length cap ∧ l.length ≤ 140737488355328 ∧ ∀ i, (h : i < l.length) → ∃ bb o d0 d1 d2 d3, a = some ⟨bb, o, none⟩ ∧
        w.cell? ⟨bb, o + i * 4, none⟩ = some d0 ∧ w.cell? ⟨bb, o + i * 4 + 1, none⟩ = some d1 ∧ w.cell? ⟨bb, o + i * 4 + 2, none⟩ = some d2 ∧ w.cell? ⟨bb, o + i * 4 + 3, none⟩ = some d3 ∧ PcAt w f d0 d1 d2 d3 l[i]
theorem PcAt.open {w : World} {f : Nat} {c0 c1 c2 c3 : Value} {k : Int} {n : Nat} {b : List UInt8} {l : List Pc} (h : PcAt w f c0 c1 c2 c3 (.mk k n b l)) :
    ∃ f', f = f' + 1 ∧ c0 = .int .i64 k ∧ c1 = .int .u32 n ∧ n < 4294967296 ∧ Bytes w c2 b ∧ b.length ≤ 140737488355328 ∧ PcsAt w f' c3 l := by
  cases f with
  | zero => exact h.elim
  | succ f =>
    obtain ⟨h0, h1, h2, h3, h4, h5⟩ := h
    exact ⟨f, rfl, h0, h1, h2, h3, h4, h5⟩
/-- What a walk asks of the i-th piece, in a world in which nothing of old has turned. -/
theorem PcsAt.at {w0 w : World} {f : Nat} {a : Option Addr} {n cap : Nat} {l : List Pc} (h : PcsAt w0 f (.slice a n cap) l) (hx : Ext w0 w) (i : Nat) (hi : i < l.length) : ∃ bb o d0 d1 d2 d3, a = some ⟨bb, o, none⟩ ∧
    w.cell? ⟨bb, o + i * 4, none⟩ = some d0 ∧ w.cell? ⟨bb, o + i * 4 + 1, none⟩ = some d1 ∧ w.cell? ⟨bb, o + i * 4 + 2, none⟩ = some d2 ∧ w.cell? ⟨bb, o + i * 4 + 3, none⟩ = some d3 ∧ PcAt w0 f d0 d1 d2 d3 l[i] := by
  obtain ⟨a', cap', e, -, hc⟩ := h
  simp only [Value.slice.injEq] at e
  obtain ⟨rfl, -, rfl⟩ := e
  obtain ⟨bb, o, d0, d1, d2, d3, rfl, h0, h1, h2, h3, hp⟩ := hc i hi
  exact ⟨bb, o, d0, d1, d2, d3, rfl, hx.cell h0, hx.cell h1, hx.cell h2, hx.cell h3, hp⟩
theorem four_own (n : Nat) (hn : n < 4294967296) (w : World) : OwnBytes (w.alloc (.cells #[.int .u8 ((n : Int) % 256), .int .u8 ((n : Int) / 256 % 256), .int .u8 ((n : Int) / 65536 % 256), .int .u8 ((n : Int) / 16777216)] 5)) w.heap.size (.slice (some ⟨w.heap.size, 0, none⟩) 4 4) (le4 n) := le4_own n hn w
set_option maxRecDepth 100000 in
theorem four_any (n : Nat) (hn : n < 4294967296) (w : World) :
    Calls Try.prog 65 #[.int .u32 n] w fun e w' => ∃ v, e = .returned v ∧ Fresh w w' v (le4 n) := by
  have own := Lib.hid (le4_own n hn w)
  go_enter Try.func65, Try.ntmps65
  go_wp2
  go_ret
  exact ⟨_, rfl, (Ext.refl w).alloc _, own.out⟩
end Go.Proofs.Ytgkoblgpadpcjaa.recBack
