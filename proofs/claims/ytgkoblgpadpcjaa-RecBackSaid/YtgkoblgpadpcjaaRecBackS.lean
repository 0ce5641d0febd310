/- RecBack: how many pieces and bytes there are (the function size). -/
import Derived.Test.YtgkoblgpadpcjaaRecBackL
namespace Go.Proofs.Ytgkoblgpadpcjaa.recBack
open Go.RowKit Go.Proofs.Ytgkoblgpadpcjaa.recApart

/-- All of a list weighs so much at most, however deep one looks. -/
def Sum (l : List Pc) (m : Nat) : Prop := ∀ d, (l.map (wt d)).sum ≤ m
theorem wt_le (d k : Nat) (p : Pc) (l : List Pc) (m n : Nat) (kd : Int) (nn : Nat) (b : List UInt8) (ll : List Pc) (hk : k < l.length) (hp : l[k] = .mk kd nn b ll) (h : Sum (l.take k) n) (h2 : Sum ll m) : ((l.take (k + 1)).map (wt d)).sum ≤ n + (1 + b.length) + m := by
  rw [List.take_succ_eq_append_getElem hk, List.map_append, List.sum_append]
  have := h d
  have h3 : wt d l[k] ≤ 1 + b.length + m := by
    rw [hp]
    cases d with
    | zero => simp [wt]
    | succ d => rw [wt]; have := h2 d; omega
  simp only [List.map_cons, List.map_nil, List.sum_cons, List.sum_nil]
  omega
theorem sum_step {k : Nat} {l : List Pc} {m n : Nat} {kd : Int} {nn : Nat} {b : List UInt8} {ll : List Pc} (hk : k < l.length) (hp : l[k] = .mk kd nn b ll) (h : Sum (l.take k) n) (h2 : Sum ll m) : Sum (l.take (k + 1)) (n + (1 + b.length) + m) :=
  fun d => wt_le d k l[k] l m n kd nn b ll hk hp h h2

def sizePost (w : World) (l : List Pc) (most : Nat) (e : Ending) (w' : World) : Prop :=
  ∃ n : Nat, e = .returned (.int .i64 n) ∧ Ext w w' ∧ n ≤ most + 140737488355329 ∧ (n ≤ most → Sum l n)

set_option maxRecDepth 100000 in
set_option maxHeartbeats 1000000 in
theorem size_any (w0 : World) : ∀ (f : Nat) (l : List Pc) (v : Value) (most : Nat) (w : World), PcsAt w0 f v l → most ≤ 1000 → Ext w0 w →
    Calls Try.prog 31 #[v, .int .i64 (most : Int)] w (sizePost w l most)
  | f, l, v, most, w, h, hm, hx => by
    have h0 := Lib.hid h
    have hx0 := Lib.hid hx
    have IH := Lib.hid (fun (f' : Nat) (hf : f' < f) l v most w h hm hx => size_any w0 f' l v most w h hm hx)
    obtain ⟨a, cap, rfl, hl, -⟩ := h
    clear hx
    go_enter Try.func31, Try.ntmps31
    go_wp2_with fail
    go_loopw [5, 10] (fun s i wr => ∃ k n : Nat, k ≤ l.length ∧ i = .int .i64 k ∧ s = .int .i64 n ∧ n ≤ most ∧ Ext w wr ∧ Hid (Sum (l.take k) n)) (fun _ i _ => l.length - (intOf i).toNat)
    case atStart => exact ⟨0, 0, Nat.zero_le _, rfl, rfl, Nat.zero_le _, Ext.refl _, fun d => by simp⟩
    case round =>
      obtain ⟨k, n, hk, rfl, rfl, hn, xr, hs⟩ := hrel
      have XR := Lib.hid xr
      clear xr
      by_cases hlt : k < l.length
      · obtain ⟨bb, o, d0, d1, d2, d3, rfl, e0, e1, e2, e3, hp⟩ := h0.out.at (hx0.out.trans XR.out) k hlt
        obtain ⟨kd, nn, b, ll, hpe⟩ : ∃ kd nn b ll, l[k] = .mk kd nn b ll := by cases hq : l[k]; exact ⟨_, _, _, _, rfl⟩
        have HPE := Lib.hid hpe
        rw [hpe] at hp
        obtain ⟨f', hf, rfl, rfl, hnn, hb, hbl, hps⟩ := hp.open
        obtain ⟨ab, cb, rfl, hb1, hb2, -, -⟩ := hb
        have HPS := Lib.hid hps
        obtain ⟨al, cl, rfl, hll, -⟩ := hps
        clear hp hpe
        by_cases hle : n + (1 + b.length) ≤ most
        · have hm2 : (most : Int) - ((n : Int) + (1 + (b.length : Int))) = ((most - (n + (1 + b.length)) : Nat) : Int) := by omega
          have HM2 := Lib.hid hm2
          clear hm2
          go_wp2_with fail
          rw [HM2.out]
          refine (IH.out f' (by omega) ll _ (most - (n + (1 + b.length))) _ HPS.out (by omega) (hx0.out.trans (XR.out.alloc _))).mono ?_
          rintro e w2 ⟨n2, rfl, x2, hn2, hs2⟩
          have X2 := Lib.hid ((XR.out.alloc _).trans x2)
          have S2 := Lib.hid (fun hle2 => sum_step hlt HPE.out hs.out (hs2 hle2))
          clear x2 hs2 HM2
          by_cases hle2 : n + (1 + b.length) + n2 ≤ most
          · go_wp2_with fail
            go_roundw
            case rel => exact ⟨k + 1, n + (1 + b.length) + n2, by omega, by go_num, by go_num, by omega, X2.out, S2.out (by omega)⟩
            case measure => simp [intOf]; omega
          · have hgt : most < n + (1 + b.length) + n2 := by omega
            clear hle2
            go_wp2_with fail
            go_ret
            exact ⟨n + (1 + b.length) + n2, by go_num, X2.out, by omega, fun h => absurd h (by omega)⟩
        · go_wp2_with fail
          go_ret
          exact ⟨n + (1 + b.length), by go_num, XR.out.alloc _, by omega, fun h => absurd h (by omega)⟩
      · have hkl : k = l.length := by omega
        go_wp2_with fail
        go_ret
        exact ⟨n, rfl, XR.out, by omega, fun _ => by have := hs.out; rwa [hkl, List.take_length] at this⟩
  termination_by f => f
end Go.Proofs.Ytgkoblgpadpcjaa.recBack
