/- An array of bytes that came in by value, opened. -/
import Derived.Test.YtgkoblgpadpcjaaKit
import Derived.ProofKit
import Derived.OpenShut
namespace Go.Proofs.Ytgkoblgpadpcjaa
open Go.ChangeShapes Go.WideShapes Go.ChangeAt Go.RowKit

theorem cells5 : Try.prog.cellsOf 5 = 1 := by kernel_rfl
theorem byte_of_wf {n : Int} (h : (Lit.int .u8 n).wf = true) : ∃ b : UInt8, (.int .u8 n : Value) = .int .u8 b.toNat := by
  obtain ⟨h0, h1⟩ := wf_u8 h
  refine ⟨UInt8.ofNat n.toNat, ?_⟩
  congr 1
  simp only [UInt8.toNat_ofNat']
  omega
theorem bytes_of_cells : ∀ (cs : List Value), (∀ i, i < cs.length → ∃ n : Int, (cs.drop i).take 1 = [.int .u8 n] ∧ (Lit.int .u8 n).wf = true) → ∃ l : List UInt8, l.length = cs.length ∧ cs = byteVals l
  | [], _ => ⟨[], rfl, rfl⟩
  | c :: cs, h => by
    obtain ⟨n, h1, h2⟩ := h 0 (by simp)
    obtain ⟨b, hb⟩ := byte_of_wf h2
    obtain ⟨l, hl, he⟩ := bytes_of_cells cs (fun i hi => by simpa using h (i + 1) (by simpa using hi))
    refine ⟨b :: l, by simp [hl], ?_⟩
    simp at h1
    rw [h1, hb, he]; rfl
set_option maxRecDepth 100000 in
theorem open_bytes {H : Type} {enc : TypeId × Value → H} {W : World} {base : Nat} {spare : Nat → Bool} {held : Bool} {t n : Nat} {v : Value} {d : DataW H} {p : List MemPlace} {r : Reach} {b0 : Nat}
    (ht : Try.prog.underlying t = some (.array n 5)) (hC : Try.prog.cellsOf t = n) (hv : Value.okWide Try.prog W r b0 t v)
    (h : DataW.Trod enc Try.prog W base spare held t v d p) : ∃ l : List UInt8, l.length = n ∧ v = .agg (byteVals l).toArray := by
  unfold Value.okWide at hv
  rw [ht] at hv
  obtain ⟨cs, rfl, hcs, -⟩ := hv
  obtain ⟨fuel, hf⟩ := h
  obtain ⟨xs, m, -, -, hlen, hxs, hi⟩ := DataW.trod_array ht hf
  have hlen' : cs.toList.length = n := by simpa [Value.cells] using hlen.trans hC
  obtain ⟨l, hl, he⟩ := bytes_of_cells cs.toList (fun i hii => by
    have h1 := hi i (by omega)
    rw [cells5, Nat.mul_one, List.getElem?_eq_getElem (show i < xs.length by omega)] at h1
    obtain ⟨k, hk, _, hw⟩ := DataW.trod_int Try.underlying5 h1
    exact ⟨k, by simpa [Value.cells] using hk, hw⟩)
  exact ⟨l, by omega, by rw [← he]⟩
end Go.Proofs.Ytgkoblgpadpcjaa
