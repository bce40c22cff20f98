/- A row of rows of bytes that comes in, opened; no condition. -/
import Derived.Test.YtmdmllfbdpoeeaaHHandRow
namespace Go.Proofs.Ytmdmllfbdpoeeaa
open Go Go.RowKit Go.ChangeShapes Go.WideShapes Go.Deep Go.Proofs.YtmdmllfbdpoeeaaW.PrintWords Go.Proofs.YtmdmllfbdpoeeaaW.PrintLast Go.Proofs.YtmdmllfbdpoeeaaW.PrintMore
set_option maxRecDepth 100000

theorem byterows_open {H : Type} {enc : TypeId × Value → H} {W : World} {a : Option Addr} {len cap : Nat} {d : DataW H} {p : List MemPlace} (h : DataW.Trod enc Try.prog W 0 (fun _ => true) true 54 (.slice a len cap) d p) :
    ∃ l : List (List Int), len = l.length ∧ l.length ≤ cap ∧ Kd.C (Kd.slice 5 (Kd.int .u8)) W a l.length l ∧ (∀ x ∈ l, ∀ n ∈ x, (Lit.int .u8 n).wf = true) := by
  obtain ⟨fuel, hf⟩ := h
  rcases open_slice1 Try.underlying54 (by kernel_rfl) hf with ⟨hcs, _⟩ | ⟨ad, n, c, m, k, V, D, P, hcs, _, hl, hm, hmm, _, hx⟩
  · simp [Value.cells] at hcs
    obtain ⟨rfl, rfl, rfl⟩ := hcs
    exact ⟨[], rfl, Nat.le_refl _, ⟨rfl, by decide, fun h => absurd h (by decide)⟩, fun _ h => by cases h⟩
  · simp [Value.cells] at hcs
    obtain ⟨rfl, rfl, rfl⟩ := hcs
    simp only [if_true] at hmm
    subst hmm
    have each : ∀ i, i < len → ∃ e : List Int, (∃ v, V i = v ∧ (Kd.slice 5 (Kd.int .u8)).K W e [V i]) ∧ ∀ n ∈ e, (Lit.int .u8 n).wf = true := fun i hi => by
      obtain ⟨g0, g1⟩ := hx i (by omega)
      obtain ⟨A, c1, l, hv, hlc, hC, hw1⟩ := bytes_open g1
      exact ⟨l, ⟨_, rfl, A, c1, by rw [hv], hlc, hC⟩, hw1⟩
    obtain ⟨E, hE⟩ := choose_lt each
    have hlen : ((List.range len).map E).length = len := by simp
    refine ⟨(List.range len).map E, hlen.symm, by rw [hlen]; exact hl, ⟨rfl, by rw [hlen]; unfold maxLen at hm; omega, fun _ => ⟨ad, rfl, fun j p hp => ?_⟩⟩, fun x hx2 => ?_⟩
    · have hj : j < len := by have := (List.getElem?_eq_some_iff.1 hp).1; omega
      obtain rfl : E j = p := by simpa [List.getElem?_map, hj] using hp
      obtain ⟨⟨_, _, hK⟩, _⟩ := hE j hj
      refine ⟨[V j], rfl, hK, fun i u hu => ?_⟩
      match i, hu with
      | 0, hu =>
        obtain rfl := (Option.some.inj hu).symm
        have := (hx j (by omega)).1
        show W.cell? (ad.add (j * 1 + 0)) = _
        simpa using this
    · obtain ⟨i, hi, rfl⟩ := List.mem_map.1 hx2
      exact (hE i (List.mem_range.1 hi)).2
end Go.Proofs.Ytmdmllfbdpoeeaa
