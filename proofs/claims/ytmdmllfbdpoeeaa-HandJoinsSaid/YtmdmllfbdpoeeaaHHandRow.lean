/- A row of structs of an int and a row of bytes that comes in, opened: what it holds, and that the ints are an int's numbers; no condition. -/
import Derived.Test.YtmdmllfbdpoeeaaHKinds
import Derived.Deep.SlicePairs
import Derived.ChangeArms
import Derived.ChangeSlices
namespace Go.Proofs.Ytmdmllfbdpoeeaa
open Go Go.RowKit Go.ChangeShapes Go.WideShapes Go.Deep Go.Proofs.YtmdmllfbdpoeeaaW.PrintWords Go.Proofs.YtmdmllfbdpoeeaaW.PrintLast Go.Proofs.YtmdmllfbdpoeeaaW.PrintMore
set_option maxRecDepth 100000

theorem nums_open {H : Type} {enc : TypeId × Value → H} {W : World} {t e : TypeId} {kd : IntKind} (ht : Try.prog.underlying t = some (.slice e)) (he : Try.prog.underlying e = some (.int kd)) (hce : Try.prog.cellsOf e = 1) {fuel : Nat} {v : Value} {x : DataW H × List MemPlace} (h : DataW.trod enc Try.prog W 0 (fun _ => true) true fuel t [v] = some x) :
    ∃ (A : Option Addr) (c : Nat) (l : List Int), v = .slice A l.length c ∧ l.length ≤ c ∧ (Kd.int kd).C W A l.length l ∧ ∀ n ∈ l, (Lit.int kd n).wf = true := by
  rcases open_ints ht he hce h with ⟨hcs, _⟩ | ⟨a, n, c, zs, hcs, _, hl, hm, hz, _, hcell, hw⟩
  · obtain rfl : v = .slice none 0 0 := (List.cons.inj hcs).1
    exact ⟨none, 0, [], rfl, Nat.le_refl _, ⟨rfl, by decide, fun h => absurd h (by decide)⟩, fun _ h => by cases h⟩
  · obtain rfl : v = .slice (some a) n c := (List.cons.inj hcs).1
    simp only [if_true] at hz
    have hlen : (zs.take n).length = n := by rw [List.length_take]; omega
    refine ⟨some a, c, zs.take n, by rw [hlen], by omega, ⟨rfl, by rw [hlen]; unfold maxLen at hm; omega, fun _ => ⟨a, rfl, fun j p hp => ⟨[.int kd p], rfl, rfl, fun i u hu => ?_⟩⟩⟩, fun m hm2 => hw m (List.mem_of_mem_take hm2)⟩
    have hj : j < n := by have := (List.getElem?_eq_some_iff.1 hp).1; omega
    match i, hu with
    | 0, hu =>
      obtain rfl := (Option.some.inj hu).symm
      have h1 := hcell j (by omega)
      have h2 : zs.getD j 0 = p := by
        rw [List.getElem?_take_of_lt hj] at hp
        simp [List.getD, hp]
      rw [h2] at h1
      show W.cell? (a.add (j * 1 + 0)) = _
      simpa using h1
theorem bytes_open {H : Type} {enc : TypeId × Value → H} {W : World} {fuel : Nat} {v : Value} {x : DataW H × List MemPlace} (h : DataW.trod enc Try.prog W 0 (fun _ => true) true fuel 22 [v] = some x) :
    ∃ (A : Option Addr) (c : Nat) (l : List Int), v = .slice A l.length c ∧ l.length ≤ c ∧ (Kd.int .u8).C W A l.length l ∧ ∀ n ∈ l, (Lit.int .u8 n).wf = true := nums_open Try.underlying22 Try.underlying5 (by kernel_rfl) h
theorem bytesrow_open {H : Type} {enc : TypeId × Value → H} {W : World} {a : Option Addr} {len cap : Nat} {d : DataW H} {p : List MemPlace} (h : DataW.Trod enc Try.prog W 0 (fun _ => true) true 22 (.slice a len cap) d p) :
    ∃ l : List Int, len = l.length ∧ l.length ≤ cap ∧ (Kd.int .u8).C W a l.length l ∧ ∀ n ∈ l, (Lit.int .u8 n).wf = true := by
  obtain ⟨fuel, hf⟩ := h
  obtain ⟨A, c, l, hv, hl, hC, hw⟩ := bytes_open hf
  injection hv with e1 e2 e3
  subst e1; subst e2; subst e3
  exact ⟨l, rfl, hl, hC, hw⟩
theorem ints_open {H : Type} {enc : TypeId × Value → H} {W : World} {a : Option Addr} {len cap : Nat} {d : DataW H} {p : List MemPlace} (h : DataW.Trod enc Try.prog W 0 (fun _ => true) true 23 (.slice a len cap) d p) :
    ∃ l : List Int, len = l.length ∧ l.length ≤ cap ∧ (Kd.int .i64).C W a l.length l ∧ ∀ n ∈ l, (Lit.int .i64 n).wf = true := by
  obtain ⟨fuel, hf⟩ := h
  obtain ⟨A, c, l, hv, hl, hC, hw⟩ := nums_open Try.underlying23 Try.underlying3 (by kernel_rfl) hf
  injection hv with e1 e2 e3
  subst e1; subst e2; subst e3
  exact ⟨l, rfl, hl, hC, hw⟩
theorem pairs_open {H : Type} {enc : TypeId × Value → H} {W : World} {a : Option Addr} {len cap : Nat} {d : DataW H} {p : List MemPlace} (h : DataW.Trod enc Try.prog W 0 (fun _ => true) true 43 (.slice a len cap) d p) :
    ∃ l : List S46, len = l.length ∧ l.length ≤ cap ∧ Kd.C k46 W a l.length l ∧ (∀ x ∈ l, (Lit.int .i64 x.f0).wf = true ∧ ∀ n ∈ x.f1, (Lit.int .u8 n).wf = true) := by
  obtain ⟨fuel, hf⟩ := h
  rcases open_slice_pairs Try.underlying43 Try.underlying46 (by kernel_rfl) rfl rfl (by kernel_rfl) (by kernel_rfl) hf with ⟨hcs, _⟩ | ⟨ad, n, c, m, k, V0, V1, D0, D1, P0, P1, hcs, _, hl, hm, hmm, _, hx⟩
  · simp [Value.cells] at hcs
    obtain ⟨rfl, rfl, rfl⟩ := hcs
    exact ⟨[], rfl, Nat.le_refl _, ⟨rfl, by decide, fun h => absurd h (by decide)⟩, fun _ h => by cases h⟩
  · simp [Value.cells] at hcs
    obtain ⟨rfl, rfl, rfl⟩ := hcs
    simp only [if_true] at hmm
    subst hmm
    have each : ∀ i, i < len → ∃ e : S46, (∃ v1, V1 i = v1 ∧ k46.K W e [V0 i, V1 i]) ∧ (Lit.int .i64 e.f0).wf = true ∧ ∀ n ∈ e.f1, (Lit.int .u8 n).wf = true := fun i hi => by
      obtain ⟨_, _, g0, g1⟩ := hx i (by omega)
      obtain ⟨z, hz, _, hw⟩ := DataW.trod_int Try.underlying3 g0
      obtain ⟨A, c1, l, hv, hlc, hC, hw1⟩ := bytes_open g1
      have hz0 : V0 i = .int .i64 z := (List.cons.inj hz).1
      refine ⟨⟨z, l⟩, ⟨_, rfl, ?_⟩, hw, hw1⟩
      rw [hz0, hv]
      exact k46_mk W ⟨z, l⟩ hlc hC
    haveI : Inhabited S46 := ⟨z46⟩
    obtain ⟨E, hE⟩ := choose_lt each
    have hlen : ((List.range len).map E).length = len := by simp
    refine ⟨(List.range len).map E, hlen.symm, by rw [hlen]; exact hl, ⟨rfl, by rw [hlen]; unfold maxLen at hm; omega, fun _ => ⟨ad, rfl, fun j p hp => ?_⟩⟩, fun x hx2 => ?_⟩
    · have hj : j < len := by have := (List.getElem?_eq_some_iff.1 hp).1; omega
      obtain rfl : E j = p := by simpa [List.getElem?_map, hj] using hp
      obtain ⟨⟨_, _, hK⟩, _⟩ := hE j hj
      refine ⟨[V0 j, V1 j], rfl, hK, fun i u hu => ?_⟩
      match i, hu with
      | 0, hu => obtain rfl := (Option.some.inj hu).symm; exact (hx j (by omega)).1
      | 1, hu => obtain rfl := (Option.some.inj hu).symm; exact (hx j (by omega)).2.1
    · obtain ⟨i, hi, rfl⟩ := List.mem_map.1 hx2
      exact (hE i (List.mem_range.1 hi)).2
end Go.Proofs.Ytmdmllfbdpoeeaa
