/- The exported functions of package shape that return forms, in the form of the print's contracts; the numbers are ints. -/
import Derived.Test.YtpndiobbogelpaaHOwn
namespace Go.Proofs.Ytpndiobbogelpaa
open Go Go.RowKit Go.Maps Go.Proofs.Hand Go.Proofs.YtpndiobbogelpaaW.PrintWords Go.Proofs.YtpndiobbogelpaaW.PrintLast Go.Proofs.YtpndiobbogelpaaW.PrintMore
set_option maxRecDepth 100000

def zForm : Form := ⟨0, 0, 0, 0, 0, []⟩
theorem zeroForm (w : World) : (zeroValue 53).run Try.prog w = .ok (.agg #[(.int .i64 0), (.int .i64 0), (.int .i64 0), (.int .i64 0), (.int .i64 0), (.slice none 0 0)]) w := by kernel_rfl
/-- A look into the map: the form, or the zero one, and whether it is there. -/
theorem TabAt.looks {Y : Keys} {W : World} {ms : List (Nat × Nat)} {m n : Nat} {T : Y.κ → Option Form} (h : TabAt Y W ms m n T) {x : Y.κ} (hx : Y.ok x) :
    ∃ cs : List Value, (Instr.lookup Y.mt (.map (some m)) (Y.enc x) true).run Try.prog W = .ok (.tuple #[.agg cs.toArray, .bool (T x).isSome]) W ∧ Kd.FK kForm W (fun k => ¬ inM ms k) ((T x).getD zForm) cs := by
  obtain ⟨M, hM, hT⟩ := h
  have hl := hM.look_ok Y.law Y.und (zeroForm W) (Y.key x hx)
  have hx' := hT x hx
  cases hTx : T x with
  | none =>
    rw [hTx] at hx'
    simp only at hx'
    rw [hx'] at hl
    exact ⟨[(.int .i64 0), (.int .i64 0), (.int .i64 0), (.int .i64 0), (.int .i64 0), (.slice none 0 0)], hl, form_mk 0 0 0 0 0 (Kd.N_nil kForm 53 W 0 _)⟩
  | some f =>
    rw [hTx] at hx'
    obtain ⟨v, h1, cs, rfl, h2⟩ := hx'
    rw [h1] at hl
    exact ⟨cs, hl, h2⟩
def shortN : Nat → Form → Bool
  | 0, _ => false
  | n + 1, f => Nat.ble f.f5.length 1000 && f.f5.all (shortN n)
theorem short_of : ∀ (n : Nat) (f : Form), shortN n f = true → Short f
  | 0, _, h => by cases h
  | n + 1, f, h => by
    simp only [shortN, Bool.and_eq_true] at h
    exact ⟨f, Nat.le_of_ble_eq_true h.1, fun g hg => short_of n g (List.all_eq_true.1 h.2 g hg)⟩
theorem look_mem (Y : Keys) : ∀ (l : List (Y.κ × Form)) (z : Y.κ) (f : Form), look Y l z = some f → ∃ x ∈ l, x.2 = f
  | [], _, _, h => by cases h
  | x :: l, z, f, h => by
    simp only [look] at h
    split at h
    · exact ⟨x, List.mem_cons_self, Option.some.inj h⟩
    · obtain ⟨y, hy, e⟩ := look_mem Y l z f h
      exact ⟨y, List.mem_cons_of_mem _ hy, e⟩
theorem look_some_iff (Y : Keys) : ∀ (l : List (Y.κ × Form)) (z : Y.κ), (look Y l z).isSome = true ↔ z ∈ l.map (·.1)
  | [], z => by simp [look]
  | x :: l, z => by
    have ih := look_some_iff Y l z
    have e : (Y.deq z x.1).decide = true ↔ z = x.1 := by
      cases Y.deq z x.1 <;> simp_all
    simp only [look, List.map_cons, List.mem_cons]
    by_cases h : z = x.1
    · simp [h]
    · simp [h, ih]
theorem look_short (Y : Keys) {l : List (Y.κ × Form)} (hl : (l.all fun x => shortN 9 x.2) = true) (z : Y.κ) : Short ((look Y l z).getD zForm) := by
  cases h : look Y l z with
  | none => exact short_of 1 zForm rfl
  | some f =>
    obtain ⟨x, hx, rfl⟩ := look_mem Y l z f h
    exact short_of 9 _ (List.all_eq_true.1 hl x hx)
theorem extShort : (extTab.all fun x => shortN 9 x.2) = true := by decide +kernel

def tell (o : Option Form) : Int × Int × Int × Int × Int × List Form × Bool := ((o.getD zForm).f0, (o.getD zForm).f1, (o.getD zForm).f2, (o.getD zForm).f3, (o.getD zForm).f4, (o.getD zForm).f5, o.isSome)
end Go.Proofs.Ytpndiobbogelpaa
