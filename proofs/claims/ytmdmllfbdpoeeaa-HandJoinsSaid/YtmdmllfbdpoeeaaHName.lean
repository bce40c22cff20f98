/- The Go functions codes.Name and codes.Code return what the tables tell, for every kind; the code is an int's number, the name's length is one that a string may have. -/
import Derived.Test.YtmdmllfbdpoeeaaHOf
namespace Go.Proofs.Ytmdmllfbdpoeeaa
open Go.RowKit Go.Maps Go.Proofs.Hand Go.Sort Go.Shelf
set_option maxRecDepth 100000

def codes_Name.f (a0 a1 : Int) : Option (ByteArray × Bool) := if (Lit.int .i64 a1).wf = true then some ((nameIn (tab a0) a1).getD ⟨#[]⟩, (nameIn (tab a0) a1).isSome) else none
def codes_Code.f (a0 : Int) (a1 : ByteArray) : Option (Int × Bool) := if a1.size ≤ maxLen then some ((codeIn (tab a0) a1.data.toList).getD 0, (codeIn (tab a0) a1.data.toList).isSome) else none
theorem zero9 (w : World) : (zeroValue 9).run Try.prog w = .ok (.string ⟨#[]⟩) w := by kernel_rfl
theorem zero3 (w : World) : (zeroValue 3).run Try.prog w = .ok (.int .i64 0) w := by kernel_rfl
theorem names_get (l : List (Int × ByteArray)) (c : Int) : ((namesM l (.int .i64 c)).getD (.string ⟨#[]⟩)) = .string ((nameIn l c).getD ⟨#[]⟩) ∧ (namesM l (.int .i64 c)).isSome = (nameIn l c).isSome := by
  cases h : nameIn l c <;> simp [namesM, h]
theorem codes_get (l : List (Int × ByteArray)) (s : List UInt8) : ((codesF l (.string s)).getD (.int .i64 0)) = .int .i64 ((codeIn l s).getD 0) ∧ (codesF l (.string s)).isSome = (codeIn l s).isSome := by
  cases h : codeIn l s <;> simp [codesF, h]

theorem fld0 (x y z : Value) (w : World) : (Instr.field 76 (.agg #[x, y, z]) 0).run Try.prog w = .ok x w := by kernel_rfl
theorem fld1 (x y z : Value) (w : World) : (Instr.field 76 (.agg #[x, y, z]) 1).run Try.prog w = .ok y w := by kernel_rfl
/-- 'of' at a kind that there is. -/
theorem of_known (k : Int) (h : k = 0 ∨ k = 1 ∨ k = 2) (w : World) : Calls Try.prog 31 #[.int .i64 k] w (OfPost (tab k) w) := by
  rcases h with rfl | rfl | rfl
  · exact of_0 w
  · exact of_1 w
  · exact of_2 w
theorem tab_other {k : Int} (h : ¬(k = 0 ∨ k = 1 ∨ k = 2)) : tab k = [] := by
  unfold tab
  rw [if_neg (fun e => h (.inl e)), if_neg (fun e => h (.inr (.inl e))), if_neg (fun e => h (.inr (.inr e)))]

set_option maxHeartbeats 1000000 in
theorem codes_Name.calls (a0 a1 : Int) (r1 : ByteArray) (r2 : Bool) (w : World) (h : codes_Name.f a0 a1 = some (r1, r2)) :
    Calls Try.prog 29 #[.int .i64 a0, .int .i64 a1] w fun e w' => e = .returned (.tuple #[.string r1, .bool r2]) ∧ Below w.heap.size w w' := by
  unfold codes_Name.f at h
  split at h
  case isFalse => cases h
  rename_i hw
  obtain ⟨rfl, rfl⟩ := Prod.mk.inj (Option.some.inj h)
  clear h
  by_cases hk : a0 = 0 ∨ a0 = 1 ∨ a0 = 2
  · have hof := of_known a0 hk
    clear hk
    have hg := names_get (tab a0) a1
    generalize tab a0 = l at hof hg ⊢
    have hf0 := fld0
    go_enter Try.func29, Try.ntmps29
    go_wp2_with (go_at_call 31; refine (hof _).mono ?_; rintro e w1 ⟨bn, bc, sl, rfl, hN, hC, hrow, hb, _⟩; have hlk := hN.look_ok law3 Try.underlying73 (zero9 w1) (keyOf_int_mk Try.underlying3 hw); rw [hg.1, hg.2] at hlk; clear hN hC hrow)
    go_ret2
    exact ⟨rfl, hb⟩
  · have e := tab_other hk
    have h0 : (a0 == 0) = false := by simpa using fun h => hk (.inl h)
    have h1 : (a0 == 1) = false := by simpa using fun h => hk (.inr (.inl h))
    have h2 : (a0 == 2) = false := by simpa using fun h => hk (.inr (.inr h))
    rw [e]
    clear hk e
    have hof := of_other a0 h0 h1 h2
    clear h0 h1 h2
    have hf0 := fld0
    go_enter Try.func29, Try.ntmps29
    go_wp2_with (go_at_call 31; refine (hof _).mono ?_; rintro e w1 ⟨rfl, hb⟩; have hlk := Maps.look_nil (P := Try.prog) true law3 Try.underlying73 (zero9 w1) (keyOf_int_mk Try.underlying3 hw); simp only [if_true] at hlk)
    go_ret2
    exact ⟨rfl, hb⟩

end Go.Proofs.Ytmdmllfbdpoeeaa
