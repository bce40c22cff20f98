/- When legal.Check finds nothing wrong, told without the order of all but the last; no condition beyond the lemmas' own. -/
import Derived.Test.YtpndiobbogelpaaHChkLaws
namespace Go.Proofs.Ytpndiobbogelpaa
open Go Go.RowKit
set_option maxRecDepth 100000

def good (p : Int) (x : S38) : Bool := !(decide (x.f0 < 0) || decide (65535 < x.f0) || decide (65535 < (x.f1.length : Int))) && mayB p x.f0
theorem chk_iff (p : Int) : ∀ (l : List S38) (seen : List Int) (i : Nat), (chk p seen i l).2 = 0 ↔ (∀ x ∈ l, good p x = true ∧ seen.contains x.f0 = false) ∧ (l.map (·.f0)).Nodup ∧ (p = 1 → ∀ x ∈ l.dropLast, x.f0 ≠ 41)
  | [], seen, i => by simp [chk]
  | x :: r, seen, i => by
    rw [chk_cons, chk_iff p r (x.f0 :: seen) (i + 1)]
    have hg : good p x = true ↔ (decide (x.f0 < 0) || decide (65535 < x.f0) || decide (65535 < (x.f1.length : Int))) = false ∧ mayB p x.f0 = true := by
      unfold good
      rw [Bool.and_eq_true, Bool.not_eq_true']
    have hc : ∀ z, (x.f0 :: seen).contains z = false ↔ z ≠ x.f0 ∧ seen.contains z = false := by
      intro z
      rw [List.contains_cons, Bool.or_eq_false_iff]
      simp
    constructor
    · rintro ⟨⟨h0, h1, h2, h3⟩, h4, h5, h6⟩
      refine ⟨fun y hy => ?_, ?_, fun hp y hy => ?_⟩
      · rcases List.mem_cons.1 hy with rfl | hy
        · exact ⟨hg.2 ⟨h0, h2⟩, h1⟩
        · exact ⟨(h4 y hy).1, ((hc _).1 (h4 y hy).2).2⟩
      · rw [List.map_cons, List.nodup_cons]
        refine ⟨fun hm => ?_, h5⟩
        obtain ⟨y, hy, e⟩ := List.mem_map.1 hm
        exact ((hc _).1 (h4 y hy).2).1 e
      · cases r with
        | nil => cases hy
        | cons z r =>
          rw [List.dropLast_cons_of_ne_nil (by simp)] at hy
          rcases List.mem_cons.1 hy with rfl | hy
          · exact fun e => h3 ⟨e, hp, by simp⟩
          · exact h6 hp y hy
    · rintro ⟨h1, h2, h3⟩
      rw [List.map_cons, List.nodup_cons] at h2
      obtain ⟨hx, hs⟩ := h1 x List.mem_cons_self
      refine ⟨⟨(hg.1 hx).1, hs, (hg.1 hx).2, fun hb => ?_⟩, fun y hy => ?_, h2.2, fun hp y hy => ?_⟩
      · refine h3 hb.2.1 x ?_ hb.1
        rw [List.dropLast_cons_of_ne_nil hb.2.2]
        exact List.mem_cons_self
      · refine ⟨(h1 y (List.mem_cons_of_mem _ hy)).1, (hc _).2 ⟨fun e => h2.1 (List.mem_map.2 ⟨y, hy, e⟩), (h1 y (List.mem_cons_of_mem _ hy)).2⟩⟩
      · cases r with
        | nil => cases hy
        | cons z r =>
          refine h3 hp y ?_
          rw [List.dropLast_cons_of_ne_nil (by simp)]
          exact List.mem_cons_of_mem _ hy
/-- Any order of all but the last. -/
theorem chk_perm {p : Int} {I I' : List S38} {z : S38} (hp : I'.Perm I) (h : (chk p [] 0 (I ++ [z])).2 = 0) : (chk p [] 0 (I' ++ [z])).2 = 0 := by
  rw [chk_iff] at h ⊢
  obtain ⟨h1, h2, h3⟩ := h
  have hq : (I' ++ [z]).Perm (I ++ [z]) := hp.append_right [z]
  refine ⟨fun x hx => h1 x (hq.mem_iff.1 hx), (hq.map (·.f0)).nodup_iff.2 h2, fun e x hx => h3 e x ?_⟩
  rw [List.dropLast_concat] at hx ⊢
  exact hp.mem_iff.1 hx
theorem chkOk_perm {p : Int} {I I' : List S38} {z : S38} (hp : I'.Perm I) (h : chkOk p (I ++ [z]) = true) : chkOk p (I' ++ [z]) = true := by
  have hq : (I' ++ [z]).Perm (I ++ [z]) := hp.append_right [z]
  simp only [chkOk, Bool.and_eq_true] at h ⊢
  obtain ⟨⟨h1, h2⟩, h3⟩ := h
  refine ⟨⟨h1, by rw [hq.length_eq]; exact h2⟩, ?_⟩
  rw [List.all_eq_true] at h3 ⊢
  exact fun x hx => h3 x (hq.mem_iff.1 hx)
/-- Two of them turned. -/
theorem swap_perm (I : List S38) (i k : Nat) (hi : i < I.length) (hk : k < I.length) : ((I.set i I[k]).set k I[i]).Perm I := List.set_set_perm hi hk
theorem set_init (I : List S38) (z y : S38) (i : Nat) (hi : i < I.length) : (I ++ [z]).set i y = I.set i y ++ [z] := List.set_append_left i y hi
end Go.Proofs.Ytpndiobbogelpaa
