/- The Go function shape.messages makes the map that a list of forms tells, in whatever world; no condition. -/
import Derived.Test.YtjlpgndcomligaaHShapeA
namespace Go.Proofs.Ytjlpgndcomligaa
open Go Go.RowKit Go.Maps Go.Proofs.Hand Go.Proofs.YtjlpgndcomligaaW.PrintWords Go.Proofs.YtjlpgndcomligaaW.PrintLast Go.Proofs.YtjlpgndcomligaaW.PrintMore

def itemAbs (g : Nat) (svs : List SV) : Option SV := if g = 34 then (match svs with | [] => some (.form itemForm) | _ => none) else layAbs g svs
def tabItem (Y : Keys) : CallTab Y where
  abs := itemAbs
  clo := fun _ _ _ => none
  isPut := fun _ => false
  puts := fun _ _ => none
  abs_in := fun g svs r h => by
    unfold itemAbs at h
    split at h
    · rename_i e; subst e; exact enters_of Try.func34 (by kernel_rfl) rfl
    · exact lay_in g svs r h
  clo_in := fun _ _ _ _ h => by cases h
  puts_in := fun _ _ _ h => by cases h
  abs_ok := fun g svs r args W ms h hs hms => by
    unfold itemAbs at h
    split at h
    · rename_i e; subst e
      split at h
      case h_2 => cases h
      obtain rfl := (Option.some.inj h).symm
      cases args with
      | nil => exact item_ok hms
      | cons v vs => exact hs.elim
    · exact lay_ok g svs r args W ms h hs hms
  clo_ok := fun _ _ _ _ _ _ _ _ h => by cases h
  puts_ok := fun _ _ _ _ _ _ _ _ h => by cases h
def extsForm (a b : Int) : Form := ⟨2, 2, a, b, 1, [itemForm]⟩
theorem exts_ok (a b : Int) {W : World} {ms : List (Nat × Nat)} (hms : ∀ t k, (t, k) ∈ ms → k < W.heap.size) :
    Calls Try.prog 53 #[.int .i64 a, .int .i64 b] W fun e W' => ∃ v, e = .returned v ∧ Below W.heap.size W W' ∧ ∀ t, Sat W' ms t v (.form (extsForm a b)) :=
  form_fn (tabItem keysInt) mixed (d := 4) (args := [.int .i64 a, .int .i64 b]) (svs := [.int a, .int b]) Try.func53 rfl rfl (by decide) (by decide) (by kernel_rfl) hms ⟨rfl, rfl, trivial⟩ rfl rfl (Nat.le_of_ble_eq_true rfl)
def longsForm (a : Int) (f : Form) : Form := ⟨2, 2, a, 65535, 1, [f]⟩
theorem longs_ok (a : Int) (f : Form) (p : Value) {W : World} {ms : List (Nat × Nat)} (hms : ∀ t k, (t, k) ∈ ms → k < W.heap.size) (hp : BoxIn W ms p f) :
    Calls Try.prog 44 #[.int .i64 a, p] W fun e W' => ∃ v, e = .returned v ∧ Below W.heap.size W W' ∧ ∀ t, Sat W' ms t v (.form (longsForm a f)) :=
  form_fn (tabLay keysInt) mixed (d := 3) (args := [.int .i64 a, p]) (svs := [.int a, .box f]) Try.func44 rfl rfl (by decide) (by decide) (by kernel_rfl) hms ⟨rfl, hp, trivial⟩ rfl rfl (Nat.le_of_ble_eq_true rfl)

def msgAbs (g : Nat) (svs : List SV) : Option SV := if g = 53 then (match svs with | [.int a, .int b] => some (.form (extsForm a b)) | _ => none) else layAbs g svs
def tabMsg (Y : Keys) : CallTab Y where
  abs := msgAbs
  clo := fun _ _ _ => none
  isPut := fun _ => false
  puts := fun _ _ => none
  abs_in := fun g svs r h => by
    unfold msgAbs at h
    split at h
    · rename_i e; subst e; exact enters_of Try.func53 (by kernel_rfl) rfl
    · exact lay_in g svs r h
  clo_in := fun _ _ _ _ h => by cases h
  puts_in := fun _ _ _ h => by cases h
  abs_ok := fun g svs r args W ms h hs hms => by
    unfold msgAbs at h
    split at h
    · rename_i e; subst e
      split at h
      case h_2 => cases h
      obtain rfl := (Option.some.inj h).symm
      obtain ⟨v, v2, rfl, e1, e2⟩ := sats2 hs
      obtain rfl : v = _ := e1
      obtain rfl : v2 = _ := e2
      exact exts_ok _ _ hms
    · exact lay_ok g svs r args W ms h hs hms
  clo_ok := fun _ _ _ _ _ _ _ _ h => by cases h
  puts_ok := fun _ _ _ _ _ _ _ _ h => by cases h
def nF (n : Int) : Form := ⟨0, n, 0, 0, 0, []⟩
def oF (s lo hi : Int) : Form := ⟨1, s, lo, hi, 1, []⟩
def lF (s lo hi step : Int) (f : Form) : Form := ⟨2, s, lo, hi, step, [f]⟩
def rF (l : List Form) : Form := ⟨3, 0, 0, 0, 0, l⟩
def fixF (n : Int) : Form := ⟨5, 0, n, 0, 0, []⟩
def restF (lo hi : Int) : Form := ⟨4, 0, lo, hi, 0, []⟩
def codesF2 : Form := lF 2 2 65534 2 (nF 2)
/-- The messages' forms, the last one first. -/
def msgTab : List (Int × Form) :=
  [(24, nF 1), (20, restF 1 255), (15, rF [nF 2, oF 2 0 65535]), (13, rF [oF 1 0 255, extsForm 2 65535]),
   (11, rF [oF 1 0 255, lF 3 0 16777215 1 (rF [oF 3 1 16777215, extsForm 0 65535])]), (8, rF [extsForm 0 65535]), (5, rF []),
   (4, rF [nF 4, nF 4, oF 1 0 255, oF 2 1 65535, extsForm 0 65534]),
   (2, rF [nF 2, fixF 32, oF 1 0 32, nF 2, nF 1, extsForm 6 65535]),
   (1, rF [nF 2, fixF 32, oF 1 0 32, codesF2, oF 1 1 255, extsForm 8 65535])]
theorem messages_ok (W : World) : Calls Try.prog 32 #[] W fun e W' => ∃ m ms, e = .returned (.map (some m)) ∧ Below W.heap.size W W' ∧ TabAt keysInt W' ms m msgTab.length (look keysInt msgTab) ∧ m < W'.heap.size ∧ W.heap.size ≤ m :=
  tab_fn (Y := keysInt) (tabMsg keysInt) mixed (d := 0) (T := msgTab) Try.func32 rfl rfl (by decide) (by decide) (by kernel_rfl) W
end Go.Proofs.Ytjlpgndcomligaa
