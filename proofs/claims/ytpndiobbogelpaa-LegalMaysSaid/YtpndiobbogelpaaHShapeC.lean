/- The Go function shape.extensions makes the map that a list of rows of forms, types and places tells, in whatever world; no condition. -/
import Derived.Test.YtpndiobbogelpaaHPut
namespace Go.Proofs.Ytpndiobbogelpaa
open Go Go.RowKit Go.Maps Go.Proofs.Hand Go.Proofs.YtpndiobbogelpaaW.PrintWords Go.Proofs.YtpndiobbogelpaaW.PrintLast Go.Proofs.YtpndiobbogelpaaW.PrintMore
set_option maxRecDepth 100000

def longClo (g : Nat) (f : Form) (svs : List SV) : Option SV := if g = 43 then (match svs with | [.int a] => some (.form (longsForm a f)) | _ => none) else none
def tabExt : CallTab keysSpot where
  abs := layAbs
  clo := longClo
  isPut := fun g => g == 44
  puts := putAbs
  abs_in := lay_in
  clo_in := fun g f svs r h => by
    unfold longClo at h
    split at h
    · rename_i e; subst e; exact enters_of Try.func43 (by kernel_rfl) rfl
    · cases h
  puts_in := put_in
  abs_ok := lay_ok
  clo_ok := fun g f svs r args p W ms h hs hp hms => by
    unfold longClo at h
    split at h
    case isFalse => cases h
    rename_i e; subst e
    split at h
    case h_2 => cases h
    obtain rfl := (Option.some.inj h).symm
    obtain ⟨v, rfl, e1⟩ := sats1 hs
    obtain rfl : v = _ := e1
    exact longs_ok _ _ p hms hp
  puts_ok := fun g svs l args W ms m l0 h hs hms hu hm hT hfew => put_ok g svs l args W ms m l0 h hs hms hu hm hT hfew
def longF : Form := oF 2 1 65535
def groupsF : Form := lF 2 2 65535 2 (nF 2)
def shareF : Form := rF [nF 2, longF]
/-- The extensions' forms, with the types and the places that have them, as the text lays them. -/
def extRows : List (Form × List Int × List Int) :=
  [(lF 2 1 65535 1 (rF [nF 1, longF]), [0], [1]), (rF [], [0], [8]), (nF 1, [1, 15], [1, 8]), (rF [nF 1, longsForm 0 longF, oF 2 0 65535], [5], [1]), (rF [], [5], [13]),
   (rF [nF 1, oF 3 1 16777215], [5], [11]), (groupsF, [10], [1, 8]), (codesF2, [13, 50], [1, 13]), (rF [groupsF, oF 1 0 255], [14], [1, 8]), (lF 2 2 65535 1 (oF 1 1 255), [16], [1, 8]),
   (rF [], [18], [1, 13]), (longsForm 1 longF, [18], [11]), (lF 1 1 255 1 (nF 1), [19, 20, 45], [1]), (nF 1, [19, 20], [8]), (restF 0 65535, [21], [1]),
   (rF [lF 2 7 65535 1 (rF [longF, nF 4]), lF 2 33 65535 1 (oF 1 32 255)], [41], [1]), (nF 2, [41, 43], [2]), (rF [], [42], [1, 8]), (nF 4, [42], [4]), (lF 1 2 254 2 (nF 2), [43], [1]),
   (nF 2, [43, 51], [6]), (longF, [44], [1, 6]), (longsForm 3 longF, [47], [1, 13]), (lF 2 0 65535 1 (rF [oF 1 1 255, oF 2 0 65535]), [48], [13]), (rF [], [49], [1]), (lF 2 0 65535 1 shareF, [51], [1]), (shareF, [51], [2])]
def extTab : List ((Int × Int) × Form) := extRows.foldl (fun T e => putEnts e.2.1 e.2.2 e.1 ++ T) []
theorem extensions_ok (W : World) : Calls Try.prog 27 #[] W fun e W' => ∃ m ms, e = .returned (.map (some m)) ∧ Below W.heap.size W W' ∧ TabAt keysSpot W' ms m extTab.length (look keysSpot extTab) ∧ m < W'.heap.size ∧ W.heap.size ≤ m :=
  tab_fn (Y := keysSpot) tabExt mixed (d := 0) (T := extTab) Try.func27 rfl rfl (by decide) (by decide) (by kernel_rfl) W
end Go.Proofs.Ytpndiobbogelpaa
