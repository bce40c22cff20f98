/- The Go functions shape.item and the two closures that make forms, and the keys of the map of messages; no condition beyond the lemmas' own. -/
import Derived.Test.YtpndiobbogelpaaHSymFn
import Derived.Maps.RangeWalk
namespace Go.Proofs.Ytpndiobbogelpaa
open Go Go.RowKit Go.Maps Go.Proofs.Hand Go.Proofs.YtpndiobbogelpaaW.PrintWords Go.Proofs.YtpndiobbogelpaaW.PrintLast Go.Proofs.YtpndiobbogelpaaW.PrintMore
set_option maxRecDepth 100000

theorem mixed : Try.prog.follows .mixedOrders = true := by kernel_rfl
/-- Calls of package layout's alone. -/
def tabLay (Y : Keys) : CallTab Y where
  abs := layAbs
  clo := fun _ _ _ => none
  isPut := fun _ => false
  puts := fun _ _ => none
  abs_in := lay_in
  clo_in := fun _ _ _ _ h => by cases h
  puts_in := fun _ _ _ h => by cases h
  abs_ok := lay_ok
  clo_ok := fun _ _ _ _ _ _ _ _ h => by cases h
  puts_ok := fun _ _ _ _ _ _ _ _ h => by cases h
end Go.Proofs.Ytpndiobbogelpaa
