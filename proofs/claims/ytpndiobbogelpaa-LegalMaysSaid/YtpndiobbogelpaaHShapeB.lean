/- The Go function shape.messages makes the map that a list of forms tells, in whatever world; no condition. -/
import Derived.Test.YtpndiobbogelpaaHSpot
namespace Go.Proofs.Ytpndiobbogelpaa
open Go Go.RowKit Go.Maps Go.Proofs.Hand Go.Proofs.YtpndiobbogelpaaW.PrintWords Go.Proofs.YtpndiobbogelpaaW.PrintLast Go.Proofs.YtpndiobbogelpaaW.PrintMore
set_option maxRecDepth 100000

def longsForm (a : Int) (f : Form) : Form := ⟨2, 2, a, 65535, 1, [f]⟩
theorem longs_ok (a : Int) (f : Form) (p : Value) {W : World} {ms : List (Nat × Nat)} (hms : ∀ t k, (t, k) ∈ ms → k < W.heap.size) (hp : BoxIn W ms p f) :
    Calls Try.prog 43 #[.int .i64 a, p] W fun e W' => ∃ v, e = .returned v ∧ Below W.heap.size W W' ∧ ∀ t, Sat W' ms t v (.form (longsForm a f)) :=
  form_fn (tabLay keysSpot) mixed (d := 3) (args := [.int .i64 a, p]) (svs := [.int a, .box f]) Try.func43 rfl rfl (by decide) (by decide) (by kernel_rfl) hms ⟨rfl, hp, trivial⟩ rfl rfl (Nat.le_of_ble_eq_true rfl)

def nF (n : Int) : Form := ⟨0, n, 0, 0, 0, []⟩
def oF (s lo hi : Int) : Form := ⟨1, s, lo, hi, 1, []⟩
def lF (s lo hi step : Int) (f : Form) : Form := ⟨2, s, lo, hi, step, [f]⟩
def rF (l : List Form) : Form := ⟨3, 0, 0, 0, 0, l⟩
def restF (lo hi : Int) : Form := ⟨4, 0, lo, hi, 0, []⟩
def codesF2 : Form := lF 2 2 65534 2 (nF 2)
end Go.Proofs.Ytpndiobbogelpaa
