-- Printed by a program of this session (wip/gen) out of the translation; contracts by hand stand in other texts.
import Derived.Test.YtbfdbleancempaaProg
import Derived.Below
import Derived.Deep.Draws
import Derived.Deep.AppendLies
import Derived.Maps.AppendAt
import Derived.OwnWalk
import Derived.Laws.BytesArg
import Derived.Laws.MakeOwn
import Derived.Laws.OwnMore
import Derived.Deep.OwnRows
import Derived.Tactics
import Derived.Lib.ConvBytes
import Derived.Laws.Slices
import Derived.WalkKit
import Derived.KernelRfl
import Derived.RowKit3
import Derived.Deep.LoopGhost
import Derived.Deep.QuietTactic
import Derived.BigQuiet
import Derived.WideLaws
import Derived.Deep.DeepCutAuto
import Derived.Deep.CutBlock
import Derived.Deep.RegionHeld3
import Derived.Laws.Rows
import Derived.Lib.AppendStr
import Derived.ArgAppend
import Derived.Laws.IdiomCopy
import Derived.OrdersHeld
import Derived.Laws.BitsLemmas
import Derived.RowKit
import Derived.Test.YtbfdbleancempaaHName
import Derived.Test.YtbfdbleancempaaWWords
import Derived.Test.YtbfdbleancempaaWLast
import Derived.Test.YtbfdbleancempaaWTab
import Derived.Test.YtbfdbleancempaaWFour
import Derived.Test.YtbfdbleancempaaWQPut
import Derived.Test.YtbfdbleancempaaWApart
import Derived.Test.YtbfdbleancempaaWArr
import Derived.Test.YtbfdbleancempaaWZeros
import Derived.Test.YtbfdbleancempaaWFoot
import Derived.Test.YtbfdbleancempaaWKept
import Derived.Test.YtbfdbleancempaaWShare
import Derived.Test.YtbfdbleancempaaWN
import Derived.Test.YtbfdbleancempaaWFootNe
import Derived.Test.YtbfdbleancempaaWAt
import Derived.Test.YtbfdbleancempaaWEqStruct
import Derived.Test.YtbfdbleancempaaWRepsOne
import Derived.Test.YtbfdbleancempaaWInv
import Derived.Test.YtbfdbleancempaaWInvWords
import Derived.Test.YtbfdbleancempaaWGuard
import Derived.Test.YtbfdbleancempaaWNEv
import Derived.Test.YtbfdbleancempaaWMore
namespace Go.Proofs.Ytbfdbleancempaa.PCodesAll
open Go.RowKit Go.Proofs.YtbfdbleancempaaW.PrintWords Go.Proofs.YtbfdbleancempaaW.PrintLast Go.Proofs.YtbfdbleancempaaW.PrintMore
attribute [local go_sem] max2_int min2_int max_two min_two max_three min_three max_four min_four   -- for this text's walks alone
set_option linter.unusedVariables false
set_option linter.unusedSimpArgs false



def errW : Option Int → Value
  | none => .nilIface
  | some c => .iface 0 (.int .i64 c)
theorem errW_none : errW none = .nilIface := rfl
theorem errW_some (c : Int) : errW (some c) = .iface 0 (.int .i64 c) := rfl

theorem info36 : (Try.prog.info? 36).map (fun i => (i.zero, i.size, i.bytes)) = some (some (.agg #[(.int .i64 0), (.string ⟨#[]⟩)]), 2, 24) := by kernel_rfl
-- the values' own types
/-! #### struct type 36 -/
structure S36 where
  f0 : Int
  f1 : ByteArray
def z36 : S36 := ⟨(0 : Int), (⟨#[]⟩ : ByteArray)⟩
def k36 : Kd S36 := Kd.iso (Kd.pair (Kd.int .i64) Kd.string) (fun x : S36 => (x.f0, x.f1))
theorem k36_open {w : World} {x : S36} {cs : List Value} (h : k36.K w x cs) : cs = [.int .i64 x.f0, .string x.f1] := by
  obtain ⟨_, _, rfl, rfl, rfl⟩ := h
  exact rfl
theorem k36_openM {w : World} {base : Nat} {ok : Nat → Prop} {x : S36} {cs : List Value} (h : k36.M w base ok x cs) : cs = [.int .i64 x.f0, .string x.f1] := by
  obtain ⟨_, _, rfl, rfl, rfl⟩ := h
  exact rfl
theorem k36_mk (w : World) (x : S36)  : k36.K w x [.int .i64 x.f0, .string x.f1] := ⟨[.int .i64 x.f0], [.string x.f1], rfl, rfl, rfl⟩
theorem k36_mkM (w : World) (base : Nat) (ok : Nat → Prop) (x : S36)  : k36.M w base ok x [.int .i64 x.f0, .string x.f1] := ⟨[.int .i64 x.f0], [.string x.f1], rfl, rfl, rfl⟩
def rd_T36 (xs : List S36) (i : Int) : S36 := xs.getD i.toNat z36
theorem at_T36 {w : World} {A : Option Addr} {n : Nat} {xs : List S36} (h : Kd.C k36 w A n xs) (i : Int) (h0 : 0 ≤ i) (h1 : i < n) : ∃ ad , A = some ad ∧ w.cell? (ad.add (i.toNat * 2)) = some (.int .i64 (rd_T36 xs i).f0) ∧ w.cell? ⟨(ad.add (i.toNat * 2)).block, (ad.add (i.toNat * 2)).off + 1, none⟩ = some (.string (rd_T36 xs i).f1) := by
  obtain ⟨ad, c, e, _, hK, hc0⟩ := Kd.C_get h z36 i h0 h1
  have hc : ∀ j u, c[j]? = some u → w.cell? (ad.add (i.toNat * 2 + j)) = some u := hc0
  obtain rfl := k36_open hK
  exact ⟨ad, e, hc 0 _ rfl, by rw [← add_field _ _ 1 (by omega)]; exact hc 1 _ rfl⟩

end Go.Proofs.Ytbfdbleancempaa.PCodesAll
