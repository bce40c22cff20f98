/- The Go functions slices.Values (of ints) and codes.All hand back iterators that tell all of their elements in order, whatever loop asks; no condition but that a slice lies within the reach. -/
import Derived.Test.YtbfdbleancempaaHSeq
import Derived.Test.YtbfdbleancempaaHOf
namespace Go.Proofs.Ytbfdbleancempaa
open Go Go.RowKit Go.Shelf Go.Maps Go.Proofs.Hand
attribute [local go_sem] Oper.semAt_some

/-- The numbers that an int may be. -/
abbrev I64 := { x : Int // (Lit.int .i64 x).wf = true }
def upto {α : Type} (f : Nat → α) (k : Nat) : List α := (List.range k).map f
theorem upto_succ {α : Type} (f : Nat → α) (k : Nat) : upto f (k + 1) = upto f k ++ [f k] := by simp [upto, List.range_succ]
theorem upto_length {α : Type} (f : Nat → α) (k : Nat) : (upto f k).length = k := by simp [upto]
def zat (zs : List I64) (j : Nat) : I64 := zs[j]?.getD ⟨0, by decide⟩
theorem upto_take (zs : List I64) {k : Nat} (hk : k ≤ zs.length) : upto (zat zs) k = zs.take k := by
  apply List.ext_getElem
  · simp [upto, hk]
  · intro i h1 h2
    have : i < zs.length := by simp [upto] at h1; omega
    simp [upto, zat, this]
theorem upto_all (zs : List I64) : upto (zat zs) zs.length = zs := by rw [upto_take zs (Nat.le_refl _), List.take_length]
/-- Blocks from B to C lie as they lay. -/
structure Mid (B C : Nat) (W W' : World) : Prop where
  same : ∀ k, B ≤ k → k < C → W'.heap[k]? = W.heap[k]?
theorem Mid.refl (B C : Nat) (W : World) : Mid B C W W := ⟨fun _ _ _ => rfl⟩
theorem Mid.trans {B C : Nat} {X Y Z : World} (h : Mid B C X Y) (k : Mid B C Y Z) : Mid B C X Z := ⟨fun i h1 h2 => (k.same i h1 h2).trans (h.same i h1 h2)⟩
theorem Mid.cell {B C : Nat} {W W' : World} (h : Mid B C W W') {p : Addr} (h1 : B ≤ p.block) (h2 : p.block < C) : W'.cell? p = W.cell? p := World.cell?_of_block (w := W) (h.same _ h1 h2)
theorem Mid.putObj {B C l : Nat} (W : World) (o : Obj) (h : C ≤ l) : Mid B C W (W.putObj l o) := ⟨fun k _ h2 => World.putObj_heap_other (by omega)⟩

set_option maxRecDepth 100000 in
set_option maxHeartbeats 2000000 in
/-- The closure of slices.Values. -/
theorem values1_in (F : Fence) (n : Nat) (hF : F.fn 22) (hro : F.round = none) (hn : 1 ≤ n) (l Bs B0 C b off len cap B1 : Nat) (zs : List I64) (hreach : len * 8 ≤ 140737488351232) (hb0 : B0 ≤ b) (hb : b < C) (J Jx : List I64 → World → Prop)
    (hY : ∀ pre x W, J pre W → pre.length < len → B1 ≤ W.heap.size → YieldAt F (n - 1) Try.prog l #[.int .i64 x.1] W fun e W' =>
      (e = .returned (.bool true) ∧ J (pre ++ [x]) W' ∧ Mid B0 C W W' ∧ From B1 W W') ∨ (e = .returned (.bool false) ∧ Jx (pre ++ [x]) W' ∧ From B1 W W'))
    (W : World) (hB1 : B1 ≤ W.heap.size) (hBs : W.cell? ⟨Bs, 0, none⟩ = some (.slice (some ⟨b, off, none⟩) len cap)) (hc : ∀ j, j < len → W.cell? ⟨b, off + j, none⟩ = some (.int .i64 (zat zs j).1)) (h0 : J [] W) :
    CallsIn F n Try.prog 22 #[.func (.yield l) #[] #[], .pointer (some ⟨Bs, 0, none⟩)] W fun e W' => (∃ v, e = .returned v) ∧
      ((∃ ys, ys = upto (zat zs) len ∧ J ys W') ∨ (∃ pre, (∃ k, k ≤ len ∧ pre = upto (zat zs) k) ∧ Jx pre W')) := by
  refine callsIn_of_wp Try.func22 rfl hF ?_ hro
  simp only [Try.ntmps22, List.size_toArray, List.length_cons, List.length_nil, Nat.reduceAdd, Nat.reduceSub, Array.replicate_succ, Array.replicate_zero, List.push_toArray, List.append_toArray, List.nil_append, List.cons_append]
  gi_wp2
  gi_loopw [7] (fun i wr => ∃ k : Nat, k ≤ len ∧ i = .int .i64 k ∧ J (upto (zat zs) k) wr ∧ Mid B0 C W wr ∧ B1 ≤ wr.heap.size)
    (fun i _ => len - (intOf i).toNat)
  case atStart => exact ⟨0, Nat.zero_le _, rfl, h0, Mid.refl _ _ _, hB1⟩
  case round =>
    obtain ⟨k, hk, rfl, hJs, hnx, hsz⟩ := hrel
    have hcx : k < len → wr.cell? ⟨b, off + k, none⟩ = some (.int .i64 (zat zs k).1) := fun h => (hnx.cell (p := ⟨b, off + k, none⟩) hb0 hb).trans (hc k h)
    by_cases hlt : k < len
    · obtain ⟨fn, tmps, assign, body, hy, hR⟩ := hY _ (zat zs k) wr hJs (by rw [upto_length]; exact hlt) hsz
      have hcx' := hcx hlt
      gi_wp2
      refine hR.mono ?_
      rintro e W3 (⟨rfl, hJ3, hk3, hf3⟩ | ⟨rfl, hJx3, hf3⟩)
      · gi_wp2
        go_roundw
        case rel => exact ⟨k + 1, by omega, by simp, by rw [upto_succ]; exact hJ3, hnx.trans hk3, Nat.le_trans hsz hf3.size⟩
        case measure => simp [intOf]; omega
      · gi_wp2
        refine bodyPost_ret (results_none rfl _ _ _) rfl ?_
        exact ⟨⟨_, rfl⟩, .inr ⟨_, ⟨k + 1, by omega, (upto_succ _ _).symm⟩, hJx3⟩⟩
    · obtain rfl : k = len := by omega
      gi_wp2
      go_end0
      exact ⟨⟨_, rfl⟩, .inl ⟨_, rfl, hJs⟩⟩

set_option maxRecDepth 100000 in
set_option maxHeartbeats 1000000 in
theorem values1_nil_in (F : Fence) (n : Nat) (hF : F.fn 22) (hro : F.round = none) (l Bs : Nat) (J : List I64 → World → Prop) (W : World) (hBs : W.cell? ⟨Bs, 0, none⟩ = some (.slice none 0 0)) (h0 : J [] W) :
    CallsIn F n Try.prog 22 #[.func (.yield l) #[] #[], .pointer (some ⟨Bs, 0, none⟩)] W fun e W' => (∃ v, e = .returned v) ∧ J [] W' := by
  refine callsIn_of_wp Try.func22 rfl hF ?_ hro
  simp only [Try.ntmps22, List.size_toArray, List.length_cons, List.length_nil, Nat.reduceAdd, Nat.reduceSub, Array.replicate_succ, Array.replicate_zero, List.push_toArray, List.append_toArray, List.nil_append, List.cons_append]
  gi_wp2
  gi_loopw [7] (fun i wr => i = .int .i64 0 ∧ J [] wr) (fun _ _ => 0)
  case atStart => exact ⟨rfl, h0⟩
  case round =>
    obtain ⟨rfl, hJs⟩ := hrel
    gi_wp2
    go_end0
    exact ⟨⟨_, rfl⟩, hJs⟩

set_option maxHeartbeats 1000000 in
theorem values_in (F : Fence) (n : Nat) (hF : F.fn 19) (hro : F.round = none) (a : Option Addr) (len cap : Nat) (w : World) :
    CallsIn F n Try.prog 19 #[.slice a len cap] w fun e w' => e = .returned (.func (.func 22) #[] #[.pointer (some ⟨w.heap.size, 0, none⟩)]) ∧ w' = w.alloc (.cells #[.slice a len cap] 40) := by
  refine callsIn_of_wp Try.func19 rfl hF ?_ hro
  simp only [Try.ntmps19, List.size_toArray, List.length_cons, List.length_nil, Nat.reduceAdd, Nat.reduceSub, Array.replicate_succ, Array.replicate_zero, List.push_toArray, List.append_toArray, List.nil_append, List.cons_append]
  gi_wp2
  go_ret
  exact ⟨rfl, rfl⟩

/-- The slice value sv holds zs, in a block from B to C; or it is nil and there are none. -/
def Ints (B C : Nat) (W : World) (sv : Value) (zs : List I64) : Prop :=
  (sv = .slice none 0 0 ∧ zs = []) ∨ ∃ b off cap, sv = .slice (some ⟨b, off, none⟩) zs.length cap ∧ B ≤ b ∧ b < C ∧ ∀ j, j < zs.length → W.cell? ⟨b, off + j, none⟩ = some (.int .i64 (zat zs j).1)

theorem values_seq (F : Fence) (n : Nat) (hF : F.fn 22) (hro : F.round = none) (hn : 1 ≤ n) (Bs B0 C : Nat) (sv : Value) (zs : List I64) (hreach : zs.length * 8 ≤ 140737488351232) (w : World) (hBs : Bs < w.heap.size) (hC : C ≤ w.heap.size)
    (hc : w.cell? ⟨Bs, 0, none⟩ = some sv) (hI : Ints B0 C w sv zs) :
    SeqOwn F n Try.prog 22 #[.pointer (some ⟨Bs, 0, none⟩)] (fun x : I64 => #[Value.int .i64 x.1]) (Mid B0 C) (fun ys => ys = zs) (fun pre => pre <+: zs) zs.length w := fun l J Jx W hW _ _ hY h0 => by
  have hc' := (hW.cell (p := ⟨Bs, 0, none⟩) hBs).trans hc
  rcases hI with ⟨rfl, rfl⟩ | ⟨b, off, cap, rfl, hb0, hb, hcs⟩
  · exact (values1_nil_in F n hF hro l Bs J W hc' h0).mono fun e W' ⟨he, hj⟩ => ⟨he, .inl ⟨_, rfl, hj⟩⟩
  · refine (values1_in F n hF hro hn l Bs B0 C b off zs.length cap W.heap.size zs hreach hb0 hb J Jx hY W (Nat.le_refl _) hc' (fun j hj => (hW.cell (p := ⟨b, off + j, none⟩) (Nat.lt_of_lt_of_le hb hC)).trans (hcs j hj)) h0).mono ?_
    rintro e W' ⟨he, ⟨ys, rfl, hj⟩ | ⟨pre, ⟨k, hk, rfl⟩, hj⟩⟩
    · exact ⟨he, .inl ⟨_, upto_all zs, hj⟩⟩
    · exact ⟨he, .inr ⟨_, by rw [upto_take zs hk]; exact List.take_prefix _ _, hj⟩⟩
end Go.Proofs.Ytbfdbleancempaa
