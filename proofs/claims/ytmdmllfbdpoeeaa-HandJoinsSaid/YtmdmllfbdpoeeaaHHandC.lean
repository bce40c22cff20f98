/- A head that is there, asked by the Go function hand.Hand.head: how many bytes the message has is noted, and what is wrong is told; no condition beyond the lemma's own. -/
import Derived.Test.YtmdmllfbdpoeeaaHHandB
import Derived.Test.YtmdmllfbdpoeeaaHName
import Derived.BigRegion
namespace Go.Proofs.Ytmdmllfbdpoeeaa
open Go Go.RowKit Go.Maps Go.Proofs.Hand Go.Proofs.YtmdmllfbdpoeeaaW.PrintWords Go.Proofs.YtmdmllfbdpoeeaaW.PrintLast Go.Proofs.YtmdmllfbdpoeeaaW.PrintMore
set_option maxRecDepth 100000
set_option linter.unusedVariables false
set_option linter.unusedSimpArgs false

theorem known_name : ∀ n : Fin 256, (nameIn (tab 1) ((n.val : Nat) : Int)).isSome = msgKnown ((n.val : Nat) : Int) := by decide +kernel
theorem name_known (c : Int) (h0 : 0 ≤ c) (h1 : c ≤ 255) (w : World) : Calls Try.prog 29 #[.int .i64 1, .int .i64 c] w fun e w' => (∃ s, e = .returned (.tuple #[.string s, .bool (msgKnown c)])) ∧ Below w.heap.size w w' := by
  have hk := known_name ⟨c.toNat, by omega⟩
  have e : ((c.toNat : Nat) : Int) = c := by omega
  simp only [e] at hk
  have hw : (Lit.int .i64 c).wf = true := by
    have := wrap64_wf c
    rwa [IntWalk.wrap64_in _ ⟨by omega, by omega⟩] at this
  refine (codes_Name.calls 1 c ((nameIn (tab 1) c).getD ⟨#[]⟩) (msgKnown c) w (by unfold codes_Name.f; rw [if_pos hw, hk])).mono ?_
  rintro e w' ⟨rfl, hb⟩
  exact ⟨⟨_, rfl⟩, hb⟩
def headErr (most : Int) (d : List Int) : Int := if msgKnown (d.getD 0 0) = false then 18 else if most < needOf d then 12 else 0
theorem setCell7 {W : World} {g : Nat} {cs : Array Value} (h : W.heap[g]? = some (.cells cs 57 (0, 0))) (i : Nat) (v : Value) : (W.setCell ⟨g, i, none⟩ v).heap[g]? = some (.cells (cs.setIfInBounds i v) 57 (0, 0)) := by
  simp [World.setCell, Array.getElem?_modify, h]
/-- What a call keeps: all but the blocks of S and what is new since; the streams, too. -/
structure Kp (w W : World) (S : Nat → Prop) : Prop where
  size : w.heap.size ≤ W.heap.size
  blk : ∀ i, i < w.heap.size → ¬ S i → W.heap[i]? = w.heap[i]?
  st : Below 0 w W
theorem Kp.kept {w W : World} {S : Nat → Prop} (h : Kp w W S) : Kept w W S := ⟨h.size, h.blk⟩
theorem Kp.of {w W : World} {S : Nat → Prop} (h : Kept w W S) (k : Below 0 w W) : Kp w W S := ⟨h.1, h.2, k⟩
theorem Kp.refl (w : World) (S : Nat → Prop) : Kp w w S := Kp.of (Kept.refl w S) (Below.refl 0 w)
theorem Kp.then_ {w W W2 : World} {S S2 : Nat → Prop} (h : Kp w W S) (k : Kp W W2 S2) (hs : ∀ k, S2 k → S k ∨ w.heap.size ≤ k) : Kp w W2 S := Kp.of (h.kept.then_ k.kept hs) (h.st.trans k.st)
theorem Kp.of_grown {w W W2 : World} {S : Nat → Prop} {row : Option Nat} (hg : W.grownBy W2 row) (h : Kp w W S) (hr : ∀ k, row = some k → S k ∨ w.heap.size ≤ k) : Kp w W2 S := Kp.of (Kept.of_grown hg h.kept hr) (h.st.grown hg (Nat.zero_le _) (fun _ _ => Nat.zero_le _))
theorem Kp.below {w W W2 : World} {S : Nat → Prop} (h : Kp w W S) (hb : Below W.heap.size W W2) : Kp w W2 S := Kp.of (h.kept.below hb) (h.st.trans (hb.mono (Nat.zero_le _)))
theorem Kp.drew {w W : World} {S : Nat → Prop} (h : Kp w W S) : Kp w W.drew S := Kp.of h.kept.drew (below_drew h.st)
theorem Kp.drewN {w W : World} {S : Nat → Prop} (h : Kp w W S) (m : Nat) : Kp w (W.drewN m) S := Kp.of (h.kept.drewN m) (pw_below_drewN h.st m)
theorem Kp.setCell {w W : World} {S : Nat → Prop} (h : Kp w W S) {p : Addr} (hp : S p.block ∨ w.heap.size ≤ p.block) (u : Value) : Kp w (W.setCell p u) S := Kp.of (h.kept.setCell hp u) (h.st.setCell (Nat.zero_le _) u)
/-- What lies below the hand's blocks stays. -/
theorem Kp.belowB {w0 w W : World} {S : Nat → Prop} {B : Nat} (h : Kp w W S) (hb : Below B w0 w) (hB : B ≤ w.heap.size) (hs : ∀ k, S k → B ≤ k) : Below B w0 W :=
  ⟨h.st.os.trans hb.os, h.st.tape.trans hb.tape, h.st.output.trans hb.output, Nat.le_trans hb.size h.size, fun k hk => (h.blk k (by omega) (fun e => by have := hs k e; omega)).trans (hb.block k hk)⟩
set_option maxHeartbeats 4000000 in
theorem head_calls (g c b : Nat) (d : List Int) (most need next eat err : Int) (vS : Value) (w : World)
    (hb : w.heap[g]? = some (.cells #[.int .i64 most, .slice (some ⟨b, 0, none⟩) 4 c, vS, .int .i64 need, .int .i64 next, .int .i64 eat, .int .i64 err] 57 (0, 0)))
    (hd : d.length = 4) (hby : ∀ x ∈ d, 0 ≤ x ∧ x ≤ 255) (hC : (Kd.int .u8).C w (some ⟨b, 0, none⟩) 4 d) (hg : b ≠ g) :
    Calls Try.prog 22 #[.pointer (some ⟨g, 0, none⟩)] w fun e w' => e = .returned (.int .i64 (headErr most d)) ∧
      w'.heap[g]? = some (.cells #[.int .i64 most, .slice (some ⟨b, 0, none⟩) 4 c, vS, .int .i64 (needOf d), .int .i64 next, .int .i64 eat, .int .i64 err] 57 (0, 0)) ∧ Kp w w' (fun k => k = g) := by
  obtain ⟨y0, y1, y2, y3, y4, y5, y6⟩ := cells7 hb
  have f3 := live7 hb 3
  match d, hd with
  | [b0, b1, b2, b3], _ =>
  obtain ⟨p0, q0⟩ := hby b0 (by simp)
  obtain ⟨p1, q1⟩ := hby b1 (by simp)
  obtain ⟨p2, q2⟩ := hby b2 (by simp)
  obtain ⟨p3, q3⟩ := hby b3 (by simp)
  obtain ⟨_, e0, x0⟩ := Kd.at_int hC 0 (by decide) (by decide)
  cases e0
  obtain ⟨_, e1, x1⟩ := Kd.at_int hC 1 (by decide) (by decide)
  cases e1
  obtain ⟨_, e2, x2⟩ := Kd.at_int hC 2 (by decide) (by decide)
  cases e2
  obtain ⟨_, e3, x3⟩ := Kd.at_int hC 3 (by decide) (by decide)
  cases e3
  simp only [rd, List.getD, List.getElem?_cons_zero, List.getElem?_cons_succ, Option.getD_some, show (0 : Int).toNat = 0 from rfl, show (1 : Int).toNat = 1 from rfl, show (2 : Int).toNat = 2 from rfl, show (3 : Int).toNat = 3 from rfl] at x0 x1 x2 x3
  simp only [add_plain] at x0 x1 x2 x3
  have hbA := Aside0.mk hb
  have hn := name_known b0 p0 q0
  have hE : headErr most [b0, b1, b2, b3] = if msgKnown b0 = false then 18 else if most < needOf [b0, b1, b2, b3] then 12 else 0 := rfl
  have hN : needOf [b0, b1, b2, b3] = 4 + b1 * 65536 + b2 * 256 + b3 := rfl
  rw [hE, hN]
  clear hb hby hC hE hN
  have hset : Aside0 ((w.setCell ⟨g, 3, none⟩ (.int .i64 (4 + b1 * 65536 + b2 * 256 + b3))).drew.heap[g]? = some (.cells #[.int .i64 most, .slice (some ⟨b, 0, none⟩) 4 c, vS, .int .i64 (4 + b1 * 65536 + b2 * 256 + b3), .int .i64 next, .int .i64 eat, .int .i64 err] 57 (0, 0))) := Aside0.mk (setCell7 hbA.out 3 _)
  have hkept : Aside0 (Kp w (w.setCell ⟨g, 3, none⟩ (.int .i64 (4 + b1 * 65536 + b2 * 256 + b3))).drew (fun k => k = g)) := Aside0.mk ((Kp.refl w (fun k => k = g)).setCell (p := ⟨g, 3, none⟩) (.inl rfl) _).drew
  cases hk : msgKnown b0 with
  | false =>
    rw [hk] at hn
    replace hn := Aside0.mk hn
    rw [if_pos rfl]
    clear hk
    go_enter Try.func22, Try.ntmps22
    go_wp2
    go_region
    go_wp2_with (first
      | (go_at_call 29; refine (hn.out _).mono ?_; rintro e w1 ⟨⟨s, rfl⟩, hb1⟩))
    go_ret
    exact ⟨rfl, kept2 hset.out hb1, hkept.out.below hb1⟩
  | true =>
    rw [hk] at hn
    replace hn := Aside0.mk hn
    rw [if_neg (by decide)]
    clear hk
    by_cases hm : most < 4 + b1 * 65536 + b2 * 256 + b3
    · have km : decide (most < 4 + b1 * 65536 + b2 * 256 + b3) = true := decide_eq_true hm
      rw [if_pos hm]
      go_enter Try.func22, Try.ntmps22
      go_wp2
      go_region
      go_wp2_with (first
        | (go_at_call 29; refine (hn.out _).mono ?_; rintro e w1 ⟨⟨s, rfl⟩, hb1⟩; have hX := Aside0.mk (kept2 hset.out hb1); obtain ⟨z0, z1, z2, z3, z4, z5, z6⟩ := cells7 hX.out; have hK := Aside0.mk (hkept.out.below hb1)))
      go_quiet (fail)
      go_wp2
      go_ret
      exact ⟨rfl, hX.out, hK.out.drewN _⟩
    · have km : decide (most < 4 + b1 * 65536 + b2 * 256 + b3) = false := decide_eq_false hm
      rw [if_neg hm]
      go_enter Try.func22, Try.ntmps22
      go_wp2
      go_region
      go_wp2_with (first
        | (go_at_call 29; refine (hn.out _).mono ?_; rintro e w1 ⟨⟨s, rfl⟩, hb1⟩; have hX := Aside0.mk (kept2 hset.out hb1); obtain ⟨z0, z1, z2, z3, z4, z5, z6⟩ := cells7 hX.out; have hK := Aside0.mk (hkept.out.below hb1)))
      go_quiet (fail)
      go_wp2
      go_ret
      exact ⟨rfl, hX.out, hK.out.drewN _⟩
theorem head_any (g c b n : Nat) (d : List Int) (most need next eat err : Int) (vS : Value) (w : World) (hn : n = 4)
    (hb : w.heap[g]? = some (.cells #[.int .i64 most, .slice (some ⟨b, 0, none⟩) n c, vS, .int .i64 need, .int .i64 next, .int .i64 eat, .int .i64 err] 57 (0, 0)))
    (hd : d.length = n) (hby : ∀ x ∈ d, 0 ≤ x ∧ x ≤ 255) (hC : (Kd.int .u8).C w (some ⟨b, 0, none⟩) n d) (hg : b ≠ g) :
    Calls Try.prog 22 #[.pointer (some ⟨g, 0, none⟩)] w fun e w' => e = .returned (.int .i64 (headErr most d)) ∧
      w'.heap[g]? = some (.cells #[.int .i64 most, .slice (some ⟨b, 0, none⟩) n c, vS, .int .i64 (needOf d), .int .i64 next, .int .i64 eat, .int .i64 err] 57 (0, 0)) ∧ Kp w w' (fun k => k = g) := by
  subst hn
  exact head_calls g c b d most need next eat err vS w hb hd hby hC hg
end Go.Proofs.Ytmdmllfbdpoeeaa
