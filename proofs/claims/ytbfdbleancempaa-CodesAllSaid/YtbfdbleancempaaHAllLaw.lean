/- The Go function CodesAll of the law answers true at every kind and every number to leave at; both are ints. -/
import Derived.Test.YtbfdbleancempaaHAllB
import Derived.Test.YtbfdbleancempaaPCodesAllx1
import Derived.LoopNIn
namespace Go.Proofs.Ytbfdbleancempaa
open Go Go.RowKit Go.Shelf Go.Maps Go.Proofs.Hand Go.Proofs.Ytbfdbleancempaa.PCodesAll Go.Proofs.YtbfdbleancempaaW.PrintWords Go.Proofs.YtbfdbleancempaaW.PrintLast
attribute [local go_sem] Oper.semAt_some

variable {F : Fence} {n : Nat} {P : Program}
/-- 'for .. := range it' in a block, left by a break or at its end. -/
theorem range_break {α : Type} {g : Operand} {ps : Array Tmp} {assign body : Code} {id : Nat} {Q : Exit → Act → World → Prop} {a : Act} {w : World}
    (hro : F.round = none) (h1 : 1 ≤ n) {gf : Nat} {lb : Array Value} (hg : a.eval g = .func (.func gf) #[] lb) (hFg : F.fn gf) (eg : ∀ args w, (callFunc gf args).run P w = .ok (.enter gf args) w)
    {encs : α → Array Value} {Kp : World → World → Prop} {S Sp : List α → Prop} {N : Nat} {w0 : World} (hseq : SeqOwn F (n - 1) P gf lb encs Kp S Sp N w0)
    (hKt : ∀ {A B C : World}, Kp A B → Kp B C → Kp A C) (hKb : ∀ (W : World) (l : Nat) (o : Obj), w.heap.size ≤ l → Kp W (W.putObj l o)) (hb0 : Below w0.heap.size w0 w) (hps : ∀ x, (encs x).size = ps.size)
    (I Ix : List α → World → Prop) (Bad : List α → Prop) (hbad : ∀ pre, Sp pre → ¬ Bad pre) (hI : AbB w.heap.size I) (hIx : AbB w.heap.size Ix) (h0 : I [] w) (a₁ : α → Act)
    (hassign : ∀ (l : Nat) (x : α) (W : World) (K : Act → World → Prop), K (a₁ x) W →
      assign.wpIn (F.inRound l) (n - 1 - 1) P (Exit.then K (fun _ _ _ => False)) { tmps := (ps.zip (encs x)).foldl (fun t (p, v) => t.setIfInBounds p v) a.tmps, defers := [] } W)
    (hbody : ∀ (l : Nat) (pre : List α) (x : α) (W : World), I pre W → pre.length < N → w.heap.size ≤ W.heap.size → body.wpIn (F.inRound l) (n - 1 - 1) P (seqPost w.heap.size Kp I (fun c pre W => (c = .exit id ∧ Ix pre W) ∨ (c = .ret ∧ Bad pre)) (pre ++ [x]) W) (a₁ x) W)
    (hend : ∀ (D : Nat) (W : World), w.heap.size ≤ D → ((∃ xs, S xs ∧ I xs W) ∨ (∃ pre, Sp pre ∧ Ix pre W)) → W.heap[D]? = some (.deferred (some [])) → Q .normal { a with defers := { target := .collected D, args := #[] } :: a.defers } W) :
    (Code.rangeFunc g ps assign body).wpIn F n P (Exit.inBlock id Q) a w := by
  refine range_seq hro h1 hg hFg eg hseq hKt hKb hb0 hps I (fun c pre W => (c = .exit id ∧ Ix pre W) ∨ (c = .ret ∧ Bad pre)) hI
    (fun c s A B hs hb => hs.elim (fun h => .inl ⟨h.1, hIx _ _ _ h.2 hb⟩) .inr) h0 a₁ hassign hbody
    (fun D xs W hD hS hi hK => hend D W hD (.inl ⟨xs, hS, hi⟩) hK) ?_
  rintro D c pre W hD hSp (⟨rfl, hx⟩ | ⟨rfl, hb⟩) hK
  · refine wpIn_exit ?_
    have := hend D W hD (.inr ⟨pre, hSp, hx⟩) hK
    simpa [Exit.inBlock] using this
  · exact absurd hb (hbad _ hSp)

def toS (l : List (Int × ByteArray)) : List S36 := l.map fun x => ⟨x.1, x.2⟩
theorem toS_length (l : List (Int × ByteArray)) : (toS l).length = l.length := by simp [toS]
theorem all_is (k : Int) : passepartoutref08_All.f k = some (toS (tab k)) := by
  unfold passepartoutref08_All.f tab
  split
  · rfl
  · split
    · rfl
    · split <;> rfl
theorem rd_toS (l : List (Int × ByteArray)) (i : Nat) (h : i < l.length) : rd_T36 (toS l) i = ⟨(l[i]).1, (l[i]).2⟩ := by
  simp [rd_T36, toS, h]
theorem alive_all : passepartoutlaw08_alive.f = some true := by decide +kernel
theorem tab_short (k : Int) : (tab k).length ≤ 22 := by
  unfold tab
  split
  · decide
  · split
    · decide
    · split <;> decide
/-- What cannot be a beginning of l. -/
def Off (l pre : List (Int × ByteArray)) : Prop := ¬ pre <+: l
theorem off_snoc {l pre : List (Int × ByteArray)} {x : Int × ByteArray} (hl : pre.length < l.length) (h : l[pre.length] ≠ x) : Off l (pre ++ [x]) := by
  rintro ⟨q, rfl⟩
  exact h (by simp)
theorem on_snoc {l pre : List (Int × ByteArray)} {x : Int × ByteArray} (hp : pre <+: l) (hl : pre.length < l.length) (h : l[pre.length] = x) : pre ++ [x] <+: l := by
  obtain ⟨q, rfl⟩ := hp
  cases q with
  | nil => simp at hl
  | cons y q =>
    simp at h
    subst h
    exact ⟨q, by simp⟩

set_option maxRecDepth 100000 in
set_option maxHeartbeats 8000000 in
theorem codesAll_walk (a0 a1 : Int) (w : World) :
    Calls Try.prog 6 #[.int .i64 a0, .int .i64 a1] w fun e w' => e = .returned (.bool true) ∧ Below w.heap.size w w' := by
  have hal := fun W => passepartoutlaw08_alive.calls true W alive_all
  have hrf := fun W => passepartoutref08_All.calls a0 _ W (all_is a0)
  have htab := Keep.mk (tab_short a0)
  have hseq := Keep.mk (fun n hn Bk w hBk hc => all_seq n hn a0 Bk w hBk hc)
  generalize tab a0 = l at hrf htab hseq
  refine (callsIn_wide (n := 9)).1 ?_
  have h1 : (1 : Nat) ≤ 9 := by decide
  refine callsIn_of_wp_marks Try.func6 rfl trivial ?_ rfl
  simp only [Try.ntmps6, List.size_toArray, List.length_cons, List.length_nil, Nat.reduceAdd, Nat.reduceSub, Array.replicate_succ, Array.replicate_zero, List.push_toArray, List.append_toArray, List.nil_append, List.cons_append]
  gi_wp2_with (first
    | (refine ⟨trivial, ?_⟩; gi_at_call 12; refine (callsIn_wide.2 (hal _)).mono ?_; rintro e u1 ⟨rfl, hu1⟩)
    | (refine ⟨trivial, ?_⟩; gi_at_call 15; refine (callsIn_wide.2 (hrf _)).mono ?_; rintro e u2 ⟨v0, rfl, hR2, hu2⟩; obtain ⟨A, c, rfl, hle, hC2⟩ := Kd.R_reads hR2; clear hR2; replace hC2 := Keep.mk hC2))
  -- the world ahead of the loop
  have bL0 := Boxed.new w 3 (.int .i64 a1)
  have bR0 := Boxed.new (w.alloc (.cells #[.int .i64 a1] 3)) 4 (.bool false)
  have bW := Boxed.new u2 30 (.slice A (toS l).length c)
  have hC3 := Kd.C_below hC2.out (((Below.refl _ u2).alloc (Nat.le_refl _) (.cells #[.slice A (toS l).length c] 30)))
  have hA2 : Below ((w.alloc (.cells #[.int .i64 a1] 3)).alloc (.cells #[.bool false] 4)).heap.size ((w.alloc (.cells #[.int .i64 a1] 3)).alloc (.cells #[.bool false] 4)) (u2.alloc (.cells #[.slice A (toS l).length c] 30)) :=
    (hu1.trans (hu2.mono hu1.size)).alloc (Nat.le_trans hu1.size hu2.size) _
  rw [World.size_alloc] at bR0
  have bL1 := bL0.alloc (.cells #[.bool false] 4)
  have hsA : ((w.alloc (.cells #[.int .i64 a1] 3)).alloc (.cells #[.bool false] 4)).heap.size = w.heap.size + 1 + 1 := by simp
  rw [hsA] at hA2
  have hBw : Below w.heap.size w ((w.alloc (.cells #[.int .i64 a1] 3)).alloc (.cells #[.bool false] 4)) := ((Below.refl _ w).alloc (Nat.le_refl _) _).alloc (by simp) _
  have hsU : u2.heap.size < (u2.alloc (.cells #[.slice A (toS l).length c] 30)).heap.size := by simp
  obtain ⟨W0, hW0⟩ : ∃ W0, u2.alloc (.cells #[.slice A (toS l).length c] 30) = W0 := ⟨_, rfl⟩
  rw [hW0] at bW hC3 hA2 hsU ⊢
  have bL : Boxed W0 w.heap.size 3 (.int .i64 a1) := (hA2.block _ (by omega)).trans bL1
  have bR : Boxed W0 (w.heap.size + 1) 4 (.bool false) := (hA2.block _ (by omega)).trans bR0
  have hB0 : Below w.heap.size w W0 := hBw.trans (hA2.mono (by omega))
  have hsz0 : w.heap.size + 1 + 1 ≤ W0.heap.size := by have := hA2.size; rw [hsA] at this; exact this
  rw [toS_length] at bW ⊢
  replace hC3 := Keep.mk hC3
  clear hW0 hC2 hu1 hu2 hA2 bR0 bL1 bL0 hBw hsA hle hal hrf
  refine wpIn_loop_rounds 3 ?_
  rw [roundsIn_succ]
  gi_wp2_with (first
    | (refine ⟨trivial, ?_⟩; gi_at_call 16; refine (all_in Fence.wide _ trivial rfl a0 _).mono ?_; rintro e u16 ⟨rfl, rfl⟩))
  have bI1 := (Boxed.new W0 3 (.int .i64 0)).alloc (.cells #[.int .i64 a0] 3)
  have bK1 := Boxed.new (W0.alloc (.cells #[.int .i64 0] 3)) 3 (.int .i64 a0)
  rw [World.size_alloc] at bK1
  have hG1 : Below W0.heap.size W0 ((W0.alloc (.cells #[.int .i64 0] 3)).alloc (.cells #[.int .i64 a0] 3)) := ((Below.refl _ W0).alloc (Nat.le_refl _) _).alloc (by simp) _
  have hs1 : ((W0.alloc (.cells #[.int .i64 0] 3)).alloc (.cells #[.int .i64 a0] 3)).heap.size = W0.heap.size + 1 + 1 := by simp
  obtain ⟨X1, hX1⟩ : ∃ X1, (W0.alloc (.cells #[.int .i64 0] 3)).alloc (.cells #[.int .i64 a0] 3) = X1 := ⟨_, rfl⟩
  rw [hX1] at bI1 bK1 hG1 hs1 ⊢
  clear hX1
  refine range_break rfl (by decide) (gf := 18) (lb := #[.pointer (some ⟨W0.heap.size + 1, 0, none⟩)]) rfl trivial (enters_of Try.func18 (by kernel_rfl) rfl)
    (hseq.out 8 (by decide) (W0.heap.size + 1) X1 (by omega) bK1.cell) (fun _ _ => trivial) (fun _ _ _ _ => trivial) (Below.refl _ _) (fun _ => rfl)
    (fun pre Wx => (pre <+: l ∧ Boxed Wx W0.heap.size 3 (.int .i64 (pre.length : Int))) ∧ Below W0.heap.size W0 Wx)
    (fun pre Wx => Boxed Wx W0.heap.size 3 (.int .i64 a1) ∧ Below W0.heap.size W0 Wx)
    (Off l) (fun pre hp ho => ho hp)
    (AbB.and (fun s A B hs hb => ⟨hs.1, (hb.block _ (by omega)).trans hs.2⟩) (AbB.below (by omega)))
    (AbB.and (fun s A B hs hb => (hb.block _ (by omega)).trans hs) (AbB.below (by omega)))
    ⟨⟨List.nil_prefix, bI1⟩, hG1⟩ ?_ ?_ ?_ ?_
  rotate_left
  · intro l2 x Wx K hK
    gi_wp2
    exact hK
  · rintro l2 pre x Wx ⟨⟨hp, bV⟩, hBx⟩ hpl hszx
    have cV := bV.cell
    have fV := bV.frozen
    have bWx : Boxed Wx u2.heap.size 30 (.slice A l.length c) := (hBx.block _ (by omega)).trans bW
    have cW := bWx.cell
    have bRx : Boxed Wx (w.heap.size + 1) 4 (.bool false) := (hBx.block _ (by omega)).trans bR
    have cR := bRx.cell
    have fR := bRx.frozen
    have bLx : Boxed Wx w.heap.size 3 (.int .i64 a1) := (hBx.block _ (by omega)).trans bL
    have cL := bLx.cell
    have hCx := Kd.C_below hC3.out hBx
    have hrd := rd_toS l pre.length hpl
    have hlen := htab.out
    obtain ⟨i, hi⟩ : ∃ i : Int, i = (pre.length : Int) := ⟨_, rfl⟩
    rw [← hi] at cV hrd bV
    have p113 : 0 ≤ i := by omega
    have q113 : i < (l.length : Int) := by omega
    obtain ⟨ad, e113, hx0, hx1⟩ := at_T36 hCx i p113 (by rw [toS_length]; exact q113)
    cases e113
    rw [hrd] at hx0 hx1
    have hge : decide ((l.length : Int) ≤ i) = false := decide_eq_false (by omega)
    replace hp := Keep.mk hp
    replace hi := Keep.mk hi
    by_cases e0 : (l[pre.length]).1 = x.1
    · by_cases e1 : (l[pre.length]).2.toList = x.2.toList
      · have c0 : ((l[pre.length]).1 == x.1) = true := beq_iff_eq.mpr e0
        have c0b : ((l[pre.length]).1 = x.1) = True := eq_true e0
        have c1 : ((l[pre.length]).2.toList == x.2.toList) = true := beq_iff_eq.mpr e1
        have hx : l[pre.length] = x := by
          obtain ⟨x1, ⟨⟨x2⟩⟩⟩ := x
          rcases hq : l[pre.length] with ⟨y1, ⟨⟨y2⟩⟩⟩
          rw [hq] at e0 e1
          rw [ByteArray.toList_eq, ByteArray.toList_eq] at e1
          simp only at e0 e1
          rw [e0, e1]
        have hon := Keep.mk (on_snoc hp.out hpl hx)
        clear hx e0 e1
        have hsucc : ((pre ++ [x]).length : Int) = i + 1 := by rw [hi.out]; simp
        replace hsucc := Keep.mk hsucc
        gi_wp2
        · rename_i hq
          obtain rfl := eq_of_beq hq
          exact ⟨From.setCell _ _ (by simp; omega) _, .inl ⟨rfl, bV.set _, hBx.setCell (by simp) _⟩⟩
        · exact ⟨From.setCell _ _ (by simp; omega) _, trivial, ⟨hon.out, by rw [hsucc.out]; exact bV.set _⟩, hBx.setCell (by simp) _⟩
      · have c0 : ((l[pre.length]).1 == x.1) = true := beq_iff_eq.mpr e0
        have c0b : ((l[pre.length]).1 = x.1) = True := eq_true e0
        have c1 : ((l[pre.length]).2.toList == x.2.toList) = false := beq_eq_false_iff_ne.mpr e1
        have hoff := Keep.mk (off_snoc (x := x) hpl (fun e => e1 (by rw [e])))
        clear e0 e1
        gi_wp2
        exact ⟨From.setCell _ _ (by simp; omega) _, .inr ⟨rfl, hoff.out⟩⟩
    · have c0 : ((l[pre.length]).1 == x.1) = false := beq_eq_false_iff_ne.mpr e0
      have c0b : ((l[pre.length]).1 = x.1) = False := eq_false e0
      have hoff := Keep.mk (off_snoc (x := x) hpl (fun e => e0 (by rw [e])))
      clear e0
      gi_wp2
      exact ⟨From.setCell _ _ (by simp; omega) _, .inr ⟨rfl, hoff.out⟩⟩
  · intro D1 V1 hD1 hfin hK1
    obtain ⟨m, hm, bM, hBV⟩ : ∃ m : Int, (m = (l.length : Int) ∨ m = a1) ∧ Boxed V1 W0.heap.size 3 (.int .i64 m) ∧ Below W0.heap.size W0 V1 := by
      rcases hfin with ⟨xs, rfl, ⟨_, h⟩, hb⟩ | ⟨pre, _, h, hb⟩
      · exact ⟨_, .inl rfl, h, hb⟩
      · exact ⟨_, .inr rfl, h, hb⟩
    have bW1 : Boxed V1 u2.heap.size 30 (.slice A l.length c) := (hBV.block _ (by omega)).trans bW
    have bR1 : Boxed V1 (w.heap.size + 1) 4 (.bool false) := (hBV.block _ (by omega)).trans bR
    have bL1 : Boxed V1 w.heap.size 3 (.int .i64 a1) := (hBV.block _ (by omega)).trans bL
    have hC31 := Keep.mk (Kd.C_below hC3.out hBV)
    have hB1 : Below w.heap.size w V1 := hB0.trans (hBV.mono (by omega))
    have hsz1 := hBV.size
    have hD1V := (Array.getElem?_eq_some_iff.1 hK1).1
    replace hK1 := Keep.mk hK1
    have cM := bM.cell
    have cW := bW1.cell
    have cL := bL1.cell
    clear hfin
    by_cases hq : m = (l.length : Int)
    · have q0 : (m == (l.length : Int)) = true := beq_iff_eq.mpr hq
      have q1 : (m = (l.length : Int)) = True := eq_true hq
      clear hm hq
      gi_wp2
      rw [roundsIn_succ]
      gi_wp2_with (first
        | (refine ⟨trivial, ?_⟩; gi_at_call 16; refine (all_in Fence.wide _ trivial rfl a0 _).mono ?_; rintro e u26 ⟨rfl, rfl⟩))
      have bI2 := (Boxed.new V1 3 (.int .i64 0)).alloc (.cells #[.int .i64 a0] 3)
      have bK2 := Boxed.new (V1.alloc (.cells #[.int .i64 0] 3)) 3 (.int .i64 a0)
      rw [World.size_alloc] at bK2
      have hG2 : Below V1.heap.size V1 ((V1.alloc (.cells #[.int .i64 0] 3)).alloc (.cells #[.int .i64 a0] 3)) := ((Below.refl _ V1).alloc (Nat.le_refl _) _).alloc (by simp) _
      have hs2 : ((V1.alloc (.cells #[.int .i64 0] 3)).alloc (.cells #[.int .i64 a0] 3)).heap.size = V1.heap.size + 1 + 1 := by simp
      obtain ⟨X2, hX2⟩ : ∃ X2, (V1.alloc (.cells #[.int .i64 0] 3)).alloc (.cells #[.int .i64 a0] 3) = X2 := ⟨_, rfl⟩
      rw [hX2] at bI2 bK2 hG2 hs2 ⊢
      clear hX2
      refine range_break rfl (by decide) (gf := 18) (lb := #[.pointer (some ⟨V1.heap.size + 1, 0, none⟩)]) rfl trivial (enters_of Try.func18 (by kernel_rfl) rfl)
        (hseq.out 8 (by decide) (V1.heap.size + 1) X2 (by omega) bK2.cell) (fun _ _ => trivial) (fun _ _ _ _ => trivial) (Below.refl _ _) (fun _ => rfl)
        (fun pre Wx => (pre <+: l ∧ Boxed Wx V1.heap.size 3 (.int .i64 (pre.length : Int))) ∧ Below V1.heap.size V1 Wx)
        (fun pre Wx => Boxed Wx V1.heap.size 3 (.int .i64 a1) ∧ Below V1.heap.size V1 Wx)
        (Off l) (fun pre hp ho => ho hp)
        (AbB.and (fun s A B hs hb => ⟨hs.1, (hb.block _ (by omega)).trans hs.2⟩) (AbB.below (by omega)))
        (AbB.and (fun s A B hs hb => (hb.block _ (by omega)).trans hs) (AbB.below (by omega)))
        ⟨⟨List.nil_prefix, bI2⟩, hG2⟩ ?_ ?_ ?_ ?_
      rotate_left
      · intro l2 x Wx K hK
        gi_wp2
        exact hK
      · rintro l2 pre x Wx ⟨⟨hp, bV⟩, hBx⟩ hpl hszx
        have cV := bV.cell
        have fV := bV.frozen
        have bWx : Boxed Wx u2.heap.size 30 (.slice A l.length c) := (hBx.block _ (by omega)).trans bW1
        have cW := bWx.cell
        have bRx : Boxed Wx (w.heap.size + 1) 4 (.bool false) := (hBx.block _ (by omega)).trans bR1
        have cR := bRx.cell
        have fR := bRx.frozen
        have bLx : Boxed Wx w.heap.size 3 (.int .i64 a1) := (hBx.block _ (by omega)).trans bL1
        have cL := bLx.cell
        have hCx := Kd.C_below hC31.out hBx
        have hrd := rd_toS l pre.length hpl
        have hlen := htab.out
        obtain ⟨i, hi⟩ : ∃ i : Int, i = (pre.length : Int) := ⟨_, rfl⟩
        rw [← hi] at cV hrd bV
        have p113 : 0 ≤ i := by omega
        have q113 : i < (l.length : Int) := by omega
        obtain ⟨ad, e113, hx0, hx1⟩ := at_T36 hCx i p113 (by rw [toS_length]; exact q113)
        cases e113
        rw [hrd] at hx0 hx1
        have hge : decide ((l.length : Int) ≤ i) = false := decide_eq_false (by omega)
        replace hp := Keep.mk hp
        replace hi := Keep.mk hi
        by_cases e0 : (l[pre.length]).1 = x.1
        · by_cases e1 : (l[pre.length]).2.toList = x.2.toList
          · have c0 : ((l[pre.length]).1 == x.1) = true := beq_iff_eq.mpr e0
            have c0b : ((l[pre.length]).1 = x.1) = True := eq_true e0
            have c1 : ((l[pre.length]).2.toList == x.2.toList) = true := beq_iff_eq.mpr e1
            have hx : l[pre.length] = x := by
              obtain ⟨x1, ⟨⟨x2⟩⟩⟩ := x
              rcases hq : l[pre.length] with ⟨y1, ⟨⟨y2⟩⟩⟩
              rw [hq] at e0 e1
              rw [ByteArray.toList_eq, ByteArray.toList_eq] at e1
              simp only at e0 e1
              rw [e0, e1]
            have hon := Keep.mk (on_snoc hp.out hpl hx)
            clear hx e0 e1
            have hsucc : ((pre ++ [x]).length : Int) = i + 1 := by rw [hi.out]; simp
            replace hsucc := Keep.mk hsucc
            gi_wp2
            · rename_i hq
              obtain rfl := eq_of_beq hq
              exact ⟨From.setCell _ _ (by simp; omega) _, .inl ⟨rfl, bV.set _, hBx.setCell (by simp) _⟩⟩
            · exact ⟨From.setCell _ _ (by simp; omega) _, trivial, ⟨hon.out, by rw [hsucc.out]; exact bV.set _⟩, hBx.setCell (by simp) _⟩
          · have c0 : ((l[pre.length]).1 == x.1) = true := beq_iff_eq.mpr e0
            have c0b : ((l[pre.length]).1 = x.1) = True := eq_true e0
            have c1 : ((l[pre.length]).2.toList == x.2.toList) = false := beq_eq_false_iff_ne.mpr e1
            have hoff := Keep.mk (off_snoc (x := x) hpl (fun e => e1 (by rw [e])))
            clear e0 e1
            gi_wp2
            exact ⟨From.setCell _ _ (by simp; omega) _, .inr ⟨rfl, hoff.out⟩⟩
        · have c0 : ((l[pre.length]).1 == x.1) = false := beq_eq_false_iff_ne.mpr e0
          have c0b : ((l[pre.length]).1 = x.1) = False := eq_false e0
          have hoff := Keep.mk (off_snoc (x := x) hpl (fun e => e0 (by rw [e])))
          clear e0
          gi_wp2
          exact ⟨From.setCell _ _ (by simp; omega) _, .inr ⟨rfl, hoff.out⟩⟩
      · intro D2 V2 hD2 hfin hK2
        obtain ⟨m2, hm, bM2, hBV2⟩ : ∃ m2 : Int, (m2 = (l.length : Int) ∨ m2 = a1) ∧ Boxed V2 V1.heap.size 3 (.int .i64 m2) ∧ Below V1.heap.size V1 V2 := by
          rcases hfin with ⟨xs, rfl, ⟨_, h⟩, hb⟩ | ⟨pre, _, h, hb⟩
          · exact ⟨_, .inl rfl, h, hb⟩
          · exact ⟨_, .inr rfl, h, hb⟩
        have bW2 : Boxed V2 u2.heap.size 30 (.slice A l.length c) := (hBV2.block _ (by omega)).trans bW1
        have bR2 : Boxed V2 (w.heap.size + 1) 4 (.bool false) := (hBV2.block _ (by omega)).trans bR1
        have bL2 : Boxed V2 w.heap.size 3 (.int .i64 a1) := (hBV2.block _ (by omega)).trans bL1
        have hB2 : Below w.heap.size w V2 := hB1.trans (hBV2.mono (by omega))
        have hsz2 := hBV2.size
        have hK12 := (hBV2.block _ hD1V).trans hK1.out
        replace hK12 := Keep.mk hK12
        replace hK2 := Keep.mk hK2
        have cM2 := bM2.cell
        have cW2 := bW2.cell
        have cL2 := bL2.cell
        have cR2 := bR2.cell
        have fR2 := bR2.frozen
        clear hfin cM cW cL
        by_cases hq : m2 = (l.length : Int)
        · have q0 : (m2 == (l.length : Int)) = true := beq_iff_eq.mpr hq
          have q1 : (m2 = (l.length : Int)) = True := eq_true hq
          clear hm hq
          gi_wp2
          rw [roundsIn_succ]
          gi_wp2
          have hKa := (KeepsOthers.setCell V2 ⟨w.heap.size + 1, 0, none⟩ (.bool true)).same D2 _ hK2.out rfl
          have hKb := (KeepsOthers.setCell V2 ⟨w.heap.size + 1, 0, none⟩ (.bool true)).same D1 _ hK12.out rfl
          have hKc : ((V2.setCell ⟨w.heap.size + 1, 0, none⟩ (.bool true)).putObj D2 (.deferred none)).heap[D1]? = some (.deferred (some [])) := (World.putObj_heap_other (by omega)).trans hKb
          refine ⟨by simp, .inl ⟨_, _, rfl, run_takeDeferred hKa, ?_⟩⟩
          refine ⟨by simp, .inl ⟨_, _, rfl, run_takeDeferred hKc, ?_⟩⟩
          have b0 := bR2.set (.bool true)
          have b1 : Boxed ((V2.setCell ⟨w.heap.size + 1, 0, none⟩ (.bool true)).putObj D2 (.deferred none)) (w.heap.size + 1) 4 (.bool true) := (World.putObj_heap_other (by omega)).trans b0
          have b2 : Boxed (((V2.setCell ⟨w.heap.size + 1, 0, none⟩ (.bool true)).putObj D2 (.deferred none)).putObj D1 (.deferred none)) (w.heap.size + 1) 4 (.bool true) := (World.putObj_heap_other (by omega)).trans b1
          have hc5 := b2.cell
          refine ⟨.bool true, ?_, rfl, ((hB2.setCell (p := ⟨w.heap.size + 1, 0, none⟩) (by simp) _).trans (below_putObj _ _ (by omega))).trans (below_putObj _ _ (by omega))⟩
          simp [results, Try.f6, go_sem, hc5]
        · have q0 : (m2 == (l.length : Int)) = false := beq_eq_false_iff_ne.mpr hq
          have q1 : (m2 = (l.length : Int)) = False := eq_false hq
          obtain rfl : a1 = m2 := (hm.resolve_left hq).symm
          clear hm hq
          gi_wp2
          rw [roundsIn_succ]
          gi_wp2
          have hKa := (KeepsOthers.setCell V2 ⟨w.heap.size + 1, 0, none⟩ (.bool true)).same D2 _ hK2.out rfl
          have hKb := (KeepsOthers.setCell V2 ⟨w.heap.size + 1, 0, none⟩ (.bool true)).same D1 _ hK12.out rfl
          have hKc : ((V2.setCell ⟨w.heap.size + 1, 0, none⟩ (.bool true)).putObj D2 (.deferred none)).heap[D1]? = some (.deferred (some [])) := (World.putObj_heap_other (by omega)).trans hKb
          refine ⟨by simp, .inl ⟨_, _, rfl, run_takeDeferred hKa, ?_⟩⟩
          refine ⟨by simp, .inl ⟨_, _, rfl, run_takeDeferred hKc, ?_⟩⟩
          have b0 := bR2.set (.bool true)
          have b1 : Boxed ((V2.setCell ⟨w.heap.size + 1, 0, none⟩ (.bool true)).putObj D2 (.deferred none)) (w.heap.size + 1) 4 (.bool true) := (World.putObj_heap_other (by omega)).trans b0
          have b2 : Boxed (((V2.setCell ⟨w.heap.size + 1, 0, none⟩ (.bool true)).putObj D2 (.deferred none)).putObj D1 (.deferred none)) (w.heap.size + 1) 4 (.bool true) := (World.putObj_heap_other (by omega)).trans b1
          have hc5 := b2.cell
          refine ⟨.bool true, ?_, rfl, ((hB2.setCell (p := ⟨w.heap.size + 1, 0, none⟩) (by simp) _).trans (below_putObj _ _ (by omega))).trans (below_putObj _ _ (by omega))⟩
          simp [results, Try.f6, go_sem, hc5]
    · have q0 : (m == (l.length : Int)) = false := beq_eq_false_iff_ne.mpr hq
      have q1 : (m = (l.length : Int)) = False := eq_false hq
      obtain rfl : a1 = m := (hm.resolve_left hq).symm
      clear hm hq
      gi_wp2
      rw [roundsIn_succ]
      gi_wp2_with (first
        | (refine ⟨trivial, ?_⟩; gi_at_call 16; refine (all_in Fence.wide _ trivial rfl a0 _).mono ?_; rintro e u26 ⟨rfl, rfl⟩))
      have bI2 := (Boxed.new V1 3 (.int .i64 0)).alloc (.cells #[.int .i64 a0] 3)
      have bK2 := Boxed.new (V1.alloc (.cells #[.int .i64 0] 3)) 3 (.int .i64 a0)
      rw [World.size_alloc] at bK2
      have hG2 : Below V1.heap.size V1 ((V1.alloc (.cells #[.int .i64 0] 3)).alloc (.cells #[.int .i64 a0] 3)) := ((Below.refl _ V1).alloc (Nat.le_refl _) _).alloc (by simp) _
      have hs2 : ((V1.alloc (.cells #[.int .i64 0] 3)).alloc (.cells #[.int .i64 a0] 3)).heap.size = V1.heap.size + 1 + 1 := by simp
      obtain ⟨X2, hX2⟩ : ∃ X2, (V1.alloc (.cells #[.int .i64 0] 3)).alloc (.cells #[.int .i64 a0] 3) = X2 := ⟨_, rfl⟩
      rw [hX2] at bI2 bK2 hG2 hs2 ⊢
      clear hX2
      refine range_break rfl (by decide) (gf := 18) (lb := #[.pointer (some ⟨V1.heap.size + 1, 0, none⟩)]) rfl trivial (enters_of Try.func18 (by kernel_rfl) rfl)
        (hseq.out 8 (by decide) (V1.heap.size + 1) X2 (by omega) bK2.cell) (fun _ _ => trivial) (fun _ _ _ _ => trivial) (Below.refl _ _) (fun _ => rfl)
        (fun pre Wx => (pre <+: l ∧ Boxed Wx V1.heap.size 3 (.int .i64 (pre.length : Int))) ∧ Below V1.heap.size V1 Wx)
        (fun pre Wx => Boxed Wx V1.heap.size 3 (.int .i64 a1) ∧ Below V1.heap.size V1 Wx)
        (Off l) (fun pre hp ho => ho hp)
        (AbB.and (fun s A B hs hb => ⟨hs.1, (hb.block _ (by omega)).trans hs.2⟩) (AbB.below (by omega)))
        (AbB.and (fun s A B hs hb => (hb.block _ (by omega)).trans hs) (AbB.below (by omega)))
        ⟨⟨List.nil_prefix, bI2⟩, hG2⟩ ?_ ?_ ?_ ?_
      rotate_left
      · intro l2 x Wx K hK
        gi_wp2
        exact hK
      · rintro l2 pre x Wx ⟨⟨hp, bV⟩, hBx⟩ hpl hszx
        have cV := bV.cell
        have fV := bV.frozen
        have bWx : Boxed Wx u2.heap.size 30 (.slice A l.length c) := (hBx.block _ (by omega)).trans bW1
        have cW := bWx.cell
        have bRx : Boxed Wx (w.heap.size + 1) 4 (.bool false) := (hBx.block _ (by omega)).trans bR1
        have cR := bRx.cell
        have fR := bRx.frozen
        have bLx : Boxed Wx w.heap.size 3 (.int .i64 a1) := (hBx.block _ (by omega)).trans bL1
        have cL := bLx.cell
        have hCx := Kd.C_below hC31.out hBx
        have hrd := rd_toS l pre.length hpl
        have hlen := htab.out
        obtain ⟨i, hi⟩ : ∃ i : Int, i = (pre.length : Int) := ⟨_, rfl⟩
        rw [← hi] at cV hrd bV
        have p113 : 0 ≤ i := by omega
        have q113 : i < (l.length : Int) := by omega
        obtain ⟨ad, e113, hx0, hx1⟩ := at_T36 hCx i p113 (by rw [toS_length]; exact q113)
        cases e113
        rw [hrd] at hx0 hx1
        have hge : decide ((l.length : Int) ≤ i) = false := decide_eq_false (by omega)
        replace hp := Keep.mk hp
        replace hi := Keep.mk hi
        by_cases e0 : (l[pre.length]).1 = x.1
        · by_cases e1 : (l[pre.length]).2.toList = x.2.toList
          · have c0 : ((l[pre.length]).1 == x.1) = true := beq_iff_eq.mpr e0
            have c0b : ((l[pre.length]).1 = x.1) = True := eq_true e0
            have c1 : ((l[pre.length]).2.toList == x.2.toList) = true := beq_iff_eq.mpr e1
            have hx : l[pre.length] = x := by
              obtain ⟨x1, ⟨⟨x2⟩⟩⟩ := x
              rcases hq : l[pre.length] with ⟨y1, ⟨⟨y2⟩⟩⟩
              rw [hq] at e0 e1
              rw [ByteArray.toList_eq, ByteArray.toList_eq] at e1
              simp only at e0 e1
              rw [e0, e1]
            have hon := Keep.mk (on_snoc hp.out hpl hx)
            clear hx e0 e1
            have hsucc : ((pre ++ [x]).length : Int) = i + 1 := by rw [hi.out]; simp
            replace hsucc := Keep.mk hsucc
            gi_wp2
            · rename_i hq
              obtain rfl := eq_of_beq hq
              exact ⟨From.setCell _ _ (by simp; omega) _, .inl ⟨rfl, bV.set _, hBx.setCell (by simp) _⟩⟩
            · exact ⟨From.setCell _ _ (by simp; omega) _, trivial, ⟨hon.out, by rw [hsucc.out]; exact bV.set _⟩, hBx.setCell (by simp) _⟩
          · have c0 : ((l[pre.length]).1 == x.1) = true := beq_iff_eq.mpr e0
            have c0b : ((l[pre.length]).1 = x.1) = True := eq_true e0
            have c1 : ((l[pre.length]).2.toList == x.2.toList) = false := beq_eq_false_iff_ne.mpr e1
            have hoff := Keep.mk (off_snoc (x := x) hpl (fun e => e1 (by rw [e])))
            clear e0 e1
            gi_wp2
            exact ⟨From.setCell _ _ (by simp; omega) _, .inr ⟨rfl, hoff.out⟩⟩
        · have c0 : ((l[pre.length]).1 == x.1) = false := beq_eq_false_iff_ne.mpr e0
          have c0b : ((l[pre.length]).1 = x.1) = False := eq_false e0
          have hoff := Keep.mk (off_snoc (x := x) hpl (fun e => e0 (by rw [e])))
          clear e0
          gi_wp2
          exact ⟨From.setCell _ _ (by simp; omega) _, .inr ⟨rfl, hoff.out⟩⟩
      · intro D2 V2 hD2 hfin hK2
        obtain ⟨m2, hm, bM2, hBV2⟩ : ∃ m2 : Int, (m2 = (l.length : Int) ∨ m2 = a1) ∧ Boxed V2 V1.heap.size 3 (.int .i64 m2) ∧ Below V1.heap.size V1 V2 := by
          rcases hfin with ⟨xs, rfl, ⟨_, h⟩, hb⟩ | ⟨pre, _, h, hb⟩
          · exact ⟨_, .inl rfl, h, hb⟩
          · exact ⟨_, .inr rfl, h, hb⟩
        have bW2 : Boxed V2 u2.heap.size 30 (.slice A l.length c) := (hBV2.block _ (by omega)).trans bW1
        have bR2 : Boxed V2 (w.heap.size + 1) 4 (.bool false) := (hBV2.block _ (by omega)).trans bR1
        have bL2 : Boxed V2 w.heap.size 3 (.int .i64 a1) := (hBV2.block _ (by omega)).trans bL1
        have hB2 : Below w.heap.size w V2 := hB1.trans (hBV2.mono (by omega))
        have hsz2 := hBV2.size
        have hK12 := (hBV2.block _ hD1V).trans hK1.out
        replace hK12 := Keep.mk hK12
        replace hK2 := Keep.mk hK2
        have cM2 := bM2.cell
        have cW2 := bW2.cell
        have cL2 := bL2.cell
        have cR2 := bR2.cell
        have fR2 := bR2.frozen
        clear hfin cM cW cL
        by_cases hq : m2 = (l.length : Int)
        · have q0 : (m2 == (l.length : Int)) = true := beq_iff_eq.mpr hq
          have q1 : (m2 = (l.length : Int)) = True := eq_true hq
          clear hm hq
          gi_wp2
          rw [roundsIn_succ]
          gi_wp2
          have hKa := (KeepsOthers.setCell V2 ⟨w.heap.size + 1, 0, none⟩ (.bool true)).same D2 _ hK2.out rfl
          have hKb := (KeepsOthers.setCell V2 ⟨w.heap.size + 1, 0, none⟩ (.bool true)).same D1 _ hK12.out rfl
          have hKc : ((V2.setCell ⟨w.heap.size + 1, 0, none⟩ (.bool true)).putObj D2 (.deferred none)).heap[D1]? = some (.deferred (some [])) := (World.putObj_heap_other (by omega)).trans hKb
          refine ⟨by simp, .inl ⟨_, _, rfl, run_takeDeferred hKa, ?_⟩⟩
          refine ⟨by simp, .inl ⟨_, _, rfl, run_takeDeferred hKc, ?_⟩⟩
          have b0 := bR2.set (.bool true)
          have b1 : Boxed ((V2.setCell ⟨w.heap.size + 1, 0, none⟩ (.bool true)).putObj D2 (.deferred none)) (w.heap.size + 1) 4 (.bool true) := (World.putObj_heap_other (by omega)).trans b0
          have b2 : Boxed (((V2.setCell ⟨w.heap.size + 1, 0, none⟩ (.bool true)).putObj D2 (.deferred none)).putObj D1 (.deferred none)) (w.heap.size + 1) 4 (.bool true) := (World.putObj_heap_other (by omega)).trans b1
          have hc5 := b2.cell
          refine ⟨.bool true, ?_, rfl, ((hB2.setCell (p := ⟨w.heap.size + 1, 0, none⟩) (by simp) _).trans (below_putObj _ _ (by omega))).trans (below_putObj _ _ (by omega))⟩
          simp [results, Try.f6, go_sem, hc5]
        · have q0 : (m2 == (l.length : Int)) = false := beq_eq_false_iff_ne.mpr hq
          have q1 : (m2 = (l.length : Int)) = False := eq_false hq
          obtain rfl : a1 = m2 := (hm.resolve_left hq).symm
          clear hm hq
          gi_wp2
          rw [roundsIn_succ]
          gi_wp2
          have hKa := (KeepsOthers.setCell V2 ⟨w.heap.size + 1, 0, none⟩ (.bool true)).same D2 _ hK2.out rfl
          have hKb := (KeepsOthers.setCell V2 ⟨w.heap.size + 1, 0, none⟩ (.bool true)).same D1 _ hK12.out rfl
          have hKc : ((V2.setCell ⟨w.heap.size + 1, 0, none⟩ (.bool true)).putObj D2 (.deferred none)).heap[D1]? = some (.deferred (some [])) := (World.putObj_heap_other (by omega)).trans hKb
          refine ⟨by simp, .inl ⟨_, _, rfl, run_takeDeferred hKa, ?_⟩⟩
          refine ⟨by simp, .inl ⟨_, _, rfl, run_takeDeferred hKc, ?_⟩⟩
          have b0 := bR2.set (.bool true)
          have b1 : Boxed ((V2.setCell ⟨w.heap.size + 1, 0, none⟩ (.bool true)).putObj D2 (.deferred none)) (w.heap.size + 1) 4 (.bool true) := (World.putObj_heap_other (by omega)).trans b0
          have b2 : Boxed (((V2.setCell ⟨w.heap.size + 1, 0, none⟩ (.bool true)).putObj D2 (.deferred none)).putObj D1 (.deferred none)) (w.heap.size + 1) 4 (.bool true) := (World.putObj_heap_other (by omega)).trans b1
          have hc5 := b2.cell
          refine ⟨.bool true, ?_, rfl, ((hB2.setCell (p := ⟨w.heap.size + 1, 0, none⟩) (by simp) _).trans (below_putObj _ _ (by omega))).trans (below_putObj _ _ (by omega))⟩
          simp [results, Try.f6, go_sem, hc5]

end Go.Proofs.Ytbfdbleancempaa
