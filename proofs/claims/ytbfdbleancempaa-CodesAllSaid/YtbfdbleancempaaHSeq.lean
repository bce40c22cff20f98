/- An iterator that itself ranges over another one: what the two sides promise each other when the caller's own facts speak of blocks that lay ahead of the loop alone. No condition beyond the lemmas' own. -/
import Derived.Test.YtbfdbleancempaaProg
import Derived.RangeFuncNested
import Derived.RangeFuncWrites
import Derived.RangeFuncBound
import Derived.RangeFuncCalls
import Derived.RangeFuncLeaves
import Derived.Shelf.Abstract
import Derived.Shelf.RegionOpen
import Derived.WalkKit
import Derived.OwnWalkIn
import Derived.TacticsInMore
import Derived.LoopNIn
import Derived.LoopIn
namespace Go.Proofs.Ytbfdbleancempaa
open Go Go.RowKit Go.Shelf

/-- Whatever lies at or beyond B lies as it lay. -/
structure From (B : Nat) (W W' : World) : Prop where
  size : W.heap.size ≤ W'.heap.size
  same : ∀ k, B ≤ k → k < W.heap.size → W'.heap[k]? = W.heap[k]?
theorem From.refl (B : Nat) (W : World) : From B W W := ⟨Nat.le_refl _, fun _ _ _ => rfl⟩
theorem From.trans {B : Nat} {X Y Z : World} (h : From B X Y) (k : From B Y Z) : From B X Z :=
  ⟨Nat.le_trans h.size k.size, fun i h1 h2 => (k.same i h1 (Nat.lt_of_lt_of_le h2 h.size)).trans (h.same i h1 h2)⟩
theorem From.mono {B B' : Nat} {W W' : World} (h : From B W W') (hB : B ≤ B') : From B' W W' := ⟨h.size, fun k h1 h2 => h.same k (Nat.le_trans hB h1) h2⟩
theorem From.alloc (B : Nat) (W : World) (o : Obj) : From B W (W.alloc o) := ⟨by simp, fun k _ h2 => Below.heap_alloc W o k h2⟩
theorem From.setCell (B : Nat) (W : World) {p : Addr} (hp : p.block < B) (u : Value) : From B W (W.setCell p u) :=
  ⟨by simp [World.setCell], fun k h1 _ => Below.heap_setCell W p u k (by omega)⟩
theorem From.below {B : Nat} {W W' : World} (h : Below W.heap.size W W') : From B W W' := ⟨h.size, fun k _ h2 => h.block k h2⟩
theorem From.putObj {B l : Nat} (W : World) (o : Obj) (hl : l < B) : From B W (W.putObj l o) := ⟨by simp, fun k h1 _ => World.putObj_heap_other (by omega)⟩
theorem From.cell {B : Nat} {W W' : World} (h : From B W W') {p : Addr} {v : Value} (hp : B ≤ p.block) (hv : W.cell? p = some v) : W'.cell? p = some v := by
  have hl : p.block < W.heap.size := by
    unfold World.cell? at hv
    cases ho : W.heap[p.block]? with
    | none => simp [ho] at hv
    | some o => exact (Array.getElem?_eq_some_iff.1 ho).1
  exact (World.cell?_of_block (w := W) (h.same p.block hp hl)).trans hv

/-- What speaks of blocks below B alone. -/
def AbB {β : Type} (B : Nat) (J : β → World → Prop) : Prop := ∀ s W W', J s W → Below B W W' → J s W'
theorem AbB.and {β : Type} {B : Nat} {J K : β → World → Prop} (h : AbB B J) (k : AbB B K) : AbB B (fun s W => J s W ∧ K s W) := fun s W W' hs hb => ⟨h s W W' hs.1 hb, k s W W' hs.2 hb⟩
theorem AbB.pure {β : Type} (B : Nat) (p : β → Prop) : AbB B (fun s (_ : World) => p s) := fun _ _ _ hs _ => hs
theorem AbB.cell {β : Type} {B : Nat} {p : Addr} (hp : p.block < B) (f : β → Value) : AbB B (fun s W => W.cell? p = some (f s)) := fun _ _ _ hs hb => (hb.cell hp).trans hs
theorem AbB.frozen {β : Type} {B : Nat} {p : Addr} (hp : p.block < B) : AbB B (fun (_ : β) W => W.frozen? p = false) := fun _ _ _ hs hb => (hb.frozen hp).trans hs
theorem AbB.below {β : Type} {B n₀ : Nat} {w : World} (h : n₀ ≤ B) : AbB B (fun (_ : β) W => Below n₀ w W) := fun _ _ _ hs hb => hs.trans (hb.mono h)
theorem below_putObj {B l : Nat} (W : World) (o : Obj) (h : B ≤ l) : Below B W (W.putObj l o) := ⟨rfl, rfl, rfl, by simp, fun k hk => World.putObj_heap_other (by omega)⟩

/-- The contract of an iterator: whatever the caller's invariant, if it speaks of blocks that lay when the call began; a round keeps all that has been laid since. -/
def SeqOwn {α : Type} (F : Fence) (n : Nat) (P : Program) (g : Nat) (lb : Array Value) (encs : α → Array Value) (Kp : World → World → Prop) (S Sp : List α → Prop) (N : Nat) (w : World) : Prop :=
  ∀ (l : Nat) (J Jx : List α → World → Prop) (W : World), Below w.heap.size w W → AbB W.heap.size J → AbB W.heap.size Jx →
    (∀ pre x W1, J pre W1 → pre.length < N → W.heap.size ≤ W1.heap.size → YieldAt F (n - 1) P l (encs x) W1 fun e W' =>
      (e = .returned (.bool true) ∧ J (pre ++ [x]) W' ∧ Kp W1 W' ∧ From W.heap.size W1 W') ∨ (e = .returned (.bool false) ∧ Jx (pre ++ [x]) W' ∧ From W.heap.size W1 W')) →
    J [] W →
    CallsIn F n P g (#[.func (.yield l) #[] #[]] ++ lb) W fun e W' => (∃ v, e = .returned v) ∧ ((∃ xs, S xs ∧ J xs W') ∨ (∃ pre, Sp pre ∧ Jx pre W'))

/-- How a round's body is left. -/
def seqPost {α : Type} (B : Nat) (Kp : World → World → Prop) (I : List α → World → Prop) (Ix : Code → List α → World → Prop) (xs : List α) (W : World) : Exit → Act → World → Prop
  | .normal, _, W' => From B W W' ∧ Kp W W' ∧ I xs W'
  | .ret, _, W' => From B W W' ∧ Ix .ret xs W'
  | .exit id, _, W' => From B W W' ∧ Ix (.exit id) xs W'
  | .goto t, _, W' => From B W W' ∧ Ix (.goto t) xs W'
  | .panic _, _, _ => False
  | .outgrown, _, _ => False

variable {F : Fence} {n : Nat} {P : Program}

/-- The statement 'for .. := range it', it having its contract. -/
theorem range_seq {α : Type} {g : Operand} {ps : Array Tmp} {assign body : Code} {Q : Exit → Act → World → Prop} {a : Act} {w : World}
    (hro : F.round = none) (h1 : 1 ≤ n) {gf : Nat} {lb : Array Value} (hg : a.eval g = .func (.func gf) #[] lb) (hFg : F.fn gf) (eg : ∀ args w, (callFunc gf args).run P w = .ok (.enter gf args) w)
    {encs : α → Array Value} {Kp : World → World → Prop} {S Sp : List α → Prop} {N : Nat} {w0 : World} (hseq : SeqOwn F (n - 1) P gf lb encs Kp S Sp N w0)
    (hKt : ∀ {A B C : World}, Kp A B → Kp B C → Kp A C) (hKb : ∀ (W : World) (l : Nat) (o : Obj), w.heap.size ≤ l → Kp W (W.putObj l o)) (hb0 : Below w0.heap.size w0 w) (hps : ∀ x, (encs x).size = ps.size)
    (I : List α → World → Prop) (Ix : Code → List α → World → Prop) (hI : AbB w.heap.size I) (hIx : ∀ c, AbB w.heap.size (Ix c)) (h0 : I [] w) (a₁ : α → Act)
    (hassign : ∀ (l : Nat) (x : α) (W : World) (K : Act → World → Prop), K (a₁ x) W →
      assign.wpIn (F.inRound l) (n - 1 - 1) P (Exit.then K (fun _ _ _ => False)) { tmps := (ps.zip (encs x)).foldl (fun t (p, v) => t.setIfInBounds p v) a.tmps, defers := [] } W)
    (hbody : ∀ (l : Nat) (pre : List α) (x : α) (W : World), I pre W → pre.length < N → w.heap.size ≤ W.heap.size → body.wpIn (F.inRound l) (n - 1 - 1) P (seqPost w.heap.size Kp I Ix (pre ++ [x]) W) (a₁ x) W)
    (hdone : ∀ (D : Nat) (xs : List α) (W : World), w.heap.size ≤ D → S xs → I xs W → W.heap[D]? = some (.deferred (some [])) → Q .normal { a with defers := { target := .collected D, args := #[] } :: a.defers } W)
    (hstop : ∀ (D : Nat) (c : Code) (pre : List α) (W : World), w.heap.size ≤ D → Sp pre → Ix c pre W → W.heap[D]? = some (.deferred (some [])) → c.wpIn F n P Q { a with defers := { target := .collected D, args := #[] } :: a.defers } W) :
    (Code.rangeFunc g ps assign body).wpIn F n P Q a w := by
  refine wpIn_rangeFunc fun fn hfn => ?_
  rw [hro]
  have hrec : ∃ rec : LoopState → Option Code → Loop, rec = fun st pe => { state := st, pending := pe, fn, tmps := a.tmps, params := ps, assign, body, defers := w.heap.size } := ⟨_, rfl⟩
  obtain ⟨rec, hrec⟩ := hrec
  have hW1 : ∃ W1, (w.alloc (.deferred (some []))).alloc (.loop (rec .ready none)) = W1 := ⟨_, rfl⟩
  obtain ⟨W1, hW1⟩ := hW1
  have hs1 : W1.heap.size = w.heap.size + 1 + 1 := by rw [← hW1, World.size_alloc, World.size_alloc]
  have hB1 : Below w.heap.size w W1 := by
    rw [← hW1]; exact ((Below.refl _ w).alloc (Nat.le_refl _) _).alloc (by simp) _
  have hL1 : W1.heap[w.heap.size + 1]? = some (.loop (rec .ready none)) := by
    rw [← hW1, ← World.size_alloc w (.deferred (some []))]; exact World.alloc_heap_new _ _
  have hK1 : W1.heap[w.heap.size]? = some (.deferred (some [])) := by
    rw [← hW1, Below.heap_alloc _ _ _ (by simp)]; exact World.alloc_heap_new w _
  refine ⟨w.heap.size + 1, [{ target := .collected w.heap.size, args := #[] }], W1, { target := .fn (.func gf) lb, args := #[.func (.yield (w.heap.size + 1)) #[] #[]] }, W1, gf,
    #[.func (.yield (w.heap.size + 1)) #[] #[]] ++ lb, W1, ?_, ?_, ?_, ?_, fun _ => h1, ?_⟩
  · rw [← hW1, hrec]; exact run_enterLoop_outer _ _ _ _ _
  · simp only [resolve, hg]; simp [go_sem]
  · intro f' hf'; simp [Target.leads] at hf'; subst hf'; exact hFg
  · simp [invoke, go_sem, eg]
  have round : ∀ pre x W, (I pre W ∧ W.heap[w.heap.size + 1]? = some (.loop (rec .ready none)) ∧ W.heap[w.heap.size]? = some (.deferred (some []))) → pre.length < N → W1.heap.size ≤ W.heap.size →
      YieldAt F (n - 1 - 1) P (w.heap.size + 1) (encs x) W fun e W' =>
        (e = .returned (.bool true) ∧ (I (pre ++ [x]) W' ∧ W'.heap[w.heap.size + 1]? = some (.loop (rec .ready none)) ∧ W'.heap[w.heap.size]? = some (.deferred (some []))) ∧ Kp W W' ∧ From W1.heap.size W W') ∨
        (e = .returned (.bool false) ∧ (∃ c, Ix c (pre ++ [x]) W' ∧ W'.heap[w.heap.size + 1]? = some (.loop (rec .done (some c))) ∧ W'.heap[w.heap.size]? = some (.deferred (some []))) ∧ From W1.heap.size W W') := by
    rintro pre x W ⟨hi, hl, hk⟩ hlen hsz
    have hy := run_yield (P := P) (args := encs x) hl (by rw [hrec]; exact hps x)
    rw [hrec] at hy
    refine ⟨fn, _, assign, body, hy, roundIn_of_wpIn hfn (hassign _ x W _ ⟨_, run_beginRound hl (by rw [hrec]), ?_⟩)⟩
    clear hy
    have hWb : ∃ Wb, W.putObj (w.heap.size + 1) (.loop { rec .ready none with state := .busy }) = Wb := ⟨_, rfl⟩
    obtain ⟨Wb, hWb⟩ := hWb
    rw [hWb]
    have hlb : Wb.heap[w.heap.size + 1]? = some (.loop { rec .ready none with state := .busy }) := by rw [← hWb]; exact World.putObj_heap_same (by omega)
    have hkb : Wb.heap[w.heap.size]? = some (.deferred (some [])) := by rw [← hWb, World.putObj_heap_other (by omega)]; exact hk
    have hBb : Below w.heap.size W Wb := by rw [← hWb]; exact below_putObj W _ (by omega)
    have hFb : From W1.heap.size W Wb := by rw [← hWb]; exact From.putObj W _ (by omega)
    have hKb0 : Kp W Wb := by rw [← hWb]; exact hKb _ _ _ (by omega)
    have hszb : Wb.heap.size = W.heap.size := by rw [← hWb]; simp
    refine wpIn_mono (hbody (w.heap.size + 1) pre x Wb (hI _ _ _ hi hBb) hlen (by omega)) ?_
    have fin : ∀ (jump : Option Code) (W3 : World), From w.heap.size Wb W3 → ∃ W4, (Instr.endRound (w.heap.size + 1) jump).run P W3 = .ok (.bool jump.isNone) W4 ∧
        W4.heap[w.heap.size + 1]? = some (.loop (rec (if jump.isNone then .ready else .done) jump)) ∧ W4.heap[w.heap.size]? = some (.deferred (some [])) ∧ Below w.heap.size W3 W4 ∧ From W1.heap.size W W4 ∧ Kp W3 W4 := by
      intro jump W3 hf
      have hl3 := (hf.same _ (by omega) (by omega)).trans hlb
      have hk3 := (hf.same _ (Nat.le_refl _) (by omega)).trans hkb
      have hlt : w.heap.size + 1 < W3.heap.size := by have := hf.size; omega
      have he := run_endRound (P := P) jump hl3
      refine ⟨_, he, ?_, ?_, below_putObj _ _ (by omega), (hFb.trans (hf.mono (by omega))).trans (From.putObj _ _ (by omega)), hKb _ _ _ (by omega)⟩
      · rw [World.putObj_heap_same hlt]; rw [hrec]
      · rw [World.putObj_heap_other (by omega)]; exact hk3
    intro e a3 W3 hp
    cases e with
    | normal =>
      obtain ⟨hf, hkp, hi3⟩ := hp
      obtain ⟨W4, he, hl4, hk4, hb4, hf4, hkp4⟩ := fin none W3 hf
      exact ⟨_, W4, he, .inl ⟨rfl, ⟨hI _ _ _ hi3 hb4, hl4, hk4⟩, hKt hKb0 (hKt hkp hkp4), hf4⟩⟩
    | ret =>
      obtain ⟨hf, hi3⟩ := hp
      obtain ⟨W4, he, hl4, hk4, hb4, hf4, _⟩ := fin (some .ret) W3 hf
      exact ⟨_, W4, he, .inr ⟨rfl, ⟨.ret, hIx _ _ _ _ hi3 hb4, hl4, hk4⟩, hf4⟩⟩
    | exit id =>
      obtain ⟨hf, hi3⟩ := hp
      obtain ⟨W4, he, hl4, hk4, hb4, hf4, _⟩ := fin (some (.exit id)) W3 hf
      exact ⟨_, W4, he, .inr ⟨rfl, ⟨.exit id, hIx _ _ _ _ hi3 hb4, hl4, hk4⟩, hf4⟩⟩
    | goto t =>
      obtain ⟨hf, hi3⟩ := hp
      obtain ⟨W4, he, hl4, hk4, hb4, hf4, _⟩ := fin (some (.goto t)) W3 hf
      exact ⟨_, W4, he, .inr ⟨rfl, ⟨.goto t, hIx _ _ _ _ hi3 hb4, hl4, hk4⟩, hf4⟩⟩
    | panic ch => exact hp.elim
    | outgrown => exact hp.elim
  have hat : ∀ {A B : World} {k : Nat} {o : Obj}, k < W1.heap.size → A.heap[k]? = some o → Below W1.heap.size A B → B.heap[k]? = some o := fun h1 h2 h3 => (h3.block _ h1).trans h2
  refine (hseq (w.heap.size + 1)
    (fun pre W => I pre W ∧ W.heap[w.heap.size + 1]? = some (.loop (rec .ready none)) ∧ W.heap[w.heap.size]? = some (.deferred (some [])))
    (fun pre W => ∃ c, Ix c pre W ∧ W.heap[w.heap.size + 1]? = some (.loop (rec .done (some c))) ∧ W.heap[w.heap.size]? = some (.deferred (some [])))
    W1 (hb0.trans (hB1.mono hb0.size))
    (fun s A B hs hb => ⟨hI s A B hs.1 (hb.mono (by omega)), hat (by omega) hs.2.1 hb, hat (by omega) hs.2.2 hb⟩)
    (fun s A B hs hb => by obtain ⟨c, hc, h2, h3⟩ := hs; exact ⟨c, hIx c s A B hc (hb.mono (by omega)), hat (by omega) h2 hb, hat (by omega) h3 hb⟩)
    round ⟨hI _ _ _ h0 hB1, hL1, hK1⟩).mono ?_
  rintro e W2 ⟨⟨v, rfl⟩, ⟨xs, hS, hi, hl, hk⟩ | ⟨pre, hSp, c, hi, hl, hk⟩⟩
  · have he := run_endLoop (P := P) hl (by rw [hrec]; simp)
    refine ⟨none, _, by rw [he, hrec], hdone _ xs _ (Nat.le_refl _) hS (hI _ _ _ hi (below_putObj _ _ (by omega))) ?_⟩
    rw [World.putObj_heap_other (by omega)]; exact hk
  · have he := run_endLoop (P := P) hl (by rw [hrec]; simp)
    refine ⟨some c, _, by rw [he, hrec], hstop _ c pre _ (Nat.le_refl _) hSp (hIx c _ _ _ hi (below_putObj _ _ (by omega))) ?_⟩
    rw [World.putObj_heap_other (by omega)]; exact hk
end Go.Proofs.Ytbfdbleancempaa
