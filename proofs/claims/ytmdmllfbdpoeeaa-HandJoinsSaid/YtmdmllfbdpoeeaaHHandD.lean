/- What the cells of a hand hold, and what a store or an append to one of its rows leaves; no condition beyond the lemmas' own. -/
import Derived.Test.YtmdmllfbdpoeeaaHHandC
namespace Go.Proofs.Ytmdmllfbdpoeeaa
open Go Go.RowKit Go.Maps Go.Proofs.Hand Go.Proofs.YtmdmllfbdpoeeaaW.PrintWords Go.Proofs.YtmdmllfbdpoeeaaW.PrintLast Go.Proofs.YtmdmllfbdpoeeaaW.PrintMore
set_option maxRecDepth 100000
set_option linter.unusedVariables false
set_option linter.unusedSimpArgs false

/-- The blocks of a hand. -/
def ownOf (g : Nat) (vD vS : Value) (k : Nat) : Prop := k = g ∨ some k = vD.ownBlock ∨ some k = vS.ownBlock
structure HandRaw (W : World) (B g : Nat) (vD vS : Value) (d : List Int) (l : List S39) (most need next eat err : Int) : Prop where
  blk : W.heap[g]? = some (.cells #[.int .i64 most, vD, vS, .int .i64 need, .int .i64 next, .int .i64 eat, .int .i64 err] 57 (0, 0))
  dat : (Kd.int .u8).R 5 W B (fun k => some k = vD.ownBlock) vD d
  seg : Kd.R k39 39 W B (fun k => some k = vS.ownBlock) vS l
  low : B ≤ g
theorem HandRaw.lt {W : World} {B g : Nat} {vD vS : Value} {d : List Int} {l : List S39} {most need next eat err : Int} (h : HandRaw W B g vD vS d l most need next eat err) {k : Nat} (hk : ownOf g vD vS k) : k < W.heap.size := by
  rcases hk with rfl | hk | hk
  · exact (Array.getElem?_eq_some_iff.1 h.blk).1
  · exact Kd.R_lt h.dat k hk.symm
  · exact Kd.R_lt h.seg k hk.symm
theorem HandRaw.lowAll {W : World} {B g : Nat} {vD vS : Value} {d : List Int} {l : List S39} {most need next eat err : Int} (h : HandRaw W B g vD vS d l most need next eat err) {k : Nat} (hk : ownOf g vD vS k) : B ≤ k := by
  rcases hk with rfl | hk | hk
  · exact h.low
  · exact Kd.R_base h.dat k hk.symm
  · exact Kd.R_base h.seg k hk.symm
theorem HandRaw.keep {W W' : World} {B g : Nat} {vD vS : Value} {d : List Int} {l : List S39} {most need next eat err : Int} (h : HandRaw W B g vD vS d l most need next eat err) (hm : ∀ k, ownOf g vD vS k → k < W.heap.size → W'.heap[k]? = W.heap[k]?) : HandRaw W' B g vD vS d l most need next eat err :=
  ⟨(hm g (.inl rfl) (h.lt (.inl rfl))).trans h.blk, Kd.R_step h.dat (fun k hk hlt => hm k (.inr (.inl hk)) hlt), Kd.R_step h.seg (fun k hk hlt => hm k (.inr (.inr hk)) hlt), h.low⟩
theorem HandRaw.dg {W : World} {B g : Nat} {vD vS : Value} {d : List Int} {l : List S39} {most need next eat err : Int} (h : HandRaw W B g vD vS d l most need next eat err) : some g ≠ vD.ownBlock := Kd.R_ne h.dat h.blk (by decide)
theorem HandRaw.sg {W : World} {B g : Nat} {vD vS : Value} {d : List Int} {l : List S39} {most need next eat err : Int} (h : HandRaw W B g vD vS d l most need next eat err) : some g ≠ vS.ownBlock := Kd.R_ne h.seg h.blk (by decide)
theorem HandRaw.ds {W : World} {B g : Nat} {vD vS : Value} {d : List Int} {l : List S39} {most need next eat err : Int} (h : HandRaw W B g vD vS d l most need next eat err) (k : Nat) (h1 : some k = vD.ownBlock) (h2 : some k = vS.ownBlock) : False := by
  obtain ⟨cells, hc⟩ := Kd.R_typed h.seg k h2.symm
  exact Kd.R_ne h.dat hc (by decide) h1
/-- A store into one of its own cells but the rows'. -/
theorem HandRaw.set {W : World} {B g : Nat} {vD vS : Value} {d : List Int} {l : List S39} {most need next eat err : Int} (h : HandRaw W B g vD vS d l most need next eat err) (i : Nat) (v : Value) {most' need' next' eat' err' : Int}
    (hc : (#[.int .i64 most, vD, vS, .int .i64 need, .int .i64 next, .int .i64 eat, .int .i64 err] : Array Value).setIfInBounds i v = #[.int .i64 most', vD, vS, .int .i64 need', .int .i64 next', .int .i64 eat', .int .i64 err']) : HandRaw (W.setCell ⟨g, i, none⟩ v) B g vD vS d l most' need' next' eat' err' := by
  refine ⟨?_, Kd.R_far h.dat (fun k hk e => h.dg (by rw [← hk, e])) v, Kd.R_far h.seg (fun k hk e => h.sg (by rw [← hk, e])) v, h.low⟩
  rw [setCell7 h.blk i v, hc]
/-- An append to the rows of places, stored. -/
theorem HandRaw.putS {W w1 : World} {B g : Nat} {vD vS v1 : Value} {d : List Int} {l l1 : List S39} {most need next eat err : Int} {ok : Nat → Prop} (h : HandRaw W B g vD vS d l most need next eat err) (hr : Kd.R k39 39 w1 B ok v1 l1) (hg : W.grownBy w1 vS.ownBlock)
    (hat : v1.ownBlock = vS.ownBlock ∨ ∃ b, v1.ownBlock = some b ∧ W.heap.size ≤ b) :
    HandRaw (w1.setCell ⟨g, 2, none⟩ v1) B g vD v1 d l1 most need next eat err ∧ Kp W (w1.setCell ⟨g, 2, none⟩ v1) (ownOf g vD vS) ∧ ∀ k, ownOf g vD v1 k → ownOf g vD vS k ∨ W.heap.size ≤ k := by
  have hb1 : w1.heap[g]? = _ := (hg.block g (h.lt (.inl rfl)) h.sg).trans h.blk
  have hd1 : (Kd.int .u8).R 5 w1 B (fun k => some k = vD.ownBlock) vD d := Kd.R_grown h.dat hg (fun k hk e => h.ds k hk e)
  have hgv : some g ≠ v1.ownBlock := Kd.R_ne hr hb1 (by decide)
  refine ⟨⟨?_, Kd.R_far hd1 (fun k hk e => h.dg (by rw [← hk, e])) v1, Kd.R_far (Kd.R_tight rfl hr) (fun k hk e => hgv (by rw [← hk, e])) v1, h.low⟩, ?_, ?_⟩
  · rw [setCell7 hb1 2 v1]
    rfl
  · exact (Kp.of_grown hg (Kp.refl W _) (fun k hk => .inl (.inr (.inr hk.symm)))).setCell (p := ⟨g, 2, none⟩) (.inl (.inl rfl)) v1
  · rintro k (hk | hk | hk)
    · exact .inl (.inl hk)
    · exact .inl (.inr (.inl hk))
    · rcases hat with e | ⟨b, e, hb⟩
      · exact .inl (.inr (.inr (hk.trans e)))
      · rw [e] at hk
        injection hk with hk
        exact .inr (by omega)
/-- An append to the bytes, stored. -/
theorem HandRaw.putD {W w1 : World} {B g : Nat} {vD vS v1 : Value} {d d1 : List Int} {l : List S39} {most need next eat err : Int} {ok : Nat → Prop} (h : HandRaw W B g vD vS d l most need next eat err) (hr : (Kd.int .u8).R 5 w1 B ok v1 d1) (hg : W.grownBy w1 vD.ownBlock)
    (hat : v1.ownBlock = vD.ownBlock ∨ ∃ b, v1.ownBlock = some b ∧ W.heap.size ≤ b) :
    HandRaw (w1.setCell ⟨g, 1, none⟩ v1) B g v1 vS d1 l most need next eat err ∧ Kp W (w1.setCell ⟨g, 1, none⟩ v1) (ownOf g vD vS) ∧ ∀ k, ownOf g v1 vS k → ownOf g vD vS k ∨ W.heap.size ≤ k := by
  have hb1 : w1.heap[g]? = _ := (hg.block g (h.lt (.inl rfl)) h.dg).trans h.blk
  have hd1 : Kd.R k39 39 w1 B (fun k => some k = vS.ownBlock) vS l := Kd.R_grown h.seg hg (fun k hk e => h.ds k e hk)
  have hgv : some g ≠ v1.ownBlock := Kd.R_ne hr hb1 (by decide)
  refine ⟨⟨?_, Kd.R_far (Kd.R_tight rfl hr) (fun k hk e => hgv (by rw [← hk, e])) v1, Kd.R_far hd1 (fun k hk e => h.sg (by rw [← hk, e])) v1, h.low⟩, ?_, ?_⟩
  · rw [setCell7 hb1 1 v1]
    rfl
  · exact (Kp.of_grown hg (Kp.refl W _) (fun k hk => .inl (.inr (.inl hk.symm)))).setCell (p := ⟨g, 1, none⟩) (.inl (.inl rfl)) v1
  · rintro k (hk | hk | hk)
    · exact .inl (.inl hk)
    · rcases hat with e | ⟨b, e, hb⟩
      · exact .inl (.inr (.inl (hk.trans e)))
      · rw [e] at hk
        injection hk with hk
        exact .inr (by omega)
    · exact .inl (.inr (.inr hk))
/-- What was held is gone. -/
theorem HandRaw.gone {W : World} {B g : Nat} {vD vS : Value} {d : List Int} {l : List S39} {most need next eat err : Int} (h : HandRaw W B g vD vS d l most need next eat err) :
    HandRaw ((W.setCell ⟨g, 1, none⟩ (.slice none 0 0)).setCell ⟨g, 2, none⟩ (.slice none 0 0)) B g (.slice none 0 0) (.slice none 0 0) [] [] most need next eat err ∧ Kp W ((W.setCell ⟨g, 1, none⟩ (.slice none 0 0)).setCell ⟨g, 2, none⟩ (.slice none 0 0)) (ownOf g vD vS) ∧ ∀ k, ownOf g (.slice none 0 0) (.slice none 0 0) k → ownOf g vD vS k := by
  refine ⟨⟨?_, Kd.R_nil _ _ _ _ _, Kd.R_nil _ _ _ _ _, h.low⟩, ((Kp.refl W _).setCell (p := ⟨g, 1, none⟩) (.inl (.inl rfl)) _).setCell (p := ⟨g, 2, none⟩) (.inl (.inl rfl)) _, ?_⟩
  · rw [setCell7 (setCell7 h.blk 1 _) 2 _]
    rfl
  · rintro k (hk | hk | hk)
    · exact .inl hk
    · simp [Value.ownBlock] at hk
    · simp [Value.ownBlock] at hk
def segL (ps : List Int) : List S39 := (segsOf ps).map fun x => ⟨x.1, x.2⟩
/-- What the other cells say. -/
structure HSt.Fits (s : HSt) (need next : Int) : Prop where
  len : s.places.length = s.data.length
  need : 4 ≤ s.data.length → need = needOf s.data ∧ (s.data.length : Int) < needOf s.data
  next : s.data ≠ [] → lastOr none s.places = some (next - 1)
  gone : s.err ≠ 0 → s.data = []
  byte : ∀ c ∈ s.data, 0 ≤ c ∧ c ≤ 255
  far : ∀ p ∈ s.places, 0 ≤ p ∧ p ≤ 5000000000000
def HandIs (W : World) (B g : Nat) (vD vS : Value) (s : HSt) : Prop := ∃ need next, HandRaw W B g vD vS s.data (segL s.places) s.most need next s.eat s.err ∧ s.Fits need next
theorem HandIs.keep {W W' : World} {B g : Nat} {vD vS : Value} {s : HSt} (h : HandIs W B g vD vS s) (hm : ∀ k, ownOf g vD vS k → k < W.heap.size → W'.heap[k]? = W.heap[k]?) : HandIs W' B g vD vS s :=
  let ⟨need, next, hr, hf⟩ := h; ⟨need, next, hr.keep hm, hf⟩
end Go.Proofs.Ytmdmllfbdpoeeaa
