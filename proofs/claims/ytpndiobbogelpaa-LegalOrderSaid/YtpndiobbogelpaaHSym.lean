/- Code without branches, its values told by what they mean (a form, a row of forms, a variable that holds a form, a map of forms): one operation at a time. No condition beyond the lemmas' own. -/
import Derived.Test.YtpndiobbogelpaaProg
import Derived.Test.YtpndiobbogelpaaHKinds
import Derived.Test.YtpndiobbogelpaaHMaps
import Derived.Great.BuildSlice
import Derived.Deep.MidRow
import Derived.Laws.NewFold
import Derived.Orders
import Derived.Shelf.Abstract
import Derived.Test.YtpndiobbogelpaaWInv
namespace Go.Proofs.Ytpndiobbogelpaa
open Go Go.RowKit Go.Maps Go.Proofs.Hand Go.Proofs.YtpndiobbogelpaaW.PrintWords Go.Proofs.YtpndiobbogelpaaW.PrintLast Go.Proofs.YtpndiobbogelpaaW.PrintMore
set_option maxRecDepth 100000

abbrev Form := S53
abbrev kForm : Kd Form := k53
/-- Block k may still be turned: a map that is being filled, a variable that has been laid and not been written. -/
def inM (ms : List (Nat × Nat)) (k : Nat) : Prop := ∃ t, (t, k) ∈ ms
def FormIn (W : World) (ms : List (Nat × Nat)) (v : Value) (f : Form) : Prop := ∃ cs : List Value, v = .agg cs.toArray ∧ Kd.FK kForm W (fun k => ¬ inM ms k) f cs
def BoxIn (W : World) (ms : List (Nat × Nat)) (v : Value) (f : Form) : Prop :=
  ∃ (b : Nat) (cs : List Value), v = .pointer (some ⟨b, 0, none⟩) ∧ ¬ inM ms b ∧ W.heap[b]? = some (.cells cs.toArray 53 (0, 0)) ∧ Kd.FK kForm W (fun k => ¬ inM ms k) f cs

/-- What a slot holds. -/
inductive SV
  | any
  | int (n : Int)
  | form (f : Form)
  | forms (l : List Form)
  | ints (l : List Int)
  | fresh
  | box (f : Form)
  | tab
  | fn (g : Nat)
  | clos (g : Nat) (f : Form)
def tabSlot : Nat := 1000000
def Sat (W : World) (ms : List (Nat × Nat)) (t : Nat) (v : Value) : SV → Prop
  | .any => True
  | .int n => v = .int .i64 n
  | .form f => FormIn W ms v f
  | .forms l => ∃ A c, v = .slice A l.length c ∧ l.length ≤ c ∧ (A = none → c = 0) ∧ Kd.F kForm W (fun k => ¬ inM ms k) A l.length l
  | .ints l => ∃ A c, v = .slice A l.length c ∧ l.length ≤ c ∧ Kd.F (Kd.int .i64) W (fun k => ¬ inM ms k) A l.length l
  | .fresh => ∃ (b : Nat) (cs : Array Value), v = .pointer (some ⟨b, 0, none⟩) ∧ (t, b) ∈ ms ∧ W.heap[b]? = some (.cells cs 53 (0, 0)) ∧ cs.size = 6
  | .box f => BoxIn W ms v f
  | .tab => ∃ m, v = .map (some m) ∧ (tabSlot, m) ∈ ms
  | .fn g => v = .func (.func g) #[] #[]
  | .clos g f => ∃ p, v = .func (.func g) #[] #[p] ∧ BoxIn W ms p f

theorem FormIn.step {W W1 : World} {ms ms' : List (Nat × Nat)} {v : Value} {f : Form} (h : FormIn W ms v f) (hk : ∀ k, k < W.heap.size → ¬ inM ms k → W1.heap[k]? = W.heap[k]?) (hm : ∀ k, k < W.heap.size → ¬ inM ms k → ¬ inM ms' k) : FormIn W1 ms' v f := by
  obtain ⟨cs, e, h⟩ := h
  exact ⟨cs, e, Kd.FK_mono (Kd.FK_step (Kd.FK_bound h) (fun k hk' _ => hk k hk'.2 hk'.1)) (fun k hk' => hm k hk'.2 hk'.1)⟩
theorem BoxIn.step {W W1 : World} {ms ms' : List (Nat × Nat)} {v : Value} {f : Form} (h : BoxIn W ms v f) (hk : ∀ k, k < W.heap.size → ¬ inM ms k → W1.heap[k]? = W.heap[k]?) (hm : ∀ k, k < W.heap.size → ¬ inM ms k → ¬ inM ms' k) : BoxIn W1 ms' v f := by
  obtain ⟨b, cs, e, hb, hc, h⟩ := h
  have hlt := (Array.getElem?_eq_some_iff.1 hc).1
  exact ⟨b, cs, e, hm b hlt hb, (hk b hlt hb).trans hc, Kd.FK_mono (Kd.FK_step (Kd.FK_bound h) (fun k hk' _ => hk k hk'.2 hk'.1)) (fun k hk' => hm k hk'.2 hk'.1)⟩
/-- A step that turns only what may be turned, and of that nothing that slot t has laid. -/
theorem Sat.step {W W1 : World} {ms ms' : List (Nat × Nat)} {t : Nat} {v : Value} {sv : SV} (h : Sat W ms t v sv) (hk : ∀ k, k < W.heap.size → ¬ inM ms k → W1.heap[k]? = W.heap[k]?) (hm : ∀ k, k < W.heap.size → ¬ inM ms k → ¬ inM ms' k)
    (ht : ∀ k, (t, k) ∈ ms → (t, k) ∈ ms' ∧ W1.heap[k]? = W.heap[k]?) (htab : ∀ k, (tabSlot, k) ∈ ms → (tabSlot, k) ∈ ms') : Sat W1 ms' t v sv := by
  cases sv with
  | any => trivial
  | int n => exact h
  | form f => exact FormIn.step h hk hm
  | forms l =>
    obtain ⟨A, c, e, hl, hc, h⟩ := h
    exact ⟨A, c, e, hl, hc, Kd.F_mono (Kd.F_step (Kd.F_bound h) (fun k hk' _ => hk k hk'.2 hk'.1)) (fun k hk' => hm k hk'.2 hk'.1)⟩
  | ints l =>
    obtain ⟨A, c, e, hl, h⟩ := h
    exact ⟨A, c, e, hl, Kd.F_mono (Kd.F_step (Kd.F_bound h) (fun k hk' _ => hk k hk'.2 hk'.1)) (fun k hk' => hm k hk'.2 hk'.1)⟩
  | fresh =>
    obtain ⟨b, cs, e, hb, hc, hs⟩ := h
    exact ⟨b, cs, e, (ht b hb).1, (ht b hb).2.trans hc, hs⟩
  | box f => exact BoxIn.step h hk hm
  | tab =>
    obtain ⟨m, e, hm'⟩ := h
    exact ⟨m, e, htab m hm'⟩
  | fn g => exact h
  | clos g f =>
    obtain ⟨p, e, h⟩ := h
    exact ⟨p, e, BoxIn.step h hk hm⟩

/-- What a map of forms is over: keys, as values and as literals. -/
structure Keys where
  κ : Type
  enc : κ → Value
  lit : κ → Lit
  ok : κ → Prop
  deq : DecidableEq κ
  mt : Nat
  kt : Nat
  law : Keyed Try.prog kt
  und : Try.prog.underlying mt = some (.map kt 53)
  key : ∀ x, ok x → keyOf Try.prog kt (enc x) = some (lit x)
  same : ∀ x y, ok x → ok y → (lit x).sameKey (lit y) = decide (x = y)
  back : ∀ kl, (∃ v, keyOf Try.prog kt v = some kl) → ∃ x, ok x ∧ kl = lit x
  dec : Value → Option κ
  dec_ok : ∀ v x, dec v = some x → ok x ∧ v = enc x

/-- The map at block m tells T's forms. -/
def TabAt (Y : Keys) (W : World) (ms : List (Nat × Nat)) (m n : Nat) (T : Y.κ → Option Form) : Prop :=
  ∃ M : Lit → Option Value, Hand.IsMap W Try.prog Y.kt m n M ∧ ∀ x, Y.ok x → match T x with
    | none => M (Y.lit x) = none
    | some f => ∃ v, M (Y.lit x) = some v ∧ FormIn W ms v f
theorem TabAt.step {Y : Keys} {W W1 : World} {ms ms' : List (Nat × Nat)} {m n : Nat} {T : Y.κ → Option Form} (h : TabAt Y W ms m n T) (hb : W1.heap[m]? = W.heap[m]?) (hk : ∀ k, k < W.heap.size → ¬ inM ms k → W1.heap[k]? = W.heap[k]?) (hm : ∀ k, k < W.heap.size → ¬ inM ms k → ¬ inM ms' k) : TabAt Y W1 ms' m n T := by
  obtain ⟨M, hM, hT⟩ := h
  refine ⟨M, hM.move hb, fun x hx => ?_⟩
  have := hT x hx
  cases hTx : T x with
  | none => rw [hTx] at this; exact this
  | some f =>
    rw [hTx] at this
    obtain ⟨v, h1, h2⟩ := this
    exact ⟨v, h1, h2.step hk hm⟩
def upd (Y : Keys) (T : Y.κ → Option Form) (x : Y.κ) (f : Form) : Y.κ → Option Form := fun z => if (Y.deq z x).decide then some f else T z
/-- What a list of entries tells: the first that is met. -/
def look (Y : Keys) : List (Y.κ × Form) → Y.κ → Option Form
  | [], _ => none
  | x :: l, z => if (Y.deq z x.1).decide then some x.2 else look Y l z
/-- Where code began: the world; the blocks of others that are to be kept away from. -/
structure Start where
  w : World
  out : Nat → Prop
/-- The state: what each slot holds; what the map tells, if there is one. -/
structure Good (Y : Keys) (N : Nat) (W0 : Start) (Γ : Nat → SV) (T : Option (List (Y.κ × Form))) (a : Act) (W : World) (ms : List (Nat × Nat)) : Prop where
  sz : a.tmps.size = N
  hN : N ≤ tabSlot
  df : a.defers = []
  slots : ∀ t v, a.tmps[t]? = some v → Sat W ms t v (Γ t)
  n1 : (ms.map (·.1)).Nodup
  n2 : (ms.map (·.2)).Nodup
  lt : ∀ t k, (t, k) ∈ ms → k < W.heap.size ∧ (t ≤ tabSlot → W0.w.heap.size ≤ k)
  own : ∀ t k, (t, k) ∈ ms → t ≤ tabSlot → (t = tabSlot ∧ T.isSome = true) ∨ (t < N ∧ Γ t = .fresh)
  out : ∀ k, W0.out k → ∃ t, tabSlot < t ∧ (t, k) ∈ ms
  tab : ∀ l, T = some l → ∃ m, (tabSlot, m) ∈ ms ∧ TabAt Y W ms m l.length (look Y l)
  below : Below W0.w.heap.size W0.w W

theorem nodup_fst {ms : List (Nat × Nat)} (h : (ms.map (·.1)).Nodup) {t k k' : Nat} (h1 : (t, k) ∈ ms) (h2 : (t, k') ∈ ms) : k = k' := by
  induction ms with
  | nil => cases h1
  | cons x r ih =>
    rw [List.map_cons, List.nodup_cons] at h
    rcases List.mem_cons.1 h1 with e1 | h1 <;> rcases List.mem_cons.1 h2 with e2 | h2
    · rw [← e1] at e2; exact (Prod.mk.inj e2).2.symm
    · exact absurd (List.mem_map.2 ⟨_, h2, rfl⟩) (by rw [← e1] at h; exact h.1)
    · exact absurd (List.mem_map.2 ⟨_, h1, rfl⟩) (by rw [← e2] at h; exact h.1)
    · exact ih h.2 h1 h2
theorem nodup_snd {ms : List (Nat × Nat)} (h : (ms.map (·.2)).Nodup) {t t' k : Nat} (h1 : (t, k) ∈ ms) (h2 : (t', k) ∈ ms) : t = t' := by
  induction ms with
  | nil => cases h1
  | cons x r ih =>
    rw [List.map_cons, List.nodup_cons] at h
    rcases List.mem_cons.1 h1 with e1 | h1 <;> rcases List.mem_cons.1 h2 with e2 | h2
    · rw [← e1] at e2; exact (Prod.mk.inj e2).1.symm
    · exact absurd (List.mem_map.2 ⟨_, h2, rfl⟩) (by rw [← e1] at h; exact h.1)
    · exact absurd (List.mem_map.2 ⟨_, h1, rfl⟩) (by rw [← e2] at h; exact h.1)
    · exact ih h.2 h1 h2

def put1 (Γ : Nat → SV) (t : Nat) (sv : SV) : Nat → SV := fun t' => if t' = t then sv else Γ t'
theorem put1_ne {Γ : Nat → SV} {d t : Nat} {sv : SV} (h : t ≠ d) : put1 Γ d sv t = Γ t := if_neg h
section
variable {Y : Keys} {N : Nat} {W0 : Start} {W : World} {Γ : Nat → SV} {T : Option (List (Y.κ × Form))} {a : Act} {ms : List (Nat × Nat)}
theorem put_get {a : Act} {t t' : Nat} {v v' : Value} (h : (a.put (some t) v).tmps[t']? = some v') : (t' = t ∧ v' = v) ∨ (t' ≠ t ∧ a.tmps[t']? = some v') := by
  simp only [Act.put] at h
  by_cases e : t = t'
  · subst e
    left
    rw [Array.getElem?_setIfInBounds_self] at h
    split at h
    · exact ⟨rfl, (Option.some.inj h).symm⟩
    · cases h
  · right
    rw [Array.getElem?_setIfInBounds_ne e] at h
    exact ⟨fun h' => e h'.symm, h⟩
/-- A value that was made of new blocks alone goes into slot d. -/
theorem Good.next (h : Good Y N W0 Γ T a W ms) {W1 : World} {d : Nat} {v : Value} {sv : SV} (hb : Below W.heap.size W W1) (hd : ∀ k, (d, k) ∉ ms) (hs : Sat W1 ms d v sv) : Good Y N W0 (put1 Γ d sv) T (a.put (some d) v) W1 ms := by
  have hk : ∀ k, k < W.heap.size → ¬ inM ms k → W1.heap[k]? = W.heap[k]? := fun k hk _ => hb.block k hk
  refine ⟨by simp [Act.put, h.sz], h.hN, h.df, fun t v' hv => ?_, h.n1, h.n2, fun t k hm => ⟨Nat.lt_of_lt_of_le (h.lt t k hm).1 hb.size, (h.lt t k hm).2⟩, fun t k hm hle => (h.own t k hm hle).imp id (fun h2 => ⟨h2.1, (put1_ne (fun (e : t = d) => hd k (e ▸ hm))).trans h2.2⟩), h.out, fun l e => ?_, h.below.trans (hb.mono h.below.size)⟩
  · rcases put_get hv with ⟨rfl, rfl⟩ | ⟨hne, hv⟩
    · simp only [put1, if_pos]; exact hs
    · simp only [put1, if_neg hne]
      exact (h.slots t v' hv).step hk (fun _ _ h => h) (fun k hm => ⟨hm, hb.block k (h.lt t k hm).1⟩) (fun _ h => h)
  · obtain ⟨m, hm, ht⟩ := h.tab l e
    exact ⟨m, hm, ht.step (hb.block m (h.lt _ _ hm).1) hk (fun _ _ h => h)⟩
/-- A variable is laid: slot d points to it. -/
theorem Good.laid (h : Good Y N W0 Γ T a W ms) {d : Nat} {cs : Array Value} (hd : ∀ k, (d, k) ∉ ms) (hs : cs.size = 6) (hdN : d < N) :
    Good Y N W0 (put1 Γ d .fresh) T (a.put (some d) (.pointer (some ⟨W.heap.size, 0, none⟩))) (W.alloc (.cells cs 53)) ((d, W.heap.size) :: ms) := by
  have hb : Below W.heap.size W (W.alloc (.cells cs 53)) := (Below.refl _ _).alloc (Nat.le_refl _) _
  have hk : ∀ k, k < W.heap.size → ¬ inM ms k → (W.alloc (.cells cs 53)).heap[k]? = W.heap[k]? := fun k hk _ => hb.block k hk
  have hm' : ∀ k, k < W.heap.size → ¬ inM ms k → ¬ inM ((d, W.heap.size) :: ms) k := by
    rintro k hlt hn ⟨t, ht⟩
    rcases List.mem_cons.1 ht with e | ht
    · have := (Prod.mk.inj e).2; omega
    · exact hn ⟨t, ht⟩
  refine ⟨by simp [Act.put, h.sz], h.hN, h.df, fun t v' hv => ?_, ?_, ?_, fun t k hm => ?_, fun t k hm hle => ?_, fun k hk => (by obtain ⟨t, h1, h2⟩ := h.out k hk; exact ⟨t, h1, List.mem_cons_of_mem _ h2⟩), fun l e => ?_, h.below.trans (hb.mono h.below.size)⟩
  · rcases put_get hv with ⟨rfl, rfl⟩ | ⟨hne, hv⟩
    · simp only [put1, if_pos]
      exact ⟨_, cs, rfl, List.mem_cons_self, heap_at W _ _ rfl, hs⟩
    · simp only [put1, if_neg hne]
      exact (h.slots t v' hv).step hk hm' (fun k hm => ⟨List.mem_cons_of_mem _ hm, hb.block k (h.lt t k hm).1⟩) (fun _ h => List.mem_cons_of_mem _ h)
  · rw [List.map_cons, List.nodup_cons]
    refine ⟨fun hm => ?_, h.n1⟩
    obtain ⟨⟨t, k⟩, hp, e⟩ := List.mem_map.1 hm
    simp only at e
    subst e
    exact hd k hp
  · rw [List.map_cons, List.nodup_cons]
    refine ⟨fun hm => ?_, h.n2⟩
    obtain ⟨⟨t, k⟩, hp, e⟩ := List.mem_map.1 hm
    have := (h.lt t k hp).1
    simp only at e
    omega
  · rcases List.mem_cons.1 hm with e | hm
    · obtain ⟨rfl, rfl⟩ := Prod.mk.inj e
      exact ⟨by simp, fun _ => h.below.size⟩
    · exact ⟨by have := (h.lt t k hm).1; simp; omega, (h.lt t k hm).2⟩
  · rcases List.mem_cons.1 hm with e | hm
    · obtain ⟨rfl, rfl⟩ := Prod.mk.inj e
      exact .inr ⟨hdN, by rw [put1, if_pos rfl]⟩
    · exact (h.own t k hm hle).imp id (fun h2 => ⟨h2.1, (put1_ne (fun (e : t = d) => hd k (e ▸ hm))).trans h2.2⟩)
  · obtain ⟨m, hm, ht⟩ := h.tab l e
    exact ⟨m, List.mem_cons_of_mem _ hm, ht.step (hb.block m (h.lt _ _ hm).1) hk hm'⟩
/-- Of what lay, only block m is turned. -/
structure But (m : Nat) (W W1 : World) : Prop where
  os : W1.os = W.os
  tape : W1.tape = W.tape
  output : W1.output = W.output
  size : W.heap.size ≤ W1.heap.size
  block : ∀ k, k < W.heap.size → k ≠ m → W1.heap[k]? = W.heap[k]?
theorem But.trans {m : Nat} {X Y Z : World} (h : But m X Y) (k : But m Y Z) : But m X Z :=
  ⟨k.os.trans h.os, k.tape.trans h.tape, k.output.trans h.output, Nat.le_trans h.size k.size, fun i hi hne => (k.block i (Nat.lt_of_lt_of_le hi h.size) hne).trans (h.block i hi hne)⟩
theorem But.of_below {m : Nat} {X Y : World} (h : Below X.heap.size X Y) : But m X Y := ⟨h.os, h.tape, h.output, h.size, fun i hi _ => h.block i hi⟩
theorem But.of_grown {m : Nat} {X Y : World} (h : X.grownBy Y (some m)) : But m X Y := ⟨h.os, h.tape, h.output, h.size, fun i hi hne => h.block i hi (fun e => hne (Option.some.inj e))⟩
theorem But.below {m B : Nat} {W0 X Y : World} (h : But m X Y) (h0 : Below B W0 X) (hB : B ≤ X.heap.size) (hm : B ≤ m) : Below B W0 Y :=
  h0.trans ⟨h.os, h.tape, h.output, h.size, fun i hi => h.block i (by omega) (by omega)⟩
theorem Good.turned (h : Good Y N W0 Γ T a W ms) {m : Nat} {l : List (Y.κ × Form)} {W1 : World} (hm : (tabSlot, m) ∈ ms) (hk : But m W W1) (ht : TabAt Y W1 ms m l.length (look Y l)) : Good Y N W0 Γ (some l) a W1 ms := by
  refine ⟨h.sz, h.hN, h.df, fun t v hv => ?_, h.n1, h.n2, fun t k hm => ⟨Nat.lt_of_lt_of_le (h.lt t k hm).1 hk.size, (h.lt t k hm).2⟩, fun t k hm hle => (h.own t k hm hle).imp (fun h2 => ⟨h2.1, rfl⟩) id, h.out, fun l' e => ?_, hk.below h.below h.below.size ((h.lt _ _ hm).2 (Nat.le_refl _))⟩
  · have htl : t < N := by rw [← h.sz]; exact (Array.getElem?_eq_some_iff.1 hv).1
    refine (h.slots t v hv).step (fun k hlt hn => hk.block k hlt (fun e => hn ⟨_, e ▸ hm⟩)) (fun _ _ h => h) (fun k hkm => ⟨hkm, hk.block k (h.lt t k hkm).1 (fun e => ?_)⟩) (fun _ h => h)
    have := nodup_snd h.n2 (e ▸ hkm) hm
    have := h.hN
    omega
  · obtain rfl := Option.some.inj e
    exact ⟨m, hm, ht⟩
/-- A variable that was laid is written. -/
theorem Good.stored (h : Good Y N W0 Γ T a W ms) {p : Nat} {vp v : Value} {f : Form} (hp : a.tmps[p]? = some vp) (hΓ : Γ p = .fresh) (hv : FormIn W ms v f) :
    ∃ (b : Nat) (cs old : Array Value), vp = .pointer (some ⟨b, 0, none⟩) ∧ v = .agg cs ∧ W.heap[b]? = some (.cells old 53 (0, 0)) ∧ old.size = cs.size ∧ cs.size = 6 ∧ cs.all (·.oneCell') = true ∧
      ∃ ms', (∀ t k, (t, k) ∈ ms' → (t, k) ∈ ms) ∧ Good Y N W0 (put1 Γ p (.box f)) T a (W.setRow b cs) ms' := by
  have hsp := h.slots p vp hp
  rw [hΓ] at hsp
  obtain ⟨b, old, rfl, hb, hold, hs⟩ := hsp
  obtain ⟨cs, rfl, hf⟩ := hv
  have hlen : cs.length = 6 := kForm.K_len (Kd.FK_now hf)
  have hone := kForm.K_one (Kd.FK_now hf)
  have hpl : p < N := by rw [← h.sz]; exact (Array.getElem?_eq_some_iff.1 hp).1
  have hpt : p ≠ tabSlot := by have := h.hN; omega
  refine ⟨b, cs.toArray, old, rfl, rfl, hold, by rw [hs]; simp [hlen], by simp [hlen], ?_, ms.filter (fun x => decide (x.2 ≠ b)), fun t k hk => (List.mem_filter.1 hk).1, ?_⟩
  · rw [Array.all_eq_true_iff_forall_mem]; intro u hu; exact hone u (by simpa using hu)
  have hrow := setRow_heap W b old cs.toArray 53 (0, 0) hold
  have hoth : ∀ k, k ≠ b → (W.setRow b cs.toArray).heap[k]? = W.heap[k]? := fun k hk => setRow_other W b k cs.toArray hk
  have hsz : (W.setRow b cs.toArray).heap.size = W.heap.size := size_setRow W b cs.toArray
  have hmem : ∀ t k, (t, k) ∈ ms.filter (fun x => decide (x.2 ≠ b)) ↔ (t, k) ∈ ms ∧ k ≠ b := fun t k => by rw [List.mem_filter]; simp
  have hin : ∀ k, ¬ inM ms k → ¬ inM (ms.filter (fun x => decide (x.2 ≠ b))) k := fun k hn ⟨t, ht⟩ => hn ⟨t, ((hmem t k).1 ht).1⟩
  have hkeep : ∀ k, k < W.heap.size → ¬ inM ms k → (W.setRow b cs.toArray).heap[k]? = W.heap[k]? := fun k _ hn => hoth k (fun e => hn ⟨p, e ▸ hb⟩)
  have htabne : ∀ k, (tabSlot, k) ∈ ms → k ≠ b := fun k hk e => hpt (nodup_snd h.n2 hb (e ▸ hk))
  refine ⟨h.sz, h.hN, h.df, fun t v hv => ?_, List.Nodup.sublist (List.filter_sublist.map _) h.n1, List.Nodup.sublist (List.filter_sublist.map _) h.n2, fun t k hk => ?_, fun t k hk hle => ?_, fun k hk => ?_, fun l e => ?_, ?_⟩
  · by_cases e : t = p
    · subst e
      simp only [put1, if_pos]
      rw [hp] at hv
      obtain rfl := Option.some.inj hv
      refine ⟨b, cs, rfl, fun ⟨t', ht'⟩ => ((hmem t' b).1 ht').2 rfl, hrow, Kd.FK_mono (Kd.FK_step hf (fun k hk hlt => hkeep k hlt hk)) hin⟩
    · simp only [put1, if_neg e]
      refine (h.slots t v hv).step hkeep (fun k _ hn => hin k hn) (fun k hk => ?_) (fun k hk => (hmem _ _).2 ⟨hk, htabne k hk⟩)
      have hne : k ≠ b := fun e' => e (nodup_snd h.n2 (e' ▸ hk) hb)
      exact ⟨(hmem _ _).2 ⟨hk, hne⟩, hoth k hne⟩
  · rw [hsz]; exact h.lt t k ((hmem t k).1 hk).1
  · have hk1 := (hmem t k).1 hk
    exact (h.own t k hk1.1 hle).imp id (fun h2 => ⟨h2.1, (put1_ne (fun (e : t = p) => hk1.2 (nodup_fst h.n1 (e ▸ hk1.1) hb))).trans h2.2⟩)
  · obtain ⟨t, h1, h2⟩ := h.out k hk
    refine ⟨t, h1, (hmem t k).2 ⟨h2, fun e => ?_⟩⟩
    have := nodup_snd h.n2 (e ▸ h2) hb
    have := h.hN
    omega
  · obtain ⟨m, hm, ht⟩ := h.tab l e
    exact ⟨m, (hmem _ _).2 ⟨hm, htabne m hm⟩, ht.step (hoth m (htabne m hm)) hkeep (fun k _ hn => hin k hn)⟩
  · refine h.below.trans ⟨rfl, rfl, rfl, by rw [hsz]; exact Nat.le_refl _, fun k hk => hoth k (fun e => ?_)⟩
    have := (h.lt p b hb).2 (by have := h.hN; omega)
    omega
/-- The map is made. -/
theorem Good.made (h : Good Y N W0 Γ T a W ms) {d : Nat} (hd : ∀ k, (d, k) ∉ ms) (hno : ∀ k, (tabSlot, k) ∉ ms) (hT : T = none) :
    Good Y N W0 (put1 Γ d .tab) (some []) (a.put (some d) (.map (some W.heap.size))) (W.alloc (.map #[] 0)) ((tabSlot, W.heap.size) :: ms) := by
  subst hT
  have hb : Below W.heap.size W (W.alloc (.map #[] 0)) := (Below.refl _ _).alloc (Nat.le_refl _) _
  have hk : ∀ k, k < W.heap.size → ¬ inM ms k → (W.alloc (.map #[] 0)).heap[k]? = W.heap[k]? := fun k hk _ => hb.block k hk
  have hm' : ∀ k, k < W.heap.size → ¬ inM ms k → ¬ inM ((tabSlot, W.heap.size) :: ms) k := by
    rintro k hlt hn ⟨t, ht⟩
    rcases List.mem_cons.1 ht with e | ht
    · have := (Prod.mk.inj e).2; omega
    · exact hn ⟨t, ht⟩
  refine ⟨by simp [Act.put, h.sz], h.hN, h.df, fun t v' hv => ?_, ?_, ?_, fun t k hm => ?_, fun t k hm hle => ?_, fun k hk => (by obtain ⟨t, h1, h2⟩ := h.out k hk; exact ⟨t, h1, List.mem_cons_of_mem _ h2⟩), fun l e => ?_, h.below.trans (hb.mono h.below.size)⟩
  · rcases put_get hv with ⟨rfl, rfl⟩ | ⟨hne, hv⟩
    · simp only [put1, if_pos]
      exact ⟨_, rfl, List.mem_cons_self⟩
    · simp only [put1, if_neg hne]
      exact (h.slots t v' hv).step hk hm' (fun k hm => ⟨List.mem_cons_of_mem _ hm, hb.block k (h.lt t k hm).1⟩) (fun _ h => List.mem_cons_of_mem _ h)
  · rw [List.map_cons, List.nodup_cons]
    refine ⟨fun hm => ?_, h.n1⟩
    obtain ⟨⟨t, k⟩, hp, e⟩ := List.mem_map.1 hm
    simp only at e
    subst e
    exact hno k hp
  · rw [List.map_cons, List.nodup_cons]
    refine ⟨fun hm => ?_, h.n2⟩
    obtain ⟨⟨t, k⟩, hp, e⟩ := List.mem_map.1 hm
    have := (h.lt t k hp).1
    simp only at e
    omega
  · rcases List.mem_cons.1 hm with e | hm
    · obtain ⟨rfl, rfl⟩ := Prod.mk.inj e
      exact ⟨by simp, fun _ => h.below.size⟩
    · exact ⟨by have := (h.lt t k hm).1; simp; omega, (h.lt t k hm).2⟩
  · rcases List.mem_cons.1 hm with e | hm
    · obtain ⟨rfl, rfl⟩ := Prod.mk.inj e
      exact .inl ⟨rfl, rfl⟩
    · exact (h.own t k hm hle).imp (fun h2 => ⟨h2.1, rfl⟩) (fun h2 => ⟨h2.1, (put1_ne (fun (e : t = d) => hd k (e ▸ hm))).trans h2.2⟩)
  · obtain rfl := Option.some.inj e
    exact ⟨_, List.mem_cons_self, _, isMap_made W Try.prog Y.kt, fun x _ => rfl⟩
/-- A form goes into the map. -/
theorem TabAt.update {m n : Nat} {T' : Y.κ → Option Form} (h : TabAt Y W ms m n T') (hn : n < maxLen) {x : Y.κ} (hx : Y.ok x) {v : Value} {f : Form} (hv : FormIn W ms v f) (hm : inM ms m) :
    ∃ W1, (Instr.mapUpdate Y.mt (.map (some m)) (Y.enc x) v).run Try.prog W = .ok () W1 ∧ But m W W1 ∧ TabAt Y W1 ms m (n + 1) (upd Y T' x f) := by
  obtain ⟨M, hM, hT⟩ := h
  obtain ⟨W1, hrun, hM1, hg⟩ := hM.update Y.law Y.und hn v (Y.key x hx)
  have hk : ∀ k, k < W.heap.size → ¬ inM ms k → W1.heap[k]? = W.heap[k]? := fun k hlt hn => hg.block k hlt (fun e => hn (by rw [Option.some.inj e]; exact hm))
  refine ⟨W1, hrun, But.of_grown hg, _, hM1, fun z hz => ?_⟩
  have hd := Y.same z x hz hx
  unfold upd
  by_cases e : z = x
  · subst e
    rw [@decide_eq_true _ (Y.deq z z) rfl]
    simp only [if_true]
    refine ⟨v, ?_, hv.step hk (fun _ _ h => h)⟩
    rw [if_pos (by rw [hd]; simp)]
  · rw [@decide_eq_false _ (Y.deq z x) e]
    simp only [Bool.false_eq_true, if_false]
    have h0 := hT z hz
    cases hTz : T' z with
    | none =>
      rw [hTz] at h0
      simp only at h0 ⊢
      rw [if_neg (by rw [hd]; simpa using e)]
      exact h0
    | some g =>
      rw [hTz] at h0
      obtain ⟨u, h1, h2⟩ := h0
      refine ⟨u, ?_, h2.step hk (fun _ _ h => h)⟩
      rw [if_neg (by rw [hd]; simpa using e)]
      exact h1
end
end Go.Proofs.Ytpndiobbogelpaa

namespace Go.Proofs.Ytpndiobbogelpaa
open Go Go.RowKit Go.Maps Go.Proofs.Hand Go.Proofs.YtpndiobbogelpaaW.PrintWords Go.Proofs.YtpndiobbogelpaaW.PrintLast Go.Proofs.YtpndiobbogelpaaW.PrintMore
set_option maxRecDepth 100000

def argOf (N : Nat) (Γ : Nat → SV) : Operand → SV
  | .tmp t => if t < N then Γ t else .any
  | .const (.int .i64 n) => .int n
  | .const (.slice none 0 0) => .forms []
  | .func g => .fn g
  | _ => .any
def SV.plain : SV → Bool
  | .fresh => false
  | _ => true
theorem Sat.slot {W : World} {ms : List (Nat × Nat)} {t t' : Nat} {v : Value} {sv : SV} (hp : sv.plain = true) (h : Sat W ms t v sv) : Sat W ms t' v sv := by
  cases sv <;> first | exact h | cases hp
section
variable {Y : Keys} {N : Nat} {W0 : Start} {W : World} {Γ : Nat → SV} {T : Option (List (Y.κ × Form))} {a : Act} {ms : List (Nat × Nat)}
theorem Good.arg (h : Good Y N W0 Γ T a W ms) (x : Operand) (hp : (argOf N Γ x).plain = true) (t' : Nat) : Sat W ms t' (a.eval x) (argOf N Γ x) := by
  cases x with
  | tmp t =>
    simp only [argOf] at hp ⊢
    by_cases hlt : t < N
    · rw [if_pos hlt] at hp ⊢
      have hlt' : t < a.tmps.size := by rw [h.sz]; exact hlt
      refine Sat.slot hp (h.slots t _ ?_)
      simp [Act.eval, Array.getD_eq_getD_getElem?, Array.getElem?_eq_getElem hlt']
    · rw [if_neg hlt]; trivial
  | const v =>
    unfold argOf
    split
    · rename_i e; cases e
    · rename_i e; cases e; rfl
    · rename_i e; cases e; exact ⟨none, 0, rfl, Nat.le_refl _, fun _ => rfl, Kd.F_nil _ _ _⟩
    · rename_i e; cases e
    · trivial
  | global g => trivial
  | func g => rfl
def Sats (W : World) (ms : List (Nat × Nat)) : List Value → List SV → Prop
  | [], [] => True
  | v :: vs, s :: ss => Sat W ms tabSlot v s ∧ Sats W ms vs ss
  | _, _ => False
def argsOf (N : Nat) (Γ : Nat → SV) (xs : List Operand) : List SV := xs.map (argOf N Γ)
theorem Good.args (h : Good Y N W0 Γ T a W ms) : ∀ (xs : List Operand), ((argsOf N Γ xs).all SV.plain) = true → Sats W ms (xs.map a.eval) (argsOf N Γ xs)
  | [], _ => trivial
  | x :: xs, hp => by
    simp only [argsOf, List.map_cons, List.all_cons, Bool.and_eq_true] at hp
    exact ⟨h.arg x hp.1 _, h.args xs hp.2⟩

/-- What calls do: of functions that return a value; of closures; of the one that fills the map. -/
structure CallTab (Y : Keys) where
  abs : Nat → List SV → Option SV
  clo : Nat → Form → List SV → Option SV
  isPut : Nat → Bool
  puts : Nat → List SV → Option (List (Y.κ × Form))
  abs_in : ∀ g svs r, abs g svs = some r → Enters Try.prog g
  clo_in : ∀ g f svs r, clo g f svs = some r → Enters Try.prog g
  puts_in : ∀ g svs l, puts g svs = some l → Enters Try.prog g
  abs_ok : ∀ g svs r args W ms, abs g svs = some r → Sats W ms args svs → (∀ t k, (t, k) ∈ ms → k < W.heap.size) →
    Calls Try.prog g args.toArray W fun e W' => ∃ v, e = .returned v ∧ Below W.heap.size W W' ∧ ∀ t, Sat W' ms t v r
  clo_ok : ∀ g f svs r args p W ms, clo g f svs = some r → Sats W ms args svs → BoxIn W ms p f → (∀ t k, (t, k) ∈ ms → k < W.heap.size) →
    Calls Try.prog g (args ++ [p]).toArray W fun e W' => ∃ v, e = .returned v ∧ Below W.heap.size W W' ∧ ∀ t, Sat W' ms t v r
  puts_ok : ∀ g svs l args W ms m l0, puts g svs = some l → Sats W ms args svs → (∀ t k, (t, k) ∈ ms → k < W.heap.size) → (∀ k, (tabSlot, k) ∈ ms → k = m) → (tabSlot, m) ∈ ms → TabAt Y W ms m l0.length (look Y l0) → (l ++ l0).length ≤ 1000 →
    Calls Try.prog g args.toArray W fun e W' => ∃ v, e = .returned v ∧ But m W W' ∧ TabAt Y W' ms m (l ++ l0).length (look Y (l ++ l0))

/-- What an operation does: the slot that it fills (or the variable, told by its slot, that it writes); whether it makes the map; what it lays into it. -/
structure Eff (κ : Type) where
  slot : Option (Nat × SV)
  mkT : Bool
  ins : List (κ × Form)
def Eff.onΓ {κ : Type} (e : Eff κ) (Γ : Nat → SV) : Nat → SV := match e.slot with | some x => put1 Γ x.1 x.2 | none => Γ
def Eff.onT {κ : Type} (e : Eff κ) (T : Option (List (κ × Form))) : Option (List (κ × Form)) := if e.mkT = true then some [] else T.map (e.ins ++ ·)

def formsOf : List SV → Option (List Form)
  | [] => some []
  | .form f :: r => (formsOf r).map (f :: ·)
  | _ :: _ => none
def intsOf : List SV → Option (List Int)
  | [] => some []
  | .int n :: r => (intsOf r).map (n :: ·)
  | _ :: _ => none
def isAny : SV → Bool
  | .any => true
  | _ => false

def putCall {Y : Keys} (C : CallTab Y) (c : Call) : Bool := match c.callee with
  | .value (.func g) => C.isPut g
  | _ => false
def effDst (Y : Keys) (C : CallTab Y) (N : Nat) (Γ : Nat → SV) (hasT : Bool) (d : Nat) : Op → Option (Eff Y.κ)
  | .move x => if (argOf N Γ x).plain then some ⟨some (d, argOf N Γ x), false, []⟩ else none
  | .assign x => if (argOf N Γ x).plain then some ⟨some (d, argOf N Γ x), false, []⟩ else none
  | .load t x => if t = 53 then (match argOf N Γ x with | .box f => some ⟨some (d, .form f), false, []⟩ | _ => none) else none
  | .alloc t => if t = 53 then some ⟨some (d, .fresh), false, []⟩ else none
  | .makeMap mt none => if mt = Y.mt ∧ hasT = false then some ⟨some (d, .tab), true, []⟩ else none
  | .makeFunc (.func g) first cap => (match first.toList, cap.toList with | [], [x] => (match argOf N Γ x with | .box f => some ⟨some (d, .clos g f), false, []⟩ | _ => none) | _, _ => none)
  | .buildSlice t len parts =>
    if parts.toList.map (·.1) = List.range len ∧ 0 < len ∧ len ≤ 1000 then
      (if t = 51 then (formsOf (argsOf N Γ (parts.toList.map (·.2)))).map fun l => ⟨some (d, .forms l), false, []⟩
      else if t = 40 then (intsOf (argsOf N Γ (parts.toList.map (·.2)))).map fun l => ⟨some (d, .ints l), false, []⟩
      else none)
    else none
  | .call c => if (argsOf N Γ c.args.toList).all SV.plain then (if putCall C c then (match c.callee with
      | .value (.func g) => if hasT = true then (C.puts g (argsOf N Γ c.args.toList)).map fun l => ⟨some (d, .any), false, l⟩ else none
      | _ => none) else (match c.callee with
    | .value f => (match argOf N Γ f with
      | .fn g => (C.abs g (argsOf N Γ c.args.toList)).bind fun r => if r.plain then some ⟨some (d, r), false, []⟩ else none
      | .clos g fm => (C.clo g fm (argsOf N Γ c.args.toList)).bind fun r => if r.plain then some ⟨some (d, r), false, []⟩ else none
      | _ => none)
    | _ => none)) else none
  | _ => none
def effOf (Y : Keys) (C : CallTab Y) (N : Nat) (Γ : Nat → SV) (hasT : Bool) (o : Oper) : Option (Eff Y.κ) :=
  if o.guard.isSome then none else
  match o.dst with
  | none => (match o.op with
    | .store t (.tmp p) x => if t = 53 ∧ p < N then (match Γ p, argOf N Γ x with | .fresh, .form f => some ⟨some (p, .box f), false, []⟩ | _, _ => none) else none
    | .insert mt m (.const key) x => if mt = Y.mt ∧ hasT = true then (match argOf N Γ m, argOf N Γ x, Y.dec key with | .tab, .form f, some k => some ⟨none, false, [(k, f)]⟩ | _, _, _ => none) else none
    | _ => none)
  | some d => if d < N ∧ isAny (Γ d) = true then effDst Y C N Γ hasT d o.op else none

theorem forms_fk {l : List Form} : ∀ {svs : List SV} {vs : List Value}, formsOf svs = some l → Sats W ms vs svs → vs.length = l.length ∧ ∀ (j : Nat) (v : Value) (f : Form), vs[j]? = some v → l[j]? = some f → FormIn W ms v f := by
  induction l with
  | nil =>
    intro svs vs h hs
    cases svs with
    | nil => cases vs with
      | nil => exact ⟨rfl, fun j v f h _ => by simp at h⟩
      | cons v vs => exact hs.elim
    | cons s ss => cases s <;> simp [formsOf] at h
  | cons f l ih =>
    intro svs vs h hs
    cases svs with
    | nil => simp [formsOf] at h
    | cons s ss =>
      cases s <;> try (simp [formsOf] at h; done)
      rename_i g
      simp only [formsOf, Option.map_eq_some_iff] at h
      obtain ⟨l', h1, h2⟩ := h
      obtain ⟨rfl, rfl⟩ := List.cons.inj h2
      cases vs with
      | nil => exact hs.elim
      | cons v vs =>
        obtain ⟨i1, i2⟩ := ih h1 hs.2
        refine ⟨by simp [i1], fun j u f' hu hf => ?_⟩
        cases j with
        | zero =>
          simp only [List.getElem?_cons_zero, Option.some.injEq] at hu hf
          subst hu; subst hf
          exact hs.1
        | succ j => exact i2 j u f' (by simpa using hu) (by simpa using hf)
theorem ints_fk {l : List Int} : ∀ {svs : List SV} {vs : List Value}, intsOf svs = some l → Sats W ms vs svs → vs = l.map (Value.int .i64) := by
  induction l with
  | nil =>
    intro svs vs h hs
    cases svs with
    | nil => cases vs with
      | nil => rfl
      | cons v vs => exact hs.elim
    | cons s ss => cases s <;> simp [intsOf] at h
  | cons f l ih =>
    intro svs vs h hs
    cases svs with
    | nil => simp [intsOf] at h
    | cons s ss =>
      cases s <;> try (simp [intsOf] at h; done)
      rename_i q
      simp only [intsOf, Option.map_eq_some_iff] at h
      obtain ⟨l', h1, h2⟩ := h
      obtain ⟨rfl, rfl⟩ := List.cons.inj h2
      cases vs with
      | nil => exact hs.elim
      | cons v vs =>
        rw [List.map_cons, ← ih h1 hs.2]
        have h0 : v = .int .i64 q := hs.1
        rw [h0]
/-- A row of new cells, element by element. -/
theorem build_F {α : Type} (d : Kd α) (hsz : 0 < d.sz) {vs : List Value} {xs : List α} (hl : vs.length = xs.length) (hmax : xs.length ≤ 1000) (h : ∀ (j : Nat) (v : Value) (x : α), vs[j]? = some v → xs[j]? = some x → Kd.FK d W (fun k => ¬ inM ms k) x v.cells.toList) (hms : ∀ t k, (t, k) ∈ ms → k < W.heap.size) (e : Nat) :
    Kd.F d (W.alloc (.cells (vs.flatMap fun v => v.cells.toList).toArray e)) (fun k => ¬ inM ms k) (some ⟨W.heap.size, 0, none⟩) xs.length xs := by
  have hcs : ∀ v ∈ vs, v.cells.size = d.sz := by
    intro v hv
    obtain ⟨j, hj, rfl⟩ := List.mem_iff_getElem.1 hv
    have := d.K_len (Kd.FK_now (h j _ _ (List.getElem?_eq_getElem hj) (List.getElem?_eq_getElem (by omega))))
    simpa using this
  intro W' hW
  refine ⟨rfl, by omega, fun _ => ⟨_, rfl, fun j p hp => ?_⟩⟩
  have hj : j < vs.length := by rw [hl]; exact (List.getElem?_eq_some_iff.1 hp).1
  have hfk := h j _ p (List.getElem?_eq_getElem hj) hp
  have hn : ¬ inM ms W.heap.size := fun ⟨t, ht⟩ => Nat.lt_irrefl _ (hms t _ ht)
  have hsize : (W.alloc (.cells (vs.flatMap fun v => v.cells.toList).toArray e)).heap.size = W.heap.size + 1 := by simp
  have hblk : W'.heap[W.heap.size]? = some (.cells (vs.flatMap fun v => v.cells.toList).toArray e (0, 0)) := by
    rw [hW _ hn (by omega)]; exact heap_at W _ _ rfl
  refine ⟨(vs[j]).cells.toList, by have := hcs _ (List.getElem_mem hj); simpa using this, ?_, fun i u hu => ?_⟩
  · refine Kd.FK_now (Kd.FK_step hfk (fun k hk hlt => ?_))
    rw [hW k hk (by omega), Below.heap_alloc _ _ _ hlt]
  · have hi : i < d.sz := by
      have := (List.getElem?_eq_some_iff.1 hu).1
      have h2 := hcs _ (List.getElem_mem hj)
      simpa [h2] using this
    have hg := Great.flat_get hsz vs hcs (j * d.sz + i)
    have e1 : (j * d.sz + i) / d.sz = j := by rw [Nat.mul_comm, Nat.mul_add_div hsz, Nat.div_eq_of_lt hi, Nat.add_zero]
    have e2 : (j * d.sz + i) % d.sz = i := by rw [Nat.mul_comm, Nat.mul_add_mod, Nat.mod_eq_of_lt hi]
    rw [e1, e2, List.getElem?_eq_getElem hj, Option.bind_some] at hg
    have hu' : (vs[j]).cells[i]? = some u := by simpa using hu
    rw [hu'] at hg
    have ha : (⟨W.heap.size, 0, none⟩ : Addr).add (j * d.sz + i) = ⟨W.heap.size, j * d.sz + i, none⟩ := add_plain _ _
    rw [ha]
    simp only [World.cell?, hblk]
    simpa using hg

theorem Good.free (h : Good Y N W0 Γ T a W ms) {d : Nat} (hd : d < N) (hany : isAny (Γ d) = true) (k : Nat) : (d, k) ∉ ms := fun hm => by
  rcases h.own d k hm (by have := h.hN; omega) with ⟨e, _⟩ | ⟨_, e⟩
  · have := h.hN; omega
  · rw [e] at hany; cases hany
theorem formInfo : (Try.prog.info? 53).map (fun i => (i.zero, i.size, i.bytes)) = some (some (.agg #[(.int .i64 0), (.int .i64 0), (.int .i64 0), (.int .i64 0), (.int .i64 0), (.slice none 0 0)]), 6, 64) := by kernel_rfl
theorem intInfo : (Try.prog.info? 3).map (fun i => (i.zero, i.size, i.bytes)) = some (some (.int .i64 0), 1, 8) := by kernel_rfl
theorem formsU : Try.prog.underlying 51 = some (.slice 53) := by kernel_rfl
theorem intsU : Try.prog.underlying 40 = some (.slice 3) := by kernel_rfl
theorem formRow : ∃ d, Try.prog.underlying 53 = some d ∧ d.isRow = true := ⟨_, Try.underlying53, rfl⟩
theorem resolve_fn {a : Act} {f : Operand} {g : Nat} {cap : Array Value} {c : Call} {ty : TypeId} (hc : c.callee = .value f) (hf : a.eval f = .func (.func g) #[] cap) (he : Enters Try.prog g) (w : World) :
    (do let d ← resolve a.eval c ty; invoke d.target d.args).run Try.prog w = .ok (.enter g (c.args.map a.eval ++ cap)) w := by
  obtain ⟨callee, args, ts⟩ := c
  simp only at hc
  subst hc
  simp only [resolve, hf]
  have := he (args.map a.eval ++ cap) w
  simp [go_sem, invoke, this]

set_option maxHeartbeats 1000000 in
set_option maxRecDepth 10000 in
theorem dst_sound (C : CallTab Y) (h : Good Y N W0 Γ T a W ms) {o : Oper} {d : Nat} (hdst : o.dst = some d) (hdN : d < N) (hany : isAny (Γ d) = true) {e : Eff Y.κ} (he : effDst Y C N Γ T.isSome d o.op = some e) (hn : ∀ l, T = some l → (e.ins ++ l).length ≤ 1000)
    {K : Act → World → Prop} {Q : Exit → Act → World → Prop} (hK : ∀ a' W' ms', Good Y N W0 (e.onΓ Γ) (e.onT T) a' W' ms' → K a' W') : Oper.wp Try.prog o a W K Q := by
  have hd := h.free hdN hany
  have hms : ∀ t k, (t, k) ∈ ms → k < W.heap.size := fun t k hm => (h.lt t k hm).1
  have hT0 : ∀ (x : Option (Nat × SV)), (⟨x, false, []⟩ : Eff Y.κ).onT T = T := fun x => by cases T <;> simp [Eff.onT]
  obtain ⟨dst, op, ty, pos, after, guard⟩ := o
  simp only at hdst he
  subst hdst
  have put : ∀ {v : Value} {sv : SV} {W1 : World}, Below W.heap.size W W1 → Sat W1 ms d v sv → e = ⟨some (d, sv), false, []⟩ → K (a.put (some d) v) W1 := by
    intro v sv W1 hb hs ee
    refine hK _ _ ms ?_
    rw [ee, hT0]
    exact h.next hb hd hs
  cases op <;> try (simp [effDst] at he; done)
  case move x =>
    simp only [effDst] at he
    split at he
    case isFalse => cases he
    rename_i hp
    exact put (Below.refl _ _) (h.arg x hp d) (Option.some.inj he).symm
  case assign x =>
    simp only [effDst] at he
    split at he
    case isFalse => cases he
    rename_i hp
    exact put (Below.refl _ _) (h.arg x hp d) (Option.some.inj he).symm
  case alloc t =>
    simp only [effDst] at he
    split at he
    case isFalse => cases he
    rename_i ht
    subst ht
    obtain rfl := (Option.some.inj he).symm
    have hrun : (Instr.alloc 53 true (.tuple #[])).run Try.prog W = .ok (.pointer (some ⟨W.heap.size, 0, none⟩)) (W.alloc (.cells #[(.int .i64 0), (.int .i64 0), (.int .i64 0), (.int .i64 0), (.int .i64 0), (.slice none 0 0)] 53)) := by
      simp [go_sem]
    unfold Oper.wp execOp
    simp only [Sem.run_bind, hrun, Result.andThen_ok]
    refine hK _ _ ((d, W.heap.size) :: ms) ?_
    rw [hT0]
    exact h.laid hd rfl hdN
  case load t x =>
    simp only [effDst] at he
    split at he
    case isFalse => cases he
    rename_i ht
    subst ht
    split at he
    case h_2 => cases he
    rename_i f hx
    have hs := h.arg x (by rw [hx]; rfl) 0
    rw [hx] at hs
    obtain ⟨b, cs, hv, hb, hc, hf⟩ := hs
    obtain ⟨ds, hu, hr⟩ := formRow
    refine wp_load_mid 53 x rfl b 0 hv cs ds (fun j v hj => ?_) hu hr ?_ ?_
    · simp only [World.cell?, hc, Nat.zero_add]; simpa using hj
    · obtain ⟨i, hi, e1⟩ := Option.map_eq_some_iff.1 formInfo
      rw [hi]
      have := (Prod.mk.inj (Prod.mk.inj e1).2).1
      simp only [Option.map_some, this]
      rw [kForm.K_len (Kd.FK_now hf)]
      rfl
    · exact put (sv := .form f) (Below.refl _ _) ⟨cs, rfl, hf⟩ (Option.some.inj he).symm
  case makeMap mt r =>
    cases r with
    | some r => simp [effDst] at he
    | none =>
    simp only [effDst] at he
    split at he
    case isFalse => cases he
    rename_i hc
    obtain ⟨rfl, hT⟩ := hc
    obtain rfl := (Option.some.inj he).symm
    have hTn : T = none := by cases T <;> simp_all
    unfold Oper.wp execOp
    simp only [Option.map_none, Sem.run_bind, run_makeMap, Result.andThen_ok]
    refine hK _ _ ((tabSlot, W.heap.size) :: ms) ?_
    have := h.made (d := d) hd (fun k hk => ?_) hTn
    · simpa [Eff.onΓ, Eff.onT] using this
    · rcases h.own _ _ hk (Nat.le_refl _) with ⟨_, h2⟩ | ⟨h2, _⟩
      · rw [hTn] at h2; cases h2
      · have := h.hN; omega
  case makeFunc fn first cap =>
    cases fn <;> try (simp [effDst] at he; done)
    rename_i g
    simp only [effDst] at he
    split at he
    case h_2 => cases he
    rename_i x h1 h2
    split at he
    case h_2 => cases he
    rename_i f hx
    have hs := h.arg x (by rw [hx]; rfl) 0
    rw [hx] at hs
    have e1 : first = #[] := by apply Array.ext'; simpa using h1
    have e2 : cap = #[x] := by apply Array.ext'; simpa using h2
    subst e1 e2
    exact put (sv := .clos g f) (Below.refl _ _) ⟨a.eval x, by simp, hs⟩ (Option.some.inj he).symm
  case buildSlice t len parts =>
    simp only [effDst] at he
    split at he
    case isFalse => cases he
    rename_i hc
    obtain ⟨hrange, hpos, hsmall⟩ := hc
    have hparts : (parts.map fun (p : Nat × Operand) => (p.1, a.eval p.2)).toList = ((parts.toList.map fun p => a.eval p.2).zipIdx 0).map fun x => (x.2, x.1) := by
      rw [Array.toList_map]
      apply List.ext_getElem
      · simp
      · intro i h1 h2
        have hi : i < parts.toList.length := by simpa using h1
        have hr : (parts.toList.map (·.1))[i]'(by simpa using hi) = i := by
          have h3 : ∀ (l : List Nat) (hl : l = List.range len) (hlt : i < l.length), l[i] = i := by
            rintro l rfl hlt; simp
          exact h3 _ hrange _
        simp only [List.getElem_map, List.getElem_zipIdx, Nat.zero_add]
        rw [List.getElem_map] at hr
        rw [hr]
    have hlen : (parts.toList.map fun p => a.eval p.2).length = len := by
      have := congrArg List.length hrange
      simpa using this
    have hargs : (parts.toList.map fun p => a.eval p.2) = (parts.toList.map (·.2)).map a.eval := by rw [List.map_map]; rfl
    split at he
    · rename_i ht
      subst ht
      obtain ⟨l, hl, e1⟩ := Option.map_eq_some_iff.1 he
      have hpl : ((argsOf N Γ (parts.toList.map (·.2))).all SV.plain) = true := by
        clear he e1 hrange hparts hlen hargs
        generalize argsOf N Γ (parts.toList.map (·.2)) = svs at hl
        induction svs generalizing l with
        | nil => rfl
        | cons s ss ih =>
          cases s <;> simp [formsOf] at hl
          obtain ⟨l', h1, _⟩ := hl
          simp only [List.all_cons, Bool.and_eq_true]
          exact ⟨rfl, ih _ h1⟩
      have hs := h.args _ hpl
      rw [← hargs] at hs
      obtain ⟨k1, k2⟩ := forms_fk hl hs
      obtain ⟨ie, hie, e2⟩ := Option.map_eq_some_iff.1 formInfo
      have z1 := (Prod.mk.inj e2).1
      have z2 : ie.size = 6 := (Prod.mk.inj (Prod.mk.inj e2).2).1
      have hF := build_F (W := W) (ms := ms) kForm (by decide) k1 (by omega) (fun j v x hv hx => by
        obtain ⟨cs, e3, hf⟩ := k2 j v x hv hx
        rw [e3]; exact hf) hms 53
      have hcs : ∀ v ∈ (parts.toList.map fun p => a.eval p.2), v.cells.size = 6 := by
        intro v hv
        obtain ⟨j, hj, rfl⟩ := List.mem_iff_getElem.1 hv
        obtain ⟨cs, e3, hf⟩ := k2 j _ _ (List.getElem?_eq_getElem hj) (List.getElem?_eq_getElem (by omega))
        rw [e3]
        have : cs.length = 6 := kForm.K_len (Kd.FK_now hf)
        simpa [Value.cells] using this
      refine wp_buildSlice 51 53 len parts rfl (((parts.toList.map fun p => a.eval p.2).flatMap fun v => v.cells.toList).toArray) ie _ formsU hie z1 (by rw [z2]; omega) (by rw [z2]; omega) ?_ ?_
      · rw [z2]
        exact Eq.trans (congrArg _ hparts) (Great.fill_whole (s := 6) (by omega) _ _ hcs (by simp [hlen]))
      · refine put (sv := .forms l) ((Below.refl _ _).alloc (Nat.le_refl _) _) ?_ e1.symm
        refine ⟨some ⟨W.heap.size, 0, none⟩, len, by rw [← k1, hlen], by omega, fun h => (by cases h), hF⟩
    · split at he
      case isFalse => cases he
      rename_i ht
      subst ht
      obtain ⟨l, hl, e1⟩ := Option.map_eq_some_iff.1 he
      have hpl : ((argsOf N Γ (parts.toList.map (·.2))).all SV.plain) = true := by
        clear he e1 hrange hparts hlen hargs
        generalize argsOf N Γ (parts.toList.map (·.2)) = svs at hl
        induction svs generalizing l with
        | nil => rfl
        | cons s ss ih =>
          cases s <;> simp [intsOf] at hl
          obtain ⟨l', h1, _⟩ := hl
          simp only [List.all_cons, Bool.and_eq_true]
          exact ⟨rfl, ih _ h1⟩
      have hs := h.args _ hpl
      rw [← hargs] at hs
      have k1 := ints_fk hl hs
      obtain ⟨ie, hie, e2⟩ := Option.map_eq_some_iff.1 intInfo
      have z1 := (Prod.mk.inj e2).1
      have z2 : ie.size = 1 := (Prod.mk.inj (Prod.mk.inj e2).2).1
      have kl : (parts.toList.map fun p => a.eval p.2).length = l.length := by rw [k1]; simp
      have hF := build_F (W := W) (ms := ms) (Kd.int .i64) (by decide) kl (by omega) (fun j v x hv hx => by
        rw [k1, List.getElem?_map, hx] at hv
        obtain rfl := (Option.some.inj hv).symm
        exact fun _ _ => rfl) hms 3
      have hcs : ∀ v ∈ (parts.toList.map fun p => a.eval p.2), v.cells.size = 1 := by
        intro v hv
        rw [k1] at hv
        obtain ⟨n, _, rfl⟩ := List.mem_map.1 hv
        rfl
      refine wp_buildSlice 40 3 len parts rfl (((parts.toList.map fun p => a.eval p.2).flatMap fun v => v.cells.toList).toArray) ie _ intsU hie z1 (by rw [z2]; omega) (by rw [z2]; omega) ?_ ?_
      · rw [z2]
        exact Eq.trans (congrArg _ hparts) (Great.fill_whole (s := 1) (by omega) _ _ hcs (by simp [hlen]))
      · refine put (sv := .ints l) ((Below.refl _ _).alloc (Nat.le_refl _) _) ?_ e1.symm
        refine ⟨some ⟨W.heap.size, 0, none⟩, len, by rw [← kl, hlen], by omega, hF⟩
  case call c =>
    simp only [effDst] at he
    split at he
    case isFalse => cases he
    rename_i hpl
    have hs := h.args _ hpl
    unfold Oper.wp execOp
    split at he
    · split at he
      case h_2 => cases he
      rename_i g hcal
      have hf' : a.eval (.func g) = .func (.func g) #[] #[] := rfl
      split at he
      case isFalse => cases he
      rename_i hT
      obtain ⟨l, hl, e2⟩ := Option.map_eq_some_iff.1 he
      rw [resolve_fn hcal hf' (C.puts_in _ _ _ hl)]
      obtain ⟨l0, rfl⟩ := Option.isSome_iff_exists.1 hT
      obtain ⟨m, hm, ht⟩ := h.tab l0 rfl
      subst e2
      have hcall := C.puts_ok g _ l _ W ms m l0 hl hs hms (fun k hk => nodup_fst h.n1 hk hm) hm ht (hn l0 rfl)
      show Calls _ _ _ _ _
      have e1 : (c.args.map a.eval ++ #[] : Array Value) = (c.args.toList.map a.eval).toArray := by apply Array.ext'; simp
      rw [e1]
      refine hcall.mono ?_
      rintro e' W' ⟨v, rfl, hb, htab⟩
      refine hK _ _ ms ?_
      have h2 := h.turned hm hb htab
      exact h2.next (Below.refl _ _) hd trivial
    · split at he
      case h_2 => cases he
      rename_i f hcal
      split at he
      · rename_i g hx
        have hf := h.arg f (by rw [hx]; rfl) 0
        rw [hx] at hf
        have hf' : a.eval f = .func (.func g) #[] #[] := hf
        obtain ⟨r, hr, he⟩ := Option.bind_eq_some_iff.1 he
        split at he
        case isFalse => cases he
        rename_i hrp
        rw [resolve_fn hcal hf' (C.abs_in _ _ _ hr)]
        have hcall := C.abs_ok g _ r _ W ms hr hs hms
        show Calls _ _ _ _ _
        have e1 : (c.args.map a.eval ++ #[] : Array Value) = (c.args.toList.map a.eval).toArray := by apply Array.ext'; simp
        rw [e1]
        refine hcall.mono ?_
        rintro e' W' ⟨v, rfl, hb, hsat⟩
        exact put hb (hsat d) (Option.some.inj he).symm
      · rename_i g fm hx
        have hf := h.arg f (by rw [hx]; rfl) 0
        rw [hx] at hf
        obtain ⟨p, hf', hbox⟩ := hf
        obtain ⟨r, hr, he⟩ := Option.bind_eq_some_iff.1 he
        split at he
        case isFalse => cases he
        rename_i hrp
        rw [resolve_fn hcal hf' (C.clo_in _ _ _ _ hr)]
        have hcall := C.clo_ok g fm _ r _ p W ms hr hs hbox hms
        show Calls _ _ _ _ _
        have e1 : (c.args.map a.eval ++ #[p] : Array Value) = (c.args.toList.map a.eval ++ [p]).toArray := by apply Array.ext'; simp
        rw [e1]
        refine hcall.mono ?_
        rintro e' W' ⟨v, rfl, hb, hsat⟩
        exact put hb (hsat d) (Option.some.inj he).symm
      · cases he
theorem eff_sound (C : CallTab Y) (h : Good Y N W0 Γ T a W ms) {o : Oper} {e : Eff Y.κ} (he : effOf Y C N Γ T.isSome o = some e) (hn : ∀ l, T = some l → (e.ins ++ l).length ≤ 1000)
    {K : Act → World → Prop} {Q : Exit → Act → World → Prop} (hK : ∀ a' W' ms', Good Y N W0 (e.onΓ Γ) (e.onT T) a' W' ms' → K a' W') : Oper.wp Try.prog o a W K Q := by
  have hT0 : ∀ (x : Option (Nat × SV)), (⟨x, false, []⟩ : Eff Y.κ).onT T = T := fun x => by cases T <;> simp [Eff.onT]
  unfold effOf at he
  split at he
  case isTrue => cases he
  split at he
  · rename_i hdst
    have pn : ∀ v, a.put o.dst v = a := fun v => by rw [hdst]; rfl
    split at he
    · rename_i t p x hop
      split at he
      case isFalse => cases he
      rename_i hc
      obtain ⟨rfl, hpN⟩ := hc
      split at he
      case h_2 => cases he
      rename_i f hp hx
      have hps : p < a.tmps.size := by rw [h.sz]; exact hpN
      have hv := h.arg x (by rw [hx]; rfl) 0
      rw [hx] at hv
      obtain ⟨b, cs, old, e1, e2, e3, e4, e5, e6, ms', _, hg⟩ := h.stored (Array.getElem?_eq_getElem hps) hp hv
      refine wp_store_row 53 (.tmp p) x hop b cs ?_ e2 53 old e3 ?_ e4 e6 ?_
      · simp only [Act.eval]
        rw [Array.getD_eq_getD_getElem?, Array.getElem?_eq_getElem hps]
        exact e1
      · obtain ⟨i, hi, e7⟩ := Option.map_eq_some_iff.1 formInfo
        rw [hi]
        have := (Prod.mk.inj (Prod.mk.inj e7).2).1
        simp only [Option.map_some, this, e5]
      · rw [pn]
        obtain rfl := (Option.some.inj he).symm
        refine hK _ _ ms' ?_
        rw [hT0]
        exact hg
    · rename_i mt m key x hop
      split at he
      case isFalse => cases he
      rename_i hc
      obtain ⟨rfl, hT⟩ := hc
      split at he
      case h_2 => cases he
      rename_i f k hm hx hk
      obtain rfl := (Option.some.inj he).symm
      obtain ⟨l0, rfl⟩ := Option.isSome_iff_exists.1 hT
      obtain ⟨mb, hmb, ht⟩ := h.tab l0 rfl
      have hv := h.arg x (by rw [hx]; rfl) 0
      rw [hx] at hv
      have hmv := h.arg m (by rw [hm]; rfl) 0
      rw [hm] at hmv
      obtain ⟨m2, hm2, hm3⟩ := hmv
      obtain rfl := nodup_fst h.n1 hm3 hmb
      obtain ⟨hok, rfl⟩ := Y.dec_ok _ _ hk
      have hn0 := hn l0 rfl
      simp only [List.cons_append, List.nil_append, List.length_cons] at hn0
      obtain ⟨W1, hrun, hbut, htab⟩ := ht.update (by unfold maxLen; omega) hok hv ⟨_, hmb⟩
      unfold Oper.wp execOp
      simp only [hop, hm2, Sem.run_bind]
      show Oper.upon _ _ _ _ _ (((Instr.mapUpdate Y.mt (.map (some m2)) (Y.enc k) (a.eval x)).run Try.prog W).andThen _) 
      rw [hrun]
      show K (a.put o.dst undef) W1
      rw [pn]
      exact hK _ _ ms (h.turned (l := (k, f) :: l0) hmb hbut htab)
    · cases he
  · rename_i d hdst
    split at he
    case isFalse => cases he
    rename_i hc
    exact dst_sound C h hdst hc.1 hc.2 he hn hK
end
end Go.Proofs.Ytpndiobbogelpaa

namespace Go.Proofs.Ytpndiobbogelpaa
open Go Go.RowKit Go.Maps Go.Proofs.Hand Go.Proofs.YtpndiobbogelpaaW.PrintWords Go.Proofs.YtpndiobbogelpaaW.PrintLast Go.Proofs.YtpndiobbogelpaaW.PrintMore
set_option maxRecDepth 100000

def tmpsOf1 : Operand → List Nat
  | .tmp t => [t]
  | _ => []
def tmpsOf : Op → List Nat
  | .move x => tmpsOf1 x
  | .assign x => tmpsOf1 x
  | .load _ x => tmpsOf1 x
  | .store _ p x => tmpsOf1 p ++ tmpsOf1 x
  | .insert _ m _ x => tmpsOf1 m ++ tmpsOf1 x
  | .makeFunc _ _ cap => cap.toList.flatMap tmpsOf1
  | .buildSlice _ _ parts => (parts.toList.map (·.2)).flatMap tmpsOf1
  | .call c => (match c.callee with | .value f => tmpsOf1 f | _ => []) ++ c.args.toList.flatMap tmpsOf1
  | _ => []
def readsOf (o : Oper) : List Nat := tmpsOf o.op ++ o.dst.toList
def depT {Y : Keys} (C : CallTab Y) : Op → Bool
  | .insert .. => true
  | .makeMap .. => true
  | .call c => putCall C c
  | _ => false
section
variable {Y : Keys} {C : CallTab Y} {N : Nat} {Γ Γ2 : Nat → SV} {b b2 : Bool}
theorem argOf_congr {x : Operand} (h : ∀ t ∈ tmpsOf1 x, Γ t = Γ2 t) : argOf N Γ x = argOf N Γ2 x := by
  cases x with
  | tmp t => simp only [argOf]; rw [h t (by simp [tmpsOf1])]
  | const v => unfold argOf; split <;> first | rfl | (rename_i e; cases e)
  | global g => rfl
  | func g => rfl
theorem argsOf_congr : ∀ {xs : List Operand}, (∀ t ∈ xs.flatMap tmpsOf1, Γ t = Γ2 t) → argsOf N Γ xs = argsOf N Γ2 xs
  | [], _ => rfl
  | x :: xs, h => by
    simp only [argsOf, List.map_cons]
    rw [argOf_congr (x := x) (fun t ht => h t (by simp [ht]))]
    have := argsOf_congr (xs := xs) (fun t ht => h t (by rw [List.flatMap_cons]; exact List.mem_append.2 (.inr ht)))
    simp only [argsOf] at this
    rw [this]
theorem effOf_congr {o : Oper} (hr : ∀ t ∈ readsOf o, Γ t = Γ2 t) (hT : depT C o.op = true → b = b2) : effOf Y C N Γ b o = effOf Y C N Γ2 b2 o := by
  obtain ⟨dst, op, ty, pos, after, guard⟩ := o
  simp only [readsOf] at hr
  simp only at hT
  unfold effOf
  simp only
  split
  · rfl
  cases dst with
  | none =>
    simp only
    cases op <;> try rfl
    case store t p x =>
      cases p <;> try rfl
      rename_i p
      simp only
      rw [hr p (by simp [tmpsOf, tmpsOf1]), argOf_congr (x := x) (fun t ht => hr t (by simp [tmpsOf, ht]))]
    case insert mt m k x =>
      cases k <;> try rfl
      simp only
      rw [argOf_congr (x := m) (fun t ht => hr t (by simp [tmpsOf, ht])), argOf_congr (x := x) (fun t ht => hr t (by simp [tmpsOf, ht])), hT rfl]
  | some d =>
    simp only
    rw [hr d (by simp)]
    have e : effDst Y C N Γ b d op = effDst Y C N Γ2 b2 d op := by
      cases op <;> try rfl
      case move x => simp only [effDst]; rw [argOf_congr (x := x) (fun t ht => hr t (by simp [tmpsOf, ht]))]
      case assign x => simp only [effDst]; rw [argOf_congr (x := x) (fun t ht => hr t (by simp [tmpsOf, ht]))]
      case load t x => simp only [effDst]; rw [argOf_congr (x := x) (fun t ht => hr t (by simp [tmpsOf, ht]))]
      case makeMap mt r =>
        rw [hT rfl]
        cases r <;> rfl
      case makeFunc fn first cap =>
        cases fn <;> try rfl
        simp only [effDst]
        split
        · rename_i x h1 h2
          rw [argOf_congr (x := x) (fun t ht => hr t (by simp only [tmpsOf, h2]; simp [ht]))]
        · rfl
      case buildSlice t len parts =>
        simp only [effDst]
        rw [argsOf_congr (xs := parts.toList.map (·.2)) (fun t ht => hr t (by simp only [tmpsOf]; exact List.mem_append.2 (.inl ht)))]
      case call c =>
        simp only [effDst]
        have ha := argsOf_congr (N := N) (xs := c.args.toList) (fun t ht => hr t (by simp only [tmpsOf]; exact List.mem_append.2 (.inl (List.mem_append.2 (.inr ht)))))
        rw [ha]
        split
        case isFalse => rfl
        split
        · rename_i hp
          rw [hT hp]
        · split
          · rename_i f hf
            have hf' := argOf_congr (N := N) (x := f) (fun t ht => hr t (by simp only [tmpsOf, hf]; exact List.mem_append.2 (.inl (List.mem_append.2 (.inl ht)))))
            rw [hf']
          · rfl
    rw [e]
theorem effOf_slot {o : Oper} {e : Eff Y.κ} (he : effOf Y C N Γ b o = some e) {t : Nat} {sv : SV} (hs : e.slot = some (t, sv)) : t ∈ readsOf o := by
  obtain ⟨dst, op, ty, pos, after, guard⟩ := o
  unfold effOf at he
  simp only at he
  split at he
  case isTrue => cases he
  cases dst with
  | none =>
    simp only at he
    cases op <;> try (simp at he; done)
    case store t' p x =>
      cases p <;> try (simp at he; done)
      simp only at he
      split at he
      case isFalse => cases he
      split at he
      case h_2 => cases he
      obtain rfl := (Option.some.inj he).symm
      simp only [Option.some.injEq, Prod.mk.injEq] at hs
      obtain ⟨rfl, _⟩ := hs
      simp [readsOf, tmpsOf, tmpsOf1]
    case insert mt m k x =>
      cases k <;> try (simp at he; done)
      simp only at he
      split at he
      case isFalse => cases he
      split at he
      case h_2 => cases he
      obtain rfl := (Option.some.inj he).symm
      cases hs
  | some d =>
    simp only at he
    split at he
    case isFalse => cases he
    have hd : t = d := by
      cases op <;> try (simp [effDst] at he; done)
      case move x => simp only [effDst] at he; split at he <;> cases he; cases hs; rfl
      case assign x => simp only [effDst] at he; split at he <;> cases he; cases hs; rfl
      case alloc x => simp only [effDst] at he; split at he <;> cases he; cases hs; rfl
      case load t x =>
        simp only [effDst] at he
        split at he
        case isFalse => cases he
        split at he <;> cases he
        cases hs; rfl
      case makeMap mt r =>
        cases r
        · simp only [effDst] at he; split at he <;> cases he; cases hs; rfl
        · simp [effDst] at he
      case makeFunc fn first cap =>
        cases fn <;> try (simp [effDst] at he; done)
        simp only [effDst] at he
        split at he
        case h_2 => cases he
        split at he <;> cases he
        cases hs; rfl
      case buildSlice t len parts =>
        simp only [effDst] at he
        split at he
        case isFalse => cases he
        split at he
        · obtain ⟨l, _, rfl⟩ := Option.map_eq_some_iff.1 he; cases hs; rfl
        · split at he
          · obtain ⟨l, _, rfl⟩ := Option.map_eq_some_iff.1 he; cases hs; rfl
          · cases he
      case call c =>
        simp only [effDst] at he
        split at he
        case isFalse => cases he
        split at he
        · split at he
          case h_2 => cases he
          split at he
          case isFalse => cases he
          obtain ⟨l, _, rfl⟩ := Option.map_eq_some_iff.1 he; cases hs; rfl
        · split at he
          case h_2 => cases he
          split at he
          · obtain ⟨r, _, he⟩ := Option.bind_eq_some_iff.1 he
            split at he <;> cases he
            cases hs; rfl
          · obtain ⟨r, _, he⟩ := Option.bind_eq_some_iff.1 he
            split at he <;> cases he
            cases hs; rfl
          · cases he
    subst hd
    simp [readsOf]
end

/-! The slots when just the operations of b have come. -/
section
variable {κ : Type}
def writes (e : Eff κ) (t : Nat) : Bool := match e.slot with
  | some x => x.1 == t
  | none => false
theorem onΓ_off {e : Eff κ} {Γ : Nat → SV} {t : Nat} (h : writes e t = false) : e.onΓ Γ t = Γ t := by
  unfold writes at h
  unfold Eff.onΓ
  cases hs : e.slot with
  | none => rfl
  | some x =>
    rw [hs] at h
    have : ¬ t = x.1 := by intro e; simp [e] at h
    simp [put1, this]
theorem onΓ_on {e : Eff κ} {Γ Γ2 : Nat → SV} {t : Nat} (h : writes e t = true) : e.onΓ Γ t = e.onΓ Γ2 t := by
  unfold writes at h
  unfold Eff.onΓ
  cases hs : e.slot with
  | none => rw [hs] at h; cases h
  | some x =>
    rw [hs] at h
    have : t = x.1 := by simpa using (beq_iff_eq.1 h).symm
    simp [put1, this]
def env : List (Eff κ) → (Nat → Bool) → Nat → (Nat → SV) → Nat → SV
  | [], _, _, Γ => Γ
  | e :: r, b, i, Γ => env r b (i + 1) (if b i = true then e.onΓ Γ else Γ)
theorem env_at {t : Nat} : ∀ (effs : List (Eff κ)) (b b2 : Nat → Bool) (i : Nat) (Γ Γ2 : Nat → SV), Γ t = Γ2 t → (∀ j e, effs[j]? = some e → writes e t = true → b (i + j) = b2 (i + j)) → env effs b i Γ t = env effs b2 i Γ2 t
  | [], _, _, _, _, _, h, _ => h
  | e :: r, b, b2, i, Γ, Γ2, h, hw => by
    unfold env
    refine env_at r b b2 (i + 1) _ _ ?_ (fun j e' he hwr => by have := hw (j + 1) e' (by simpa using he) hwr; rwa [show i + (j + 1) = i + 1 + j by omega] at this)
    cases hwe : writes e t with
    | true =>
      have h0 := hw 0 e rfl hwe
      rw [Nat.add_zero] at h0
      rw [h0]
      split
      · exact onΓ_on hwe
      · exact h
    | false =>
      have h1 : (if b i = true then e.onΓ Γ else Γ) t = Γ t := by split <;> first | exact onΓ_off hwe | rfl
      have h2 : (if b2 i = true then e.onΓ Γ2 else Γ2) t = Γ2 t := by split <;> first | exact onΓ_off hwe | rfl
      rw [h1, h2]; exact h
theorem env_none : ∀ (effs : List (Eff κ)) (b : Nat → Bool) (i : Nat) (Γ : Nat → SV), (∀ j, b (i + j) = false) → env effs b i Γ = Γ
  | [], _, _, _, _ => rfl
  | e :: r, b, i, Γ, h => by
    unfold env
    rw [if_neg (by have := h 0; simp only [Nat.add_zero] at this; rw [this]; decide)]
    exact env_none r b (i + 1) Γ (fun j => by have := h (j + 1); rwa [show i + (j + 1) = i + 1 + j by omega] at this)
theorem env_succ : ∀ (effs : List (Eff κ)) (k i : Nat) (e : Eff κ) (Γ : Nat → SV), effs[k]? = some e → env effs (fun j => decide (j < i + k + 1)) i Γ = e.onΓ (env effs (fun j => decide (j < i + k)) i Γ)
  | [], _, _, _, _, h => by simp at h
  | e :: r, 0, i, e', Γ, h => by
    simp only [List.getElem?_cons_zero, Option.some.injEq] at h
    subst h
    unfold env
    simp only [Nat.add_zero]
    rw [if_pos (by simp), if_neg (by simp)]
    rw [env_none r _ (i + 1) _ (fun j => by simp; try omega), env_none r _ (i + 1) _ (fun j => by simp; try omega)]
  | e :: r, k + 1, i, e', Γ, h => by
    unfold env
    rw [if_pos (by simp <;> omega), if_pos (by simp <;> omega)]
    have := env_succ r k (i + 1) e' (e.onΓ Γ) (by simpa using h)
    rw [show i + (k + 1) = i + 1 + k by omega]
    exact this
/-- What has been laid into the map when just the operations of b have come. -/
def tl : List (Eff κ) → (Nat → Bool) → Nat → List (κ × Form)
  | [], _, _ => []
  | e :: r, b, i => tl r b (i + 1) ++ (if b i = true then e.ins else [])
theorem tl_same : ∀ (effs : List (Eff κ)) (b b2 : Nat → Bool) (i : Nat), (∀ j, i ≤ j → b j = b2 j) → tl effs b i = tl effs b2 i
  | [], _, _, _, _ => rfl
  | e :: r, b, b2, i, h => by
    unfold tl
    rw [tl_same r b b2 (i + 1) (fun j hj => h j (by omega)), h i (Nat.le_refl _)]
theorem tl_up {b : Nat → Bool} : ∀ (effs : List (Eff κ)) (k i : Nat) (e : Eff κ), effs[k]? = some e → b (i + k) = false → (tl effs (up b (i + k)) i).Perm (e.ins ++ tl effs b i)
  | [], _, _, _, h, _ => by simp at h
  | e :: r, 0, i, e', h, hb => by
    simp only [List.getElem?_cons_zero, Option.some.injEq] at h
    subst h
    unfold tl
    simp only [Nat.add_zero] at hb ⊢
    rw [tl_same r (up b i) b (i + 1) (fun j hj => up_ne (by omega)), if_pos (up_self b i), if_neg (by rw [hb]; decide), List.append_nil]
    exact List.perm_append_comm
  | e :: r, k + 1, i, e', h, hb => by
    unfold tl
    rw [show up b (i + (k + 1)) i = b i from up_ne (by omega)]
    have := tl_up (b := b) r k (i + 1) e' (by simpa using h) (by rwa [show i + 1 + k = i + (k + 1) by omega])
    rw [show i + 1 + k = i + (k + 1) by omega] at this
    rw [← List.append_assoc]
    exact List.Perm.append_right _ this
theorem tl_sub : ∀ (effs : List (Eff κ)) (b : Nat → Bool) (i : Nat), (tl effs b i).Sublist (tl effs (fun _ => true) i)
  | [], _, _ => List.Sublist.refl _
  | e :: r, b, i => by
    unfold tl
    refine List.Sublist.append (tl_sub r b (i + 1)) ?_
    split
    · simp
    · exact List.nil_sublist _
theorem tl_nil : ∀ (effs : List (Eff κ)) (b : Nat → Bool) (i : Nat), (∀ j e, effs[j]? = some e → b (i + j) = true → e.ins = []) → tl effs b i = []
  | [], _, _, _ => rfl
  | e :: r, b, i, h => by
    unfold tl
    rw [tl_nil r b (i + 1) (fun j e' he hb => h (j + 1) e' (by simpa using he) (by rwa [show i + (j + 1) = i + 1 + j by omega]))]
    split
    · rename_i hb; rw [h 0 e rfl hb]; rfl
    · rfl
end
theorem look_append (Y : Keys) : ∀ (l l2 : List (Y.κ × Form)) (z : Y.κ), look Y (l ++ l2) z = (look Y l z).or (look Y l2 z)
  | [], _, _ => rfl
  | x :: l, l2, z => by
    rw [List.cons_append]
    simp only [look]
    split
    · rfl
    · exact look_append Y l l2 z
theorem look_perm (Y : Keys) {l l2 : List (Y.κ × Form)} (h : l.Perm l2) : (l.map (·.1)).Nodup → ∀ z, look Y l z = look Y l2 z := by
  induction h with
  | nil => intro _ z; rfl
  | cons x _ ih =>
    intro hn z
    rw [List.map_cons, List.nodup_cons] at hn
    unfold look
    rw [ih hn.2 z]
  | swap x y l =>
    intro hn z
    simp only [List.map_cons, List.nodup_cons, List.mem_cons, not_or] at hn
    unfold look
    simp only [look]
    have hne : ¬ y.1 = x.1 := hn.1.1
    by_cases e1 : z = y.1
    · have e2 : ¬ z = x.1 := fun e => hne (e1.symm.trans e)
      rw [@decide_eq_true _ (Y.deq z y.1) e1, @decide_eq_false _ (Y.deq z x.1) e2]
      rfl
    · rw [@decide_eq_false _ (Y.deq z y.1) e1]
      rfl
  | trans h1 _ ih1 ih2 =>
    intro hn z
    rw [ih1 hn z]
    exact ih2 ((h1.map _).nodup_iff.1 hn) z
end Go.Proofs.Ytpndiobbogelpaa

namespace Go.Proofs.Ytpndiobbogelpaa
open Go Go.RowKit Go.Maps Go.Proofs.Hand Go.Proofs.YtpndiobbogelpaaW.PrintWords Go.Proofs.YtpndiobbogelpaaW.PrintLast Go.Proofs.YtpndiobbogelpaaW.PrintMore
set_option maxRecDepth 100000

section
variable {Y : Keys} {C : CallTab Y} {N : Nat} {W0 : Start} {W : World} {Γ Γ2 : Nat → SV} {T : Option (List (Y.κ × Form))} {a : Act} {ms : List (Nat × Nat)}
theorem Good.move (h : Good Y N W0 Γ T a W ms) {W1 : World} (hb : Below W.heap.size W W1) : Good Y N W0 Γ T a W1 ms := by
  have hk : ∀ k, k < W.heap.size → ¬ inM ms k → W1.heap[k]? = W.heap[k]? := fun k hk _ => hb.block k hk
  refine ⟨h.sz, h.hN, h.df, fun t v hv => (h.slots t v hv).step hk (fun _ _ h => h) (fun k hm => ⟨hm, hb.block k (h.lt t k hm).1⟩) (fun _ h => h), h.n1, h.n2, fun t k hm => ⟨Nat.lt_of_lt_of_le (h.lt t k hm).1 hb.size, (h.lt t k hm).2⟩, h.own, h.out, fun l e => ?_, h.below.trans (hb.mono h.below.size)⟩
  obtain ⟨m, hm, ht⟩ := h.tab l e
  exact ⟨m, hm, ht.step (hb.block m (h.lt _ _ hm).1) hk (fun _ _ h => h)⟩
theorem Good.relook {l l2 : List (Y.κ × Form)} (h : Good Y N W0 Γ (some l) a W ms) (hl : ∀ z, look Y l z = look Y l2 z) (hlen : l.length = l2.length) : Good Y N W0 Γ (some l2) a W ms := by
  refine ⟨h.sz, h.hN, h.df, h.slots, h.n1, h.n2, h.lt, fun t k hm hle => (h.own t k hm hle).imp (fun h2 => ⟨h2.1, rfl⟩) id, h.out, fun l' e => ?_, h.below⟩
  obtain rfl := Option.some.inj e
  obtain ⟨m, hm, ht⟩ := h.tab l rfl
  refine ⟨m, hm, ?_⟩
  rw [← hlen, ← (funext hl : look Y l = look Y l2)]
  exact ht
end

section
variable {Y : Keys} {C : CallTab Y} {N : Nat} {Γ : Nat → SV} {b : Bool} {o : Oper} {e : Eff Y.κ}
theorem effOf_guard (he : effOf Y C N Γ b o = some e) : o.guard = none := by
  unfold effOf at he
  split at he
  · cases he
  · rename_i h
    cases hg : o.guard with
    | none => rfl
    | some g => rw [hg] at h; exact absurd rfl h
theorem effOf_tab (he : effOf Y C N Γ b o = some e) : (e.mkT = true → b = false ∧ e.ins = [] ∧ depT C o.op = true) ∧ (e.ins ≠ [] → b = true ∧ depT C o.op = true) := by
  obtain ⟨dst, op, ty, pos, after, guard⟩ := o
  unfold effOf at he
  simp only at he ⊢
  split at he
  case isTrue => cases he
  cases dst with
  | none =>
    simp only at he
    cases op <;> try (simp at he; done)
    case store t' p x =>
      cases p <;> try (simp at he; done)
      simp only at he
      split at he
      case isFalse => cases he
      split at he
      case h_2 => cases he
      obtain rfl := (Option.some.inj he).symm
      exact ⟨fun h => (by cases h), fun h => absurd rfl h⟩
    case insert mt m k x =>
      cases k <;> try (simp at he; done)
      simp only at he
      split at he
      case isFalse => cases he
      rename_i hc
      split at he
      case h_2 => cases he
      obtain rfl := (Option.some.inj he).symm
      exact ⟨fun h => (by cases h), fun _ => ⟨hc.2, rfl⟩⟩
  | some d =>
    simp only at he
    split at he
    case isFalse => cases he
    have plain : ∀ (x : Option (Nat × SV)), e = ⟨x, false, []⟩ → (e.mkT = true → b = false ∧ e.ins = [] ∧ depT C op = true) ∧ (e.ins ≠ [] → b = true ∧ depT C op = true) := by
      rintro x rfl
      exact ⟨fun h => (by cases h), fun h => absurd rfl h⟩
    cases op <;> try (simp [effDst] at he; done)
    case move x => simp only [effDst] at he; split at he <;> cases he; exact plain _ rfl
    case assign x => simp only [effDst] at he; split at he <;> cases he; exact plain _ rfl
    case alloc x => simp only [effDst] at he; split at he <;> cases he; exact plain _ rfl
    case load t x =>
      simp only [effDst] at he
      split at he
      case isFalse => cases he
      split at he <;> cases he
      exact plain _ rfl
    case makeMap mt r =>
      cases r
      · simp only [effDst] at he
        split at he <;> cases he
        rename_i hc
        exact ⟨fun _ => ⟨hc.2, rfl, rfl⟩, fun h => absurd rfl h⟩
      · simp [effDst] at he
    case makeFunc fn first cap =>
      cases fn <;> try (simp [effDst] at he; done)
      simp only [effDst] at he
      split at he
      case h_2 => cases he
      split at he <;> cases he
      exact plain _ rfl
    case buildSlice t len parts =>
      simp only [effDst] at he
      split at he
      case isFalse => cases he
      split at he
      · obtain ⟨l, _, rfl⟩ := Option.map_eq_some_iff.1 he; exact plain _ rfl
      · split at he
        · obtain ⟨l, _, rfl⟩ := Option.map_eq_some_iff.1 he; exact plain _ rfl
        · cases he
    case call c =>
      simp only [effDst] at he
      split at he
      case isFalse => cases he
      split at he
      · rename_i hp
        split at he
        case h_2 => cases he
        split at he
        case isFalse => cases he
        rename_i hb
        obtain ⟨l, _, rfl⟩ := Option.map_eq_some_iff.1 he
        exact ⟨fun h => (by cases h), fun _ => ⟨hb, hp⟩⟩
      · split at he
        case h_2 => cases he
        split at he
        · obtain ⟨r, _, he⟩ := Option.bind_eq_some_iff.1 he
          split at he <;> cases he
          exact plain _ rfl
        · obtain ⟨r, _, he⟩ := Option.bind_eq_some_iff.1 he
          split at he <;> cases he
          exact plain _ rfl
        · cases he
end

def runSeq (Y : Keys) (C : CallTab Y) (N : Nat) : List Oper → (Nat → SV) → Bool → Option (List (Eff Y.κ))
  | [], _, _ => some []
  | o :: r, Γ, hT => (effOf Y C N Γ hT o).bind fun e => (runSeq Y C N r (e.onΓ Γ) (hT || e.mkT)).map (e :: ·)
def mkAt {κ : Type} : List (Eff κ) → (Nat → Bool) → Nat → Bool
  | [], _, _ => false
  | e :: r, b, i => (b i && e.mkT) || mkAt r b (i + 1)
theorem mkAt_at {κ : Type} : ∀ (effs : List (Eff κ)) (b b2 : Nat → Bool) (i : Nat), (∀ j e, effs[j]? = some e → e.mkT = true → b (i + j) = b2 (i + j)) → mkAt effs b i = mkAt effs b2 i
  | [], _, _, _, _ => rfl
  | e :: r, b, b2, i, h => by
    unfold mkAt
    rw [mkAt_at r b b2 (i + 1) (fun j e' he hm => by have := h (j + 1) e' (by simpa using he) hm; rwa [show i + (j + 1) = i + 1 + j by omega] at this)]
    cases hm : e.mkT with
    | false => simp
    | true => have h0 := h 0 e rfl hm; rw [Nat.add_zero] at h0; rw [h0]
theorem mkAt_off {κ : Type} : ∀ (effs : List (Eff κ)) (b : Nat → Bool) (i : Nat), (∀ j e, effs[j]? = some e → e.mkT = true → b (i + j) = false) → mkAt effs b i = false
  | [], _, _, _ => rfl
  | e :: r, b, i, h => by
    unfold mkAt
    rw [mkAt_off r b (i + 1) (fun j e' he hm => by have := h (j + 1) e' (by simpa using he) hm; rwa [show i + (j + 1) = i + 1 + j by omega] at this)]
    cases hm : e.mkT with
    | false => simp
    | true => have h0 := h 0 e rfl hm; rw [Nat.add_zero] at h0; rw [h0]; rfl
theorem mkAt_on {κ : Type} : ∀ (effs : List (Eff κ)) (b : Nat → Bool) (i j : Nat) (e : Eff κ), effs[j]? = some e → e.mkT = true → b (i + j) = true → mkAt effs b i = true
  | [], _, _, _, _, h, _, _ => by simp at h
  | e :: r, b, i, 0, e', h, hm, hb => by
    simp only [List.getElem?_cons_zero, Option.some.injEq] at h
    subst h
    unfold mkAt
    rw [Nat.add_zero] at hb
    rw [hb, hm]; rfl
  | e :: r, b, i, j + 1, e', h, hm, hb => by
    unfold mkAt
    rw [mkAt_on r b (i + 1) j e' (by simpa using h) hm (by rwa [show i + 1 + j = i + (j + 1) by omega])]
    simp
theorem runSeq_at {Y : Keys} {C : CallTab Y} {N : Nat} : ∀ (ops : List Oper) (effs : List (Eff Y.κ)) (Γ : Nat → SV) (hT : Bool) (i : Nat), runSeq Y C N ops Γ hT = some effs →
    effs.length = ops.length ∧ ∀ (k : Nat) (o : Oper), ops[k]? = some o → ∃ e, effs[k]? = some e ∧ effOf Y C N (env effs (fun j => decide (j < i + k)) i Γ) (hT || mkAt effs (fun j => decide (j < i + k)) i) o = some e
  | [], effs, Γ, hT, i, h => by
    obtain rfl := Option.some.inj h
    exact ⟨rfl, fun k o h => by simp at h⟩
  | o :: r, effs, Γ, hT, i, h => by
    unfold runSeq at h
    obtain ⟨e, he, h⟩ := Option.bind_eq_some_iff.1 h
    obtain ⟨effs', h2, rfl⟩ := Option.map_eq_some_iff.1 h
    obtain ⟨i1, i2⟩ := runSeq_at r effs' (e.onΓ Γ) (hT || e.mkT) (i + 1) h2
    refine ⟨by simp [i1], fun k o' hk => ?_⟩
    cases k with
    | zero =>
      simp only [List.getElem?_cons_zero, Option.some.injEq] at hk
      subst hk
      refine ⟨e, rfl, ?_⟩
      rw [env_none _ _ _ _ (fun j => by simp), mkAt_off _ _ _ (fun j e _ _ => by simp), Bool.or_false]
      exact he
    | succ k =>
      obtain ⟨e', h3, h4⟩ := i2 k o' (by simpa using hk)
      refine ⟨e', by simpa using h3, ?_⟩
      unfold env mkAt
      have hd : decide (i < i + 1 + k) = true := decide_eq_true (by omega)
      rw [show i + (k + 1) = i + 1 + k by omega]
      simp only [hd, if_true, Bool.true_and, ← Bool.or_assoc]
      exact h4
/-- What each operation waits for, closed under itself, as bits. -/
def bitsOf (T : List (List Nat × List Nat)) : List Nat := (List.range T.length).foldl (fun B d => B ++ [upM B d ((T[d]?).getD ([], [])).1]) []
/-- Each operation waits for what it reads; nothing that writes what it reads comes ahead of it but what it waits for. -/
def drawnOk {Y : Keys} (C : CallTab Y) (ops : List Oper) (effs : List (Eff Y.κ)) (B : List Nat) : Bool :=
  (List.range ops.length).all fun k => match ops[k]?, effs[k]? with
    | some o, some _ => (List.range ops.length).all fun j => match effs[j]? with
      | some ej => !((readsOf o).any (writes ej) || (depT C o.op && ej.mkT)) || (if j < k then (B.getD k 0).testBit j else (j == k || (B.getD j 0).testBit k))
      | none => true
    | _, _ => true
theorem drawnOk_at {Y : Keys} {C : CallTab Y} {ops : List Oper} {effs : List (Eff Y.κ)} {B : List Nat} (h : drawnOk C ops effs B = true) (hlen : effs.length = ops.length) {k j : Nat} {o : Oper} {ej : Eff Y.κ} (ho : ops[k]? = some o) (hj : effs[j]? = some ej)
    (hr : (readsOf o).any (writes ej) = true ∨ (depT C o.op = true ∧ ej.mkT = true)) : (j < k ∧ (B.getD k 0).testBit j = true) ∨ (k ≤ j ∧ (j = k ∨ (B.getD j 0).testBit k = true)) := by
  have hk := (List.getElem?_eq_some_iff.1 ho).1
  have hjl := (List.getElem?_eq_some_iff.1 hj).1
  have h1 := List.all_eq_true.1 h k (List.mem_range.2 hk)
  rw [ho, List.getElem?_eq_getElem (by omega : k < effs.length)] at h1
  have h2 := List.all_eq_true.1 h1 j (List.mem_range.2 (by omega))
  rw [hj] at h2
  simp only at h2
  have h3 : ((readsOf o).any (writes ej) || (depT C o.op && ej.mkT)) = true := by
    rcases hr with hr | ⟨h4, h5⟩
    · rw [hr]; rfl
    · rw [h4, h5]; simp
  rw [h3] at h2
  simp only [Bool.not_true, Bool.false_or] at h2
  split at h2
  · rename_i hlt; exact .inl ⟨hlt, h2⟩
  · rename_i hlt
    rw [Bool.or_eq_true, beq_iff_eq] at h2
    exact .inr ⟨by omega, h2⟩
def tenv {Y : Keys} (T : Option (List (Y.κ × Form))) (effs : List (Eff Y.κ)) (b : Nat → Bool) : Option (List (Y.κ × Form)) :=
  if (T.isSome || mkAt effs b 0) = true then some (tl effs b 0 ++ T.getD []) else none
theorem tenv_isSome {Y : Keys} {T : Option (List (Y.κ × Form))} {effs : List (Eff Y.κ)} {b : Nat → Bool} : (tenv T effs b).isSome = (T.isSome || mkAt effs b 0) := by
  unfold tenv
  split
  · rename_i h; rw [h]; rfl
  · rename_i h; simp at h; simp [h]
def allT : Nat → Bool := fun _ => true

set_option maxHeartbeats 1000000 in
/-- A region that draws its order. -/
theorem drawn_sound {Y : Keys} (C : CallTab Y) {N : Nat} {W0 : Start} {W : World} {Γ : Nat → SV} {T : Option (List (Y.κ × Form))} {a : Act} {ms : List (Nat × Nat)} {id : Nat} {ops : Array Oper} {effs : List (Eff Y.κ)} {Q : Exit → Act → World → Prop}
    (h : Good Y N W0 Γ T a W ms) (hrun : runSeq Y C N ops.toList Γ T.isSome = some effs) (hm : Try.prog.follows .mixedOrders = true)
    (hw : waitsOk (rtab .any ops).2 (bitsOf (rtab .any ops).2) = true) (hb : baseOk (rtab .any ops).2 (List.range ops.size) = true) (hd : drawnOk C ops.toList effs (bitsOf (rtab .any ops).2) = true)
    (hnd : ((tl effs allT 0).map (·.1)).Nodup) (hfew : (tl effs allT 0 ++ T.getD []).length ≤ 1000)
    (hend : ∀ a' W' ms', Good Y N W0 (env effs allT 0 Γ) (tenv T effs allT) a' W' ms' → Q .normal a' W') : (Code.region id ops true).wp Try.prog Q a W := by
  obtain ⟨hlen, hat⟩ := runSeq_at ops.toList effs Γ T.isSome 0 hrun
  have hlen' : effs.length = ops.size := by rw [hlen, Array.length_toList]
  generalize hB : bitsOf (rtab .any ops).2 = B at hw hd
  have hsub : ∀ b, (tl effs b 0).Sublist (tl effs allT 0) := fun b => tl_sub effs b 0
  refine wp_region_last (S := fun _ => True) (ds := []) hm ?_
  refine inv_ (B := B) (List.range ops.size) (fun b a W => ∃ ms, Good Y N W0 (env effs b 0 Γ) (tenv T effs b) a W ms) rfl hw hb ?_ ?_ ?_ ?_
  · rw [rtab_length, Bool.and_eq_true, beq_iff_eq, beq_iff_eq]
    refine ⟨?_, by simp⟩
    apply List.ext_getElem?
    intro j
    by_cases hj : j < ops.size
    · simp [lof, hj]
    · simp [lof, hj]
  · refine ⟨ms, ?_⟩
    have e1 : env effs (fun _ => false) 0 Γ = Γ := env_none effs _ 0 Γ (fun _ => rfl)
    have e2 : tenv T effs (fun _ => false) = T := by
      unfold tenv
      rw [mkAt_off effs _ 0 (fun _ _ _ _ => rfl), tl_nil effs _ 0 (fun _ _ _ hb => by cases hb)]
      cases T <;> rfl
    rw [e1, e2]
    exact h.move (Below.drew (Below.refl _ _))
  · intro k hk b a W hI hbk hon hoff
    rw [List.mem_range] at hk
    obtain ⟨ms, hg⟩ := hI
    have hk' : k < ops.toList.length := by simpa using hk
    have ho : ops.toList[k]? = some (ops.toList[k]) := List.getElem?_eq_getElem hk'
    refine ⟨ops.toList[k], by simp, fun K hK => ?_⟩
    obtain ⟨e, he, heff⟩ := hat k _ ho
    have hon' : ∀ j, j < ops.size → (B.getD k 0).testBit j = true → b j = true := fun j hj hbit => hon j (by rw [hbit, Bool.and_true]; simpa using hj)
    have hoff' : ∀ j, j < ops.size → (B.getD j 0).testBit k = true → b j = false := fun j hj hbit => hoff j (by rw [hbit, Bool.and_true]; simpa using hj)
    have key : ∀ (j : Nat) (ej : Eff Y.κ), effs[j]? = some ej → ((readsOf (ops.toList[k])).any (writes ej) = true ∨ (depT C (ops.toList[k]).op = true ∧ ej.mkT = true)) → b j = decide (j < k) := by
      intro j ej hj hr
      have hjl : j < ops.size := by have := (List.getElem?_eq_some_iff.1 hj).1; omega
      rcases drawnOk_at hd hlen ho hj hr with ⟨h1, h2⟩ | ⟨h1, h2⟩
      · rw [hon' j hjl h2]; simp [h1]
      · have : b j = false := by
          rcases h2 with rfl | h2
          · exact hbk
          · exact hoff' j hjl h2
        rw [this]; simp; omega
    have henv : ∀ t ∈ readsOf (ops.toList[k]), env effs b 0 Γ t = env effs (fun j => decide (j < 0 + k)) 0 Γ t := by
      intro t ht
      refine env_at effs _ _ 0 Γ Γ rfl (fun j ej hj hwr => ?_)
      rw [Nat.zero_add, Nat.zero_add]
      exact key j ej hj (.inl (List.any_eq_true.2 ⟨t, ht, hwr⟩))
    have hmk : depT C (ops.toList[k]).op = true → (tenv T effs b).isSome = (T.isSome || mkAt effs (fun j => decide (j < 0 + k)) 0) := by
      intro hdep
      rw [tenv_isSome]
      congr 1
      refine mkAt_at effs _ _ 0 (fun j ej hj hmj => ?_)
      rw [Nat.zero_add, Nat.zero_add]
      exact key j ej hj (.inr ⟨hdep, hmj⟩)
    have heff' : effOf Y C N (env effs b 0 Γ) (tenv T effs b).isSome (ops.toList[k]) = some e := by
      rw [effOf_congr henv hmk]; exact heff
    have hgd := effOf_guard heff'
    have hperm := tl_up (b := b) effs k 0 e he (by rw [Nat.zero_add]; exact hbk)
    rw [Nat.zero_add] at hperm
    have hΓ : e.onΓ (env effs b 0 Γ) = env effs (up b k) 0 Γ := by
      funext t
      cases hwt : writes e t with
      | false =>
        rw [onΓ_off hwt]
        refine env_at effs _ _ 0 Γ Γ rfl (fun j ej hj hwr => ?_)
        rw [Nat.zero_add]
        by_cases hjk : j = k
        · subst hjk
          rw [he] at hj
          obtain rfl := Option.some.inj hj
          rw [hwt] at hwr; cases hwr
        · exact (up_ne hjk).symm
      | true =>
        have ht : t ∈ readsOf (ops.toList[k]) := by
          unfold writes at hwt
          cases hs : e.slot with
          | none => rw [hs] at hwt; cases hwt
          | some x =>
            rw [hs] at hwt
            have : x.1 = t := by simpa using hwt
            exact effOf_slot heff' (t := t) (sv := x.2) (by rw [hs, ← this])
        rw [onΓ_on (Γ2 := env effs (fun j => decide (j < 0 + k)) 0 Γ) hwt, ← env_succ effs k 0 e Γ he]
        refine env_at effs _ _ 0 Γ Γ rfl (fun j ej hj hwr => ?_)
        rw [Nat.zero_add, Nat.zero_add]
        have := key j ej hj (.inl (List.any_eq_true.2 ⟨t, ht, hwr⟩))
        by_cases hjk : j = k
        · subst hjk; rw [up_self]; simp
        · rw [up_ne hjk, this]
          simp only [decide_eq_decide]
          omega
    have hfewb : ∀ l, tenv T effs b = some l → (e.ins ++ l).length ≤ 1000 := by
      intro l hl
      unfold tenv at hl
      split at hl
      case isFalse => cases hl
      obtain rfl := (Option.some.inj hl).symm
      have h1 := hperm.length_eq
      have h2 := (hsub (up b k)).length_le
      simp only [List.length_append] at h1 hfew ⊢
      omega
    rw [if_pos (by unfold Region.wanted; rw [hgd])]
    refine eff_sound C hg heff' hfewb (fun a' W' ms' hg' => hK.out a' W' ⟨ms', ?_⟩)
    rw [hΓ] at hg'
    have htab := effOf_tab heff
    cases hmke : e.mkT with
    | true =>
      obtain ⟨h1, h2, h3⟩ := htab.1 hmke
      have e1 : e.onT (tenv T effs b) = some [] := by unfold Eff.onT; rw [hmke]; rfl
      rw [e1] at hg'
      rw [Bool.or_eq_false_iff] at h1
      have hTn : T = none := by cases T <;> simp_all
      have e2 : tl effs (up b k) 0 = [] := by
        refine tl_nil effs _ 0 (fun j ej hj hbj => ?_)
        rw [Nat.zero_add] at hbj
        apply Classical.byContradiction
        intro hins
        by_cases hjk : j = k
        · subst hjk
          rw [he] at hj
          obtain rfl := Option.some.inj hj
          exact hins h2
        · rw [up_ne hjk] at hbj
          have hjl : j < ops.toList.length := by have := (List.getElem?_eq_some_iff.1 hj).1; omega
          have hoj : ops.toList[j]? = some (ops.toList[j]) := List.getElem?_eq_getElem hjl
          obtain ⟨ej', hj', heffj⟩ := hat j _ hoj
          rw [hj] at hj'
          obtain rfl := Option.some.inj hj'
          obtain ⟨h4, h5⟩ := (effOf_tab heffj).2 hins
          rcases drawnOk_at hd hlen hoj he (.inr ⟨h5, hmke⟩) with ⟨h6, h7⟩ | ⟨h6, h7⟩
          · rw [hoff' j (by simpa using hjl) h7] at hbj; cases hbj
          · rw [hTn] at h4
            simp only [Option.isSome_none, Bool.false_or] at h4
            have h8 : mkAt effs (fun q => decide (q < 0 + k)) 0 = true := by
              apply Classical.byContradiction
              intro hne
              rw [mkAt_off effs (fun q => decide (q < 0 + j)) 0 (fun q eq hq hmq => ?_)] at h4
              · cases h4
              · simp only [Nat.zero_add, decide_eq_false_iff_not]
                intro hqj
                exact hne (mkAt_on effs _ 0 q eq hq hmq (by simp; omega))
            rw [h8] at h1
            exact absurd h1.2 (by simp)
      have e3 : tenv T effs (up b k) = some [] := by
        unfold tenv
        rw [mkAt_on effs (up b k) 0 k e he hmke (by rw [Nat.zero_add]; exact up_self b k), Bool.or_true, e2, hTn]
        rfl
      rw [e3]
      exact hg'
    | false =>
      have e1 : e.onT (tenv T effs b) = (tenv T effs b).map (e.ins ++ ·) := by unfold Eff.onT; rw [hmke]; rfl
      rw [e1] at hg'
      have e2 : mkAt effs (up b k) 0 = mkAt effs b 0 := by
        refine mkAt_at effs _ _ 0 (fun j ej hj hmj => ?_)
        rw [Nat.zero_add]
        refine up_ne (fun hjk => ?_)
        subst hjk
        rw [he] at hj
        obtain rfl := Option.some.inj hj
        rw [hmke] at hmj; cases hmj
      unfold tenv at hg' ⊢
      rw [e2]
      split
      · rename_i hs
        rw [if_pos hs] at hg'
        simp only [Option.map_some] at hg'
        have hn1 : ((e.ins ++ tl effs b 0).map (·.1)).Nodup := (hperm.map _).nodup_iff.1 (List.Nodup.sublist ((hsub (up b k)).map _) hnd)
        refine hg'.relook (fun z => ?_) ?_
        · rw [← List.append_assoc, look_append Y (e.ins ++ tl effs b 0), look_append Y (tl effs (up b k) 0), look_perm Y hperm.symm hn1 z]
        · have := hperm.length_eq
          simp only [List.length_append] at this ⊢
          omega
      · rename_i hs
        rw [if_neg hs] at hg'
        exact hg'
  · rintro b a W hall ⟨ms, hg⟩
    refine hend a W ms ?_
    have hbT : ∀ j, j < ops.size → b j = true := fun j hj => hall j (by simpa using hj)
    have e1 : env effs b 0 Γ = env effs allT 0 Γ := by
      funext t
      refine env_at effs _ _ 0 Γ Γ rfl (fun j ej hj _ => ?_)
      have := (List.getElem?_eq_some_iff.1 hj).1
      rw [Nat.zero_add, hbT j (by omega)]; rfl
    have e2 : mkAt effs b 0 = mkAt effs allT 0 := mkAt_at effs _ _ 0 (fun j ej hj _ => by
      have := (List.getElem?_eq_some_iff.1 hj).1
      rw [Nat.zero_add, hbT j (by omega)]; rfl)
    have e3 : ∀ (l : List (Eff Y.κ)) (i : Nat), (∀ j, j < l.length → b (i + j) = true) → tl l b i = tl l allT i := by
      intro l
      induction l with
      | nil => intro i _; rfl
      | cons x r ih =>
        intro i hi
        unfold tl
        rw [ih (i + 1) (fun j hj => by have := hi (j + 1) (by simpa using hj); rwa [show i + (j + 1) = i + 1 + j by omega] at this)]
        have := hi 0 (by simp)
        rw [Nat.add_zero] at this
        rw [this]; rfl
    have e4 : tenv T effs b = tenv T effs allT := by
      unfold tenv
      rw [e2, e3 effs 0 (fun j hj => by rw [Nat.zero_add]; exact hbT j (by omega))]
    rw [← e1, ← e4]
    exact hg

/-- A region in its textual order. -/
theorem plain_sound {Y : Keys} (C : CallTab Y) {N : Nat} {W0 : Start} {ops0 : Array Oper} {Q : Exit → Act → World → Prop} : ∀ (ops : List Oper) (Γ : Nat → SV) (T : Option (List (Y.κ × Form))) (effs : List (Eff Y.κ)) (a : Act) (W : World) (ms : List (Nat × Nat)),
    Good Y N W0 Γ T a W ms → runSeq Y C N ops Γ T.isSome = some effs → ((effs.flatMap (·.ins)).length + (T.getD []).length ≤ 1000) →
    (∀ a' W' ms', Good Y N W0 (effs.foldl (fun Γ e => e.onΓ Γ) Γ) (effs.foldl (fun T e => e.onT T) T) a' W' ms' → Q .normal a' W') → wpList Try.prog ops0 Q ops a W
  | [], Γ, T, effs, a, W, ms, h, hr, _, hend => by
    obtain rfl := Option.some.inj hr
    exact wpList_nil (hend a W ms h)
  | o :: r, Γ, T, effs, a, W, ms, h, hr, hfew, hend => by
    unfold runSeq at hr
    obtain ⟨e, he, hr⟩ := Option.bind_eq_some_iff.1 hr
    obtain ⟨effs', h2, rfl⟩ := Option.map_eq_some_iff.1 hr
    have htab := effOf_tab he
    have hT : (e.onT T).isSome = (T.isSome || e.mkT) := by
      unfold Eff.onT
      cases hm : e.mkT with
      | true => simp
      | false => cases T <;> simp
    have hlen : ((e.onT T).getD []).length ≤ e.ins.length + (T.getD []).length := by
      unfold Eff.onT
      cases hm : e.mkT with
      | true => simp
      | false => cases T <;> simp
    refine wpList_plain (effOf_guard he) (fun K hK => eff_sound C h he (fun l hl => ?_) (fun a' W' ms' hg => hK _ _ ?_))
    · subst hl
      simp only [List.flatMap_cons, List.length_append, Option.getD_some] at hfew ⊢
      omega
    · refine plain_sound C r (e.onΓ Γ) (e.onT T) effs' a' W' ms' hg (by rw [hT]; exact h2) ?_ hend
      simp only [List.flatMap_cons, List.length_append] at hfew
      omega

/-- What code without branches computes: regions one behind the other. -/
def absCode (Y : Keys) (C : CallTab Y) (N : Nat) : Code → (Nat → SV) × Option (List (Y.κ × Form)) → Option ((Nat → SV) × Option (List (Y.κ × Form)))
  | .seq x y, s => (absCode Y C N x s).bind (absCode Y C N y)
  | .region _ ops false, s => (runSeq Y C N ops.toList s.1 s.2.isSome).bind fun effs =>
    if (effs.flatMap (·.ins)).length + (s.2.getD []).length ≤ 1000 then some (effs.foldl (fun Γ e => e.onΓ Γ) s.1, effs.foldl (fun T e => e.onT T) s.2) else none
  | .region _ ops true, s => (runSeq Y C N ops.toList s.1 s.2.isSome).bind fun effs =>
    if waitsOk (rtab .any ops).2 (bitsOf (rtab .any ops).2) && baseOk (rtab .any ops).2 (List.range ops.size) && drawnOk C ops.toList effs (bitsOf (rtab .any ops).2) && @decide ((tl effs allT 0).map (·.1)).Nodup (@List.nodupDecidable _ Y.deq _) && decide ((tl effs allT 0 ++ s.2.getD []).length ≤ 1000) then
      some (env effs allT 0 s.1, tenv s.2 effs allT) else none
  | .skip, s => some s
  | _, _ => none
theorem absCode_sound {Y : Keys} (C : CallTab Y) {N : Nat} {W0 : Start} (hm : Try.prog.follows .mixedOrders = true) : ∀ (c : Code) (s s' : (Nat → SV) × Option (List (Y.κ × Form))) (a : Act) (W : World) (ms : List (Nat × Nat)) (Q : Exit → Act → World → Prop),
    absCode Y C N c s = some s' → Good Y N W0 s.1 s.2 a W ms → (∀ a' W' ms', Good Y N W0 s'.1 s'.2 a' W' ms' → Q .normal a' W') → c.wp Try.prog Q a W := by
  intro c
  induction c with
  | seq x y ihx ihy =>
    intro s s' a W ms Q h hg hend
    simp only [absCode] at h
    obtain ⟨s1, h1, h2⟩ := Option.bind_eq_some_iff.1 h
    exact wp_seq (ihx s s1 a W ms _ h1 hg (fun a' W' ms' hg' => ihy s1 s' a' W' ms' Q h2 hg' hend))
  | region id ops b =>
    intro s s' a W ms Q h hg hend
    cases b with
    | false =>
      simp only [absCode] at h
      obtain ⟨effs, h1, h2⟩ := Option.bind_eq_some_iff.1 h
      split at h2
      case isFalse => cases h2
      rename_i hf
      obtain rfl := (Option.some.inj h2).symm
      exact wp_region_list (plain_sound C ops.toList s.1 s.2 effs a W ms hg h1 hf hend)
    | true =>
      simp only [absCode] at h
      obtain ⟨effs, h1, h2⟩ := Option.bind_eq_some_iff.1 h
      split at h2
      case isFalse => cases h2
      rename_i hf
      obtain rfl := (Option.some.inj h2).symm
      simp only [Bool.and_eq_true] at hf
      obtain ⟨⟨⟨⟨c1, c2⟩, c3⟩, c4⟩, c5⟩ := hf
      exact drawn_sound C hg h1 hm c1 c2 c3 (@of_decide_eq_true _ (@List.nodupDecidable _ Y.deq _) c4) (of_decide_eq_true c5) hend
  | skip =>
    intro s s' a W ms Q h hg hend
    obtain rfl := Option.some.inj h
    exact wp_skip (hend a W ms hg)
  | _ => intro s s' a W ms Q h; cases h
end Go.Proofs.Ytpndiobbogelpaa
