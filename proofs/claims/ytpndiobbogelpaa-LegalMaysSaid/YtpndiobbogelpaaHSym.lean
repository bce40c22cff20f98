/- Code without branches, its values told by what they mean (a form, a row of forms, a variable that holds a form, a map of forms): one operation at a time. No condition beyond the lemmas' own. -/
import Derived.Test.YtpndiobbogelpaaProg
import Derived.Test.YtpndiobbogelpaaHKinds
import Derived.Test.YtpndiobbogelpaaHMaps
import Derived.Great.BuildSlice
import Derived.Deep.MidRow
import Derived.Laws.NewFold
namespace Go.Proofs.Ytpndiobbogelpaa
open Go Go.RowKit Go.Maps Go.Proofs.Hand Go.Proofs.YtpndiobbogelpaaW.PrintWords Go.Proofs.YtpndiobbogelpaaW.PrintLast Go.Proofs.YtpndiobbogelpaaW.PrintMore
set_option maxRecDepth 100000

abbrev Form := S53
abbrev kForm : Kd Form := k53
/-- Block k may still be turned: a map that is being filled, a variable that has been laid and not been written. -/
def inM (ms : List (Nat × Nat)) (k : Nat) : Prop := ∃ t, (t, k) ∈ ms
def FormIn (W : World) (ms : List (Nat × Nat)) (v : Value) (f : Form) : Prop := ∃ cs : List Value, v = .agg cs.toArray ∧ Kd.FK kForm W (fun k => ¬ inM ms k) f cs
def BoxIn (W : World) (ms : List (Nat × Nat)) (v : Value) (f : Form) : Prop :=
  ∃ (b : Nat) (cs : List Value), v = .pointer (some ⟨b, 0, none⟩) ∧ ¬ inM ms b ∧ W.heap[b]? = some (.cells cs.toArray 53 (0, 0)) ∧ Kd.FK kForm W (fun k => ¬ inM ms k) f cs

/-- What a slot holds. -/
inductive SV
  | any
  | int (n : Int)
  | form (f : Form)
  | forms (l : List Form)
  | ints (l : List Int)
  | fresh
  | box (f : Form)
  | tab
  | fn (g : Nat)
  | clos (g : Nat) (f : Form)
def tabSlot : Nat := 1000000
def Sat (W : World) (ms : List (Nat × Nat)) (t : Nat) (v : Value) : SV → Prop
  | .any => True
  | .int n => v = .int .i64 n
  | .form f => FormIn W ms v f
  | .forms l => ∃ A c, v = .slice A l.length c ∧ l.length ≤ c ∧ (A = none → c = 0) ∧ Kd.F kForm W (fun k => ¬ inM ms k) A l.length l
  | .ints l => ∃ A c, v = .slice A l.length c ∧ l.length ≤ c ∧ Kd.F (Kd.int .i64) W (fun k => ¬ inM ms k) A l.length l
  | .fresh => ∃ (b : Nat) (cs : Array Value), v = .pointer (some ⟨b, 0, none⟩) ∧ (t, b) ∈ ms ∧ W.heap[b]? = some (.cells cs 53 (0, 0)) ∧ cs.size = 6
  | .box f => BoxIn W ms v f
  | .tab => ∃ m, v = .map (some m) ∧ (tabSlot, m) ∈ ms
  | .fn g => v = .func (.func g) #[] #[]
  | .clos g f => ∃ p, v = .func (.func g) #[] #[p] ∧ BoxIn W ms p f

theorem FormIn.step {W W1 : World} {ms ms' : List (Nat × Nat)} {v : Value} {f : Form} (h : FormIn W ms v f) (hk : ∀ k, k < W.heap.size → ¬ inM ms k → W1.heap[k]? = W.heap[k]?) (hm : ∀ k, k < W.heap.size → ¬ inM ms k → ¬ inM ms' k) : FormIn W1 ms' v f := by
  obtain ⟨cs, e, h⟩ := h
  exact ⟨cs, e, Kd.FK_mono (Kd.FK_step (Kd.FK_bound h) (fun k hk' _ => hk k hk'.2 hk'.1)) (fun k hk' => hm k hk'.2 hk'.1)⟩
theorem BoxIn.step {W W1 : World} {ms ms' : List (Nat × Nat)} {v : Value} {f : Form} (h : BoxIn W ms v f) (hk : ∀ k, k < W.heap.size → ¬ inM ms k → W1.heap[k]? = W.heap[k]?) (hm : ∀ k, k < W.heap.size → ¬ inM ms k → ¬ inM ms' k) : BoxIn W1 ms' v f := by
  obtain ⟨b, cs, e, hb, hc, h⟩ := h
  have hlt := (Array.getElem?_eq_some_iff.1 hc).1
  exact ⟨b, cs, e, hm b hlt hb, (hk b hlt hb).trans hc, Kd.FK_mono (Kd.FK_step (Kd.FK_bound h) (fun k hk' _ => hk k hk'.2 hk'.1)) (fun k hk' => hm k hk'.2 hk'.1)⟩
/-- A step that turns only what may be turned, and of that nothing that slot t has laid. -/
theorem Sat.step {W W1 : World} {ms ms' : List (Nat × Nat)} {t : Nat} {v : Value} {sv : SV} (h : Sat W ms t v sv) (hk : ∀ k, k < W.heap.size → ¬ inM ms k → W1.heap[k]? = W.heap[k]?) (hm : ∀ k, k < W.heap.size → ¬ inM ms k → ¬ inM ms' k)
    (ht : ∀ k, (t, k) ∈ ms → (t, k) ∈ ms' ∧ W1.heap[k]? = W.heap[k]?) (htab : ∀ k, (tabSlot, k) ∈ ms → (tabSlot, k) ∈ ms') : Sat W1 ms' t v sv := by
  cases sv with
  | any => trivial
  | int n => exact h
  | form f => exact FormIn.step h hk hm
  | forms l =>
    obtain ⟨A, c, e, hl, hc, h⟩ := h
    exact ⟨A, c, e, hl, hc, Kd.F_mono (Kd.F_step (Kd.F_bound h) (fun k hk' _ => hk k hk'.2 hk'.1)) (fun k hk' => hm k hk'.2 hk'.1)⟩
  | ints l =>
    obtain ⟨A, c, e, hl, h⟩ := h
    exact ⟨A, c, e, hl, Kd.F_mono (Kd.F_step (Kd.F_bound h) (fun k hk' _ => hk k hk'.2 hk'.1)) (fun k hk' => hm k hk'.2 hk'.1)⟩
  | fresh =>
    obtain ⟨b, cs, e, hb, hc, hs⟩ := h
    exact ⟨b, cs, e, (ht b hb).1, (ht b hb).2.trans hc, hs⟩
  | box f => exact BoxIn.step h hk hm
  | tab =>
    obtain ⟨m, e, hm'⟩ := h
    exact ⟨m, e, htab m hm'⟩
  | fn g => exact h
  | clos g f =>
    obtain ⟨p, e, h⟩ := h
    exact ⟨p, e, BoxIn.step h hk hm⟩

/-- What a map of forms is over: keys, as values and as literals. -/
structure Keys where
  κ : Type
  enc : κ → Value
  lit : κ → Lit
  ok : κ → Prop
  deq : DecidableEq κ
  mt : Nat
  kt : Nat
  law : Keyed Try.prog kt
  und : Try.prog.underlying mt = some (.map kt 53)
  key : ∀ x, ok x → keyOf Try.prog kt (enc x) = some (lit x)
  same : ∀ x y, ok x → ok y → (lit x).sameKey (lit y) = decide (x = y)
  back : ∀ kl, (∃ v, keyOf Try.prog kt v = some kl) → ∃ x, ok x ∧ kl = lit x
  dec : Value → Option κ
  dec_ok : ∀ v x, dec v = some x → ok x ∧ v = enc x

/-- The map at block m tells T's forms. -/
def TabAt (Y : Keys) (W : World) (ms : List (Nat × Nat)) (m n : Nat) (T : Y.κ → Option Form) : Prop :=
  ∃ M : Lit → Option Value, Hand.IsMap W Try.prog Y.kt m n M ∧ ∀ x, Y.ok x → match T x with
    | none => M (Y.lit x) = none
    | some f => ∃ v, M (Y.lit x) = some v ∧ FormIn W ms v f
theorem TabAt.step {Y : Keys} {W W1 : World} {ms ms' : List (Nat × Nat)} {m n : Nat} {T : Y.κ → Option Form} (h : TabAt Y W ms m n T) (hb : W1.heap[m]? = W.heap[m]?) (hk : ∀ k, k < W.heap.size → ¬ inM ms k → W1.heap[k]? = W.heap[k]?) (hm : ∀ k, k < W.heap.size → ¬ inM ms k → ¬ inM ms' k) : TabAt Y W1 ms' m n T := by
  obtain ⟨M, hM, hT⟩ := h
  refine ⟨M, hM.move hb, fun x hx => ?_⟩
  have := hT x hx
  cases hTx : T x with
  | none => rw [hTx] at this; exact this
  | some f =>
    rw [hTx] at this
    obtain ⟨v, h1, h2⟩ := this
    exact ⟨v, h1, h2.step hk hm⟩
def upd (Y : Keys) (T : Y.κ → Option Form) (x : Y.κ) (f : Form) : Y.κ → Option Form := fun z => if (Y.deq z x).decide then some f else T z
/-- What a list of entries tells: the first that is met. -/
def look (Y : Keys) : List (Y.κ × Form) → Y.κ → Option Form
  | [], _ => none
  | x :: l, z => if (Y.deq z x.1).decide then some x.2 else look Y l z
/-- Where code began: the world; the blocks of others that are to be kept away from. -/
structure Start where
  w : World
  out : Nat → Prop
/-- The state: what each slot holds; what the map tells, if there is one. -/
structure Good (Y : Keys) (N : Nat) (W0 : Start) (Γ : Nat → SV) (T : Option (List (Y.κ × Form))) (a : Act) (W : World) (ms : List (Nat × Nat)) : Prop where
  sz : a.tmps.size = N
  hN : N ≤ tabSlot
  df : a.defers = []
  slots : ∀ t v, a.tmps[t]? = some v → Sat W ms t v (Γ t)
  n1 : (ms.map (·.1)).Nodup
  n2 : (ms.map (·.2)).Nodup
  lt : ∀ t k, (t, k) ∈ ms → k < W.heap.size ∧ (t ≤ tabSlot → W0.w.heap.size ≤ k)
  own : ∀ t k, (t, k) ∈ ms → t ≤ tabSlot → (t = tabSlot ∧ T.isSome = true) ∨ (t < N ∧ Γ t = .fresh)
  out : ∀ k, W0.out k → ∃ t, tabSlot < t ∧ (t, k) ∈ ms
  tab : ∀ l, T = some l → ∃ m, (tabSlot, m) ∈ ms ∧ TabAt Y W ms m l.length (look Y l)
  below : Below W0.w.heap.size W0.w W

theorem nodup_fst {ms : List (Nat × Nat)} (h : (ms.map (·.1)).Nodup) {t k k' : Nat} (h1 : (t, k) ∈ ms) (h2 : (t, k') ∈ ms) : k = k' := by
  induction ms with
  | nil => cases h1
  | cons x r ih =>
    rw [List.map_cons, List.nodup_cons] at h
    rcases List.mem_cons.1 h1 with e1 | h1 <;> rcases List.mem_cons.1 h2 with e2 | h2
    · rw [← e1] at e2; exact (Prod.mk.inj e2).2.symm
    · exact absurd (List.mem_map.2 ⟨_, h2, rfl⟩) (by rw [← e1] at h; exact h.1)
    · exact absurd (List.mem_map.2 ⟨_, h1, rfl⟩) (by rw [← e2] at h; exact h.1)
    · exact ih h.2 h1 h2
theorem nodup_snd {ms : List (Nat × Nat)} (h : (ms.map (·.2)).Nodup) {t t' k : Nat} (h1 : (t, k) ∈ ms) (h2 : (t', k) ∈ ms) : t = t' := by
  induction ms with
  | nil => cases h1
  | cons x r ih =>
    rw [List.map_cons, List.nodup_cons] at h
    rcases List.mem_cons.1 h1 with e1 | h1 <;> rcases List.mem_cons.1 h2 with e2 | h2
    · rw [← e1] at e2; exact (Prod.mk.inj e2).1.symm
    · exact absurd (List.mem_map.2 ⟨_, h2, rfl⟩) (by rw [← e1] at h; exact h.1)
    · exact absurd (List.mem_map.2 ⟨_, h1, rfl⟩) (by rw [← e2] at h; exact h.1)
    · exact ih h.2 h1 h2

def put1 (Γ : Nat → SV) (t : Nat) (sv : SV) : Nat → SV := fun t' => if t' = t then sv else Γ t'
theorem put1_ne {Γ : Nat → SV} {d t : Nat} {sv : SV} (h : t ≠ d) : put1 Γ d sv t = Γ t := if_neg h
section
variable {Y : Keys} {N : Nat} {W0 : Start} {W : World} {Γ : Nat → SV} {T : Option (List (Y.κ × Form))} {a : Act} {ms : List (Nat × Nat)}
theorem put_get {a : Act} {t t' : Nat} {v v' : Value} (h : (a.put (some t) v).tmps[t']? = some v') : (t' = t ∧ v' = v) ∨ (t' ≠ t ∧ a.tmps[t']? = some v') := by
  simp only [Act.put] at h
  by_cases e : t = t'
  · subst e
    left
    rw [Array.getElem?_setIfInBounds_self] at h
    split at h
    · exact ⟨rfl, (Option.some.inj h).symm⟩
    · cases h
  · right
    rw [Array.getElem?_setIfInBounds_ne e] at h
    exact ⟨fun h' => e h'.symm, h⟩
/-- A value that was made of new blocks alone goes into slot d. -/
theorem Good.next (h : Good Y N W0 Γ T a W ms) {W1 : World} {d : Nat} {v : Value} {sv : SV} (hb : Below W.heap.size W W1) (hd : ∀ k, (d, k) ∉ ms) (hs : Sat W1 ms d v sv) : Good Y N W0 (put1 Γ d sv) T (a.put (some d) v) W1 ms := by
  have hk : ∀ k, k < W.heap.size → ¬ inM ms k → W1.heap[k]? = W.heap[k]? := fun k hk _ => hb.block k hk
  refine ⟨by simp [Act.put, h.sz], h.hN, h.df, fun t v' hv => ?_, h.n1, h.n2, fun t k hm => ⟨Nat.lt_of_lt_of_le (h.lt t k hm).1 hb.size, (h.lt t k hm).2⟩, fun t k hm hle => (h.own t k hm hle).imp id (fun h2 => ⟨h2.1, (put1_ne (fun (e : t = d) => hd k (e ▸ hm))).trans h2.2⟩), h.out, fun l e => ?_, h.below.trans (hb.mono h.below.size)⟩
  · rcases put_get hv with ⟨rfl, rfl⟩ | ⟨hne, hv⟩
    · simp only [put1, if_pos]; exact hs
    · simp only [put1, if_neg hne]
      exact (h.slots t v' hv).step hk (fun _ _ h => h) (fun k hm => ⟨hm, hb.block k (h.lt t k hm).1⟩) (fun _ h => h)
  · obtain ⟨m, hm, ht⟩ := h.tab l e
    exact ⟨m, hm, ht.step (hb.block m (h.lt _ _ hm).1) hk (fun _ _ h => h)⟩
/-- A variable is laid: slot d points to it. -/
theorem Good.laid (h : Good Y N W0 Γ T a W ms) {d : Nat} {cs : Array Value} (hd : ∀ k, (d, k) ∉ ms) (hs : cs.size = 6) (hdN : d < N) :
    Good Y N W0 (put1 Γ d .fresh) T (a.put (some d) (.pointer (some ⟨W.heap.size, 0, none⟩))) (W.alloc (.cells cs 53)) ((d, W.heap.size) :: ms) := by
  have hb : Below W.heap.size W (W.alloc (.cells cs 53)) := (Below.refl _ _).alloc (Nat.le_refl _) _
  have hk : ∀ k, k < W.heap.size → ¬ inM ms k → (W.alloc (.cells cs 53)).heap[k]? = W.heap[k]? := fun k hk _ => hb.block k hk
  have hm' : ∀ k, k < W.heap.size → ¬ inM ms k → ¬ inM ((d, W.heap.size) :: ms) k := by
    rintro k hlt hn ⟨t, ht⟩
    rcases List.mem_cons.1 ht with e | ht
    · have := (Prod.mk.inj e).2; omega
    · exact hn ⟨t, ht⟩
  refine ⟨by simp [Act.put, h.sz], h.hN, h.df, fun t v' hv => ?_, ?_, ?_, fun t k hm => ?_, fun t k hm hle => ?_, fun k hk => (by obtain ⟨t, h1, h2⟩ := h.out k hk; exact ⟨t, h1, List.mem_cons_of_mem _ h2⟩), fun l e => ?_, h.below.trans (hb.mono h.below.size)⟩
  · rcases put_get hv with ⟨rfl, rfl⟩ | ⟨hne, hv⟩
    · simp only [put1, if_pos]
      exact ⟨_, cs, rfl, List.mem_cons_self, heap_at W _ _ rfl, hs⟩
    · simp only [put1, if_neg hne]
      exact (h.slots t v' hv).step hk hm' (fun k hm => ⟨List.mem_cons_of_mem _ hm, hb.block k (h.lt t k hm).1⟩) (fun _ h => List.mem_cons_of_mem _ h)
  · rw [List.map_cons, List.nodup_cons]
    refine ⟨fun hm => ?_, h.n1⟩
    obtain ⟨⟨t, k⟩, hp, e⟩ := List.mem_map.1 hm
    simp only at e
    subst e
    exact hd k hp
  · rw [List.map_cons, List.nodup_cons]
    refine ⟨fun hm => ?_, h.n2⟩
    obtain ⟨⟨t, k⟩, hp, e⟩ := List.mem_map.1 hm
    have := (h.lt t k hp).1
    simp only at e
    omega
  · rcases List.mem_cons.1 hm with e | hm
    · obtain ⟨rfl, rfl⟩ := Prod.mk.inj e
      exact ⟨by simp, fun _ => h.below.size⟩
    · exact ⟨by have := (h.lt t k hm).1; simp; omega, (h.lt t k hm).2⟩
  · rcases List.mem_cons.1 hm with e | hm
    · obtain ⟨rfl, rfl⟩ := Prod.mk.inj e
      exact .inr ⟨hdN, by rw [put1, if_pos rfl]⟩
    · exact (h.own t k hm hle).imp id (fun h2 => ⟨h2.1, (put1_ne (fun (e : t = d) => hd k (e ▸ hm))).trans h2.2⟩)
  · obtain ⟨m, hm, ht⟩ := h.tab l e
    exact ⟨m, List.mem_cons_of_mem _ hm, ht.step (hb.block m (h.lt _ _ hm).1) hk hm'⟩
/-- Of what lay, only block m is turned. -/
structure But (m : Nat) (W W1 : World) : Prop where
  os : W1.os = W.os
  tape : W1.tape = W.tape
  output : W1.output = W.output
  size : W.heap.size ≤ W1.heap.size
  block : ∀ k, k < W.heap.size → k ≠ m → W1.heap[k]? = W.heap[k]?
theorem But.trans {m : Nat} {X Y Z : World} (h : But m X Y) (k : But m Y Z) : But m X Z :=
  ⟨k.os.trans h.os, k.tape.trans h.tape, k.output.trans h.output, Nat.le_trans h.size k.size, fun i hi hne => (k.block i (Nat.lt_of_lt_of_le hi h.size) hne).trans (h.block i hi hne)⟩
theorem But.of_below {m : Nat} {X Y : World} (h : Below X.heap.size X Y) : But m X Y := ⟨h.os, h.tape, h.output, h.size, fun i hi _ => h.block i hi⟩
theorem But.of_grown {m : Nat} {X Y : World} (h : X.grownBy Y (some m)) : But m X Y := ⟨h.os, h.tape, h.output, h.size, fun i hi hne => h.block i hi (fun e => hne (Option.some.inj e))⟩
theorem But.below {m B : Nat} {W0 X Y : World} (h : But m X Y) (h0 : Below B W0 X) (hB : B ≤ X.heap.size) (hm : B ≤ m) : Below B W0 Y :=
  h0.trans ⟨h.os, h.tape, h.output, h.size, fun i hi => h.block i (by omega) (by omega)⟩
theorem Good.turned (h : Good Y N W0 Γ T a W ms) {m : Nat} {l : List (Y.κ × Form)} {W1 : World} (hm : (tabSlot, m) ∈ ms) (hk : But m W W1) (ht : TabAt Y W1 ms m l.length (look Y l)) : Good Y N W0 Γ (some l) a W1 ms := by
  refine ⟨h.sz, h.hN, h.df, fun t v hv => ?_, h.n1, h.n2, fun t k hm => ⟨Nat.lt_of_lt_of_le (h.lt t k hm).1 hk.size, (h.lt t k hm).2⟩, fun t k hm hle => (h.own t k hm hle).imp (fun h2 => ⟨h2.1, rfl⟩) id, h.out, fun l' e => ?_, hk.below h.below h.below.size ((h.lt _ _ hm).2 (Nat.le_refl _))⟩
  · have htl : t < N := by rw [← h.sz]; exact (Array.getElem?_eq_some_iff.1 hv).1
    refine (h.slots t v hv).step (fun k hlt hn => hk.block k hlt (fun e => hn ⟨_, e ▸ hm⟩)) (fun _ _ h => h) (fun k hkm => ⟨hkm, hk.block k (h.lt t k hkm).1 (fun e => ?_)⟩) (fun _ h => h)
    have := nodup_snd h.n2 (e ▸ hkm) hm
    have := h.hN
    omega
  · obtain rfl := Option.some.inj e
    exact ⟨m, hm, ht⟩
/-- A variable that was laid is written. -/
theorem Good.stored (h : Good Y N W0 Γ T a W ms) {p : Nat} {vp v : Value} {f : Form} (hp : a.tmps[p]? = some vp) (hΓ : Γ p = .fresh) (hv : FormIn W ms v f) :
    ∃ (b : Nat) (cs old : Array Value), vp = .pointer (some ⟨b, 0, none⟩) ∧ v = .agg cs ∧ W.heap[b]? = some (.cells old 53 (0, 0)) ∧ old.size = cs.size ∧ cs.size = 6 ∧ cs.all (·.oneCell') = true ∧
      ∃ ms', (∀ t k, (t, k) ∈ ms' → (t, k) ∈ ms) ∧ Good Y N W0 (put1 Γ p (.box f)) T a (W.setRow b cs) ms' := by
  have hsp := h.slots p vp hp
  rw [hΓ] at hsp
  obtain ⟨b, old, rfl, hb, hold, hs⟩ := hsp
  obtain ⟨cs, rfl, hf⟩ := hv
  have hlen : cs.length = 6 := kForm.K_len (Kd.FK_now hf)
  have hone := kForm.K_one (Kd.FK_now hf)
  have hpl : p < N := by rw [← h.sz]; exact (Array.getElem?_eq_some_iff.1 hp).1
  have hpt : p ≠ tabSlot := by have := h.hN; omega
  refine ⟨b, cs.toArray, old, rfl, rfl, hold, by rw [hs]; simp [hlen], by simp [hlen], ?_, ms.filter (fun x => decide (x.2 ≠ b)), fun t k hk => (List.mem_filter.1 hk).1, ?_⟩
  · rw [Array.all_eq_true_iff_forall_mem]; intro u hu; exact hone u (by simpa using hu)
  have hrow := setRow_heap W b old cs.toArray 53 (0, 0) hold
  have hoth : ∀ k, k ≠ b → (W.setRow b cs.toArray).heap[k]? = W.heap[k]? := fun k hk => setRow_other W b k cs.toArray hk
  have hsz : (W.setRow b cs.toArray).heap.size = W.heap.size := size_setRow W b cs.toArray
  have hmem : ∀ t k, (t, k) ∈ ms.filter (fun x => decide (x.2 ≠ b)) ↔ (t, k) ∈ ms ∧ k ≠ b := fun t k => by rw [List.mem_filter]; simp
  have hin : ∀ k, ¬ inM ms k → ¬ inM (ms.filter (fun x => decide (x.2 ≠ b))) k := fun k hn ⟨t, ht⟩ => hn ⟨t, ((hmem t k).1 ht).1⟩
  have hkeep : ∀ k, k < W.heap.size → ¬ inM ms k → (W.setRow b cs.toArray).heap[k]? = W.heap[k]? := fun k _ hn => hoth k (fun e => hn ⟨p, e ▸ hb⟩)
  have htabne : ∀ k, (tabSlot, k) ∈ ms → k ≠ b := fun k hk e => hpt (nodup_snd h.n2 hb (e ▸ hk))
  refine ⟨h.sz, h.hN, h.df, fun t v hv => ?_, List.Nodup.sublist (List.filter_sublist.map _) h.n1, List.Nodup.sublist (List.filter_sublist.map _) h.n2, fun t k hk => ?_, fun t k hk hle => ?_, fun k hk => ?_, fun l e => ?_, ?_⟩
  · by_cases e : t = p
    · subst e
      simp only [put1, if_pos]
      rw [hp] at hv
      obtain rfl := Option.some.inj hv
      refine ⟨b, cs, rfl, fun ⟨t', ht'⟩ => ((hmem t' b).1 ht').2 rfl, hrow, Kd.FK_mono (Kd.FK_step hf (fun k hk hlt => hkeep k hlt hk)) hin⟩
    · simp only [put1, if_neg e]
      refine (h.slots t v hv).step hkeep (fun k _ hn => hin k hn) (fun k hk => ?_) (fun k hk => (hmem _ _).2 ⟨hk, htabne k hk⟩)
      have hne : k ≠ b := fun e' => e (nodup_snd h.n2 (e' ▸ hk) hb)
      exact ⟨(hmem _ _).2 ⟨hk, hne⟩, hoth k hne⟩
  · rw [hsz]; exact h.lt t k ((hmem t k).1 hk).1
  · have hk1 := (hmem t k).1 hk
    exact (h.own t k hk1.1 hle).imp id (fun h2 => ⟨h2.1, (put1_ne (fun (e : t = p) => hk1.2 (nodup_fst h.n1 (e ▸ hk1.1) hb))).trans h2.2⟩)
  · obtain ⟨t, h1, h2⟩ := h.out k hk
    refine ⟨t, h1, (hmem t k).2 ⟨h2, fun e => ?_⟩⟩
    have := nodup_snd h.n2 (e ▸ h2) hb
    have := h.hN
    omega
  · obtain ⟨m, hm, ht⟩ := h.tab l e
    exact ⟨m, (hmem _ _).2 ⟨hm, htabne m hm⟩, ht.step (hoth m (htabne m hm)) hkeep (fun k _ hn => hin k hn)⟩
  · refine h.below.trans ⟨rfl, rfl, rfl, by rw [hsz]; exact Nat.le_refl _, fun k hk => hoth k (fun e => ?_)⟩
    have := (h.lt p b hb).2 (by have := h.hN; omega)
    omega
/-- The map is made. -/
theorem Good.made (h : Good Y N W0 Γ T a W ms) {d : Nat} (hd : ∀ k, (d, k) ∉ ms) (hno : ∀ k, (tabSlot, k) ∉ ms) (hT : T = none) :
    Good Y N W0 (put1 Γ d .tab) (some []) (a.put (some d) (.map (some W.heap.size))) (W.alloc (.map #[] 0)) ((tabSlot, W.heap.size) :: ms) := by
  subst hT
  have hb : Below W.heap.size W (W.alloc (.map #[] 0)) := (Below.refl _ _).alloc (Nat.le_refl _) _
  have hk : ∀ k, k < W.heap.size → ¬ inM ms k → (W.alloc (.map #[] 0)).heap[k]? = W.heap[k]? := fun k hk _ => hb.block k hk
  have hm' : ∀ k, k < W.heap.size → ¬ inM ms k → ¬ inM ((tabSlot, W.heap.size) :: ms) k := by
    rintro k hlt hn ⟨t, ht⟩
    rcases List.mem_cons.1 ht with e | ht
    · have := (Prod.mk.inj e).2; omega
    · exact hn ⟨t, ht⟩
  refine ⟨by simp [Act.put, h.sz], h.hN, h.df, fun t v' hv => ?_, ?_, ?_, fun t k hm => ?_, fun t k hm hle => ?_, fun k hk => (by obtain ⟨t, h1, h2⟩ := h.out k hk; exact ⟨t, h1, List.mem_cons_of_mem _ h2⟩), fun l e => ?_, h.below.trans (hb.mono h.below.size)⟩
  · rcases put_get hv with ⟨rfl, rfl⟩ | ⟨hne, hv⟩
    · simp only [put1, if_pos]
      exact ⟨_, rfl, List.mem_cons_self⟩
    · simp only [put1, if_neg hne]
      exact (h.slots t v' hv).step hk hm' (fun k hm => ⟨List.mem_cons_of_mem _ hm, hb.block k (h.lt t k hm).1⟩) (fun _ h => List.mem_cons_of_mem _ h)
  · rw [List.map_cons, List.nodup_cons]
    refine ⟨fun hm => ?_, h.n1⟩
    obtain ⟨⟨t, k⟩, hp, e⟩ := List.mem_map.1 hm
    simp only at e
    subst e
    exact hno k hp
  · rw [List.map_cons, List.nodup_cons]
    refine ⟨fun hm => ?_, h.n2⟩
    obtain ⟨⟨t, k⟩, hp, e⟩ := List.mem_map.1 hm
    have := (h.lt t k hp).1
    simp only at e
    omega
  · rcases List.mem_cons.1 hm with e | hm
    · obtain ⟨rfl, rfl⟩ := Prod.mk.inj e
      exact ⟨by simp, fun _ => h.below.size⟩
    · exact ⟨by have := (h.lt t k hm).1; simp; omega, (h.lt t k hm).2⟩
  · rcases List.mem_cons.1 hm with e | hm
    · obtain ⟨rfl, rfl⟩ := Prod.mk.inj e
      exact .inl ⟨rfl, rfl⟩
    · exact (h.own t k hm hle).imp (fun h2 => ⟨h2.1, rfl⟩) (fun h2 => ⟨h2.1, (put1_ne (fun (e : t = d) => hd k (e ▸ hm))).trans h2.2⟩)
  · obtain rfl := Option.some.inj e
    exact ⟨_, List.mem_cons_self, _, isMap_made W Try.prog Y.kt, fun x _ => rfl⟩
/-- A form goes into the map. -/
theorem TabAt.update {m n : Nat} {T' : Y.κ → Option Form} (h : TabAt Y W ms m n T') (hn : n < maxLen) {x : Y.κ} (hx : Y.ok x) {v : Value} {f : Form} (hv : FormIn W ms v f) (hm : inM ms m) :
    ∃ W1, (Instr.mapUpdate Y.mt (.map (some m)) (Y.enc x) v).run Try.prog W = .ok () W1 ∧ But m W W1 ∧ TabAt Y W1 ms m (n + 1) (upd Y T' x f) := by
  obtain ⟨M, hM, hT⟩ := h
  obtain ⟨W1, hrun, hM1, hg⟩ := hM.update Y.law Y.und hn v (Y.key x hx)
  have hk : ∀ k, k < W.heap.size → ¬ inM ms k → W1.heap[k]? = W.heap[k]? := fun k hlt hn => hg.block k hlt (fun e => hn (by rw [Option.some.inj e]; exact hm))
  refine ⟨W1, hrun, But.of_grown hg, _, hM1, fun z hz => ?_⟩
  have hd := Y.same z x hz hx
  unfold upd
  by_cases e : z = x
  · subst e
    rw [@decide_eq_true _ (Y.deq z z) rfl]
    simp only [if_true]
    refine ⟨v, ?_, hv.step hk (fun _ _ h => h)⟩
    rw [if_pos (by rw [hd]; simp)]
  · rw [@decide_eq_false _ (Y.deq z x) e]
    simp only [Bool.false_eq_true, if_false]
    have h0 := hT z hz
    cases hTz : T' z with
    | none =>
      rw [hTz] at h0
      simp only at h0 ⊢
      rw [if_neg (by rw [hd]; simpa using e)]
      exact h0
    | some g =>
      rw [hTz] at h0
      obtain ⟨u, h1, h2⟩ := h0
      refine ⟨u, ?_, h2.step hk (fun _ _ h => h)⟩
      rw [if_neg (by rw [hd]; simpa using e)]
      exact h1
end
end Go.Proofs.Ytpndiobbogelpaa
