/- A whole region of code without branches, its operations in the textual order or in whatever order they may come; and regions one behind the other. No condition beyond the lemmas' own. -/
import Derived.Test.YtpndiobbogelpaaHSymRun
import Derived.Test.YtpndiobbogelpaaWInv
namespace Go.Proofs.Ytpndiobbogelpaa
open Go Go.RowKit Go.Maps Go.Proofs.Hand Go.Proofs.YtpndiobbogelpaaW.PrintWords Go.Proofs.YtpndiobbogelpaaW.PrintLast Go.Proofs.YtpndiobbogelpaaW.PrintMore
set_option maxRecDepth 100000

section
variable {Y : Keys} {C : CallTab Y} {N : Nat} {W0 : Start} {W : World} {Γ Γ2 : Nat → SV} {T : Option (List (Y.κ × Form))} {a : Act} {ms : List (Nat × Nat)}
theorem Good.move (h : Good Y N W0 Γ T a W ms) {W1 : World} (hb : Below W.heap.size W W1) : Good Y N W0 Γ T a W1 ms := by
  have hk : ∀ k, k < W.heap.size → ¬ inM ms k → W1.heap[k]? = W.heap[k]? := fun k hk _ => hb.block k hk
  refine ⟨h.sz, h.hN, h.df, fun t v hv => (h.slots t v hv).step hk (fun _ _ h => h) (fun k hm => ⟨hm, hb.block k (h.lt t k hm).1⟩) (fun _ h => h), h.n1, h.n2, fun t k hm => ⟨Nat.lt_of_lt_of_le (h.lt t k hm).1 hb.size, (h.lt t k hm).2⟩, h.own, h.out, fun l e => ?_, h.below.trans (hb.mono h.below.size)⟩
  obtain ⟨m, hm, ht⟩ := h.tab l e
  exact ⟨m, hm, ht.step (hb.block m (h.lt _ _ hm).1) hk (fun _ _ h => h)⟩
theorem Good.relook {l l2 : List (Y.κ × Form)} (h : Good Y N W0 Γ (some l) a W ms) (hl : ∀ z, look Y l z = look Y l2 z) (hlen : l.length = l2.length) : Good Y N W0 Γ (some l2) a W ms := by
  refine ⟨h.sz, h.hN, h.df, h.slots, h.n1, h.n2, h.lt, fun t k hm hle => (h.own t k hm hle).imp (fun h2 => ⟨h2.1, rfl⟩) id, h.out, fun l' e => ?_, h.below⟩
  obtain rfl := Option.some.inj e
  obtain ⟨m, hm, ht⟩ := h.tab l rfl
  refine ⟨m, hm, ?_⟩
  rw [← hlen, ← (funext hl : look Y l = look Y l2)]
  exact ht
end

section
variable {Y : Keys} {C : CallTab Y} {N : Nat} {Γ : Nat → SV} {b : Bool} {o : Oper} {e : Eff Y.κ}
theorem effOf_guard (he : effOf Y C N Γ b o = some e) : o.guard = none := by
  unfold effOf at he
  split at he
  · cases he
  · rename_i h
    cases hg : o.guard with
    | none => rfl
    | some g => rw [hg] at h; exact absurd rfl h
theorem effOf_tab (he : effOf Y C N Γ b o = some e) : (e.mkT = true → b = false ∧ e.ins = [] ∧ depT C o.op = true) ∧ (e.ins ≠ [] → b = true ∧ depT C o.op = true) := by
  obtain ⟨dst, op, ty, pos, after, guard⟩ := o
  unfold effOf at he
  simp only at he ⊢
  split at he
  case isTrue => cases he
  cases dst with
  | none =>
    simp only at he
    cases op <;> try (simp at he; done)
    case store t' p x =>
      cases p <;> try (simp at he; done)
      simp only at he
      split at he
      case isFalse => cases he
      split at he
      case h_2 => cases he
      obtain rfl := (Option.some.inj he).symm
      exact ⟨fun h => (by cases h), fun h => absurd rfl h⟩
    case insert mt m k x =>
      cases k <;> try (simp at he; done)
      simp only at he
      split at he
      case isFalse => cases he
      rename_i hc
      split at he
      case h_2 => cases he
      obtain rfl := (Option.some.inj he).symm
      exact ⟨fun h => (by cases h), fun _ => ⟨hc.2, rfl⟩⟩
  | some d =>
    simp only at he
    split at he
    case isFalse => cases he
    have plain : ∀ (x : Option (Nat × SV)), e = ⟨x, false, []⟩ → (e.mkT = true → b = false ∧ e.ins = [] ∧ depT C op = true) ∧ (e.ins ≠ [] → b = true ∧ depT C op = true) := by
      rintro x rfl
      exact ⟨fun h => (by cases h), fun h => absurd rfl h⟩
    cases op <;> try (simp [effDst] at he; done)
    case move x => simp only [effDst] at he; split at he <;> cases he; exact plain _ rfl
    case assign x => simp only [effDst] at he; split at he <;> cases he; exact plain _ rfl
    case alloc x => simp only [effDst] at he; split at he <;> cases he; exact plain _ rfl
    case load t x =>
      simp only [effDst] at he
      split at he
      case isFalse => cases he
      split at he <;> cases he
      exact plain _ rfl
    case makeMap mt r =>
      cases r
      · simp only [effDst] at he
        split at he <;> cases he
        rename_i hc
        exact ⟨fun _ => ⟨hc.2, rfl, rfl⟩, fun h => absurd rfl h⟩
      · simp [effDst] at he
    case makeFunc fn first cap =>
      cases fn <;> try (simp [effDst] at he; done)
      simp only [effDst] at he
      split at he
      case h_2 => cases he
      split at he <;> cases he
      exact plain _ rfl
    case buildSlice t len parts =>
      simp only [effDst] at he
      split at he
      case isFalse => cases he
      split at he
      · obtain ⟨l, _, rfl⟩ := Option.map_eq_some_iff.1 he; exact plain _ rfl
      · split at he
        · obtain ⟨l, _, rfl⟩ := Option.map_eq_some_iff.1 he; exact plain _ rfl
        · cases he
    case call c =>
      simp only [effDst] at he
      split at he
      case isFalse => cases he
      split at he
      · rename_i hp
        split at he
        case h_2 => cases he
        split at he
        case isFalse => cases he
        rename_i hb
        obtain ⟨l, _, rfl⟩ := Option.map_eq_some_iff.1 he
        exact ⟨fun h => (by cases h), fun _ => ⟨hb, hp⟩⟩
      · split at he
        case h_2 => cases he
        split at he
        · obtain ⟨r, _, he⟩ := Option.bind_eq_some_iff.1 he
          split at he <;> cases he
          exact plain _ rfl
        · obtain ⟨r, _, he⟩ := Option.bind_eq_some_iff.1 he
          split at he <;> cases he
          exact plain _ rfl
        · cases he
end

def runSeq (Y : Keys) (C : CallTab Y) (N : Nat) : List Oper → (Nat → SV) → Bool → Option (List (Eff Y.κ))
  | [], _, _ => some []
  | o :: r, Γ, hT => (effOf Y C N Γ hT o).bind fun e => (runSeq Y C N r (e.onΓ Γ) (hT || e.mkT)).map (e :: ·)
def mkAt {κ : Type} : List (Eff κ) → (Nat → Bool) → Nat → Bool
  | [], _, _ => false
  | e :: r, b, i => (b i && e.mkT) || mkAt r b (i + 1)
theorem mkAt_at {κ : Type} : ∀ (effs : List (Eff κ)) (b b2 : Nat → Bool) (i : Nat), (∀ j e, effs[j]? = some e → e.mkT = true → b (i + j) = b2 (i + j)) → mkAt effs b i = mkAt effs b2 i
  | [], _, _, _, _ => rfl
  | e :: r, b, b2, i, h => by
    unfold mkAt
    rw [mkAt_at r b b2 (i + 1) (fun j e' he hm => by have := h (j + 1) e' (by simpa using he) hm; rwa [show i + (j + 1) = i + 1 + j by omega] at this)]
    cases hm : e.mkT with
    | false => simp
    | true => have h0 := h 0 e rfl hm; rw [Nat.add_zero] at h0; rw [h0]
theorem mkAt_off {κ : Type} : ∀ (effs : List (Eff κ)) (b : Nat → Bool) (i : Nat), (∀ j e, effs[j]? = some e → e.mkT = true → b (i + j) = false) → mkAt effs b i = false
  | [], _, _, _ => rfl
  | e :: r, b, i, h => by
    unfold mkAt
    rw [mkAt_off r b (i + 1) (fun j e' he hm => by have := h (j + 1) e' (by simpa using he) hm; rwa [show i + (j + 1) = i + 1 + j by omega] at this)]
    cases hm : e.mkT with
    | false => simp
    | true => have h0 := h 0 e rfl hm; rw [Nat.add_zero] at h0; rw [h0]; rfl
theorem mkAt_on {κ : Type} : ∀ (effs : List (Eff κ)) (b : Nat → Bool) (i j : Nat) (e : Eff κ), effs[j]? = some e → e.mkT = true → b (i + j) = true → mkAt effs b i = true
  | [], _, _, _, _, h, _, _ => by simp at h
  | e :: r, b, i, 0, e', h, hm, hb => by
    simp only [List.getElem?_cons_zero, Option.some.injEq] at h
    subst h
    unfold mkAt
    rw [Nat.add_zero] at hb
    rw [hb, hm]; rfl
  | e :: r, b, i, j + 1, e', h, hm, hb => by
    unfold mkAt
    rw [mkAt_on r b (i + 1) j e' (by simpa using h) hm (by rwa [show i + 1 + j = i + (j + 1) by omega])]
    simp
theorem runSeq_at {Y : Keys} {C : CallTab Y} {N : Nat} : ∀ (ops : List Oper) (effs : List (Eff Y.κ)) (Γ : Nat → SV) (hT : Bool) (i : Nat), runSeq Y C N ops Γ hT = some effs →
    effs.length = ops.length ∧ ∀ (k : Nat) (o : Oper), ops[k]? = some o → ∃ e, effs[k]? = some e ∧ effOf Y C N (env effs (fun j => decide (j < i + k)) i Γ) (hT || mkAt effs (fun j => decide (j < i + k)) i) o = some e
  | [], effs, Γ, hT, i, h => by
    obtain rfl := Option.some.inj h
    exact ⟨rfl, fun k o h => by simp at h⟩
  | o :: r, effs, Γ, hT, i, h => by
    unfold runSeq at h
    obtain ⟨e, he, h⟩ := Option.bind_eq_some_iff.1 h
    obtain ⟨effs', h2, rfl⟩ := Option.map_eq_some_iff.1 h
    obtain ⟨i1, i2⟩ := runSeq_at r effs' (e.onΓ Γ) (hT || e.mkT) (i + 1) h2
    refine ⟨by simp [i1], fun k o' hk => ?_⟩
    cases k with
    | zero =>
      simp only [List.getElem?_cons_zero, Option.some.injEq] at hk
      subst hk
      refine ⟨e, rfl, ?_⟩
      rw [env_none _ _ _ _ (fun j => by simp), mkAt_off _ _ _ (fun j e _ _ => by simp), Bool.or_false]
      exact he
    | succ k =>
      obtain ⟨e', h3, h4⟩ := i2 k o' (by simpa using hk)
      refine ⟨e', by simpa using h3, ?_⟩
      unfold env mkAt
      have hd : decide (i < i + 1 + k) = true := decide_eq_true (by omega)
      rw [show i + (k + 1) = i + 1 + k by omega]
      simp only [hd, if_true, Bool.true_and, ← Bool.or_assoc]
      exact h4
/-- What each operation waits for, closed under itself, as bits. -/
def bitsOf (T : List (List Nat × List Nat)) : List Nat := (List.range T.length).foldl (fun B d => B ++ [upM B d ((T[d]?).getD ([], [])).1]) []
/-- Each operation waits for what it reads; nothing that writes what it reads comes ahead of it but what it waits for. -/
def drawnOk {Y : Keys} (C : CallTab Y) (ops : List Oper) (effs : List (Eff Y.κ)) (B : List Nat) : Bool :=
  (List.range ops.length).all fun k => match ops[k]?, effs[k]? with
    | some o, some _ => (List.range ops.length).all fun j => match effs[j]? with
      | some ej => !((readsOf o).any (writes ej) || (depT C o.op && ej.mkT)) || (if j < k then (B.getD k 0).testBit j else (j == k || (B.getD j 0).testBit k))
      | none => true
    | _, _ => true
theorem drawnOk_at {Y : Keys} {C : CallTab Y} {ops : List Oper} {effs : List (Eff Y.κ)} {B : List Nat} (h : drawnOk C ops effs B = true) (hlen : effs.length = ops.length) {k j : Nat} {o : Oper} {ej : Eff Y.κ} (ho : ops[k]? = some o) (hj : effs[j]? = some ej)
    (hr : (readsOf o).any (writes ej) = true ∨ (depT C o.op = true ∧ ej.mkT = true)) : (j < k ∧ (B.getD k 0).testBit j = true) ∨ (k ≤ j ∧ (j = k ∨ (B.getD j 0).testBit k = true)) := by
  have hk := (List.getElem?_eq_some_iff.1 ho).1
  have hjl := (List.getElem?_eq_some_iff.1 hj).1
  have h1 := List.all_eq_true.1 h k (List.mem_range.2 hk)
  rw [ho, List.getElem?_eq_getElem (by omega : k < effs.length)] at h1
  have h2 := List.all_eq_true.1 h1 j (List.mem_range.2 (by omega))
  rw [hj] at h2
  simp only at h2
  have h3 : ((readsOf o).any (writes ej) || (depT C o.op && ej.mkT)) = true := by
    rcases hr with hr | ⟨h4, h5⟩
    · rw [hr]; rfl
    · rw [h4, h5]; simp
  rw [h3] at h2
  simp only [Bool.not_true, Bool.false_or] at h2
  split at h2
  · rename_i hlt; exact .inl ⟨hlt, h2⟩
  · rename_i hlt
    rw [Bool.or_eq_true, beq_iff_eq] at h2
    exact .inr ⟨by omega, h2⟩
def tenv {Y : Keys} (T : Option (List (Y.κ × Form))) (effs : List (Eff Y.κ)) (b : Nat → Bool) : Option (List (Y.κ × Form)) :=
  if (T.isSome || mkAt effs b 0) = true then some (tl effs b 0 ++ T.getD []) else none
theorem tenv_isSome {Y : Keys} {T : Option (List (Y.κ × Form))} {effs : List (Eff Y.κ)} {b : Nat → Bool} : (tenv T effs b).isSome = (T.isSome || mkAt effs b 0) := by
  unfold tenv
  split
  · rename_i h; rw [h]; rfl
  · rename_i h; simp at h; simp [h]
def allT : Nat → Bool := fun _ => true

set_option maxHeartbeats 1000000 in
/-- A region that draws its order. -/
theorem drawn_sound {Y : Keys} (C : CallTab Y) {N : Nat} {W0 : Start} {W : World} {Γ : Nat → SV} {T : Option (List (Y.κ × Form))} {a : Act} {ms : List (Nat × Nat)} {id : Nat} {ops : Array Oper} {effs : List (Eff Y.κ)} {Q : Exit → Act → World → Prop}
    (h : Good Y N W0 Γ T a W ms) (hrun : runSeq Y C N ops.toList Γ T.isSome = some effs) (hm : Try.prog.follows .mixedOrders = true)
    (hw : waitsOk (rtab .any ops).2 (bitsOf (rtab .any ops).2) = true) (hb : baseOk (rtab .any ops).2 (List.range ops.size) = true) (hd : drawnOk C ops.toList effs (bitsOf (rtab .any ops).2) = true)
    (hnd : ((tl effs allT 0).map (·.1)).Nodup) (hfew : (tl effs allT 0 ++ T.getD []).length ≤ 1000)
    (hend : ∀ a' W' ms', Good Y N W0 (env effs allT 0 Γ) (tenv T effs allT) a' W' ms' → Q .normal a' W') : (Code.region id ops true).wp Try.prog Q a W := by
  obtain ⟨hlen, hat⟩ := runSeq_at ops.toList effs Γ T.isSome 0 hrun
  have hlen' : effs.length = ops.size := by rw [hlen, Array.length_toList]
  generalize hB : bitsOf (rtab .any ops).2 = B at hw hd
  have hsub : ∀ b, (tl effs b 0).Sublist (tl effs allT 0) := fun b => tl_sub effs b 0
  refine wp_region_last (S := fun _ => True) (ds := []) hm ?_
  refine inv_ (B := B) (List.range ops.size) (fun b a W => ∃ ms, Good Y N W0 (env effs b 0 Γ) (tenv T effs b) a W ms) rfl hw hb ?_ ?_ ?_ ?_
  · rw [rtab_length, Bool.and_eq_true, beq_iff_eq, beq_iff_eq]
    refine ⟨?_, by simp⟩
    apply List.ext_getElem?
    intro j
    by_cases hj : j < ops.size
    · simp [lof, hj]
    · simp [lof, hj]
  · refine ⟨ms, ?_⟩
    have e1 : env effs (fun _ => false) 0 Γ = Γ := env_none effs _ 0 Γ (fun _ => rfl)
    have e2 : tenv T effs (fun _ => false) = T := by
      unfold tenv
      rw [mkAt_off effs _ 0 (fun _ _ _ _ => rfl), tl_nil effs _ 0 (fun _ _ _ hb => by cases hb)]
      cases T <;> rfl
    rw [e1, e2]
    exact h.move (Below.drew (Below.refl _ _))
  · intro k hk b a W hI hbk hon hoff
    rw [List.mem_range] at hk
    obtain ⟨ms, hg⟩ := hI
    have hk' : k < ops.toList.length := by simpa using hk
    have ho : ops.toList[k]? = some (ops.toList[k]) := List.getElem?_eq_getElem hk'
    refine ⟨ops.toList[k], by simp, fun K hK => ?_⟩
    obtain ⟨e, he, heff⟩ := hat k _ ho
    have hon' : ∀ j, j < ops.size → (B.getD k 0).testBit j = true → b j = true := fun j hj hbit => hon j (by rw [hbit, Bool.and_true]; simpa using hj)
    have hoff' : ∀ j, j < ops.size → (B.getD j 0).testBit k = true → b j = false := fun j hj hbit => hoff j (by rw [hbit, Bool.and_true]; simpa using hj)
    have key : ∀ (j : Nat) (ej : Eff Y.κ), effs[j]? = some ej → ((readsOf (ops.toList[k])).any (writes ej) = true ∨ (depT C (ops.toList[k]).op = true ∧ ej.mkT = true)) → b j = decide (j < k) := by
      intro j ej hj hr
      have hjl : j < ops.size := by have := (List.getElem?_eq_some_iff.1 hj).1; omega
      rcases drawnOk_at hd hlen ho hj hr with ⟨h1, h2⟩ | ⟨h1, h2⟩
      · rw [hon' j hjl h2]; simp [h1]
      · have : b j = false := by
          rcases h2 with rfl | h2
          · exact hbk
          · exact hoff' j hjl h2
        rw [this]; simp; omega
    have henv : ∀ t ∈ readsOf (ops.toList[k]), env effs b 0 Γ t = env effs (fun j => decide (j < 0 + k)) 0 Γ t := by
      intro t ht
      refine env_at effs _ _ 0 Γ Γ rfl (fun j ej hj hwr => ?_)
      rw [Nat.zero_add, Nat.zero_add]
      exact key j ej hj (.inl (List.any_eq_true.2 ⟨t, ht, hwr⟩))
    have hmk : depT C (ops.toList[k]).op = true → (tenv T effs b).isSome = (T.isSome || mkAt effs (fun j => decide (j < 0 + k)) 0) := by
      intro hdep
      rw [tenv_isSome]
      congr 1
      refine mkAt_at effs _ _ 0 (fun j ej hj hmj => ?_)
      rw [Nat.zero_add, Nat.zero_add]
      exact key j ej hj (.inr ⟨hdep, hmj⟩)
    have heff' : effOf Y C N (env effs b 0 Γ) (tenv T effs b).isSome (ops.toList[k]) = some e := by
      rw [effOf_congr henv hmk]; exact heff
    have hgd := effOf_guard heff'
    have hperm := tl_up (b := b) effs k 0 e he (by rw [Nat.zero_add]; exact hbk)
    rw [Nat.zero_add] at hperm
    have hΓ : e.onΓ (env effs b 0 Γ) = env effs (up b k) 0 Γ := by
      funext t
      cases hwt : writes e t with
      | false =>
        rw [onΓ_off hwt]
        refine env_at effs _ _ 0 Γ Γ rfl (fun j ej hj hwr => ?_)
        rw [Nat.zero_add]
        by_cases hjk : j = k
        · subst hjk
          rw [he] at hj
          obtain rfl := Option.some.inj hj
          rw [hwt] at hwr; cases hwr
        · exact (up_ne hjk).symm
      | true =>
        have ht : t ∈ readsOf (ops.toList[k]) := by
          unfold writes at hwt
          cases hs : e.slot with
          | none => rw [hs] at hwt; cases hwt
          | some x =>
            rw [hs] at hwt
            have : x.1 = t := by simpa using hwt
            exact effOf_slot heff' (t := t) (sv := x.2) (by rw [hs, ← this])
        rw [onΓ_on (Γ2 := env effs (fun j => decide (j < 0 + k)) 0 Γ) hwt, ← env_succ effs k 0 e Γ he]
        refine env_at effs _ _ 0 Γ Γ rfl (fun j ej hj hwr => ?_)
        rw [Nat.zero_add, Nat.zero_add]
        have := key j ej hj (.inl (List.any_eq_true.2 ⟨t, ht, hwr⟩))
        by_cases hjk : j = k
        · subst hjk; rw [up_self]; simp
        · rw [up_ne hjk, this]
          simp only [decide_eq_decide]
          omega
    have hfewb : ∀ l, tenv T effs b = some l → (e.ins ++ l).length ≤ 1000 := by
      intro l hl
      unfold tenv at hl
      split at hl
      case isFalse => cases hl
      obtain rfl := (Option.some.inj hl).symm
      have h1 := hperm.length_eq
      have h2 := (hsub (up b k)).length_le
      simp only [List.length_append] at h1 hfew ⊢
      omega
    rw [if_pos (by unfold Region.wanted; rw [hgd])]
    refine eff_sound C hg heff' hfewb (fun a' W' ms' hg' => hK.out a' W' ⟨ms', ?_⟩)
    rw [hΓ] at hg'
    have htab := effOf_tab heff
    cases hmke : e.mkT with
    | true =>
      obtain ⟨h1, h2, h3⟩ := htab.1 hmke
      have e1 : e.onT (tenv T effs b) = some [] := by unfold Eff.onT; rw [hmke]; rfl
      rw [e1] at hg'
      rw [Bool.or_eq_false_iff] at h1
      have hTn : T = none := by cases T <;> simp_all
      have e2 : tl effs (up b k) 0 = [] := by
        refine tl_nil effs _ 0 (fun j ej hj hbj => ?_)
        rw [Nat.zero_add] at hbj
        apply Classical.byContradiction
        intro hins
        by_cases hjk : j = k
        · subst hjk
          rw [he] at hj
          obtain rfl := Option.some.inj hj
          exact hins h2
        · rw [up_ne hjk] at hbj
          have hjl : j < ops.toList.length := by have := (List.getElem?_eq_some_iff.1 hj).1; omega
          have hoj : ops.toList[j]? = some (ops.toList[j]) := List.getElem?_eq_getElem hjl
          obtain ⟨ej', hj', heffj⟩ := hat j _ hoj
          rw [hj] at hj'
          obtain rfl := Option.some.inj hj'
          obtain ⟨h4, h5⟩ := (effOf_tab heffj).2 hins
          rcases drawnOk_at hd hlen hoj he (.inr ⟨h5, hmke⟩) with ⟨h6, h7⟩ | ⟨h6, h7⟩
          · rw [hoff' j (by simpa using hjl) h7] at hbj; cases hbj
          · rw [hTn] at h4
            simp only [Option.isSome_none, Bool.false_or] at h4
            have h8 : mkAt effs (fun q => decide (q < 0 + k)) 0 = true := by
              apply Classical.byContradiction
              intro hne
              rw [mkAt_off effs (fun q => decide (q < 0 + j)) 0 (fun q eq hq hmq => ?_)] at h4
              · cases h4
              · simp only [Nat.zero_add, decide_eq_false_iff_not]
                intro hqj
                exact hne (mkAt_on effs _ 0 q eq hq hmq (by simp; omega))
            rw [h8] at h1
            exact absurd h1.2 (by simp)
      have e3 : tenv T effs (up b k) = some [] := by
        unfold tenv
        rw [mkAt_on effs (up b k) 0 k e he hmke (by rw [Nat.zero_add]; exact up_self b k), Bool.or_true, e2, hTn]
        rfl
      rw [e3]
      exact hg'
    | false =>
      have e1 : e.onT (tenv T effs b) = (tenv T effs b).map (e.ins ++ ·) := by unfold Eff.onT; rw [hmke]; rfl
      rw [e1] at hg'
      have e2 : mkAt effs (up b k) 0 = mkAt effs b 0 := by
        refine mkAt_at effs _ _ 0 (fun j ej hj hmj => ?_)
        rw [Nat.zero_add]
        refine up_ne (fun hjk => ?_)
        subst hjk
        rw [he] at hj
        obtain rfl := Option.some.inj hj
        rw [hmke] at hmj; cases hmj
      unfold tenv at hg' ⊢
      rw [e2]
      split
      · rename_i hs
        rw [if_pos hs] at hg'
        simp only [Option.map_some] at hg'
        have hn1 : ((e.ins ++ tl effs b 0).map (·.1)).Nodup := (hperm.map _).nodup_iff.1 (List.Nodup.sublist ((hsub (up b k)).map _) hnd)
        refine hg'.relook (fun z => ?_) ?_
        · rw [← List.append_assoc, look_append Y (e.ins ++ tl effs b 0), look_append Y (tl effs (up b k) 0), look_perm Y hperm.symm hn1 z]
        · have := hperm.length_eq
          simp only [List.length_append] at this ⊢
          omega
      · rename_i hs
        rw [if_neg hs] at hg'
        exact hg'
  · rintro b a W hall ⟨ms, hg⟩
    refine hend a W ms ?_
    have hbT : ∀ j, j < ops.size → b j = true := fun j hj => hall j (by simpa using hj)
    have e1 : env effs b 0 Γ = env effs allT 0 Γ := by
      funext t
      refine env_at effs _ _ 0 Γ Γ rfl (fun j ej hj _ => ?_)
      have := (List.getElem?_eq_some_iff.1 hj).1
      rw [Nat.zero_add, hbT j (by omega)]; rfl
    have e2 : mkAt effs b 0 = mkAt effs allT 0 := mkAt_at effs _ _ 0 (fun j ej hj _ => by
      have := (List.getElem?_eq_some_iff.1 hj).1
      rw [Nat.zero_add, hbT j (by omega)]; rfl)
    have e3 : ∀ (l : List (Eff Y.κ)) (i : Nat), (∀ j, j < l.length → b (i + j) = true) → tl l b i = tl l allT i := by
      intro l
      induction l with
      | nil => intro i _; rfl
      | cons x r ih =>
        intro i hi
        unfold tl
        rw [ih (i + 1) (fun j hj => by have := hi (j + 1) (by simpa using hj); rwa [show i + (j + 1) = i + 1 + j by omega] at this)]
        have := hi 0 (by simp)
        rw [Nat.add_zero] at this
        rw [this]; rfl
    have e4 : tenv T effs b = tenv T effs allT := by
      unfold tenv
      rw [e2, e3 effs 0 (fun j hj => by rw [Nat.zero_add]; exact hbT j (by omega))]
    rw [← e1, ← e4]
    exact hg

/-- A region in its textual order. -/
theorem plain_sound {Y : Keys} (C : CallTab Y) {N : Nat} {W0 : Start} {ops0 : Array Oper} {Q : Exit → Act → World → Prop} : ∀ (ops : List Oper) (Γ : Nat → SV) (T : Option (List (Y.κ × Form))) (effs : List (Eff Y.κ)) (a : Act) (W : World) (ms : List (Nat × Nat)),
    Good Y N W0 Γ T a W ms → runSeq Y C N ops Γ T.isSome = some effs → ((effs.flatMap (·.ins)).length + (T.getD []).length ≤ 1000) →
    (∀ a' W' ms', Good Y N W0 (effs.foldl (fun Γ e => e.onΓ Γ) Γ) (effs.foldl (fun T e => e.onT T) T) a' W' ms' → Q .normal a' W') → wpList Try.prog ops0 Q ops a W
  | [], Γ, T, effs, a, W, ms, h, hr, _, hend => by
    obtain rfl := Option.some.inj hr
    exact wpList_nil (hend a W ms h)
  | o :: r, Γ, T, effs, a, W, ms, h, hr, hfew, hend => by
    unfold runSeq at hr
    obtain ⟨e, he, hr⟩ := Option.bind_eq_some_iff.1 hr
    obtain ⟨effs', h2, rfl⟩ := Option.map_eq_some_iff.1 hr
    have htab := effOf_tab he
    have hT : (e.onT T).isSome = (T.isSome || e.mkT) := by
      unfold Eff.onT
      cases hm : e.mkT with
      | true => simp
      | false => cases T <;> simp
    have hlen : ((e.onT T).getD []).length ≤ e.ins.length + (T.getD []).length := by
      unfold Eff.onT
      cases hm : e.mkT with
      | true => simp
      | false => cases T <;> simp
    refine wpList_plain (effOf_guard he) (fun K hK => eff_sound C h he (fun l hl => ?_) (fun a' W' ms' hg => hK _ _ ?_))
    · subst hl
      simp only [List.flatMap_cons, List.length_append, Option.getD_some] at hfew ⊢
      omega
    · refine plain_sound C r (e.onΓ Γ) (e.onT T) effs' a' W' ms' hg (by rw [hT]; exact h2) ?_ hend
      simp only [List.flatMap_cons, List.length_append] at hfew
      omega

/-- What code without branches computes: regions one behind the other. -/
def absCode (Y : Keys) (C : CallTab Y) (N : Nat) : Code → (Nat → SV) × Option (List (Y.κ × Form)) → Option ((Nat → SV) × Option (List (Y.κ × Form)))
  | .seq x y, s => (absCode Y C N x s).bind (absCode Y C N y)
  | .region _ ops false, s => (runSeq Y C N ops.toList s.1 s.2.isSome).bind fun effs =>
    if (effs.flatMap (·.ins)).length + (s.2.getD []).length ≤ 1000 then some (effs.foldl (fun Γ e => e.onΓ Γ) s.1, effs.foldl (fun T e => e.onT T) s.2) else none
  | .region _ ops true, s => (runSeq Y C N ops.toList s.1 s.2.isSome).bind fun effs =>
    if waitsOk (rtab .any ops).2 (bitsOf (rtab .any ops).2) && baseOk (rtab .any ops).2 (List.range ops.size) && drawnOk C ops.toList effs (bitsOf (rtab .any ops).2) && @decide ((tl effs allT 0).map (·.1)).Nodup (@List.nodupDecidable _ Y.deq _) && decide ((tl effs allT 0 ++ s.2.getD []).length ≤ 1000) then
      some (env effs allT 0 s.1, tenv s.2 effs allT) else none
  | .skip, s => some s
  | _, _ => none
theorem absCode_sound {Y : Keys} (C : CallTab Y) {N : Nat} {W0 : Start} (hm : Try.prog.follows .mixedOrders = true) : ∀ (c : Code) (s s' : (Nat → SV) × Option (List (Y.κ × Form))) (a : Act) (W : World) (ms : List (Nat × Nat)) (Q : Exit → Act → World → Prop),
    absCode Y C N c s = some s' → Good Y N W0 s.1 s.2 a W ms → (∀ a' W' ms', Good Y N W0 s'.1 s'.2 a' W' ms' → Q .normal a' W') → c.wp Try.prog Q a W := by
  intro c
  induction c with
  | seq x y ihx ihy =>
    intro s s' a W ms Q h hg hend
    simp only [absCode] at h
    obtain ⟨s1, h1, h2⟩ := Option.bind_eq_some_iff.1 h
    exact wp_seq (ihx s s1 a W ms _ h1 hg (fun a' W' ms' hg' => ihy s1 s' a' W' ms' Q h2 hg' hend))
  | region id ops b =>
    intro s s' a W ms Q h hg hend
    cases b with
    | false =>
      simp only [absCode] at h
      obtain ⟨effs, h1, h2⟩ := Option.bind_eq_some_iff.1 h
      split at h2
      case isFalse => cases h2
      rename_i hf
      obtain rfl := (Option.some.inj h2).symm
      exact wp_region_list (plain_sound C ops.toList s.1 s.2 effs a W ms hg h1 hf hend)
    | true =>
      simp only [absCode] at h
      obtain ⟨effs, h1, h2⟩ := Option.bind_eq_some_iff.1 h
      split at h2
      case isFalse => cases h2
      rename_i hf
      obtain rfl := (Option.some.inj h2).symm
      simp only [Bool.and_eq_true] at hf
      obtain ⟨⟨⟨⟨c1, c2⟩, c3⟩, c4⟩, c5⟩ := hf
      exact drawn_sound C hg h1 hm c1 c2 c3 (@of_decide_eq_true _ (@List.nodupDecidable _ Y.deq _) c4) (of_decide_eq_true c5) hend
  | skip =>
    intro s s' a W ms Q h hg hend
    obtain rfl := Option.some.inj h
    exact wp_skip (hend a W ms hg)
  | _ => intro s s' a W ms Q h; cases h
end Go.Proofs.Ytpndiobbogelpaa
