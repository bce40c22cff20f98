/- Code without branches, whatever the order in which a region's operations come: what it computes is what they compute in their textual order, if each waits for what it reads. No condition beyond the lemmas' own. -/
import Derived.Test.YtpndiobbogelpaaHSymOp
namespace Go.Proofs.Ytpndiobbogelpaa
open Go Go.RowKit Go.Maps Go.Proofs.Hand Go.Proofs.YtpndiobbogelpaaW.PrintWords Go.Proofs.YtpndiobbogelpaaW.PrintLast Go.Proofs.YtpndiobbogelpaaW.PrintMore
set_option maxRecDepth 100000

def tmpsOf1 : Operand → List Nat
  | .tmp t => [t]
  | _ => []
def tmpsOf : Op → List Nat
  | .move x => tmpsOf1 x
  | .assign x => tmpsOf1 x
  | .load _ x => tmpsOf1 x
  | .store _ p x => tmpsOf1 p ++ tmpsOf1 x
  | .insert _ m _ x => tmpsOf1 m ++ tmpsOf1 x
  | .makeFunc _ _ cap => cap.toList.flatMap tmpsOf1
  | .buildSlice _ _ parts => (parts.toList.map (·.2)).flatMap tmpsOf1
  | .call c => (match c.callee with | .value f => tmpsOf1 f | _ => []) ++ c.args.toList.flatMap tmpsOf1
  | _ => []
def readsOf (o : Oper) : List Nat := tmpsOf o.op ++ o.dst.toList
def depT {Y : Keys} (C : CallTab Y) : Op → Bool
  | .insert .. => true
  | .makeMap .. => true
  | .call c => putCall C c
  | _ => false
section
variable {Y : Keys} {C : CallTab Y} {N : Nat} {Γ Γ2 : Nat → SV} {b b2 : Bool}
theorem argOf_congr {x : Operand} (h : ∀ t ∈ tmpsOf1 x, Γ t = Γ2 t) : argOf N Γ x = argOf N Γ2 x := by
  cases x with
  | tmp t => simp only [argOf]; rw [h t (by simp [tmpsOf1])]
  | const v => unfold argOf; split <;> first | rfl | (rename_i e; cases e)
  | global g => rfl
  | func g => rfl
theorem argsOf_congr : ∀ {xs : List Operand}, (∀ t ∈ xs.flatMap tmpsOf1, Γ t = Γ2 t) → argsOf N Γ xs = argsOf N Γ2 xs
  | [], _ => rfl
  | x :: xs, h => by
    simp only [argsOf, List.map_cons]
    rw [argOf_congr (x := x) (fun t ht => h t (by simp [ht]))]
    have := argsOf_congr (xs := xs) (fun t ht => h t (by rw [List.flatMap_cons]; exact List.mem_append.2 (.inr ht)))
    simp only [argsOf] at this
    rw [this]
theorem effOf_congr {o : Oper} (hr : ∀ t ∈ readsOf o, Γ t = Γ2 t) (hT : depT C o.op = true → b = b2) : effOf Y C N Γ b o = effOf Y C N Γ2 b2 o := by
  obtain ⟨dst, op, ty, pos, after, guard⟩ := o
  simp only [readsOf] at hr
  simp only at hT
  unfold effOf
  simp only
  split
  · rfl
  cases dst with
  | none =>
    simp only
    cases op <;> try rfl
    case store t p x =>
      cases p <;> try rfl
      rename_i p
      simp only
      rw [hr p (by simp [tmpsOf, tmpsOf1]), argOf_congr (x := x) (fun t ht => hr t (by simp [tmpsOf, ht]))]
    case insert mt m k x =>
      cases k <;> try rfl
      simp only
      rw [argOf_congr (x := m) (fun t ht => hr t (by simp [tmpsOf, ht])), argOf_congr (x := x) (fun t ht => hr t (by simp [tmpsOf, ht])), hT rfl]
  | some d =>
    simp only
    rw [hr d (by simp)]
    have e : effDst Y C N Γ b d op = effDst Y C N Γ2 b2 d op := by
      cases op <;> try rfl
      case move x => simp only [effDst]; rw [argOf_congr (x := x) (fun t ht => hr t (by simp [tmpsOf, ht]))]
      case assign x => simp only [effDst]; rw [argOf_congr (x := x) (fun t ht => hr t (by simp [tmpsOf, ht]))]
      case load t x => simp only [effDst]; rw [argOf_congr (x := x) (fun t ht => hr t (by simp [tmpsOf, ht]))]
      case makeMap mt r =>
        rw [hT rfl]
        cases r <;> rfl
      case makeFunc fn first cap =>
        cases fn <;> try rfl
        simp only [effDst]
        split
        · rename_i x h1 h2
          rw [argOf_congr (x := x) (fun t ht => hr t (by simp only [tmpsOf, h2]; simp [ht]))]
        · rfl
      case buildSlice t len parts =>
        simp only [effDst]
        rw [argsOf_congr (xs := parts.toList.map (·.2)) (fun t ht => hr t (by simp only [tmpsOf]; exact List.mem_append.2 (.inl ht)))]
      case call c =>
        simp only [effDst]
        have ha := argsOf_congr (N := N) (xs := c.args.toList) (fun t ht => hr t (by simp only [tmpsOf]; exact List.mem_append.2 (.inl (List.mem_append.2 (.inr ht)))))
        rw [ha]
        split
        case isFalse => rfl
        split
        · rename_i hp
          rw [hT hp]
        · split
          · rename_i f hf
            have hf' := argOf_congr (N := N) (x := f) (fun t ht => hr t (by simp only [tmpsOf, hf]; exact List.mem_append.2 (.inl (List.mem_append.2 (.inl ht)))))
            rw [hf']
          · rfl
    rw [e]
theorem effOf_slot {o : Oper} {e : Eff Y.κ} (he : effOf Y C N Γ b o = some e) {t : Nat} {sv : SV} (hs : e.slot = some (t, sv)) : t ∈ readsOf o := by
  obtain ⟨dst, op, ty, pos, after, guard⟩ := o
  unfold effOf at he
  simp only at he
  split at he
  case isTrue => cases he
  cases dst with
  | none =>
    simp only at he
    cases op <;> try (simp at he; done)
    case store t' p x =>
      cases p <;> try (simp at he; done)
      simp only at he
      split at he
      case isFalse => cases he
      split at he
      case h_2 => cases he
      obtain rfl := (Option.some.inj he).symm
      simp only [Option.some.injEq, Prod.mk.injEq] at hs
      obtain ⟨rfl, _⟩ := hs
      simp [readsOf, tmpsOf, tmpsOf1]
    case insert mt m k x =>
      cases k <;> try (simp at he; done)
      simp only at he
      split at he
      case isFalse => cases he
      split at he
      case h_2 => cases he
      obtain rfl := (Option.some.inj he).symm
      cases hs
  | some d =>
    simp only at he
    split at he
    case isFalse => cases he
    have hd : t = d := by
      cases op <;> try (simp [effDst] at he; done)
      case move x => simp only [effDst] at he; split at he <;> cases he; cases hs; rfl
      case assign x => simp only [effDst] at he; split at he <;> cases he; cases hs; rfl
      case alloc x => simp only [effDst] at he; split at he <;> cases he; cases hs; rfl
      case load t x =>
        simp only [effDst] at he
        split at he
        case isFalse => cases he
        split at he <;> cases he
        cases hs; rfl
      case makeMap mt r =>
        cases r
        · simp only [effDst] at he; split at he <;> cases he; cases hs; rfl
        · simp [effDst] at he
      case makeFunc fn first cap =>
        cases fn <;> try (simp [effDst] at he; done)
        simp only [effDst] at he
        split at he
        case h_2 => cases he
        split at he <;> cases he
        cases hs; rfl
      case buildSlice t len parts =>
        simp only [effDst] at he
        split at he
        case isFalse => cases he
        split at he
        · obtain ⟨l, _, rfl⟩ := Option.map_eq_some_iff.1 he; cases hs; rfl
        · split at he
          · obtain ⟨l, _, rfl⟩ := Option.map_eq_some_iff.1 he; cases hs; rfl
          · cases he
      case call c =>
        simp only [effDst] at he
        split at he
        case isFalse => cases he
        split at he
        · split at he
          case h_2 => cases he
          split at he
          case isFalse => cases he
          obtain ⟨l, _, rfl⟩ := Option.map_eq_some_iff.1 he; cases hs; rfl
        · split at he
          case h_2 => cases he
          split at he
          · obtain ⟨r, _, he⟩ := Option.bind_eq_some_iff.1 he
            split at he <;> cases he
            cases hs; rfl
          · obtain ⟨r, _, he⟩ := Option.bind_eq_some_iff.1 he
            split at he <;> cases he
            cases hs; rfl
          · cases he
    subst hd
    simp [readsOf]
end

/-! The slots when just the operations of b have come. -/
section
variable {κ : Type}
def writes (e : Eff κ) (t : Nat) : Bool := match e.slot with
  | some x => x.1 == t
  | none => false
theorem onΓ_off {e : Eff κ} {Γ : Nat → SV} {t : Nat} (h : writes e t = false) : e.onΓ Γ t = Γ t := by
  unfold writes at h
  unfold Eff.onΓ
  cases hs : e.slot with
  | none => rfl
  | some x =>
    rw [hs] at h
    have : ¬ t = x.1 := by intro e; simp [e] at h
    simp [put1, this]
theorem onΓ_on {e : Eff κ} {Γ Γ2 : Nat → SV} {t : Nat} (h : writes e t = true) : e.onΓ Γ t = e.onΓ Γ2 t := by
  unfold writes at h
  unfold Eff.onΓ
  cases hs : e.slot with
  | none => rw [hs] at h; cases h
  | some x =>
    rw [hs] at h
    have : t = x.1 := by simpa using (beq_iff_eq.1 h).symm
    simp [put1, this]
def env : List (Eff κ) → (Nat → Bool) → Nat → (Nat → SV) → Nat → SV
  | [], _, _, Γ => Γ
  | e :: r, b, i, Γ => env r b (i + 1) (if b i = true then e.onΓ Γ else Γ)
theorem env_at {t : Nat} : ∀ (effs : List (Eff κ)) (b b2 : Nat → Bool) (i : Nat) (Γ Γ2 : Nat → SV), Γ t = Γ2 t → (∀ j e, effs[j]? = some e → writes e t = true → b (i + j) = b2 (i + j)) → env effs b i Γ t = env effs b2 i Γ2 t
  | [], _, _, _, _, _, h, _ => h
  | e :: r, b, b2, i, Γ, Γ2, h, hw => by
    unfold env
    refine env_at r b b2 (i + 1) _ _ ?_ (fun j e' he hwr => by have := hw (j + 1) e' (by simpa using he) hwr; rwa [show i + (j + 1) = i + 1 + j by omega] at this)
    cases hwe : writes e t with
    | true =>
      have h0 := hw 0 e rfl hwe
      rw [Nat.add_zero] at h0
      rw [h0]
      split
      · exact onΓ_on hwe
      · exact h
    | false =>
      have h1 : (if b i = true then e.onΓ Γ else Γ) t = Γ t := by split <;> first | exact onΓ_off hwe | rfl
      have h2 : (if b2 i = true then e.onΓ Γ2 else Γ2) t = Γ2 t := by split <;> first | exact onΓ_off hwe | rfl
      rw [h1, h2]; exact h
theorem env_none : ∀ (effs : List (Eff κ)) (b : Nat → Bool) (i : Nat) (Γ : Nat → SV), (∀ j, b (i + j) = false) → env effs b i Γ = Γ
  | [], _, _, _, _ => rfl
  | e :: r, b, i, Γ, h => by
    unfold env
    rw [if_neg (by have := h 0; simp only [Nat.add_zero] at this; rw [this]; decide)]
    exact env_none r b (i + 1) Γ (fun j => by have := h (j + 1); rwa [show i + (j + 1) = i + 1 + j by omega] at this)
theorem env_succ : ∀ (effs : List (Eff κ)) (k i : Nat) (e : Eff κ) (Γ : Nat → SV), effs[k]? = some e → env effs (fun j => decide (j < i + k + 1)) i Γ = e.onΓ (env effs (fun j => decide (j < i + k)) i Γ)
  | [], _, _, _, _, h => by simp at h
  | e :: r, 0, i, e', Γ, h => by
    simp only [List.getElem?_cons_zero, Option.some.injEq] at h
    subst h
    unfold env
    simp only [Nat.add_zero]
    rw [if_pos (by simp), if_neg (by simp)]
    rw [env_none r _ (i + 1) _ (fun j => by simp; try omega), env_none r _ (i + 1) _ (fun j => by simp; try omega)]
  | e :: r, k + 1, i, e', Γ, h => by
    unfold env
    rw [if_pos (by simp <;> omega), if_pos (by simp <;> omega)]
    have := env_succ r k (i + 1) e' (e.onΓ Γ) (by simpa using h)
    rw [show i + (k + 1) = i + 1 + k by omega]
    exact this
/-- What has been laid into the map when just the operations of b have come. -/
def tl : List (Eff κ) → (Nat → Bool) → Nat → List (κ × Form)
  | [], _, _ => []
  | e :: r, b, i => tl r b (i + 1) ++ (if b i = true then e.ins else [])
theorem tl_same : ∀ (effs : List (Eff κ)) (b b2 : Nat → Bool) (i : Nat), (∀ j, i ≤ j → b j = b2 j) → tl effs b i = tl effs b2 i
  | [], _, _, _, _ => rfl
  | e :: r, b, b2, i, h => by
    unfold tl
    rw [tl_same r b b2 (i + 1) (fun j hj => h j (by omega)), h i (Nat.le_refl _)]
theorem tl_up {b : Nat → Bool} : ∀ (effs : List (Eff κ)) (k i : Nat) (e : Eff κ), effs[k]? = some e → b (i + k) = false → (tl effs (up b (i + k)) i).Perm (e.ins ++ tl effs b i)
  | [], _, _, _, h, _ => by simp at h
  | e :: r, 0, i, e', h, hb => by
    simp only [List.getElem?_cons_zero, Option.some.injEq] at h
    subst h
    unfold tl
    simp only [Nat.add_zero] at hb ⊢
    rw [tl_same r (up b i) b (i + 1) (fun j hj => up_ne (by omega)), if_pos (up_self b i), if_neg (by rw [hb]; decide), List.append_nil]
    exact List.perm_append_comm
  | e :: r, k + 1, i, e', h, hb => by
    unfold tl
    rw [show up b (i + (k + 1)) i = b i from up_ne (by omega)]
    have := tl_up (b := b) r k (i + 1) e' (by simpa using h) (by rwa [show i + 1 + k = i + (k + 1) by omega])
    rw [show i + 1 + k = i + (k + 1) by omega] at this
    rw [← List.append_assoc]
    exact List.Perm.append_right _ this
theorem tl_sub : ∀ (effs : List (Eff κ)) (b : Nat → Bool) (i : Nat), (tl effs b i).Sublist (tl effs (fun _ => true) i)
  | [], _, _ => List.Sublist.refl _
  | e :: r, b, i => by
    unfold tl
    refine List.Sublist.append (tl_sub r b (i + 1)) ?_
    split
    · simp
    · exact List.nil_sublist _
theorem tl_nil : ∀ (effs : List (Eff κ)) (b : Nat → Bool) (i : Nat), (∀ j e, effs[j]? = some e → b (i + j) = true → e.ins = []) → tl effs b i = []
  | [], _, _, _ => rfl
  | e :: r, b, i, h => by
    unfold tl
    rw [tl_nil r b (i + 1) (fun j e' he hb => h (j + 1) e' (by simpa using he) (by rwa [show i + (j + 1) = i + 1 + j by omega]))]
    split
    · rename_i hb; rw [h 0 e rfl hb]; rfl
    · rfl
end
theorem look_append (Y : Keys) : ∀ (l l2 : List (Y.κ × Form)) (z : Y.κ), look Y (l ++ l2) z = (look Y l z).or (look Y l2 z)
  | [], _, _ => rfl
  | x :: l, l2, z => by
    rw [List.cons_append]
    simp only [look]
    split
    · rfl
    · exact look_append Y l l2 z
theorem look_perm (Y : Keys) {l l2 : List (Y.κ × Form)} (h : l.Perm l2) : (l.map (·.1)).Nodup → ∀ z, look Y l z = look Y l2 z := by
  induction h with
  | nil => intro _ z; rfl
  | cons x _ ih =>
    intro hn z
    rw [List.map_cons, List.nodup_cons] at hn
    unfold look
    rw [ih hn.2 z]
  | swap x y l =>
    intro hn z
    simp only [List.map_cons, List.nodup_cons, List.mem_cons, not_or] at hn
    unfold look
    simp only [look]
    have hne : ¬ y.1 = x.1 := hn.1.1
    by_cases e1 : z = y.1
    · have e2 : ¬ z = x.1 := fun e => hne (e1.symm.trans e)
      rw [@decide_eq_true _ (Y.deq z y.1) e1, @decide_eq_false _ (Y.deq z x.1) e2]
      rfl
    · rw [@decide_eq_false _ (Y.deq z y.1) e1]
      rfl
  | trans h1 _ ih1 ih2 =>
    intro hn z
    rw [ih1 hn z]
    exact ih2 ((h1.map _).nodup_iff.1 hn) z
end Go.Proofs.Ytpndiobbogelpaa
