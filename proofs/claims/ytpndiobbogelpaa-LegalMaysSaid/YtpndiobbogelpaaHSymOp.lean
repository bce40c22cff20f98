/- What one operation of code without branches does to a state whose values are told by what they mean; no condition beyond the lemmas' own. -/
import Derived.Test.YtpndiobbogelpaaHSym
import Derived.Orders
import Derived.Shelf.Abstract
namespace Go.Proofs.Ytpndiobbogelpaa
open Go Go.RowKit Go.Maps Go.Proofs.Hand Go.Proofs.YtpndiobbogelpaaW.PrintWords Go.Proofs.YtpndiobbogelpaaW.PrintLast Go.Proofs.YtpndiobbogelpaaW.PrintMore
set_option maxRecDepth 100000

def argOf (N : Nat) (Γ : Nat → SV) : Operand → SV
  | .tmp t => if t < N then Γ t else .any
  | .const (.int .i64 n) => .int n
  | .const (.slice none 0 0) => .forms []
  | .func g => .fn g
  | _ => .any
def SV.plain : SV → Bool
  | .fresh => false
  | _ => true
theorem Sat.slot {W : World} {ms : List (Nat × Nat)} {t t' : Nat} {v : Value} {sv : SV} (hp : sv.plain = true) (h : Sat W ms t v sv) : Sat W ms t' v sv := by
  cases sv <;> first | exact h | cases hp
section
variable {Y : Keys} {N : Nat} {W0 : Start} {W : World} {Γ : Nat → SV} {T : Option (List (Y.κ × Form))} {a : Act} {ms : List (Nat × Nat)}
theorem Good.arg (h : Good Y N W0 Γ T a W ms) (x : Operand) (hp : (argOf N Γ x).plain = true) (t' : Nat) : Sat W ms t' (a.eval x) (argOf N Γ x) := by
  cases x with
  | tmp t =>
    simp only [argOf] at hp ⊢
    by_cases hlt : t < N
    · rw [if_pos hlt] at hp ⊢
      have hlt' : t < a.tmps.size := by rw [h.sz]; exact hlt
      refine Sat.slot hp (h.slots t _ ?_)
      simp [Act.eval, Array.getD_eq_getD_getElem?, Array.getElem?_eq_getElem hlt']
    · rw [if_neg hlt]; trivial
  | const v =>
    unfold argOf
    split
    · rename_i e; cases e
    · rename_i e; cases e; rfl
    · rename_i e; cases e; exact ⟨none, 0, rfl, Nat.le_refl _, fun _ => rfl, Kd.F_nil _ _ _⟩
    · rename_i e; cases e
    · trivial
  | global g => trivial
  | func g => rfl
def Sats (W : World) (ms : List (Nat × Nat)) : List Value → List SV → Prop
  | [], [] => True
  | v :: vs, s :: ss => Sat W ms tabSlot v s ∧ Sats W ms vs ss
  | _, _ => False
def argsOf (N : Nat) (Γ : Nat → SV) (xs : List Operand) : List SV := xs.map (argOf N Γ)
theorem Good.args (h : Good Y N W0 Γ T a W ms) : ∀ (xs : List Operand), ((argsOf N Γ xs).all SV.plain) = true → Sats W ms (xs.map a.eval) (argsOf N Γ xs)
  | [], _ => trivial
  | x :: xs, hp => by
    simp only [argsOf, List.map_cons, List.all_cons, Bool.and_eq_true] at hp
    exact ⟨h.arg x hp.1 _, h.args xs hp.2⟩

/-- What calls do: of functions that return a value; of closures; of the one that fills the map. -/
structure CallTab (Y : Keys) where
  abs : Nat → List SV → Option SV
  clo : Nat → Form → List SV → Option SV
  isPut : Nat → Bool
  puts : Nat → List SV → Option (List (Y.κ × Form))
  abs_in : ∀ g svs r, abs g svs = some r → Enters Try.prog g
  clo_in : ∀ g f svs r, clo g f svs = some r → Enters Try.prog g
  puts_in : ∀ g svs l, puts g svs = some l → Enters Try.prog g
  abs_ok : ∀ g svs r args W ms, abs g svs = some r → Sats W ms args svs → (∀ t k, (t, k) ∈ ms → k < W.heap.size) →
    Calls Try.prog g args.toArray W fun e W' => ∃ v, e = .returned v ∧ Below W.heap.size W W' ∧ ∀ t, Sat W' ms t v r
  clo_ok : ∀ g f svs r args p W ms, clo g f svs = some r → Sats W ms args svs → BoxIn W ms p f → (∀ t k, (t, k) ∈ ms → k < W.heap.size) →
    Calls Try.prog g (args ++ [p]).toArray W fun e W' => ∃ v, e = .returned v ∧ Below W.heap.size W W' ∧ ∀ t, Sat W' ms t v r
  puts_ok : ∀ g svs l args W ms m l0, puts g svs = some l → Sats W ms args svs → (∀ t k, (t, k) ∈ ms → k < W.heap.size) → (∀ k, (tabSlot, k) ∈ ms → k = m) → (tabSlot, m) ∈ ms → TabAt Y W ms m l0.length (look Y l0) → (l ++ l0).length ≤ 1000 →
    Calls Try.prog g args.toArray W fun e W' => ∃ v, e = .returned v ∧ But m W W' ∧ TabAt Y W' ms m (l ++ l0).length (look Y (l ++ l0))

/-- What an operation does: the slot that it fills (or the variable, told by its slot, that it writes); whether it makes the map; what it lays into it. -/
structure Eff (κ : Type) where
  slot : Option (Nat × SV)
  mkT : Bool
  ins : List (κ × Form)
def Eff.onΓ {κ : Type} (e : Eff κ) (Γ : Nat → SV) : Nat → SV := match e.slot with | some x => put1 Γ x.1 x.2 | none => Γ
def Eff.onT {κ : Type} (e : Eff κ) (T : Option (List (κ × Form))) : Option (List (κ × Form)) := if e.mkT = true then some [] else T.map (e.ins ++ ·)

def formsOf : List SV → Option (List Form)
  | [] => some []
  | .form f :: r => (formsOf r).map (f :: ·)
  | _ :: _ => none
def intsOf : List SV → Option (List Int)
  | [] => some []
  | .int n :: r => (intsOf r).map (n :: ·)
  | _ :: _ => none
def isAny : SV → Bool
  | .any => true
  | _ => false

def putCall {Y : Keys} (C : CallTab Y) (c : Call) : Bool := match c.callee with
  | .value (.func g) => C.isPut g
  | _ => false
def effDst (Y : Keys) (C : CallTab Y) (N : Nat) (Γ : Nat → SV) (hasT : Bool) (d : Nat) : Op → Option (Eff Y.κ)
  | .move x => if (argOf N Γ x).plain then some ⟨some (d, argOf N Γ x), false, []⟩ else none
  | .assign x => if (argOf N Γ x).plain then some ⟨some (d, argOf N Γ x), false, []⟩ else none
  | .load t x => if t = 53 then (match argOf N Γ x with | .box f => some ⟨some (d, .form f), false, []⟩ | _ => none) else none
  | .alloc t => if t = 53 then some ⟨some (d, .fresh), false, []⟩ else none
  | .makeMap mt none => if mt = Y.mt ∧ hasT = false then some ⟨some (d, .tab), true, []⟩ else none
  | .makeFunc (.func g) first cap => (match first.toList, cap.toList with | [], [x] => (match argOf N Γ x with | .box f => some ⟨some (d, .clos g f), false, []⟩ | _ => none) | _, _ => none)
  | .buildSlice t len parts =>
    if parts.toList.map (·.1) = List.range len ∧ 0 < len ∧ len ≤ 1000 then
      (if t = 51 then (formsOf (argsOf N Γ (parts.toList.map (·.2)))).map fun l => ⟨some (d, .forms l), false, []⟩
      else if t = 40 then (intsOf (argsOf N Γ (parts.toList.map (·.2)))).map fun l => ⟨some (d, .ints l), false, []⟩
      else none)
    else none
  | .call c => if (argsOf N Γ c.args.toList).all SV.plain then (if putCall C c then (match c.callee with
      | .value (.func g) => if hasT = true then (C.puts g (argsOf N Γ c.args.toList)).map fun l => ⟨some (d, .any), false, l⟩ else none
      | _ => none) else (match c.callee with
    | .value f => (match argOf N Γ f with
      | .fn g => (C.abs g (argsOf N Γ c.args.toList)).bind fun r => if r.plain then some ⟨some (d, r), false, []⟩ else none
      | .clos g fm => (C.clo g fm (argsOf N Γ c.args.toList)).bind fun r => if r.plain then some ⟨some (d, r), false, []⟩ else none
      | _ => none)
    | _ => none)) else none
  | _ => none
def effOf (Y : Keys) (C : CallTab Y) (N : Nat) (Γ : Nat → SV) (hasT : Bool) (o : Oper) : Option (Eff Y.κ) :=
  if o.guard.isSome then none else
  match o.dst with
  | none => (match o.op with
    | .store t (.tmp p) x => if t = 53 ∧ p < N then (match Γ p, argOf N Γ x with | .fresh, .form f => some ⟨some (p, .box f), false, []⟩ | _, _ => none) else none
    | .insert mt m (.const key) x => if mt = Y.mt ∧ hasT = true then (match argOf N Γ m, argOf N Γ x, Y.dec key with | .tab, .form f, some k => some ⟨none, false, [(k, f)]⟩ | _, _, _ => none) else none
    | _ => none)
  | some d => if d < N ∧ isAny (Γ d) = true then effDst Y C N Γ hasT d o.op else none

theorem forms_fk {l : List Form} : ∀ {svs : List SV} {vs : List Value}, formsOf svs = some l → Sats W ms vs svs → vs.length = l.length ∧ ∀ (j : Nat) (v : Value) (f : Form), vs[j]? = some v → l[j]? = some f → FormIn W ms v f := by
  induction l with
  | nil =>
    intro svs vs h hs
    cases svs with
    | nil => cases vs with
      | nil => exact ⟨rfl, fun j v f h _ => by simp at h⟩
      | cons v vs => exact hs.elim
    | cons s ss => cases s <;> simp [formsOf] at h
  | cons f l ih =>
    intro svs vs h hs
    cases svs with
    | nil => simp [formsOf] at h
    | cons s ss =>
      cases s <;> try (simp [formsOf] at h; done)
      rename_i g
      simp only [formsOf, Option.map_eq_some_iff] at h
      obtain ⟨l', h1, h2⟩ := h
      obtain ⟨rfl, rfl⟩ := List.cons.inj h2
      cases vs with
      | nil => exact hs.elim
      | cons v vs =>
        obtain ⟨i1, i2⟩ := ih h1 hs.2
        refine ⟨by simp [i1], fun j u f' hu hf => ?_⟩
        cases j with
        | zero =>
          simp only [List.getElem?_cons_zero, Option.some.injEq] at hu hf
          subst hu; subst hf
          exact hs.1
        | succ j => exact i2 j u f' (by simpa using hu) (by simpa using hf)
theorem ints_fk {l : List Int} : ∀ {svs : List SV} {vs : List Value}, intsOf svs = some l → Sats W ms vs svs → vs = l.map (Value.int .i64) := by
  induction l with
  | nil =>
    intro svs vs h hs
    cases svs with
    | nil => cases vs with
      | nil => rfl
      | cons v vs => exact hs.elim
    | cons s ss => cases s <;> simp [intsOf] at h
  | cons f l ih =>
    intro svs vs h hs
    cases svs with
    | nil => simp [intsOf] at h
    | cons s ss =>
      cases s <;> try (simp [intsOf] at h; done)
      rename_i q
      simp only [intsOf, Option.map_eq_some_iff] at h
      obtain ⟨l', h1, h2⟩ := h
      obtain ⟨rfl, rfl⟩ := List.cons.inj h2
      cases vs with
      | nil => exact hs.elim
      | cons v vs =>
        rw [List.map_cons, ← ih h1 hs.2]
        have h0 : v = .int .i64 q := hs.1
        rw [h0]
/-- A row of new cells, element by element. -/
theorem build_F {α : Type} (d : Kd α) (hsz : 0 < d.sz) {vs : List Value} {xs : List α} (hl : vs.length = xs.length) (hmax : xs.length ≤ 1000) (h : ∀ (j : Nat) (v : Value) (x : α), vs[j]? = some v → xs[j]? = some x → Kd.FK d W (fun k => ¬ inM ms k) x v.cells.toList) (hms : ∀ t k, (t, k) ∈ ms → k < W.heap.size) (e : Nat) :
    Kd.F d (W.alloc (.cells (vs.flatMap fun v => v.cells.toList).toArray e)) (fun k => ¬ inM ms k) (some ⟨W.heap.size, 0, none⟩) xs.length xs := by
  have hcs : ∀ v ∈ vs, v.cells.size = d.sz := by
    intro v hv
    obtain ⟨j, hj, rfl⟩ := List.mem_iff_getElem.1 hv
    have := d.K_len (Kd.FK_now (h j _ _ (List.getElem?_eq_getElem hj) (List.getElem?_eq_getElem (by omega))))
    simpa using this
  intro W' hW
  refine ⟨rfl, by omega, fun _ => ⟨_, rfl, fun j p hp => ?_⟩⟩
  have hj : j < vs.length := by rw [hl]; exact (List.getElem?_eq_some_iff.1 hp).1
  have hfk := h j _ p (List.getElem?_eq_getElem hj) hp
  have hn : ¬ inM ms W.heap.size := fun ⟨t, ht⟩ => Nat.lt_irrefl _ (hms t _ ht)
  have hsize : (W.alloc (.cells (vs.flatMap fun v => v.cells.toList).toArray e)).heap.size = W.heap.size + 1 := by simp
  have hblk : W'.heap[W.heap.size]? = some (.cells (vs.flatMap fun v => v.cells.toList).toArray e (0, 0)) := by
    rw [hW _ hn (by omega)]; exact heap_at W _ _ rfl
  refine ⟨(vs[j]).cells.toList, by have := hcs _ (List.getElem_mem hj); simpa using this, ?_, fun i u hu => ?_⟩
  · refine Kd.FK_now (Kd.FK_step hfk (fun k hk hlt => ?_))
    rw [hW k hk (by omega), Below.heap_alloc _ _ _ hlt]
  · have hi : i < d.sz := by
      have := (List.getElem?_eq_some_iff.1 hu).1
      have h2 := hcs _ (List.getElem_mem hj)
      simpa [h2] using this
    have hg := Great.flat_get hsz vs hcs (j * d.sz + i)
    have e1 : (j * d.sz + i) / d.sz = j := by rw [Nat.mul_comm, Nat.mul_add_div hsz, Nat.div_eq_of_lt hi, Nat.add_zero]
    have e2 : (j * d.sz + i) % d.sz = i := by rw [Nat.mul_comm, Nat.mul_add_mod, Nat.mod_eq_of_lt hi]
    rw [e1, e2, List.getElem?_eq_getElem hj, Option.bind_some] at hg
    have hu' : (vs[j]).cells[i]? = some u := by simpa using hu
    rw [hu'] at hg
    have ha : (⟨W.heap.size, 0, none⟩ : Addr).add (j * d.sz + i) = ⟨W.heap.size, j * d.sz + i, none⟩ := add_plain _ _
    rw [ha]
    simp only [World.cell?, hblk]
    simpa using hg

theorem Good.free (h : Good Y N W0 Γ T a W ms) {d : Nat} (hd : d < N) (hany : isAny (Γ d) = true) (k : Nat) : (d, k) ∉ ms := fun hm => by
  rcases h.own d k hm (by have := h.hN; omega) with ⟨e, _⟩ | ⟨_, e⟩
  · have := h.hN; omega
  · rw [e] at hany; cases hany
theorem formInfo : (Try.prog.info? 53).map (fun i => (i.zero, i.size, i.bytes)) = some (some (.agg #[(.int .i64 0), (.int .i64 0), (.int .i64 0), (.int .i64 0), (.int .i64 0), (.slice none 0 0)]), 6, 64) := by kernel_rfl
theorem intInfo : (Try.prog.info? 3).map (fun i => (i.zero, i.size, i.bytes)) = some (some (.int .i64 0), 1, 8) := by kernel_rfl
theorem formsU : Try.prog.underlying 51 = some (.slice 53) := by kernel_rfl
theorem intsU : Try.prog.underlying 40 = some (.slice 3) := by kernel_rfl
theorem formRow : ∃ d, Try.prog.underlying 53 = some d ∧ d.isRow = true := ⟨_, Try.underlying53, rfl⟩
theorem resolve_fn {a : Act} {f : Operand} {g : Nat} {cap : Array Value} {c : Call} {ty : TypeId} (hc : c.callee = .value f) (hf : a.eval f = .func (.func g) #[] cap) (he : Enters Try.prog g) (w : World) :
    (do let d ← resolve a.eval c ty; invoke d.target d.args).run Try.prog w = .ok (.enter g (c.args.map a.eval ++ cap)) w := by
  obtain ⟨callee, args, ts⟩ := c
  simp only at hc
  subst hc
  simp only [resolve, hf]
  have := he (args.map a.eval ++ cap) w
  simp [go_sem, invoke, this]

set_option maxHeartbeats 1000000 in
set_option maxRecDepth 10000 in
theorem dst_sound (C : CallTab Y) (h : Good Y N W0 Γ T a W ms) {o : Oper} {d : Nat} (hdst : o.dst = some d) (hdN : d < N) (hany : isAny (Γ d) = true) {e : Eff Y.κ} (he : effDst Y C N Γ T.isSome d o.op = some e) (hn : ∀ l, T = some l → (e.ins ++ l).length ≤ 1000)
    {K : Act → World → Prop} {Q : Exit → Act → World → Prop} (hK : ∀ a' W' ms', Good Y N W0 (e.onΓ Γ) (e.onT T) a' W' ms' → K a' W') : Oper.wp Try.prog o a W K Q := by
  have hd := h.free hdN hany
  have hms : ∀ t k, (t, k) ∈ ms → k < W.heap.size := fun t k hm => (h.lt t k hm).1
  have hT0 : ∀ (x : Option (Nat × SV)), (⟨x, false, []⟩ : Eff Y.κ).onT T = T := fun x => by cases T <;> simp [Eff.onT]
  obtain ⟨dst, op, ty, pos, after, guard⟩ := o
  simp only at hdst he
  subst hdst
  have put : ∀ {v : Value} {sv : SV} {W1 : World}, Below W.heap.size W W1 → Sat W1 ms d v sv → e = ⟨some (d, sv), false, []⟩ → K (a.put (some d) v) W1 := by
    intro v sv W1 hb hs ee
    refine hK _ _ ms ?_
    rw [ee, hT0]
    exact h.next hb hd hs
  cases op <;> try (simp [effDst] at he; done)
  case move x =>
    simp only [effDst] at he
    split at he
    case isFalse => cases he
    rename_i hp
    exact put (Below.refl _ _) (h.arg x hp d) (Option.some.inj he).symm
  case assign x =>
    simp only [effDst] at he
    split at he
    case isFalse => cases he
    rename_i hp
    exact put (Below.refl _ _) (h.arg x hp d) (Option.some.inj he).symm
  case alloc t =>
    simp only [effDst] at he
    split at he
    case isFalse => cases he
    rename_i ht
    subst ht
    obtain rfl := (Option.some.inj he).symm
    have hrun : (Instr.alloc 53 true (.tuple #[])).run Try.prog W = .ok (.pointer (some ⟨W.heap.size, 0, none⟩)) (W.alloc (.cells #[(.int .i64 0), (.int .i64 0), (.int .i64 0), (.int .i64 0), (.int .i64 0), (.slice none 0 0)] 53)) := by
      simp [go_sem]
    unfold Oper.wp execOp
    simp only [Sem.run_bind, hrun, Result.andThen_ok]
    refine hK _ _ ((d, W.heap.size) :: ms) ?_
    rw [hT0]
    exact h.laid hd rfl hdN
  case load t x =>
    simp only [effDst] at he
    split at he
    case isFalse => cases he
    rename_i ht
    subst ht
    split at he
    case h_2 => cases he
    rename_i f hx
    have hs := h.arg x (by rw [hx]; rfl) 0
    rw [hx] at hs
    obtain ⟨b, cs, hv, hb, hc, hf⟩ := hs
    obtain ⟨ds, hu, hr⟩ := formRow
    refine wp_load_mid 53 x rfl b 0 hv cs ds (fun j v hj => ?_) hu hr ?_ ?_
    · simp only [World.cell?, hc, Nat.zero_add]; simpa using hj
    · obtain ⟨i, hi, e1⟩ := Option.map_eq_some_iff.1 formInfo
      rw [hi]
      have := (Prod.mk.inj (Prod.mk.inj e1).2).1
      simp only [Option.map_some, this]
      rw [kForm.K_len (Kd.FK_now hf)]
      rfl
    · exact put (sv := .form f) (Below.refl _ _) ⟨cs, rfl, hf⟩ (Option.some.inj he).symm
  case makeMap mt r =>
    cases r with
    | some r => simp [effDst] at he
    | none =>
    simp only [effDst] at he
    split at he
    case isFalse => cases he
    rename_i hc
    obtain ⟨rfl, hT⟩ := hc
    obtain rfl := (Option.some.inj he).symm
    have hTn : T = none := by cases T <;> simp_all
    unfold Oper.wp execOp
    simp only [Option.map_none, Sem.run_bind, run_makeMap, Result.andThen_ok]
    refine hK _ _ ((tabSlot, W.heap.size) :: ms) ?_
    have := h.made (d := d) hd (fun k hk => ?_) hTn
    · simpa [Eff.onΓ, Eff.onT] using this
    · rcases h.own _ _ hk (Nat.le_refl _) with ⟨_, h2⟩ | ⟨h2, _⟩
      · rw [hTn] at h2; cases h2
      · have := h.hN; omega
  case makeFunc fn first cap =>
    cases fn <;> try (simp [effDst] at he; done)
    rename_i g
    simp only [effDst] at he
    split at he
    case h_2 => cases he
    rename_i x h1 h2
    split at he
    case h_2 => cases he
    rename_i f hx
    have hs := h.arg x (by rw [hx]; rfl) 0
    rw [hx] at hs
    have e1 : first = #[] := by apply Array.ext'; simpa using h1
    have e2 : cap = #[x] := by apply Array.ext'; simpa using h2
    subst e1 e2
    exact put (sv := .clos g f) (Below.refl _ _) ⟨a.eval x, by simp, hs⟩ (Option.some.inj he).symm
  case buildSlice t len parts =>
    simp only [effDst] at he
    split at he
    case isFalse => cases he
    rename_i hc
    obtain ⟨hrange, hpos, hsmall⟩ := hc
    have hparts : (parts.map fun (p : Nat × Operand) => (p.1, a.eval p.2)).toList = ((parts.toList.map fun p => a.eval p.2).zipIdx 0).map fun x => (x.2, x.1) := by
      rw [Array.toList_map]
      apply List.ext_getElem
      · simp
      · intro i h1 h2
        have hi : i < parts.toList.length := by simpa using h1
        have hr : (parts.toList.map (·.1))[i]'(by simpa using hi) = i := by
          have h3 : ∀ (l : List Nat) (hl : l = List.range len) (hlt : i < l.length), l[i] = i := by
            rintro l rfl hlt; simp
          exact h3 _ hrange _
        simp only [List.getElem_map, List.getElem_zipIdx, Nat.zero_add]
        rw [List.getElem_map] at hr
        rw [hr]
    have hlen : (parts.toList.map fun p => a.eval p.2).length = len := by
      have := congrArg List.length hrange
      simpa using this
    have hargs : (parts.toList.map fun p => a.eval p.2) = (parts.toList.map (·.2)).map a.eval := by rw [List.map_map]; rfl
    split at he
    · rename_i ht
      subst ht
      obtain ⟨l, hl, e1⟩ := Option.map_eq_some_iff.1 he
      have hpl : ((argsOf N Γ (parts.toList.map (·.2))).all SV.plain) = true := by
        clear he e1 hrange hparts hlen hargs
        generalize argsOf N Γ (parts.toList.map (·.2)) = svs at hl
        induction svs generalizing l with
        | nil => rfl
        | cons s ss ih =>
          cases s <;> simp [formsOf] at hl
          obtain ⟨l', h1, _⟩ := hl
          simp only [List.all_cons, Bool.and_eq_true]
          exact ⟨rfl, ih _ h1⟩
      have hs := h.args _ hpl
      rw [← hargs] at hs
      obtain ⟨k1, k2⟩ := forms_fk hl hs
      obtain ⟨ie, hie, e2⟩ := Option.map_eq_some_iff.1 formInfo
      have z1 := (Prod.mk.inj e2).1
      have z2 : ie.size = 6 := (Prod.mk.inj (Prod.mk.inj e2).2).1
      have hF := build_F (W := W) (ms := ms) kForm (by decide) k1 (by omega) (fun j v x hv hx => by
        obtain ⟨cs, e3, hf⟩ := k2 j v x hv hx
        rw [e3]; exact hf) hms 53
      have hcs : ∀ v ∈ (parts.toList.map fun p => a.eval p.2), v.cells.size = 6 := by
        intro v hv
        obtain ⟨j, hj, rfl⟩ := List.mem_iff_getElem.1 hv
        obtain ⟨cs, e3, hf⟩ := k2 j _ _ (List.getElem?_eq_getElem hj) (List.getElem?_eq_getElem (by omega))
        rw [e3]
        have : cs.length = 6 := kForm.K_len (Kd.FK_now hf)
        simpa [Value.cells] using this
      refine wp_buildSlice 51 53 len parts rfl (((parts.toList.map fun p => a.eval p.2).flatMap fun v => v.cells.toList).toArray) ie _ formsU hie z1 (by rw [z2]; omega) (by rw [z2]; omega) ?_ ?_
      · rw [z2]
        exact Eq.trans (congrArg _ hparts) (Great.fill_whole (s := 6) (by omega) _ _ hcs (by simp [hlen]))
      · refine put (sv := .forms l) ((Below.refl _ _).alloc (Nat.le_refl _) _) ?_ e1.symm
        refine ⟨some ⟨W.heap.size, 0, none⟩, len, by rw [← k1, hlen], by omega, fun h => (by cases h), hF⟩
    · split at he
      case isFalse => cases he
      rename_i ht
      subst ht
      obtain ⟨l, hl, e1⟩ := Option.map_eq_some_iff.1 he
      have hpl : ((argsOf N Γ (parts.toList.map (·.2))).all SV.plain) = true := by
        clear he e1 hrange hparts hlen hargs
        generalize argsOf N Γ (parts.toList.map (·.2)) = svs at hl
        induction svs generalizing l with
        | nil => rfl
        | cons s ss ih =>
          cases s <;> simp [intsOf] at hl
          obtain ⟨l', h1, _⟩ := hl
          simp only [List.all_cons, Bool.and_eq_true]
          exact ⟨rfl, ih _ h1⟩
      have hs := h.args _ hpl
      rw [← hargs] at hs
      have k1 := ints_fk hl hs
      obtain ⟨ie, hie, e2⟩ := Option.map_eq_some_iff.1 intInfo
      have z1 := (Prod.mk.inj e2).1
      have z2 : ie.size = 1 := (Prod.mk.inj (Prod.mk.inj e2).2).1
      have kl : (parts.toList.map fun p => a.eval p.2).length = l.length := by rw [k1]; simp
      have hF := build_F (W := W) (ms := ms) (Kd.int .i64) (by decide) kl (by omega) (fun j v x hv hx => by
        rw [k1, List.getElem?_map, hx] at hv
        obtain rfl := (Option.some.inj hv).symm
        exact fun _ _ => rfl) hms 3
      have hcs : ∀ v ∈ (parts.toList.map fun p => a.eval p.2), v.cells.size = 1 := by
        intro v hv
        rw [k1] at hv
        obtain ⟨n, _, rfl⟩ := List.mem_map.1 hv
        rfl
      refine wp_buildSlice 40 3 len parts rfl (((parts.toList.map fun p => a.eval p.2).flatMap fun v => v.cells.toList).toArray) ie _ intsU hie z1 (by rw [z2]; omega) (by rw [z2]; omega) ?_ ?_
      · rw [z2]
        exact Eq.trans (congrArg _ hparts) (Great.fill_whole (s := 1) (by omega) _ _ hcs (by simp [hlen]))
      · refine put (sv := .ints l) ((Below.refl _ _).alloc (Nat.le_refl _) _) ?_ e1.symm
        refine ⟨some ⟨W.heap.size, 0, none⟩, len, by rw [← kl, hlen], by omega, hF⟩
  case call c =>
    simp only [effDst] at he
    split at he
    case isFalse => cases he
    rename_i hpl
    have hs := h.args _ hpl
    unfold Oper.wp execOp
    split at he
    · split at he
      case h_2 => cases he
      rename_i g hcal
      have hf' : a.eval (.func g) = .func (.func g) #[] #[] := rfl
      split at he
      case isFalse => cases he
      rename_i hT
      obtain ⟨l, hl, e2⟩ := Option.map_eq_some_iff.1 he
      rw [resolve_fn hcal hf' (C.puts_in _ _ _ hl)]
      obtain ⟨l0, rfl⟩ := Option.isSome_iff_exists.1 hT
      obtain ⟨m, hm, ht⟩ := h.tab l0 rfl
      subst e2
      have hcall := C.puts_ok g _ l _ W ms m l0 hl hs hms (fun k hk => nodup_fst h.n1 hk hm) hm ht (hn l0 rfl)
      show Calls _ _ _ _ _
      have e1 : (c.args.map a.eval ++ #[] : Array Value) = (c.args.toList.map a.eval).toArray := by apply Array.ext'; simp
      rw [e1]
      refine hcall.mono ?_
      rintro e' W' ⟨v, rfl, hb, htab⟩
      refine hK _ _ ms ?_
      have h2 := h.turned hm hb htab
      exact h2.next (Below.refl _ _) hd trivial
    · split at he
      case h_2 => cases he
      rename_i f hcal
      split at he
      · rename_i g hx
        have hf := h.arg f (by rw [hx]; rfl) 0
        rw [hx] at hf
        have hf' : a.eval f = .func (.func g) #[] #[] := hf
        obtain ⟨r, hr, he⟩ := Option.bind_eq_some_iff.1 he
        split at he
        case isFalse => cases he
        rename_i hrp
        rw [resolve_fn hcal hf' (C.abs_in _ _ _ hr)]
        have hcall := C.abs_ok g _ r _ W ms hr hs hms
        show Calls _ _ _ _ _
        have e1 : (c.args.map a.eval ++ #[] : Array Value) = (c.args.toList.map a.eval).toArray := by apply Array.ext'; simp
        rw [e1]
        refine hcall.mono ?_
        rintro e' W' ⟨v, rfl, hb, hsat⟩
        exact put hb (hsat d) (Option.some.inj he).symm
      · rename_i g fm hx
        have hf := h.arg f (by rw [hx]; rfl) 0
        rw [hx] at hf
        obtain ⟨p, hf', hbox⟩ := hf
        obtain ⟨r, hr, he⟩ := Option.bind_eq_some_iff.1 he
        split at he
        case isFalse => cases he
        rename_i hrp
        rw [resolve_fn hcal hf' (C.clo_in _ _ _ _ hr)]
        have hcall := C.clo_ok g fm _ r _ p W ms hr hs hbox hms
        show Calls _ _ _ _ _
        have e1 : (c.args.map a.eval ++ #[p] : Array Value) = (c.args.toList.map a.eval ++ [p]).toArray := by apply Array.ext'; simp
        rw [e1]
        refine hcall.mono ?_
        rintro e' W' ⟨v, rfl, hb, hsat⟩
        exact put hb (hsat d) (Option.some.inj he).symm
      · cases he
theorem eff_sound (C : CallTab Y) (h : Good Y N W0 Γ T a W ms) {o : Oper} {e : Eff Y.κ} (he : effOf Y C N Γ T.isSome o = some e) (hn : ∀ l, T = some l → (e.ins ++ l).length ≤ 1000)
    {K : Act → World → Prop} {Q : Exit → Act → World → Prop} (hK : ∀ a' W' ms', Good Y N W0 (e.onΓ Γ) (e.onT T) a' W' ms' → K a' W') : Oper.wp Try.prog o a W K Q := by
  have hT0 : ∀ (x : Option (Nat × SV)), (⟨x, false, []⟩ : Eff Y.κ).onT T = T := fun x => by cases T <;> simp [Eff.onT]
  unfold effOf at he
  split at he
  case isTrue => cases he
  split at he
  · rename_i hdst
    have pn : ∀ v, a.put o.dst v = a := fun v => by rw [hdst]; rfl
    split at he
    · rename_i t p x hop
      split at he
      case isFalse => cases he
      rename_i hc
      obtain ⟨rfl, hpN⟩ := hc
      split at he
      case h_2 => cases he
      rename_i f hp hx
      have hps : p < a.tmps.size := by rw [h.sz]; exact hpN
      have hv := h.arg x (by rw [hx]; rfl) 0
      rw [hx] at hv
      obtain ⟨b, cs, old, e1, e2, e3, e4, e5, e6, ms', _, hg⟩ := h.stored (Array.getElem?_eq_getElem hps) hp hv
      refine wp_store_row 53 (.tmp p) x hop b cs ?_ e2 53 old e3 ?_ e4 e6 ?_
      · simp only [Act.eval]
        rw [Array.getD_eq_getD_getElem?, Array.getElem?_eq_getElem hps]
        exact e1
      · obtain ⟨i, hi, e7⟩ := Option.map_eq_some_iff.1 formInfo
        rw [hi]
        have := (Prod.mk.inj (Prod.mk.inj e7).2).1
        simp only [Option.map_some, this, e5]
      · rw [pn]
        obtain rfl := (Option.some.inj he).symm
        refine hK _ _ ms' ?_
        rw [hT0]
        exact hg
    · rename_i mt m key x hop
      split at he
      case isFalse => cases he
      rename_i hc
      obtain ⟨rfl, hT⟩ := hc
      split at he
      case h_2 => cases he
      rename_i f k hm hx hk
      obtain rfl := (Option.some.inj he).symm
      obtain ⟨l0, rfl⟩ := Option.isSome_iff_exists.1 hT
      obtain ⟨mb, hmb, ht⟩ := h.tab l0 rfl
      have hv := h.arg x (by rw [hx]; rfl) 0
      rw [hx] at hv
      have hmv := h.arg m (by rw [hm]; rfl) 0
      rw [hm] at hmv
      obtain ⟨m2, hm2, hm3⟩ := hmv
      obtain rfl := nodup_fst h.n1 hm3 hmb
      obtain ⟨hok, rfl⟩ := Y.dec_ok _ _ hk
      have hn0 := hn l0 rfl
      simp only [List.cons_append, List.nil_append, List.length_cons] at hn0
      obtain ⟨W1, hrun, hbut, htab⟩ := ht.update (by unfold maxLen; omega) hok hv ⟨_, hmb⟩
      unfold Oper.wp execOp
      simp only [hop, hm2, Sem.run_bind]
      show Oper.upon _ _ _ _ _ (((Instr.mapUpdate Y.mt (.map (some m2)) (Y.enc k) (a.eval x)).run Try.prog W).andThen _) 
      rw [hrun]
      show K (a.put o.dst undef) W1
      rw [pn]
      exact hK _ _ ms (h.turned (l := (k, f) :: l0) hmb hbut htab)
    · cases he
  · rename_i d hdst
    split at he
    case isFalse => cases he
    rename_i hc
    exact dst_sound C h hdst hc.1 hc.2 he hn hK
end
end Go.Proofs.Ytpndiobbogelpaa
