/- A function without branches that returns a form, or a map of forms, does what its operations compute; no condition beyond the lemmas' own. -/
import Derived.Test.YtpndiobbogelpaaHForms
namespace Go.Proofs.Ytpndiobbogelpaa
open Go Go.RowKit Go.Maps Go.Proofs.Hand Go.Proofs.YtpndiobbogelpaaW.PrintWords Go.Proofs.YtpndiobbogelpaaW.PrintLast Go.Proofs.YtpndiobbogelpaaW.PrintMore
set_option maxRecDepth 100000

/-- The caller's blocks, once each, under numbers that no slot has. -/
theorem outer (ms : List (Nat × Nat)) : ∃ ms' : List (Nat × Nat), (∀ k, inM ms' k ↔ inM ms k) ∧ (ms'.map (·.1)).Nodup ∧ (ms'.map (·.2)).Nodup ∧ ∃ hi, ∀ t k, (t, k) ∈ ms' → tabSlot < t ∧ t < hi := by
  induction ms with
  | nil => exact ⟨[], fun k => Iff.rfl, List.nodup_nil, List.nodup_nil, tabSlot + 1, fun t k h => by simp at h⟩
  | cons x r ih =>
    obtain ⟨ms', h1, h2, h3, hi, h4⟩ := ih
    by_cases hx : inM ms' x.2
    · refine ⟨ms', fun k => ?_, h2, h3, hi, h4⟩
      rw [h1]
      constructor
      · rintro ⟨t, ht⟩; exact ⟨t, List.mem_cons_of_mem _ ht⟩
      · rintro ⟨t, ht⟩
        rcases List.mem_cons.1 ht with e | ht
        · rw [← (show k = x.2 from (congrArg (·.2) e))] at hx; exact (h1 k).1 hx
        · exact ⟨t, ht⟩
    · refine ⟨(max hi (tabSlot + 1), x.2) :: ms', fun k => ?_, ?_, ?_, max hi (tabSlot + 1) + 1, fun t k h => ?_⟩
      · constructor
        · rintro ⟨t, ht⟩
          rcases List.mem_cons.1 ht with e | ht
          · exact ⟨x.1, by rw [(show k = x.2 from (congrArg (·.2) e))]; exact List.mem_cons_self⟩
          · obtain ⟨t', ht'⟩ := (h1 k).1 ⟨t, ht⟩; exact ⟨t', List.mem_cons_of_mem _ ht'⟩
        · rintro ⟨t, ht⟩
          rcases List.mem_cons.1 ht with e | ht
          · exact ⟨max hi (tabSlot + 1), by rw [(show k = x.2 from (congrArg (·.2) e))]; exact List.mem_cons_self⟩
          · obtain ⟨t', ht'⟩ := (h1 k).2 ⟨t, ht⟩; exact ⟨t', List.mem_cons_of_mem _ ht'⟩
      · rw [List.map_cons, List.nodup_cons]
        refine ⟨fun hm => ?_, h2⟩
        obtain ⟨⟨t, k⟩, hp, e⟩ := List.mem_map.1 hm
        have := (h4 t k hp).2
        simp only at e
        omega
      · rw [List.map_cons, List.nodup_cons]
        refine ⟨fun hm => ?_, h3⟩
        obtain ⟨⟨t, k⟩, hp, e⟩ := List.mem_map.1 hm
        exact hx ⟨t, by simp only at e; rw [← e]; exact hp⟩
      · rcases List.mem_cons.1 h with e | h
        · have : t = max hi (tabSlot + 1) := congrArg (·.1) e
          omega
        · have := h4 t k h
          omega
def absRet (Y : Keys) (C : CallTab Y) (N : Nat) : Code → (Nat → SV) × Option (List (Y.κ × Form)) → Option ((Nat → SV) × Option (List (Y.κ × Form)))
  | .ret, s => some s
  | .seq x y, s => (absCode Y C N x s).bind (absRet Y C N y)
  | _, _ => none
theorem absRet_sound {Y : Keys} (C : CallTab Y) {N : Nat} {W0 : Start} (hm : Try.prog.follows .mixedOrders = true) : ∀ (c : Code) (s s' : (Nat → SV) × Option (List (Y.κ × Form))) (a : Act) (W : World) (ms : List (Nat × Nat)) (Q : Exit → Act → World → Prop),
    absRet Y C N c s = some s' → Good Y N W0 s.1 s.2 a W ms → (∀ a' W' ms', Good Y N W0 s'.1 s'.2 a' W' ms' → Q .ret a' W') → c.wp Try.prog Q a W := by
  intro c
  induction c with
  | seq x y ihx ihy =>
    intro s s' a W ms Q h hg hend
    simp only [absRet] at h
    obtain ⟨s1, h1, h2⟩ := Option.bind_eq_some_iff.1 h
    exact wp_seq (absCode_sound C hm x s s1 a W ms _ h1 hg (fun a' W' ms' hg' => ihy s1 s' a' W' ms' Q h2 hg' hend))
  | ret =>
    intro s s' a W ms Q h hg hend
    obtain rfl := Option.some.inj h
    exact wp_ret (hend a W ms hg)
  | _ => intro s s' a W ms Q h; cases h
def argSlots (svs : List SV) : Nat → SV := fun t => (svs[t]?).getD .any
theorem sats_at {W : World} {ms : List (Nat × Nat)} : ∀ {args : List Value} {svs : List SV}, Sats W ms args svs → args.length = svs.length ∧ ∀ (i : Nat) (v : Value), args[i]? = some v → ∃ s, svs[i]? = some s ∧ Sat W ms tabSlot v s
  | [], [], _ => ⟨rfl, fun i v h => by simp at h⟩
  | v :: vs, s :: ss, h => by
    obtain ⟨h1, h2⟩ := sats_at h.2
    refine ⟨by simp [h1], fun i u hu => ?_⟩
    cases i with
    | zero => simp only [List.getElem?_cons_zero, Option.some.injEq] at hu; subst hu; exact ⟨s, rfl, h.1⟩
    | succ i => exact h2 i u (by simpa using hu)
  | [], _ :: _, h => h.elim
  | _ :: _, [], h => h.elim

/-- The state at a function's start. -/
theorem start_good (Y : Keys) {N : Nat} (hN : N ≤ tabSlot) {W : World} {ms : List (Nat × Nat)} (hms : ∀ t k, (t, k) ∈ ms → k < W.heap.size) {args : List Value} {svs : List SV} (hs : Sats W ms args svs) (hp : svs.all SV.plain = true) (hno : svs.all (fun s => match s with | .tab => false | _ => true) = true) (hle : args.length ≤ N) :
    ∃ ms', Good Y N ⟨W, inM ms⟩ (argSlots svs) none { tmps := args.toArray ++ Array.replicate (N - args.toArray.size) undef, defers := [] } W ms' := by
  obtain ⟨ms', h1, h2, h3, hi, h4⟩ := outer ms
  obtain ⟨hl, hat⟩ := sats_at hs
  refine ⟨ms', by simp; omega, hN, rfl, fun t v hv => ?_, h2, h3, fun t k hk => ⟨?_, fun h => ?_⟩, fun t k hk h => ?_, fun k hk => ?_, fun l e => by (cases e), Below.refl _ _⟩
  · by_cases ht : t < args.length
    · have hv' : args[t]? = some v := by
        rw [← hv]; simp [Array.getElem?_append, ht]
      obtain ⟨s, h5, h6⟩ := hat t v hv'
      have hpl : s.plain = true := List.all_eq_true.1 hp s (List.mem_of_getElem? h5)
      have hnt := List.all_eq_true.1 hno s (List.mem_of_getElem? h5)
      unfold argSlots
      rw [h5]
      have h7 : Sat W ms' tabSlot v s := by
        cases s with
        | tab => cases hnt
        | fresh => cases hpl
        | any => trivial
        | int n => exact h6
        | fn g => exact h6
        | form f => exact FormIn.step h6 (fun _ _ _ => rfl) (fun k _ hn hm => hn ((h1 k).1 hm))
        | forms l =>
          obtain ⟨A, c, e, hl', hc, hf⟩ := h6
          exact ⟨A, c, e, hl', hc, Kd.F_mono hf (fun k hn hm => hn ((h1 k).1 hm))⟩
        | ints l =>
          obtain ⟨A, c, e, hl', hf⟩ := h6
          exact ⟨A, c, e, hl', Kd.F_mono hf (fun k hn hm => hn ((h1 k).1 hm))⟩
        | box f => exact BoxIn.step h6 (fun _ _ _ => rfl) (fun k _ hn hm => hn ((h1 k).1 hm))
        | clos g f =>
          obtain ⟨p, e, hb⟩ := h6
          exact ⟨p, e, BoxIn.step hb (fun _ _ _ => rfl) (fun k _ hn hm => hn ((h1 k).1 hm))⟩
      exact Sat.slot hpl h7
    · unfold argSlots
      rw [List.getElem?_eq_none (by omega)]
      trivial
  · obtain ⟨t', ht'⟩ := (h1 k).1 ⟨t, hk⟩
    exact hms t' k ht'
  · have := (h4 t k hk).1; omega
  · have := (h4 t k hk).1; omega
  · obtain ⟨t, ht⟩ := (h1 k).2 hk
    exact ⟨t, (h4 t k ht).1, ht⟩

/-- A function whose result is a variable of its own that holds a form. -/
theorem form_fn {Y : Keys} (C : CallTab Y) (hm : Try.prog.follows .mixedOrders = true) {fid d : Nat} {f : Func} {c : Code} {form : Form} (hf : Try.prog.funcs[fid]? = some f) (hb : f.body = some c) (hr : f.results = #[.cell d 53]) (hN : f.ntmps ≤ tabSlot) (hdN : d < f.ntmps)
    {args : List Value} {svs : List SV} (habs : (absRet Y C f.ntmps c (argSlots svs, none)).map (fun s => s.1 d) = some (.box form)) {W : World} {ms : List (Nat × Nat)} (hms : ∀ t k, (t, k) ∈ ms → k < W.heap.size) (hs : Sats W ms args svs) (hp : svs.all SV.plain = true) (hno : svs.all (fun s => match s with | .tab => false | _ => true) = true) (hle : args.length ≤ f.ntmps) :
    Calls Try.prog fid args.toArray W fun e W' => ∃ v, e = .returned v ∧ Below W.heap.size W W' ∧ ∀ t, Sat W' ms t v (.form form) := by
  obtain ⟨s', habs, hd⟩ := Option.map_eq_some_iff.1 habs
  obtain ⟨ms', hg⟩ := start_good Y hN hms hs hp hno hle
  refine calls_of_wp hf hb (absRet_sound C hm c _ s' _ W ms' _ habs hg (fun a' W' ms2 hg2 => ?_))
  have hda : d < a'.tmps.size := by rw [hg2.sz]; exact hdN
  have hbx := hg2.slots d _ (Array.getElem?_eq_getElem hda)
  rw [hd] at hbx
  obtain ⟨b, cs, hv, hnb, hcs, hfk⟩ := hbx
  obtain ⟨A5, c5, rfl, -, -⟩ := k53_openF hfk
  obtain ⟨r0, r1, r2, r3, r4, r5⟩ := cells6 hcs
  refine bodyPost_ret (v := .agg #[.int .i64 form.f0, .int .i64 form.f1, .int .i64 form.f2, .int .i64 form.f3, .int .i64 form.f4, .slice A5 form.f5.length c5]) ?_ hg2.df ⟨_, rfl, hg2.below, fun t => ⟨[.int .i64 form.f0, .int .i64 form.f1, .int .i64 form.f2, .int .i64 form.f3, .int .i64 form.f4, .slice A5 form.f5.length c5], rfl, Kd.FK_mono hfk (fun k hk hm => ?_)⟩⟩
  · have hv' : a'.tmps[d]?.getD undef = .pointer (some ⟨b, 0, none⟩) := by rw [Array.getElem?_eq_getElem hda]; exact hv
    simp [results, hr, hv', go_sem, r0, r1, r2, r3, r4, r5]
  · obtain ⟨t, _, ht⟩ := hg2.out k hm
    exact hk ⟨t, ht⟩

/-- A function whose result is the map. -/
theorem tab_fn {Y : Keys} (C : CallTab Y) (hm : Try.prog.follows .mixedOrders = true) {fid d : Nat} {f : Func} {c : Code} {T : List (Y.κ × Form)} (hf : Try.prog.funcs[fid]? = some f) (hb : f.body = some c) (hr : f.results = #[.tmp d]) (hN : f.ntmps ≤ tabSlot) (hdN : d < f.ntmps)
    (habs : (absRet Y C f.ntmps c (argSlots [], none)).map (fun s => (s.1 d, s.2)) = some (.tab, some T)) (W : World) :
    Calls Try.prog fid #[] W fun e W' => ∃ m ms, e = .returned (.map (some m)) ∧ Below W.heap.size W W' ∧ TabAt Y W' ms m T.length (look Y T) ∧ m < W'.heap.size ∧ W.heap.size ≤ m := by
  obtain ⟨s', habs, hdT⟩ := Option.map_eq_some_iff.1 habs
  obtain ⟨hd, hT⟩ := Prod.mk.inj hdT
  obtain ⟨ms', hg⟩ := start_good Y hN (W := W) (ms := []) (fun t k h => by simp at h) (args := []) (svs := []) trivial rfl rfl (Nat.zero_le _)
  refine calls_of_wp (args := #[]) hf hb (absRet_sound C hm c _ s' _ W ms' _ habs hg (fun a' W' ms2 hg2 => ?_))
  have hda : d < a'.tmps.size := by rw [hg2.sz]; exact hdN
  have hbx := hg2.slots d _ (Array.getElem?_eq_getElem hda)
  rw [hd] at hbx
  obtain ⟨m, hv, hmm⟩ := hbx
  obtain ⟨m', hm', ht⟩ := hg2.tab T hT
  obtain rfl := nodup_fst hg2.n1 hmm hm'
  refine bodyPost_ret (v := .map (some m)) ?_ hg2.df ⟨m, ms2, rfl, hg2.below, ht, (hg2.lt _ _ hmm).1, (hg2.lt _ _ hmm).2 (Nat.le_refl _)⟩
  have hv' : a'.tmps[d]?.getD undef = .map (some m) := by rw [Array.getElem?_eq_getElem hda]; exact hv
  simp [results, hr, hv', go_sem]
end Go.Proofs.Ytpndiobbogelpaa
