/- The Go function codes.All hands back an iterator that tells a kind's codes and names as the tables have them, in whatever world, for every kind. -/
import Derived.Test.YtbfdbleancempaaHAll
import Derived.Test.YtbfdbleancempaaHName
namespace Go.Proofs.Ytbfdbleancempaa
open Go Go.RowKit Go.Shelf Go.Maps Go.Proofs.Hand
attribute [local go_sem] Oper.semAt_some

def toI (x : Int) : I64 := if h : (Lit.int .i64 x).wf = true then ⟨x, h⟩ else ⟨0, by decide⟩
def zsOf (l : List (Int × ByteArray)) : List I64 := l.map fun x => toI x.1
def pr (l : List (Int × ByteArray)) (x : I64) : Int × ByteArray := (x.1, (nameIn l x.1).getD ⟨#[]⟩)
def RowOk (l : List (Int × ByteArray)) : Prop := (zsOf l).map (pr l) = l ∧ (zsOf l).map (·.1) = l.map (·.1) ∧ l.length ≤ 1000
theorem rowOk0 : RowOk tab0 := ⟨by decide +kernel, by decide +kernel, by decide +kernel⟩
theorem rowOk1 : RowOk tab1 := ⟨by decide +kernel, by decide +kernel, by decide +kernel⟩
theorem rowOk2 : RowOk tab2 := ⟨by decide +kernel, by decide +kernel, by decide +kernel⟩
theorem rowOk (k : Int) : RowOk (tab k) := by
  unfold tab
  split
  · exact rowOk0
  · split
    · exact rowOk1
    · split
      · exact rowOk2
      · exact ⟨rfl, rfl, by simp⟩

theorem round_any {n m l l2 : Nat} {P : Program} {f : FuncId} {tmps : Array Value} {assign body : Code} {w : World} {R : Ending → World → Prop} (h : RoundIn Fence.wide n P l f tmps assign body w R) :
    RoundIn (Fence.wide.inRound l2) m P l f tmps assign body w R := ⟨trivial, fun c cs _ => h.2 c cs (room_wide _)⟩
theorem calls_any {n m : Nat} {P : Program} {f : FuncId} {args : Array Value} {w : World} {R : Ending → World → Prop} (h : CallsIn Fence.wide n P f args w R) : CallsIn Fence.wide m P f args w R := callsIn_wide.2 (callsIn_wide.1 h)

theorem cells_at {W : World} {B t e : Nat} {sv : Value} {l : List (Int × ByteArray)} (hl : RowOk l) (h : W.ownsRow B e 1 sv t ((l.map (·.1)).map encZ)) (ht : t = l.length) : Ints B W.heap.size W sv (zsOf l) := by
  subst ht
  have hlen : (zsOf l).length = l.length := by simp [zsOf]
  rcases h.2 with ⟨rfl, h0⟩ | ⟨g, cap, cur, rfl, hg, hb, _⟩
  · refine .inl ⟨rfl, ?_⟩
    exact List.eq_nil_of_length_eq_zero (by rw [hlen]; exact h0)
  · refine .inr ⟨g, 0, cap, by rw [hlen], hg, (Array.getElem?_eq_some_iff.1 hb).1, fun j hj => ?_⟩
    have hc := World.ownsRow.cells h (g := g) rfl j (.int .i64 (zat (zsOf l) j).1) ?_
    · rw [← hc]
      simp only [Addr.add, Nat.zero_add]
      split
      · rename_i e; subst e; rfl
      · rfl
    · have hz : (zsOf l).map (·.1) = l.map (·.1) := hl.2.1
      rw [← hz]
      simp [zat, hj, encZ]

set_option maxRecDepth 100000 in
set_option maxHeartbeats 2000000 in
theorem all_seq_known (n : Nat) (hn : 5 ≤ n) (k : Int) (hk : k = 0 ∨ k = 1 ∨ k = 2) (Bk : Nat) (w : World) (hBk : Bk < w.heap.size) (hc : w.cell? ⟨Bk, 0, none⟩ = some (.int .i64 k)) :
    SeqOwn Fence.wide n Try.prog 18 #[.pointer (some ⟨Bk, 0, none⟩)] (fun x : Int × ByteArray => #[Value.int .i64 x.1, Value.string x.2]) (fun _ _ => True) (fun ys => ys = tab k) (fun pre => pre <+: tab k) (tab k).length w := fun l J Jx W hW hJ hJx hY h0 => by
  have hc' := (hW.cell (p := ⟨Bk, 0, none⟩) hBk).trans hc
  have hof := of_known k hk
  have hrk := Keep.mk (rowOk k)
  have hbk : Bk < W.heap.size := Nat.lt_of_lt_of_le hBk hW.size
  have h1 : 1 ≤ n := by omega
  have hc2 : ∀ o, (W.alloc o).cell? ⟨Bk, 0, none⟩ = some (.int .i64 k) := fun o => (World.cell?_of_block (w := W) (Below.heap_alloc W o Bk hbk)).trans hc'
  clear hc hW hk
  generalize tab k = t at hof hrk hY ⊢
  refine callsIn_of_wp_marks Try.func18 rfl trivial ?_ rfl
  simp only [Try.ntmps18, List.size_toArray, List.length_cons, List.length_nil, Nat.reduceAdd, Nat.reduceSub, Array.replicate_succ, Array.replicate_zero, List.push_toArray, List.append_toArray, List.nil_append, List.cons_append]
  replace hY := Keep.mk hY
  gi_wp2_with (first
    | (refine ⟨trivial, ?_⟩; gi_at_call 17; refine (callsIn_wide.2 (hof _)).mono ?_; rintro e w1 ⟨bn, bc, sl, rfl, hN, -, hrow, hb, hbn⟩; obtain ⟨a, len, cap, rfl⟩ : ∃ a len cap, sl = .slice a len cap := (by rcases hrow.2 with ⟨rfl, _⟩ | ⟨g, cap, _, rfl, _⟩ <;> exact ⟨_, _, _, rfl⟩); replace hN := Keep.mk hN; replace hrow := Keep.mk hrow)
    | (refine ⟨trivial, ?_⟩; gi_at_call 19; refine (values_in Fence.wide _ trivial rfl _ _ _ _).mono ?_; rintro e w2 ⟨rfl, rfl⟩))
  have hs1 : W.heap.size + 1 ≤ w1.heap.size := by have := hb.size; simpa using this
  have hB1 : Below W.heap.size W w1 := ((Below.refl _ W).alloc (Nat.le_refl _) _).trans (hb.mono (by simp))
  have hy1 : w1.cell? ⟨W.heap.size, 0, none⟩ = some (.func (.yield l) #[] #[]) := (hb.cell (p := ⟨W.heap.size, 0, none⟩) (by simp)).trans (Boxed.new W _ _).cell
  have hI1 := cells_at hrk.out hrow.out rfl
  rw [World.size_alloc] at hI1 hbn
  have bM := Boxed.new (w1.alloc (Obj.cells #[Value.map (some bn), Value.map (some bc), Value.slice a len cap] 42)) 40 (Value.slice a len cap)
  have hm3 : ((w1.alloc (Obj.cells #[Value.map (some bn), Value.map (some bc), Value.slice a len cap] 42)).alloc (Obj.cells #[Value.slice a len cap] 40)).cell? ⟨w1.heap.size, 0, none⟩ = some (.map (some bn)) :=
    (World.cell?_of_block (w := w1.alloc (Obj.cells #[Value.map (some bn), Value.map (some bc), Value.slice a len cap] 42)) (Below.heap_alloc _ _ _ (by simp))).trans (Joins.cell_of_block (World.alloc_heap_new w1 _) 0)
  have hG : Below w1.heap.size w1 ((w1.alloc (Obj.cells #[Value.map (some bn), Value.map (some bc), Value.slice a len cap] 42)).alloc (Obj.cells #[Value.slice a len cap] 40)) := ((Below.refl _ w1).alloc (Nat.le_refl _) _).alloc (by simp) _
  have hsz : ((w1.alloc (Obj.cells #[Value.map (some bn), Value.map (some bc), Value.slice a len cap] 42)).alloc (Obj.cells #[Value.slice a len cap] 40)).heap.size = w1.heap.size + 1 + 1 := by simp
  rw [World.size_alloc] at bM
  obtain ⟨W3, hW3⟩ : ∃ W3, (w1.alloc (Obj.cells #[Value.map (some bn), Value.map (some bc), Value.slice a len cap] 42)).alloc (Obj.cells #[Value.slice a len cap] 40) = W3 := ⟨_, rfl⟩
  rw [hW3] at bM hm3 hG hsz ⊢
  clear hW3
  have hB3 : Below W.heap.size W W3 := hB1.trans (hG.mono (by omega))
  have hy3 : W3.cell? ⟨W.heap.size, 0, none⟩ = some (.func (.yield l) #[] #[]) := (hG.cell (p := ⟨W.heap.size, 0, none⟩) (by simp; omega)).trans hy1
  have hNlt := hN.out.lt
  have hN3 := hN.out.below hG hNlt
  have hI3 : Ints (W.heap.size + 1) w1.heap.size W3 (.slice a len cap) (zsOf t) := by
    rcases hI1 with ⟨e1, e2⟩ | ⟨b, off, c, e1, h1, h2, h3⟩
    · exact .inl ⟨e1, e2⟩
    · exact .inr ⟨b, off, c, e1, h1, h2, fun j hj => (hG.cell (p := ⟨b, off + j, none⟩) h2).trans (h3 j hj)⟩
  clear hI1 hy1
  have hlen : (zsOf t).length = t.length := by simp [zsOf]
  refine range_seq rfl h1 (gf := 22) (lb := #[.pointer (some ⟨w1.heap.size + 1, 0, none⟩)]) rfl trivial (enters_of Try.func22 (by kernel_rfl) rfl)
    (values_seq Fence.wide (n - 1) trivial rfl (by omega) (w1.heap.size + 1) (W.heap.size + 1) w1.heap.size _ (zsOf t) (by have := hrk.out.2.2; omega) W3 (by omega) (by omega) bM.cell hI3) (fun h k => h.trans k) (fun W' l' o h => Mid.putObj W' o (by omega)) (Below.refl _ _) (fun _ => rfl)
    (fun pre Wx => ((J (pre.map (pr t)) Wx ∧ Wx.cell? ⟨W.heap.size, 0, none⟩ = some (.func (.yield l) #[] #[])) ∧ Wx.cell? ⟨w1.heap.size, 0, none⟩ = some (.map (some bn))) ∧ Hand.IsMap Wx Try.prog 3 bn t.length (namesM t))
    (fun c pre Wx => c = .ret ∧ Jx (pre.map (pr t)) Wx)
    (AbB.and (AbB.and (AbB.and (fun s A B hs hb => hJ _ _ _ hs (hb.mono hB3.size)) (AbB.cell (by simp; omega) _)) (AbB.cell (by simp; omega) _)) (fun s A B hs hb => hs.below hb (by omega)))
    (fun c s A B hs hb => ⟨hs.1, hJx _ _ _ hs.2 (hb.mono hB3.size)⟩)
    ⟨⟨⟨hJ _ _ _ h0 hB3, hy3⟩, hm3⟩, hN3⟩
    (fun x => { tmps := #[Value.func (Fn.yield l) #[] #[], Value.pointer (some { block := Bk, off := 0 }), Value.pointer (some { block := W.heap.size, off := 0 }), Value.pointer (some { block := w1.heap.size, off := 0 }), .int .i64 x.1, Value.int IntKind.i64 k, Value.agg #[Value.map (some bn), Value.map (some bc), Value.slice a len cap], Value.pointer (some { block := w1.heap.size, off := 2 }), Value.slice a len cap, Value.func (Fn.func 22) #[] #[Value.pointer (some { block := w1.heap.size + 1, off := 0 })], .int .i64 x.1, undef, undef, undef, undef, undef, undef, undef, undef], defers := [] })
    ?assign ?body ?done ?stop
  case assign =>
    intro l2 x Wx K hK
    gi_wp2
    exact hK
  case body =>
    rintro l2 pre x Wx ⟨⟨⟨hj, hy⟩, hm⟩, hN⟩ hpl hszx
    obtain ⟨fn, tmps, assign, body, hyy, hR⟩ := hY.out (pre.map (pr t)) (pr t x) Wx hj (by simp; omega) (by omega)
    dsimp only [pr] at hyy
    have hlk := hN.look_one law3 Try.underlying38 (zero9 Wx) (keyOf_int_mk Try.underlying3 x.2)
    rw [(names_get t x.1).1] at hlk
    have hh1 : 1 ≤ n - 1 - 1 := by omega
    replace hR := Keep.mk hR
    replace hN := Keep.mk hN
    gi_wp2
    refine (round_any hR.out).mono ?_
    rintro e W' (⟨rfl, hJ3, -, hf3⟩ | ⟨rfl, hJx3, hf3⟩)
    · gi_wp2
      refine ⟨hf3.mono (by omega), ⟨fun i h1 h2 => hf3.same i (by omega) (by omega)⟩, ⟨⟨?_, ?_⟩, ?_⟩, ?_⟩
      · rw [List.map_append]; exact hJ3
      · exact hf3.cell (by simp) hy
      · exact hf3.cell (by simp; omega) hm
      · exact hN.out.move (hf3.same _ (by omega) hN.out.lt)
    · gi_wp2
      refine ⟨hf3.mono (by omega), rfl, ?_⟩
      rw [List.map_append]; exact hJx3
  case done =>
    rintro D ys Wd hD rfl ⟨⟨⟨hj, hy⟩, hm⟩, hN⟩ hK
    gi_wp2
    refine ⟨by simp, .inl ⟨_, _, rfl, run_takeDeferred hK, ?_⟩⟩
    exact ⟨_, results_none rfl _ _ _, ⟨_, rfl⟩, .inl ⟨_, rfl, hrk.out.1 ▸ hJ _ _ _ hj (below_putObj _ _ (by have := hB3.size; omega))⟩⟩
  case stop =>
    rintro D c pre Wd hD hpre ⟨rfl, hj⟩ hK
    gi_wp2
    refine ⟨by simp, .inl ⟨_, _, rfl, run_takeDeferred hK, ?_⟩⟩
    exact ⟨_, results_none rfl _ _ _, ⟨_, rfl⟩, .inr ⟨_, by have h9 := hpre.map (pr t); rwa [hrk.out.1] at h9, hJx _ _ _ hj (below_putObj _ _ (by have := hB3.size; omega))⟩⟩

set_option maxRecDepth 100000 in
set_option maxHeartbeats 2000000 in
theorem all_seq_other (n : Nat) (hn : 5 ≤ n) (k : Int) (hk : ¬(k = 0 ∨ k = 1 ∨ k = 2)) (Bk : Nat) (w : World) (hBk : Bk < w.heap.size) (hc : w.cell? ⟨Bk, 0, none⟩ = some (.int .i64 k)) :
    SeqOwn Fence.wide n Try.prog 18 #[.pointer (some ⟨Bk, 0, none⟩)] (fun x : Int × ByteArray => #[Value.int .i64 x.1, Value.string x.2]) (fun _ _ => True) (fun ys => ys = tab k) (fun pre => pre <+: tab k) (tab k).length w := fun l J Jx W hW hJ hJx hY h0 => by
  have hc' := (hW.cell (p := ⟨Bk, 0, none⟩) hBk).trans hc
  have e := tab_other hk
  have h0' : (k == 0) = false := by simpa using fun h => hk (.inl h)
  have h1' : (k == 1) = false := by simpa using fun h => hk (.inr (.inl h))
  have h2' : (k == 2) = false := by simpa using fun h => hk (.inr (.inr h))
  rw [e] at hY ⊢
  have hof := of_other k h0' h1' h2'
  have hbk : Bk < W.heap.size := Nat.lt_of_lt_of_le hBk hW.size
  have h1 : 1 ≤ n := by omega
  have hc2 : ∀ o, (W.alloc o).cell? ⟨Bk, 0, none⟩ = some (.int .i64 k) := fun o => (World.cell?_of_block (w := W) (Below.heap_alloc W o Bk hbk)).trans hc'
  clear hc hW hk e hY h0' h1' h2'
  refine callsIn_of_wp_marks Try.func18 rfl trivial ?_ rfl
  simp only [Try.ntmps18, List.size_toArray, List.length_cons, List.length_nil, Nat.reduceAdd, Nat.reduceSub, Array.replicate_succ, Array.replicate_zero, List.push_toArray, List.append_toArray, List.nil_append, List.cons_append]
  gi_wp2_with (first
    | (refine ⟨trivial, ?_⟩; gi_at_call 17; refine (callsIn_wide.2 (hof _)).mono ?_; rintro e w1 ⟨rfl, hb⟩)
    | (refine ⟨trivial, ?_⟩; gi_at_call 19; refine (values_in Fence.wide _ trivial rfl _ _ _ _).mono ?_; rintro e w2 ⟨rfl, rfl⟩))
  have hs1 : W.heap.size + 1 ≤ w1.heap.size := by have := hb.size; simpa using this
  have hB1 : Below W.heap.size W w1 := ((Below.refl _ W).alloc (Nat.le_refl _) _).trans (hb.mono (by simp))
  have bM := Boxed.new (w1.alloc (Obj.cells #[Value.map none, Value.map none, Value.slice none 0 0] 42)) 40 (Value.slice none 0 0)
  have hG : Below w1.heap.size w1 ((w1.alloc (Obj.cells #[Value.map none, Value.map none, Value.slice none 0 0] 42)).alloc (Obj.cells #[Value.slice none 0 0] 40)) := ((Below.refl _ w1).alloc (Nat.le_refl _) _).alloc (by simp) _
  have hsz : ((w1.alloc (Obj.cells #[Value.map none, Value.map none, Value.slice none 0 0] 42)).alloc (Obj.cells #[Value.slice none 0 0] 40)).heap.size = w1.heap.size + 1 + 1 := by simp
  rw [World.size_alloc] at bM
  obtain ⟨W3, hW3⟩ : ∃ W3, (w1.alloc (Obj.cells #[Value.map none, Value.map none, Value.slice none 0 0] 42)).alloc (Obj.cells #[Value.slice none 0 0] 40) = W3 := ⟨_, rfl⟩
  rw [hW3] at bM hG hsz ⊢
  clear hW3
  have hB3 : Below W.heap.size W W3 := hB1.trans (hG.mono (by omega))
  refine range_seq rfl h1 (gf := 22) (lb := #[.pointer (some ⟨w1.heap.size + 1, 0, none⟩)]) rfl trivial (enters_of Try.func22 (by kernel_rfl) rfl)
    (values_seq Fence.wide (n - 1) trivial rfl (by omega) (w1.heap.size + 1) (W.heap.size + 1) w1.heap.size _ [] (by simp) W3 (by omega) (by omega) bM.cell (.inl ⟨rfl, rfl⟩)) (fun h k => h.trans k) (fun W' l' o h => Mid.putObj W' o (by omega)) (Below.refl _ _) (fun _ => rfl)
    (fun _ Wx => J [] Wx) (fun _ _ _ => False) (fun s A B hs hb => hJ _ _ _ hs (hb.mono hB3.size)) (fun _ _ _ _ hs _ => hs) (hJ _ _ _ h0 hB3)
    (fun x => { tmps := #[Value.func (Fn.yield l) #[] #[], Value.pointer (some { block := Bk, off := 0 }), Value.pointer (some { block := W.heap.size, off := 0 }), Value.pointer (some { block := w1.heap.size, off := 0 }), .int .i64 x.1, Value.int IntKind.i64 k, Value.agg #[Value.map none, Value.map none, Value.slice none 0 0], Value.pointer (some { block := w1.heap.size, off := 2 }), Value.slice none 0 0, Value.func (Fn.func 22) #[] #[Value.pointer (some { block := w1.heap.size + 1, off := 0 })], .int .i64 x.1, undef, undef, undef, undef, undef, undef, undef, undef], defers := [] })
    ?assign ?body ?done ?stop
  case assign =>
    intro l2 x Wx K hK
    gi_wp2
    exact hK
  case body => exact fun _ _ _ _ _ hpl _ => absurd hpl (by simp)
  case done =>
    rintro D ys Wd hD rfl hj hK
    gi_wp2
    refine ⟨by simp, .inl ⟨_, _, rfl, run_takeDeferred hK, ?_⟩⟩
    exact ⟨_, results_none rfl _ _ _, ⟨_, rfl⟩, .inl ⟨_, rfl, hJ _ _ _ hj (below_putObj _ _ (by have := hB3.size; omega))⟩⟩
  case stop => exact fun _ _ _ _ _ _ h _ => h.elim

/-- The closure that codes.All hands back, at every kind. -/
theorem all_seq (n : Nat) (hn : 5 ≤ n) (k : Int) (Bk : Nat) (w : World) (hBk : Bk < w.heap.size) (hc : w.cell? ⟨Bk, 0, none⟩ = some (.int .i64 k)) :
    SeqOwn Fence.wide n Try.prog 18 #[.pointer (some ⟨Bk, 0, none⟩)] (fun x : Int × ByteArray => #[Value.int .i64 x.1, Value.string x.2]) (fun _ _ => True) (fun ys => ys = tab k) (fun pre => pre <+: tab k) (tab k).length w := by
  by_cases hk : k = 0 ∨ k = 1 ∨ k = 2
  · exact all_seq_known n hn k hk Bk w hBk hc
  · exact all_seq_other n hn k hk Bk w hBk hc

theorem all_in (F : Fence) (n : Nat) (hF : F.fn 16) (hro : F.round = none) (k : Int) (w : World) :
    CallsIn F n Try.prog 16 #[.int .i64 k] w fun e w' => e = .returned (.func (.func 18) #[] #[.pointer (some ⟨w.heap.size, 0, none⟩)]) ∧ w' = w.alloc (.cells #[.int .i64 k] 3) := by
  refine callsIn_of_wp Try.func16 rfl hF ?_ hro
  simp only [Try.ntmps16, List.size_toArray, List.length_cons, List.length_nil, Nat.reduceAdd, Nat.reduceSub, Array.replicate_succ, Array.replicate_zero, List.push_toArray, List.append_toArray, List.nil_append, List.cons_append]
  gi_wp2
  go_ret
  exact ⟨rfl, rfl⟩
end Go.Proofs.Ytbfdbleancempaa
