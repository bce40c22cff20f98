/- Of every kind the Go function codes.of returns the maps and the order that the tables tell, in whatever world; no condition on the kind. -/
import Derived.Test.YtmdmllfbdpoeeaaProg
import Derived.Test.YtmdmllfbdpoeeaaHMaps
import Derived.Test.YtmdmllfbdpoeeaaHTab
import Derived.Test.YtmdmllfbdpoeeaaHLay
namespace Go.Proofs.Ytmdmllfbdpoeeaa
open Go.RowKit Go.Maps Go.Proofs.Hand Go.Sort Go.Shelf
set_option maxRecDepth 100000

theorem law3 : Keyed Try.prog 3 := int_keyed Try.underlying3
theorem law9 : Keyed Try.prog 9 := string_keyed Try.underlying9
def vals (l : List (Int × ByteArray)) : List (Value × Value) := l.map fun x => (.int .i64 x.1, .string x.2)
def lits (l : List (Int × ByteArray)) : List Lit := l.map fun x => .int .i64 x.1
def datum (l : List (Int × ByteArray)) : DataW Value := ((lits l).zip (vals l)).foldl (fun D x => D.put x.1 (.held x.2.2)) (.map [])
theorem keys_ok (l : List (Int × ByteArray)) (h : ∀ x ∈ l, (Lit.int .i64 x.1).wf = true) : (vals l).map (fun x => keyOf Try.prog 3 x.1) = (lits l).map some := by
  unfold vals lits
  rw [List.map_map, List.map_map]
  exact List.map_congr_left fun x hx => keyOf_int_mk Try.underlying3 (h x hx)
/-- What the names' map tells. -/
def namesM (l : List (Int × ByteArray)) : Lit → Option Value
  | .int .i64 c => (nameIn l c).map .string
  | _ => none
/-- What the codes' map tells of those whose numbers are no longer to come. -/
def codesM (l : List (Int × ByteArray)) (left : Lit → Bool) : Lit → Option Value
  | .string s => match codeIn l s with
    | some c => if left (.int .i64 c) then none else some (.int .i64 c)
    | none => none
  | _ => none
theorem getIn_names : ∀ (l : List (Int × ByteArray)) (kl : Lit), getIn (((lits l).zip (vals l)).map fun x => (x.1, x.2.2)) kl = namesM l kl
  | [], kl => by cases kl <;> first | rfl | (rename_i k n; cases k <;> rfl)
  | x :: l, kl => by
    have ih := getIn_names l kl
    simp only [lits, vals, List.map_cons, List.zip_cons_cons] at ih ⊢
    rw [getIn_cons, ih]
    cases kl with
    | int k n =>
      cases k <;> simp [namesM, Lit.sameKey, nameIn]
      split <;> simp
    | _ => simp [namesM, Lit.sameKey]
theorem datum_eq (l : List (Int × ByteArray)) : datum l = ((((lits l).zip (vals l)).map fun x => (x.1, x.2.2)).foldl (fun D x => D.put x.1 (.held x.2)) (.map [])) := by
  unfold datum; rw [List.foldl_map]
theorem tells_datum (l : List (Int × ByteArray)) (h : (l.map (·.1)).Nodup) : Tells (datum l) (namesM l) := by
  rw [datum_eq]
  refine (tells_lit _ ?_ ?_).congr (getIn_names l)
  · intro x hx
    simp only [lits, vals, List.mem_map] at hx
    obtain ⟨y, hy, rfl⟩ := hx
    have := (List.of_mem_zip hy).1
    obtain ⟨z, _, hz⟩ := List.mem_map.1 this
    rw [← hz]
    trivial
  · rw [List.pairwise_map]
    unfold lits vals
    rw [List.zip_map']
    rw [List.pairwise_map]
    have := List.pairwise_map.1 h
    exact this.imp fun {a b} hab e => hab (by simpa using e)

def codesF (l : List (Int × ByteArray)) : Lit → Option Value
  | .string s => (codeIn l s).map (.int .i64)
  | _ => none
theorem codes_start {l : List (Int × ByteArray)} (hg : TabOk l) {D : DataW Value} (ht : Tells D (namesM l)) (kl : Lit) : (none : Option Value) = codesM l (Maps.has D) kl := by
  cases kl with
  | string s =>
    simp only [codesM]
    cases hc : codeIn l s with
    | none => rfl
    | some c =>
      obtain ⟨b, hb, _⟩ := code_name hg hc
      have := ht (.int .i64 c)
      simp only [namesM, hb, Option.map_some] at this
      simp [this.1]
  | _ => rfl
theorem codes_step {l : List (Int × ByteArray)} (hg : TabOk l) {left : Lit → Bool} {x : Int} {c : ByteArray} (hn : nameIn l x = some c) (kl : Lit) :
    (if kl.sameKey (.string c.data.toList) then some (Value.int .i64 x) else codesM l left kl) = codesM l (fun z => left z && !z.sameKey (.int .i64 x)) kl := by
  have hc := name_code hg hn
  cases kl with
  | string s =>
    by_cases e : s = c.data.toList
    · subst e
      simp [Lit.sameKey, codesM, hc]
    · simp only [Lit.sameKey, codesM, beq_iff_eq, e, if_false]
      cases hs : codeIn l s with
      | none => rfl
      | some y =>
        have hne : y ≠ x := by
          intro h
          subst h
          obtain ⟨b, hb, hbs⟩ := code_name hg hs
          rw [hn] at hb
          cases hb
          exact e hbs.symm
        simp [hne]
  | _ => rfl
theorem codes_end {l : List (Int × ByteArray)} {left : Lit → Bool} (h : ∀ kl, left kl = false) (kl : Lit) : codesM l left kl = codesF l kl := by
  cases kl with
  | string s =>
    simp only [codesM, codesF]
    cases codeIn l s with
    | none => rfl
    | some c => simp [h]
  | _ => rfl
theorem small_name {l : List (Int × ByteArray)} {x : Int} {s : ByteArray} (h : nameIn l x = some s) (hl : ∀ y ∈ l, y.2.size ≤ maxLen) : s.size ≤ maxLen := hl _ (nameIn_mem h)
/-- What has come out of the names' map. -/
theorem came {l : List (Int × ByteArray)} {D : DataW Value} (ht : Tells D (namesM l)) {x : Int} {v : Value} (hat : ∀ zd, D.atKey (.int .i64 x) zd = .held v) : ∃ c, nameIn l x = some c ∧ v = .string c := by
  have := ht (.int .i64 x)
  simp only [namesM] at this
  cases hc : nameIn l x with
  | none =>
    simp only [hc, Option.map_none] at this
    have h1 := Maps.atKey_of_not_has this .nil
    rw [hat] at h1
    cases h1
  | some c =>
    simp only [hc, Option.map_some] at this
    have h1 := this.2 .nil
    rw [hat] at h1
    injection h1 with h1
    exact ⟨c, rfl, h1⟩


theorem tabOk0 : TabOk tab0 := good0
theorem tabOk1 : TabOk tab1 := good1
theorem tabOk2 : TabOk tab2 := good2
theorem sorts (m : Nat) : AnyZI.SortsIn Try.prog Try.sortedA_ren Fence.wide m :=
  ⟨fun blk off cap ss W hH hblk hsz => callsIn_wide.2 (AnyM.slices_Sort_int Try.sortA blk off cap ss W hH hblk hsz),
   fun p cap W => callsIn_wide.2 (AnyM.slices_Sort_int_none Try.sortA p cap W)⟩
theorem keys_call (mb : Option Nat) (W : World) : Calls Try.prog 33 #[.map mb] W fun e w' => e = .returned (.func (.func 36) #[] #[.pointer (some ⟨W.heap.size, 0, none⟩)]) ∧ w' = W.alloc (.cells #[.map mb] 73) :=
  callsIn_wide.1 (AnyZI.keys_in Try.keysA Fence.wide 5 trivial rfl mb W)
set_option maxHeartbeats 1000000 in
theorem sorted_call (b nn : Nat) (D0 : DataW Value) (L : List Int) (hL : intKeys D0 = L) (hsort : L.mergeSort (fun x y => decide (x ≤ y)) = L) (w : World) (hown : w.ownsMap Try.prog 3 rawElem b nn D0) (hmax : Maps.size D0 ≤ maxLen) (hbytes : Maps.size D0 * 8 ≤ 140737488355328) :
    Calls Try.prog 32 #[.func (.func 36) #[] #[.pointer (some ⟨w.heap.size, 0, none⟩)]] (w.alloc (.cells #[.map (some b)] 73)) fun e w' => ∃ (A : Option Addr) (c : Nat), e = .returned (.slice A L.length c) ∧
      w'.ownsRow (w.heap.size + 1) 3 1 (.slice A L.length c) L.length (L.map encZ) ∧ Below (w.alloc (.cells #[.map (some b)] 73)).heap.size (w.alloc (.cells #[.map (some b)] 73)) w' := by
  have hbl := hown.lt
  have hseq : SeqGives Fence.wide 2 Try.prog 36 #[.pointer (some ⟨w.heap.size, 0, none⟩)] encZ (fun ss => ss.Perm (intKeys D0)) (Maps.size D0) (w.alloc (.cells #[.map (some b)] 73)) :=
    AnyZI.keys_gives (ρ := Try.keysA_ren) { Try.keysA with } Fence.wide _ trivial rfl (by omega) w.heap.size b nn D0 _ (by simp) (by simp) (by
      obtain ⟨es, clock, hb, Ft, hs, hD⟩ := hown
      exact ⟨es, clock, (Below.heap_alloc _ _ b hbl).trans hb, Ft, hs, hD⟩)
  have cS := AnyZI.sorted_in Try.sortedA Fence.wide 5 trivial trivial trivial trivial rfl (by omega) (sorts _) (enters_of Try.func35 (by kernel_rfl) rfl) 36 #[.pointer (some ⟨w.heap.size, 0, none⟩)] trivial (enters_of Try.func36 (by kernel_rfl) rfl) _ _ hmax hbytes _ hseq
  exact (callsIn_wide.1 cS).mono fun e w' ⟨v, ss, h1, h2, h3, _, h5⟩ => by
    rw [hL] at h2
    rw [mergeSort_of_perm_i h2, hsort, h2.length_eq, World.size_alloc] at h3
    obtain ⟨A, c, rfl⟩ := own_shape h3
    exact ⟨A, c, h1, h3, h5⟩

/-- What 'of' hands back. -/
def OfPost (l : List (Int × ByteArray)) (w : World) (e : Ending) (w' : World) : Prop :=
  ∃ bn bc sl, e = .returned (.agg #[.map (some bn), .map (some bc), sl]) ∧ IsMap w' Try.prog 3 bn l.length (namesM l) ∧ IsMap w' Try.prog 9 bc l.length (codesF l) ∧
    w'.ownsRow w.heap.size 3 1 sl l.length ((l.map (·.1)).map encZ) ∧ Below w.heap.size w w' ∧ w.heap.size ≤ bn



set_option maxHeartbeats 4000000 in
set_option maxRecDepth 100000 in
theorem of_0 (w : World) : Calls Try.prog 31 #[.int .i64 0] w (OfPost tab0 w) := by
  have hmm := @run_makeMap Try.prog
  have hsize : Keep (Maps.size (datum tab0) = 4) := ⟨by kernel_rfl⟩
  have hkeys : Keep (intKeys (datum tab0) = tab0.map (·.1)) := ⟨by kernel_rfl⟩
  have hsorted : Keep ((tab0.map (·.1)).mergeSort (fun x y => decide (x ≤ y)) = tab0.map (·.1)) := ⟨List.mergeSort_of_pairwise (by decide)⟩
  have htl : Keep (Tells (datum tab0) (namesM tab0)) := ⟨tells_datum tab0 (by decide)⟩
  go_enter Try.func31, Try.ntmps31
  go_wp2_with (first
    | ((with_reducible refine wpList_mapLit 12 _ rfl rfl rfl law3 Try.underlying73 (vals tab0) (lits tab0) ?hI ?hk ?hN ?hl ?_); (case hI => repeat (first | exact trivial | refine ⟨rfl, rfl, rfl, ?_⟩)); (case hk => exact keys_ok _ (by decide)); (case hN => simp); (case hl => decide); intro es clock hown; rw [show (vals tab0).length = 4 from rfl]; simp only [List.drop_succ_cons, List.drop_zero])
    | (at_range; refine wpList_range_own _ rfl _ 73 rfl 3 9 law3 Try.underlying73 rawElem (w.heap.size + 1 + 1 + 1) 4 (datum tab0) rfl (ownsMap_move hown (heap_at _ _ _ (by simp))) ?_; intro w0 hrg0 hg0 hs0))
  (try go_frame)
  have hsz : Keep (((((w.alloc (Obj.cells #[Value.map none, Value.map none, Value.slice none 0 0] 76)).alloc (Obj.map #[] 0)).alloc (Obj.cells #[Value.map (some (w.heap.size + 1 + 1 + 1)), Value.map (some (w.heap.size + 1)), Value.slice none 0 0] 76)).alloc (Obj.map es clock)).heap.size = w.heap.size + 1 + 1 + 1 + 1) := ⟨by simp⟩
  rw [hsz.out] at hrg0 hs0
  (try rw [hsz.out])
  clear hsz
  generalize hW : ((((w.alloc (Obj.cells #[Value.map none, Value.map none, Value.slice none 0 0] 76)).alloc (Obj.map #[] 0)).alloc (Obj.cells #[Value.map (some (w.heap.size + 1 + 1 + 1)), Value.map (some (w.heap.size + 1)), Value.slice none 0 0] 76)).alloc (Obj.map es clock)) = W at hg0
  go_loopw [4] (fun _ wr => ∃ (left : Lit → Bool) (cnt : Nat), wr.ranges Try.prog 3 rawElem (w.heap.size + 1 + 1 + 1) (w.heap.size + 1 + 1 + 1 + 1) 4 (datum tab0) left cnt ∧ cnt ≤ 4 ∧
      IsMap wr Try.prog 9 (w.heap.size + 1) (4 - cnt) (codesM tab0 left) ∧ Keep (wr.heap[w.heap.size + 1 + 1]? = some (.cells #[Value.map (some (w.heap.size + 1 + 1 + 1)), Value.map (some (w.heap.size + 1)), Value.slice none 0 0] 76 (0, 0))) ∧
      Keep (wr.heap[w.heap.size]? = some (.cells #[Value.map none, Value.map none, Value.slice none 0 0] 76 (0, 0))) ∧ Below w.heap.size w wr)
    (fun _ wr => wr.rangeLeft (w.heap.size + 1 + 1 + 1) (w.heap.size + 1 + 1 + 1 + 1))
  case atStart =>
    have hz : W.heap.size = w.heap.size + 1 + 1 + 1 + 1 := by rw [← hW]; simp
    refine ⟨_, _, hrg0, by rw [hsize.out]; exact Nat.le_refl _, ?_, ?_, ?_, ?_⟩
    · have h0 := isMap_made (w.alloc (Obj.cells #[Value.map none, Value.map none, Value.slice none 0 0] 76)) Try.prog 9
      rw [World.size_alloc] at h0
      have h1 := (h0.alloc (Obj.cells #[Value.map (some (w.heap.size + 1 + 1 + 1)), Value.map (some (w.heap.size + 1)), Value.slice none 0 0] 76)).alloc (Obj.map es clock)
      rw [hW] at h1
      exact ((h1.kept hg0 (by simp)).mono (Nat.zero_le _)).congr (codes_start tabOk0 htl.out)
    · refine ⟨(hg0.block _ (by rw [hz]; omega) (by simp)).trans ?_⟩
      rw [← hW]
      exact (Below.heap_alloc _ _ _ (by simp)).trans (heap_at _ _ _ (by simp))
    · refine ⟨(hg0.block _ (by rw [hz]; omega) (by simp)).trans ?_⟩
      rw [← hW]
      exact (Below.heap_alloc _ _ _ (by simp; omega)).trans ((Below.heap_alloc _ _ _ (by simp; omega)).trans ((Below.heap_alloc _ _ _ (by simp)).trans (heap_at _ _ _ rfl)))
    · refine Below.grown ?_ hg0 (by rw [hz]; omega) (fun j hj => by cases hj)
      rw [← hW]
      exact ((((Below.refl _ _).alloc (Nat.le_refl _) _).alloc (by simp) _).alloc (by simp; omega) _).alloc (by simp; omega) _
  case round =>
    clear hW hg0 hrg0 hs0 hown
    obtain ⟨left, cnt, hrg, hcs, hC, hL, hR, hB⟩ := hrel
    have c0 : wr.cell? ⟨w.heap.size + 1 + 1, 0, none⟩ = some (Value.map (some (w.heap.size + 1 + 1 + 1))) := Joins.cell_of_block hL.out 0
    go_wp2_with (first
      | (at_next; refine wpList_next_ranges _ rfl _ rfl 3 law3 rawElem encZ id (fun key kl hk => by obtain ⟨x, hx, _⟩ := Maps.keyOf_i64 Try.underlying3 hk; exact ⟨x, hx⟩) (fun v _ _ => ⟨v, rfl⟩) _ _ _ _ _ _ rfl hrg ?_ ?_))
    · intro hc0 hl0
      subst hc0
      have hown := hrg.owns
      go_wp2_with (first
        | (go_at_call 33; refine (keys_call _ _).mono ?_; rintro e w' ⟨rfl, rfl⟩)
        | (go_at_call 32; refine (sorted_call _ _ _ (tab0.map (·.1)) hkeys.out hsorted.out _ hown (by rw [hsize.out]; decide) (by rw [hsize.out]; decide)).mono ?_; rintro e w1 ⟨A, c, rfl, hrow, hb⟩; have hL1 := (hb.block (w.heap.size + 1 + 1) (by have := hrg.lt; simp; omega)).trans ((Below.heap_alloc _ _ _ (by have := hrg.lt; omega)).trans hL.out); have hR1 := (hb.block w.heap.size (by have := hrg.lt; simp; omega)).trans ((Below.heap_alloc _ _ _ (by have := hrg.lt; omega)).trans hR.out); obtain ⟨p0, p1, p2, q0, q1, q2⟩ := cells3 hL1; obtain ⟨r0, r1, r2, s0, s1, s2⟩ := cells3 hR1; replace hL1 := Keep.mk hL1; replace hR1 := Keep.mk hR1))
      have hlt := hrg.lt
      simp only [List.length_map] at hrow
      have hsz := hB.size
      have hm4 : ∀ i, i ≠ w.heap.size + 1 + 1 → i ≠ w.heap.size → (((((w1.setCell ⟨w.heap.size + 1 + 1, 2, none⟩ (.slice A tab0.length c)).setCell ⟨w.heap.size, 0, none⟩ (.map (some (w.heap.size + 1 + 1 + 1)))).setCell ⟨w.heap.size, 1, none⟩ (.map (some (w.heap.size + 1)))).setCell ⟨w.heap.size, 2, none⟩ (.slice A tab0.length c))).heap[i]? = w1.heap[i]? := fun i h1 h2 => by
        rw [heap_set_ne _ _ _ _ (by simpa using h2), heap_set_ne _ _ _ _ (by simpa using h2), heap_set_ne _ _ _ _ (by simpa using h2), heap_set_ne _ _ _ _ (by simpa using h1)]
      refine bodyPost_ret (v := .agg #[.map (some (w.heap.size + 1 + 1 + 1)), .map (some (w.heap.size + 1)), .slice A tab0.length c]) (by simp [results, Try.results31, go_sem, r0, r1, r2]) rfl ⟨_, _, _, rfl, ?_, ?_, ?_, ?_, by omega⟩
      · have h0 := ((isMap_of hown htl.out).alloc (.cells #[Value.map (some (w.heap.size + 1 + 1 + 1))] 73)).below hb (by simp; omega)
        exact h0.move (hm4 _ (by omega) (by omega))
      · have h0 := ((hC.congr (codes_end hl0)).alloc (.cells #[Value.map (some (w.heap.size + 1 + 1 + 1))] 73)).below hb (by simp; omega)
        exact h0.move (hm4 _ (by omega) (by omega))
      · exact own_base_le (own_move hrow (fun g hg => hm4 g (by omega) (by omega))) (by omega)
      · exact (((((hB.alloc hB.size _).trans (hb.mono (by simp; omega))).setCell (by simp; omega) _).setCell (by simp) _).setCell (by simp) _).setCell (by simp) _
    · intro x c kl yd yp w1 cnt1 hkey hlk hv hat hrg1 hlt hg1 hs1 hen
      obtain ⟨x', ex, rfl, hwx⟩ := Maps.keyOf_i64 Try.underlying3 hkey
      obtain rfl : x = x' := encZ_inj ex
      obtain ⟨rfl, rfl⟩ := Prod.mk.inj (rawElem_inv hv)
      obtain ⟨s, hns, hcs'⟩ := came htl.out hat
      subst hcs'
      have hkl := hrg.lt
      have hC1 := hC.kept hg1 (by simp)
      have hL1 := (hg1.block (w.heap.size + 1 + 1) (by omega) (by simp)).trans hL.out
      have hR1 := (hg1.block w.heap.size (by omega) (by simp; omega)).trans hR.out
      obtain ⟨p0, p1, p2, q0, q1, q2⟩ := cells3 hL1
      replace hL1 := Keep.mk hL1
      replace hR1 := Keep.mk hR1
      replace hns := Keep.mk hns
      have hslen : s.size ≤ maxLen := small_name hns.out (by decide)
      go_wp2_with (first
        | (at_mapUpdate; refine wpList_mapUpdate_is _ rfl _ _ _ 74 rfl 9 3 law9 Try.underlying74 _ _ _ rfl hC1 (by unfold maxLen; omega) _ _ _ rfl rfl (WideMaps.keyOf_string_mk Try.underlying9 hslen) ?_; intro w2 hC2 hg2; (try go_frame)))
      have hrg2 := hrg1.kept hg2 (fun e => by have := Option.some.inj e; omega) (fun e => by have := Option.some.inj e; omega)
      have hs2 := hg2.size
      go_roundw
      case rel =>
        refine ⟨_, cnt1, hrg2, by omega, (hC2.mono (by omega)).congr (codes_step tabOk0 hns.out), ⟨(hg2.block _ (by omega) (by simp)).trans hL1.out⟩, ⟨(hg2.block _ (by omega) (by simp)).trans hR1.out⟩, ?_⟩
        exact (hB.grown hg1 hB.size (fun j hj => by cases hj; omega)).grown hg2 (by omega) (fun j hj => by cases hj; omega)
      case measure => rw [hrg2.left_eq, hrg.left_eq]; exact hlt


set_option maxHeartbeats 4000000 in
set_option maxRecDepth 100000 in
theorem of_1 (w : World) : Calls Try.prog 31 #[.int .i64 1] w (OfPost tab1 w) := by
  have hmm := @run_makeMap Try.prog
  have hsize : Keep (Maps.size (datum tab1) = 10) := ⟨by kernel_rfl⟩
  have hkeys : Keep (intKeys (datum tab1) = tab1.map (·.1)) := ⟨by kernel_rfl⟩
  have hsorted : Keep ((tab1.map (·.1)).mergeSort (fun x y => decide (x ≤ y)) = tab1.map (·.1)) := ⟨List.mergeSort_of_pairwise (by decide)⟩
  have htl : Keep (Tells (datum tab1) (namesM tab1)) := ⟨tells_datum tab1 (by decide)⟩
  go_enter Try.func31, Try.ntmps31
  go_wp2_with (first
    | ((with_reducible refine wpList_mapLit 17 _ rfl rfl rfl law3 Try.underlying73 (vals tab1) (lits tab1) ?hI ?hk ?hN ?hl ?_); (case hI => repeat (first | exact trivial | refine ⟨rfl, rfl, rfl, ?_⟩)); (case hk => exact keys_ok _ (by decide)); (case hN => simp); (case hl => decide); intro es clock hown; rw [show (vals tab1).length = 10 from rfl]; simp only [List.drop_succ_cons, List.drop_zero])
    | (at_range; refine wpList_range_own _ rfl _ 73 rfl 3 9 law3 Try.underlying73 rawElem (w.heap.size + 1 + 1 + 1) 10 (datum tab1) rfl (ownsMap_move hown (heap_at _ _ _ (by simp))) ?_; intro w0 hrg0 hg0 hs0))
  (try go_frame)
  have hsz : Keep (((((w.alloc (Obj.cells #[Value.map none, Value.map none, Value.slice none 0 0] 76)).alloc (Obj.map #[] 0)).alloc (Obj.cells #[Value.map (some (w.heap.size + 1 + 1 + 1)), Value.map (some (w.heap.size + 1)), Value.slice none 0 0] 76)).alloc (Obj.map es clock)).heap.size = w.heap.size + 1 + 1 + 1 + 1) := ⟨by simp⟩
  rw [hsz.out] at hrg0 hs0
  (try rw [hsz.out])
  clear hsz
  generalize hW : ((((w.alloc (Obj.cells #[Value.map none, Value.map none, Value.slice none 0 0] 76)).alloc (Obj.map #[] 0)).alloc (Obj.cells #[Value.map (some (w.heap.size + 1 + 1 + 1)), Value.map (some (w.heap.size + 1)), Value.slice none 0 0] 76)).alloc (Obj.map es clock)) = W at hg0
  go_loopw [4] (fun _ wr => ∃ (left : Lit → Bool) (cnt : Nat), wr.ranges Try.prog 3 rawElem (w.heap.size + 1 + 1 + 1) (w.heap.size + 1 + 1 + 1 + 1) 10 (datum tab1) left cnt ∧ cnt ≤ 10 ∧
      IsMap wr Try.prog 9 (w.heap.size + 1) (10 - cnt) (codesM tab1 left) ∧ Keep (wr.heap[w.heap.size + 1 + 1]? = some (.cells #[Value.map (some (w.heap.size + 1 + 1 + 1)), Value.map (some (w.heap.size + 1)), Value.slice none 0 0] 76 (0, 0))) ∧
      Keep (wr.heap[w.heap.size]? = some (.cells #[Value.map none, Value.map none, Value.slice none 0 0] 76 (0, 0))) ∧ Below w.heap.size w wr)
    (fun _ wr => wr.rangeLeft (w.heap.size + 1 + 1 + 1) (w.heap.size + 1 + 1 + 1 + 1))
  case atStart =>
    have hz : W.heap.size = w.heap.size + 1 + 1 + 1 + 1 := by rw [← hW]; simp
    refine ⟨_, _, hrg0, by rw [hsize.out]; exact Nat.le_refl _, ?_, ?_, ?_, ?_⟩
    · have h0 := isMap_made (w.alloc (Obj.cells #[Value.map none, Value.map none, Value.slice none 0 0] 76)) Try.prog 9
      rw [World.size_alloc] at h0
      have h1 := (h0.alloc (Obj.cells #[Value.map (some (w.heap.size + 1 + 1 + 1)), Value.map (some (w.heap.size + 1)), Value.slice none 0 0] 76)).alloc (Obj.map es clock)
      rw [hW] at h1
      exact ((h1.kept hg0 (by simp)).mono (Nat.zero_le _)).congr (codes_start tabOk1 htl.out)
    · refine ⟨(hg0.block _ (by rw [hz]; omega) (by simp)).trans ?_⟩
      rw [← hW]
      exact (Below.heap_alloc _ _ _ (by simp)).trans (heap_at _ _ _ (by simp))
    · refine ⟨(hg0.block _ (by rw [hz]; omega) (by simp)).trans ?_⟩
      rw [← hW]
      exact (Below.heap_alloc _ _ _ (by simp; omega)).trans ((Below.heap_alloc _ _ _ (by simp; omega)).trans ((Below.heap_alloc _ _ _ (by simp)).trans (heap_at _ _ _ rfl)))
    · refine Below.grown ?_ hg0 (by rw [hz]; omega) (fun j hj => by cases hj)
      rw [← hW]
      exact ((((Below.refl _ _).alloc (Nat.le_refl _) _).alloc (by simp) _).alloc (by simp; omega) _).alloc (by simp; omega) _
  case round =>
    clear hW hg0 hrg0 hs0 hown
    obtain ⟨left, cnt, hrg, hcs, hC, hL, hR, hB⟩ := hrel
    have c0 : wr.cell? ⟨w.heap.size + 1 + 1, 0, none⟩ = some (Value.map (some (w.heap.size + 1 + 1 + 1))) := Joins.cell_of_block hL.out 0
    go_wp2_with (first
      | (at_next; refine wpList_next_ranges _ rfl _ rfl 3 law3 rawElem encZ id (fun key kl hk => by obtain ⟨x, hx, _⟩ := Maps.keyOf_i64 Try.underlying3 hk; exact ⟨x, hx⟩) (fun v _ _ => ⟨v, rfl⟩) _ _ _ _ _ _ rfl hrg ?_ ?_))
    · intro hc0 hl0
      subst hc0
      have hown := hrg.owns
      go_wp2_with (first
        | (go_at_call 33; refine (keys_call _ _).mono ?_; rintro e w' ⟨rfl, rfl⟩)
        | (go_at_call 32; refine (sorted_call _ _ _ (tab1.map (·.1)) hkeys.out hsorted.out _ hown (by rw [hsize.out]; decide) (by rw [hsize.out]; decide)).mono ?_; rintro e w1 ⟨A, c, rfl, hrow, hb⟩; have hL1 := (hb.block (w.heap.size + 1 + 1) (by have := hrg.lt; simp; omega)).trans ((Below.heap_alloc _ _ _ (by have := hrg.lt; omega)).trans hL.out); have hR1 := (hb.block w.heap.size (by have := hrg.lt; simp; omega)).trans ((Below.heap_alloc _ _ _ (by have := hrg.lt; omega)).trans hR.out); obtain ⟨p0, p1, p2, q0, q1, q2⟩ := cells3 hL1; obtain ⟨r0, r1, r2, s0, s1, s2⟩ := cells3 hR1; replace hL1 := Keep.mk hL1; replace hR1 := Keep.mk hR1))
      have hlt := hrg.lt
      simp only [List.length_map] at hrow
      have hsz := hB.size
      have hm4 : ∀ i, i ≠ w.heap.size + 1 + 1 → i ≠ w.heap.size → (((((w1.setCell ⟨w.heap.size + 1 + 1, 2, none⟩ (.slice A tab1.length c)).setCell ⟨w.heap.size, 0, none⟩ (.map (some (w.heap.size + 1 + 1 + 1)))).setCell ⟨w.heap.size, 1, none⟩ (.map (some (w.heap.size + 1)))).setCell ⟨w.heap.size, 2, none⟩ (.slice A tab1.length c))).heap[i]? = w1.heap[i]? := fun i h1 h2 => by
        rw [heap_set_ne _ _ _ _ (by simpa using h2), heap_set_ne _ _ _ _ (by simpa using h2), heap_set_ne _ _ _ _ (by simpa using h2), heap_set_ne _ _ _ _ (by simpa using h1)]
      refine bodyPost_ret (v := .agg #[.map (some (w.heap.size + 1 + 1 + 1)), .map (some (w.heap.size + 1)), .slice A tab1.length c]) (by simp [results, Try.results31, go_sem, r0, r1, r2]) rfl ⟨_, _, _, rfl, ?_, ?_, ?_, ?_, by omega⟩
      · have h0 := ((isMap_of hown htl.out).alloc (.cells #[Value.map (some (w.heap.size + 1 + 1 + 1))] 73)).below hb (by simp; omega)
        exact h0.move (hm4 _ (by omega) (by omega))
      · have h0 := ((hC.congr (codes_end hl0)).alloc (.cells #[Value.map (some (w.heap.size + 1 + 1 + 1))] 73)).below hb (by simp; omega)
        exact h0.move (hm4 _ (by omega) (by omega))
      · exact own_base_le (own_move hrow (fun g hg => hm4 g (by omega) (by omega))) (by omega)
      · exact (((((hB.alloc hB.size _).trans (hb.mono (by simp; omega))).setCell (by simp; omega) _).setCell (by simp) _).setCell (by simp) _).setCell (by simp) _
    · intro x c kl yd yp w1 cnt1 hkey hlk hv hat hrg1 hlt hg1 hs1 hen
      obtain ⟨x', ex, rfl, hwx⟩ := Maps.keyOf_i64 Try.underlying3 hkey
      obtain rfl : x = x' := encZ_inj ex
      obtain ⟨rfl, rfl⟩ := Prod.mk.inj (rawElem_inv hv)
      obtain ⟨s, hns, hcs'⟩ := came htl.out hat
      subst hcs'
      have hkl := hrg.lt
      have hC1 := hC.kept hg1 (by simp)
      have hL1 := (hg1.block (w.heap.size + 1 + 1) (by omega) (by simp)).trans hL.out
      have hR1 := (hg1.block w.heap.size (by omega) (by simp; omega)).trans hR.out
      obtain ⟨p0, p1, p2, q0, q1, q2⟩ := cells3 hL1
      replace hL1 := Keep.mk hL1
      replace hR1 := Keep.mk hR1
      replace hns := Keep.mk hns
      have hslen : s.size ≤ maxLen := small_name hns.out (by decide)
      go_wp2_with (first
        | (at_mapUpdate; refine wpList_mapUpdate_is _ rfl _ _ _ 74 rfl 9 3 law9 Try.underlying74 _ _ _ rfl hC1 (by unfold maxLen; omega) _ _ _ rfl rfl (WideMaps.keyOf_string_mk Try.underlying9 hslen) ?_; intro w2 hC2 hg2; (try go_frame)))
      have hrg2 := hrg1.kept hg2 (fun e => by have := Option.some.inj e; omega) (fun e => by have := Option.some.inj e; omega)
      have hs2 := hg2.size
      go_roundw
      case rel =>
        refine ⟨_, cnt1, hrg2, by omega, (hC2.mono (by omega)).congr (codes_step tabOk1 hns.out), ⟨(hg2.block _ (by omega) (by simp)).trans hL1.out⟩, ⟨(hg2.block _ (by omega) (by simp)).trans hR1.out⟩, ?_⟩
        exact (hB.grown hg1 hB.size (fun j hj => by cases hj; omega)).grown hg2 (by omega) (fun j hj => by cases hj; omega)
      case measure => rw [hrg2.left_eq, hrg.left_eq]; exact hlt


set_option maxHeartbeats 4000000 in
set_option maxRecDepth 100000 in
theorem of_2 (w : World) : Calls Try.prog 31 #[.int .i64 2] w (OfPost tab2 w) := by
  have hmm := @run_makeMap Try.prog
  have hsize : Keep (Maps.size (datum tab2) = 22) := ⟨by kernel_rfl⟩
  have hkeys : Keep (intKeys (datum tab2) = tab2.map (·.1)) := ⟨by kernel_rfl⟩
  have hsorted : Keep ((tab2.map (·.1)).mergeSort (fun x y => decide (x ≤ y)) = tab2.map (·.1)) := ⟨List.mergeSort_of_pairwise (by decide)⟩
  have htl : Keep (Tells (datum tab2) (namesM tab2)) := ⟨tells_datum tab2 (by decide)⟩
  go_enter Try.func31, Try.ntmps31
  go_wp2_with (first
    | ((with_reducible refine wpList_mapLit 22 _ rfl rfl rfl law3 Try.underlying73 (vals tab2) (lits tab2) ?hI ?hk ?hN ?hl ?_); (case hI => repeat (first | exact trivial | refine ⟨rfl, rfl, rfl, ?_⟩)); (case hk => exact keys_ok _ (by decide)); (case hN => simp); (case hl => decide); intro es clock hown; rw [show (vals tab2).length = 22 from rfl]; simp only [List.drop_succ_cons, List.drop_zero])
    | (at_range; refine wpList_range_own _ rfl _ 73 rfl 3 9 law3 Try.underlying73 rawElem (w.heap.size + 1 + 1 + 1) 22 (datum tab2) rfl (ownsMap_move hown (heap_at _ _ _ (by simp))) ?_; intro w0 hrg0 hg0 hs0))
  (try go_frame)
  have hsz : Keep (((((w.alloc (Obj.cells #[Value.map none, Value.map none, Value.slice none 0 0] 76)).alloc (Obj.map #[] 0)).alloc (Obj.cells #[Value.map (some (w.heap.size + 1 + 1 + 1)), Value.map (some (w.heap.size + 1)), Value.slice none 0 0] 76)).alloc (Obj.map es clock)).heap.size = w.heap.size + 1 + 1 + 1 + 1) := ⟨by simp⟩
  rw [hsz.out] at hrg0 hs0
  (try rw [hsz.out])
  clear hsz
  generalize hW : ((((w.alloc (Obj.cells #[Value.map none, Value.map none, Value.slice none 0 0] 76)).alloc (Obj.map #[] 0)).alloc (Obj.cells #[Value.map (some (w.heap.size + 1 + 1 + 1)), Value.map (some (w.heap.size + 1)), Value.slice none 0 0] 76)).alloc (Obj.map es clock)) = W at hg0
  go_loopw [4] (fun _ wr => ∃ (left : Lit → Bool) (cnt : Nat), wr.ranges Try.prog 3 rawElem (w.heap.size + 1 + 1 + 1) (w.heap.size + 1 + 1 + 1 + 1) 22 (datum tab2) left cnt ∧ cnt ≤ 22 ∧
      IsMap wr Try.prog 9 (w.heap.size + 1) (22 - cnt) (codesM tab2 left) ∧ Keep (wr.heap[w.heap.size + 1 + 1]? = some (.cells #[Value.map (some (w.heap.size + 1 + 1 + 1)), Value.map (some (w.heap.size + 1)), Value.slice none 0 0] 76 (0, 0))) ∧
      Keep (wr.heap[w.heap.size]? = some (.cells #[Value.map none, Value.map none, Value.slice none 0 0] 76 (0, 0))) ∧ Below w.heap.size w wr)
    (fun _ wr => wr.rangeLeft (w.heap.size + 1 + 1 + 1) (w.heap.size + 1 + 1 + 1 + 1))
  case atStart =>
    have hz : W.heap.size = w.heap.size + 1 + 1 + 1 + 1 := by rw [← hW]; simp
    refine ⟨_, _, hrg0, by rw [hsize.out]; exact Nat.le_refl _, ?_, ?_, ?_, ?_⟩
    · have h0 := isMap_made (w.alloc (Obj.cells #[Value.map none, Value.map none, Value.slice none 0 0] 76)) Try.prog 9
      rw [World.size_alloc] at h0
      have h1 := (h0.alloc (Obj.cells #[Value.map (some (w.heap.size + 1 + 1 + 1)), Value.map (some (w.heap.size + 1)), Value.slice none 0 0] 76)).alloc (Obj.map es clock)
      rw [hW] at h1
      exact ((h1.kept hg0 (by simp)).mono (Nat.zero_le _)).congr (codes_start tabOk2 htl.out)
    · refine ⟨(hg0.block _ (by rw [hz]; omega) (by simp)).trans ?_⟩
      rw [← hW]
      exact (Below.heap_alloc _ _ _ (by simp)).trans (heap_at _ _ _ (by simp))
    · refine ⟨(hg0.block _ (by rw [hz]; omega) (by simp)).trans ?_⟩
      rw [← hW]
      exact (Below.heap_alloc _ _ _ (by simp; omega)).trans ((Below.heap_alloc _ _ _ (by simp; omega)).trans ((Below.heap_alloc _ _ _ (by simp)).trans (heap_at _ _ _ rfl)))
    · refine Below.grown ?_ hg0 (by rw [hz]; omega) (fun j hj => by cases hj)
      rw [← hW]
      exact ((((Below.refl _ _).alloc (Nat.le_refl _) _).alloc (by simp) _).alloc (by simp; omega) _).alloc (by simp; omega) _
  case round =>
    clear hW hg0 hrg0 hs0 hown
    obtain ⟨left, cnt, hrg, hcs, hC, hL, hR, hB⟩ := hrel
    have c0 : wr.cell? ⟨w.heap.size + 1 + 1, 0, none⟩ = some (Value.map (some (w.heap.size + 1 + 1 + 1))) := Joins.cell_of_block hL.out 0
    go_wp2_with (first
      | (at_next; refine wpList_next_ranges _ rfl _ rfl 3 law3 rawElem encZ id (fun key kl hk => by obtain ⟨x, hx, _⟩ := Maps.keyOf_i64 Try.underlying3 hk; exact ⟨x, hx⟩) (fun v _ _ => ⟨v, rfl⟩) _ _ _ _ _ _ rfl hrg ?_ ?_))
    · intro hc0 hl0
      subst hc0
      have hown := hrg.owns
      go_wp2_with (first
        | (go_at_call 33; refine (keys_call _ _).mono ?_; rintro e w' ⟨rfl, rfl⟩)
        | (go_at_call 32; refine (sorted_call _ _ _ (tab2.map (·.1)) hkeys.out hsorted.out _ hown (by rw [hsize.out]; decide) (by rw [hsize.out]; decide)).mono ?_; rintro e w1 ⟨A, c, rfl, hrow, hb⟩; have hL1 := (hb.block (w.heap.size + 1 + 1) (by have := hrg.lt; simp; omega)).trans ((Below.heap_alloc _ _ _ (by have := hrg.lt; omega)).trans hL.out); have hR1 := (hb.block w.heap.size (by have := hrg.lt; simp; omega)).trans ((Below.heap_alloc _ _ _ (by have := hrg.lt; omega)).trans hR.out); obtain ⟨p0, p1, p2, q0, q1, q2⟩ := cells3 hL1; obtain ⟨r0, r1, r2, s0, s1, s2⟩ := cells3 hR1; replace hL1 := Keep.mk hL1; replace hR1 := Keep.mk hR1))
      have hlt := hrg.lt
      simp only [List.length_map] at hrow
      have hsz := hB.size
      have hm4 : ∀ i, i ≠ w.heap.size + 1 + 1 → i ≠ w.heap.size → (((((w1.setCell ⟨w.heap.size + 1 + 1, 2, none⟩ (.slice A tab2.length c)).setCell ⟨w.heap.size, 0, none⟩ (.map (some (w.heap.size + 1 + 1 + 1)))).setCell ⟨w.heap.size, 1, none⟩ (.map (some (w.heap.size + 1)))).setCell ⟨w.heap.size, 2, none⟩ (.slice A tab2.length c))).heap[i]? = w1.heap[i]? := fun i h1 h2 => by
        rw [heap_set_ne _ _ _ _ (by simpa using h2), heap_set_ne _ _ _ _ (by simpa using h2), heap_set_ne _ _ _ _ (by simpa using h2), heap_set_ne _ _ _ _ (by simpa using h1)]
      refine bodyPost_ret (v := .agg #[.map (some (w.heap.size + 1 + 1 + 1)), .map (some (w.heap.size + 1)), .slice A tab2.length c]) (by simp [results, Try.results31, go_sem, r0, r1, r2]) rfl ⟨_, _, _, rfl, ?_, ?_, ?_, ?_, by omega⟩
      · have h0 := ((isMap_of hown htl.out).alloc (.cells #[Value.map (some (w.heap.size + 1 + 1 + 1))] 73)).below hb (by simp; omega)
        exact h0.move (hm4 _ (by omega) (by omega))
      · have h0 := ((hC.congr (codes_end hl0)).alloc (.cells #[Value.map (some (w.heap.size + 1 + 1 + 1))] 73)).below hb (by simp; omega)
        exact h0.move (hm4 _ (by omega) (by omega))
      · exact own_base_le (own_move hrow (fun g hg => hm4 g (by omega) (by omega))) (by omega)
      · exact (((((hB.alloc hB.size _).trans (hb.mono (by simp; omega))).setCell (by simp; omega) _).setCell (by simp) _).setCell (by simp) _).setCell (by simp) _
    · intro x c kl yd yp w1 cnt1 hkey hlk hv hat hrg1 hlt hg1 hs1 hen
      obtain ⟨x', ex, rfl, hwx⟩ := Maps.keyOf_i64 Try.underlying3 hkey
      obtain rfl : x = x' := encZ_inj ex
      obtain ⟨rfl, rfl⟩ := Prod.mk.inj (rawElem_inv hv)
      obtain ⟨s, hns, hcs'⟩ := came htl.out hat
      subst hcs'
      have hkl := hrg.lt
      have hC1 := hC.kept hg1 (by simp)
      have hL1 := (hg1.block (w.heap.size + 1 + 1) (by omega) (by simp)).trans hL.out
      have hR1 := (hg1.block w.heap.size (by omega) (by simp; omega)).trans hR.out
      obtain ⟨p0, p1, p2, q0, q1, q2⟩ := cells3 hL1
      replace hL1 := Keep.mk hL1
      replace hR1 := Keep.mk hR1
      replace hns := Keep.mk hns
      have hslen : s.size ≤ maxLen := small_name hns.out (by decide)
      go_wp2_with (first
        | (at_mapUpdate; refine wpList_mapUpdate_is _ rfl _ _ _ 74 rfl 9 3 law9 Try.underlying74 _ _ _ rfl hC1 (by unfold maxLen; omega) _ _ _ rfl rfl (WideMaps.keyOf_string_mk Try.underlying9 hslen) ?_; intro w2 hC2 hg2; (try go_frame)))
      have hrg2 := hrg1.kept hg2 (fun e => by have := Option.some.inj e; omega) (fun e => by have := Option.some.inj e; omega)
      have hs2 := hg2.size
      go_roundw
      case rel =>
        refine ⟨_, cnt1, hrg2, by omega, (hC2.mono (by omega)).congr (codes_step tabOk2 hns.out), ⟨(hg2.block _ (by omega) (by simp)).trans hL1.out⟩, ⟨(hg2.block _ (by omega) (by simp)).trans hR1.out⟩, ?_⟩
        exact (hB.grown hg1 hB.size (fun j hj => by cases hj; omega)).grown hg2 (by omega) (fun j hj => by cases hj; omega)
      case measure => rw [hrg2.left_eq, hrg.left_eq]; exact hlt


set_option maxHeartbeats 1000000 in
theorem of_other (k : Int) (h0 : (k == 0) = false) (h1 : (k == 1) = false) (h2 : (k == 2) = false) (w : World) : Calls Try.prog 31 #[.int .i64 k] w fun e w' => e = .returned (.agg #[.map none, .map none, .slice none 0 0]) ∧ Below w.heap.size w w' := by
  have hmm := @run_makeMap Try.prog
  go_enter Try.func31, Try.ntmps31
  go_wp2
  exact bodyPost_ret (v := .agg #[.map none, .map none, .slice none 0 0]) (by simp [results, Try.results31, go_sem]) rfl ⟨rfl, (((Below.refl _ _).alloc (Nat.le_refl _) _).alloc (by simp) _).alloc (by simp; omega) _⟩

end Go.Proofs.Ytmdmllfbdpoeeaa
