/- The tables of codes and names, and that in them names tell codes and codes names; plain lists, no program, no condition. -/
import GoSem.Core.Value
namespace Go.Proofs.Hand
/-! The kinds' codes and names, as the program's text lays them. -/
def tab0 : List (Int × ByteArray) := [(20, (⟨#[99, 104, 97, 110, 103, 101, 95, 99, 105, 112, 104, 101, 114, 95, 115, 112, 101, 99]⟩ : ByteArray)), (21, (⟨#[97, 108, 101, 114, 116]⟩ : ByteArray)), (22, (⟨#[104, 97, 110, 100, 115, 104, 97, 107, 101]⟩ : ByteArray)), (23, (⟨#[97, 112, 112, 108, 105, 99, 97, 116, 105, 111, 110, 95, 100, 97, 116, 97]⟩ : ByteArray))]
def tab1 : List (Int × ByteArray) := [(1, (⟨#[99, 108, 105, 101, 110, 116, 95, 104, 101, 108, 108, 111]⟩ : ByteArray)), (2, (⟨#[115, 101, 114, 118, 101, 114, 95, 104, 101, 108, 108, 111]⟩ : ByteArray)), (4, (⟨#[110, 101, 119, 95, 115, 101, 115, 115, 105, 111, 110, 95, 116, 105, 99, 107, 101, 116]⟩ : ByteArray)), (5, (⟨#[101, 110, 100, 95, 111, 102, 95, 101, 97, 114, 108, 121, 95, 100, 97, 116, 97]⟩ : ByteArray)), (8, (⟨#[101, 110, 99, 114, 121, 112, 116, 101, 100, 95, 101, 120, 116, 101, 110, 115, 105, 111, 110, 115]⟩ : ByteArray)), (11, (⟨#[99, 101, 114, 116, 105, 102, 105, 99, 97, 116, 101]⟩ : ByteArray)), (13, (⟨#[99, 101, 114, 116, 105, 102, 105, 99, 97, 116, 101, 95, 114, 101, 113, 117, 101, 115, 116]⟩ : ByteArray)), (15, (⟨#[99, 101, 114, 116, 105, 102, 105, 99, 97, 116, 101, 95, 118, 101, 114, 105, 102, 121]⟩ : ByteArray)), (20, (⟨#[102, 105, 110, 105, 115, 104, 101, 100]⟩ : ByteArray)), (24, (⟨#[107, 101, 121, 95, 117, 112, 100, 97, 116, 101]⟩ : ByteArray))]
def tab2 : List (Int × ByteArray) := [(0, (⟨#[115, 101, 114, 118, 101, 114, 95, 110, 97, 109, 101]⟩ : ByteArray)), (1, (⟨#[109, 97, 120, 95, 102, 114, 97, 103, 109, 101, 110, 116, 95, 108, 101, 110, 103, 116, 104]⟩ : ByteArray)), (5, (⟨#[115, 116, 97, 116, 117, 115, 95, 114, 101, 113, 117, 101, 115, 116]⟩ : ByteArray)), (10, (⟨#[115, 117, 112, 112, 111, 114, 116, 101, 100, 95, 103, 114, 111, 117, 112, 115]⟩ : ByteArray)), (13, (⟨#[115, 105, 103, 110, 97, 116, 117, 114, 101, 95, 97, 108, 103, 111, 114, 105, 116, 104, 109, 115]⟩ : ByteArray)), (14, (⟨#[117, 115, 101, 95, 115, 114, 116, 112]⟩ : ByteArray)), (15, (⟨#[104, 101, 97, 114, 116, 98, 101, 97, 116]⟩ : ByteArray)), (16, (⟨#[97, 112, 112, 108, 105, 99, 97, 116, 105, 111, 110, 95, 108, 97, 121, 101, 114, 95, 112, 114, 111, 116, 111, 99, 111, 108, 95, 110, 101, 103, 111, 116, 105, 97, 116, 105, 111, 110]⟩ : ByteArray)), (18, (⟨#[115, 105, 103, 110, 101, 100, 95, 99, 101, 114, 116, 105, 102, 105, 99, 97, 116, 101, 95, 116, 105, 109, 101, 115, 116, 97, 109, 112]⟩ : ByteArray)), (19, (⟨#[99, 108, 105, 101, 110, 116, 95, 99, 101, 114, 116, 105, 102, 105, 99, 97, 116, 101, 95, 116, 121, 112, 101]⟩ : ByteArray)), (20, (⟨#[115, 101, 114, 118, 101, 114, 95, 99, 101, 114, 116, 105, 102, 105, 99, 97, 116, 101, 95, 116, 121, 112, 101]⟩ : ByteArray)), (21, (⟨#[112, 97, 100, 100, 105, 110, 103]⟩ : ByteArray)), (41, (⟨#[112, 114, 101, 95, 115, 104, 97, 114, 101, 100, 95, 107, 101, 121]⟩ : ByteArray)), (42, (⟨#[101, 97, 114, 108, 121, 95, 100, 97, 116, 97]⟩ : ByteArray)), (43, (⟨#[115, 117, 112, 112, 111, 114, 116, 101, 100, 95, 118, 101, 114, 115, 105, 111, 110, 115]⟩ : ByteArray)), (44, (⟨#[99, 111, 111, 107, 105, 101]⟩ : ByteArray)), (45, (⟨#[112, 115, 107, 95, 107, 101, 121, 95, 101, 120, 99, 104, 97, 110, 103, 101, 95, 109, 111, 100, 101, 115]⟩ : ByteArray)), (47, (⟨#[99, 101, 114, 116, 105, 102, 105, 99, 97, 116, 101, 95, 97, 117, 116, 104, 111, 114, 105, 116, 105, 101, 115]⟩ : ByteArray)), (48, (⟨#[111, 105, 100, 95, 102, 105, 108, 116, 101, 114, 115]⟩ : ByteArray)), (49, (⟨#[112, 111, 115, 116, 95, 104, 97, 110, 100, 115, 104, 97, 107, 101, 95, 97, 117, 116, 104]⟩ : ByteArray)), (50, (⟨#[115, 105, 103, 110, 97, 116, 117, 114, 101, 95, 97, 108, 103, 111, 114, 105, 116, 104, 109, 115, 95, 99, 101, 114, 116]⟩ : ByteArray)), (51, (⟨#[107, 101, 121, 95, 115, 104, 97, 114, 101]⟩ : ByteArray))]

def tab (k : Int) : List (Int × ByteArray) := if k = 0 then tab0 else if k = 1 then tab1 else if k = 2 then tab2 else []

/-- A code's name. -/
def nameIn : List (Int × ByteArray) → Int → Option ByteArray
  | [], _ => none
  | x :: l, c => if c = x.1 then some x.2 else nameIn l c
/-- A name's code. -/
def codeIn : List (Int × ByteArray) → List UInt8 → Option Int
  | [], _ => none
  | x :: l, s => if s = x.2.data.toList then some x.1 else codeIn l s

/-- In a table names tell codes, and codes names. -/
def TabOk (l : List (Int × ByteArray)) : Prop := ∀ x ∈ l, nameIn l x.1 = some x.2 ∧ codeIn l x.2.data.toList = some x.1
instance (l : List (Int × ByteArray)) : Decidable (TabOk l) := inferInstanceAs (Decidable (∀ x ∈ l, _))
theorem good0 : TabOk tab0 := by decide +kernel
theorem good1 : TabOk tab1 := by decide +kernel
theorem good2 : TabOk tab2 := by decide +kernel
theorem good_tab (k : Int) : TabOk (tab k) := by
  unfold tab
  split
  · exact good0
  · split
    · exact good1
    · split
      · exact good2
      · intro x hx; cases hx
theorem nameIn_mem : ∀ {l : List (Int × ByteArray)} {c : Int} {s : ByteArray}, nameIn l c = some s → (c, s) ∈ l
  | x :: l, c, s, h => by
    unfold nameIn at h
    split at h
    · rename_i e; subst e; cases h; exact List.mem_cons_self
    · exact List.mem_cons_of_mem _ (nameIn_mem h)
theorem codeIn_mem : ∀ {l : List (Int × ByteArray)} {c : Int} {s : List UInt8}, codeIn l s = some c → ∃ b, (c, b) ∈ l ∧ b.data.toList = s
  | x :: l, c, s, h => by
    unfold codeIn at h
    split at h
    · rename_i e; subst e; cases h; exact ⟨x.2, List.mem_cons_self, rfl⟩
    · obtain ⟨b, hb, e⟩ := codeIn_mem h; exact ⟨b, List.mem_cons_of_mem _ hb, e⟩
theorem name_code {l : List (Int × ByteArray)} (hg : TabOk l) {c : Int} {s : ByteArray} (h : nameIn l c = some s) : codeIn l s.data.toList = some c := (hg _ (nameIn_mem h)).2
theorem code_name {l : List (Int × ByteArray)} (hg : TabOk l) {c : Int} {s : List UInt8} (h : codeIn l s = some c) : ∃ b, nameIn l c = some b ∧ b.data.toList = s := by
  obtain ⟨b, hb, e⟩ := codeIn_mem h; exact ⟨b, (hg _ hb).1, e⟩
end Go.Proofs.Hand
