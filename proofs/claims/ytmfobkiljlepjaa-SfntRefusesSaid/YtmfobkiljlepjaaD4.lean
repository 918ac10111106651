/- few, find (plain). -/
import Derived.Test.YtmfobkiljlepjaaD3
set_option linter.unusedSimpArgs false
set_option linter.unusedVariables false
namespace Go.AM
open Go
/-- The tag that few gives the i-th. -/
def tagN (i : Nat) : ByteArray := strL [97 + (i : Int), 98, 99, 100]
def fewG (t : Tb) (i : Nat) : ByteArray := if (t.1.toList == headB.toList) = true ∧ i < 8 then headB else tagN i
def fewS (acc : List Tb) (t : Tb) (i : Nat) : List Tb := if acc ≠ [] ∧ leS (fewG t i) (acc.getD (acc.length - 1) tb0).1 = true then acc else acc ++ [(fewG t i, t.2.take 60)]
/-- few, of the first. -/
def fewT (l : List Tb) : Nat → List Tb
  | 0 => []
  | i + 1 => fewS (fewT l i) (l.getD i tb0) i
theorem upT_snoc {l : List Tb} {t : Tb} (h : upT l) (h2 : l = [] ∨ leS t.1 (l.getD (l.length - 1) tb0).1 = false) : upT (l ++ [t]) := by
  unfold upT
  rw [List.pairwise_append]
  refine ⟨h, List.pairwise_singleton _ _, fun u hu v hv => ?_⟩
  rw [List.mem_singleton] at hv
  subst hv
  rcases h2 with h2 | h2
  · subst h2; cases hu
  · obtain ⟨i, hi, rfl⟩ := List.getElem_of_mem hu
    have hl : l.length - 1 < l.length := by omega
    have e : l.getD (l.length - 1) tb0 = l[l.length - 1] := by rw [List.getD_eq_getElem?_getD, List.getElem?_eq_getElem hl]; rfl
    have hlast : ltT l[l.length - 1] v = true := by
      rw [e] at h2
      unfold leS at h2
      rw [Bool.or_eq_false_iff, beq_eq_false_iff_ne] at h2
      rw [ltT_eq]
      rcases bl_tri v.1.toList l[l.length - 1].1.toList with h3 | h3 | h3
      · rw [h3] at h2; exact absurd h2.1 (by simp)
      · exact absurd h3 h2.2
      · exact h3
    rcases Nat.lt_or_ge i (l.length - 1) with h3 | h3
    · exact ltT_tr (List.pairwise_iff_getElem.1 h i (l.length - 1) hi hl h3) hlast
    · have : i = l.length - 1 := by omega
      subst this
      exact hlast
theorem strL_size (l : List Int) : (strL l).size = l.length := by
  unfold strL
  have : ∀ (l : List Int) (s : ByteArray), (l.foldl (fun r n => r.push (UInt8.ofNat n.toNat)) s).size = s.size + l.length := by
    intro l
    induction l with
    | nil => intro s; rfl
    | cons a l ih => intro s; rw [List.foldl_cons, ih, List.length_cons, ByteArray.size_push]; omega
  rw [this]
  show 0 + l.length = l.length
  omega
theorem fewG_size (t : Tb) (i : Nat) : (fewG t i).size = 4 := by
  unfold fewG
  split
  · rfl
  · exact strL_size _
theorem fewT_ok {l : List Tb} (hb : DatB l) : ∀ i, i ≤ l.length → upT (fewT l i) ∧ Tags4 (fewT l i) ∧ DatB (fewT l i) ∧ (∀ t ∈ fewT l i, t.2.length ≤ 60) ∧ (fewT l i).length ≤ i
  | 0, _ => ⟨List.Pairwise.nil, fun t h => (by cases h), fun t h => (by cases h), fun t h => (by cases h), Nat.le_refl _⟩
  | i + 1, hi => by
    obtain ⟨h1, h2, h3, h4, h5⟩ := fewT_ok hb i (by omega)
    unfold fewT fewS
    split
    · exact ⟨h1, h2, h3, h4, by omega⟩
    · rename_i hc
      refine ⟨upT_snoc h1 ?_, ?_, ?_, ?_, ?_⟩
      · by_cases hn : fewT l i = []
        · exact .inl hn
        · right
          cases hx : leS (fewG (l.getD i tb0) i) ((fewT l i).getD ((fewT l i).length - 1) tb0).1 with
          | false => rfl
          | true => exact absurd ⟨hn, hx⟩ hc
      · intro t ht
        rcases List.mem_append.1 ht with ht | ht
        · exact h2 t ht
        · rw [List.mem_singleton] at ht; subst ht; exact fewG_size _ _
      · intro t ht
        rcases List.mem_append.1 ht with ht | ht
        · exact h3 t ht
        · rw [List.mem_singleton] at ht
          subst ht
          refine Byt.take ?_ _
          rw [List.getD_eq_getElem?_getD, List.getElem?_eq_getElem (by omega)]
          exact hb _ (List.getElem_mem _)
      · intro t ht
        rcases List.mem_append.1 ht with ht | ht
        · exact h4 t ht
        · rw [List.mem_singleton] at ht; subst ht; show (List.take 60 _).length ≤ 60; rw [List.length_take]; omega
      · rw [List.length_append, List.length_singleton]; omega
/-- Where the first of a tag is. -/
def findT (s : ByteArray) : List Tb → Int → Int
  | [], _ => -1
  | t :: l, i => if (t.1.toList == s.toList) = true then i else findT s l (i + 1)
theorem findT_le {s : ByteArray} : ∀ {l : List Tb} {i : Int}, findT s l i = -1 ∨ (i ≤ findT s l i ∧ findT s l i < i + l.length)
  | [], i => .inl rfl
  | t :: l, i => by
    unfold findT
    split
    · right; simp only [List.length_cons]; omega
    · rcases findT_le (s := s) (l := l) (i := i + 1) with h | h
      · exact .inl h
      · right; simp only [List.length_cons]; omega
end Go.AM

