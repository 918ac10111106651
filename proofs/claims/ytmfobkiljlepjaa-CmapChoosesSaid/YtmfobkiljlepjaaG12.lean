/- Pairs that rise, some of them left out. No program in sight. -/
import Derived.Test.YtmfobkiljlepjaaG0
set_option linter.unusedVariables false
set_option linter.unusedSimpArgs false
namespace Go.AM
open Go

theorem rises_pairs {l : List (Int × Int)} {most : Int} (h : risesB l most = true) : (∀ p ∈ l, 0 ≤ p.1 ∧ p.1 ≤ most) ∧ l.Pairwise (fun p q => p.1 < q.1) := by
  refine ⟨fun p hp => ?_, ?_⟩
  · obtain ⟨k, hk, rfl⟩ := List.getElem_of_mem hp
    have := rises_at h hk
    rw [pair_at hk]
    exact ⟨this.1, this.2.1⟩
  · rw [List.pairwise_iff_getElem]
    intro i j hi hj hij
    rw [pair_at hi, pair_at hj]
    exact rises_lt h hij hj
theorem pairs_rises {l : List (Int × Int)} {most : Int} (h1 : ∀ p ∈ l, 0 ≤ p.1 ∧ p.1 ≤ most) (h2 : l.Pairwise (fun p q => p.1 < q.1)) : risesB l most = true := by
  refine risesB_of fun j hj => ?_
  have a := h1 _ (List.getElem_mem hj)
  rw [pair_at hj] at a
  simp only at a
  simp only [cnd, Bool.and_eq_true, Bool.or_eq_true, decide_eq_true_eq]
  refine ⟨a, ?_⟩
  by_cases h0 : j = 0
  · exact .inl h0
  · right
    have := List.pairwise_iff_getElem.1 h2 (j - 1) j (by omega) hj (by omega)
    rw [pair_at hj, pair_at (show j - 1 < l.length by omega)] at this
    exact this
/-- Those below a code. -/
def below (l : List (Int × Int)) : List (Int × Int) := l.filter fun p => decide (p.1 < 65535)
theorem below_rises {l : List (Int × Int)} {most : Int} (h : risesB l most = true) : risesB (below l) 65534 = true ∧ risesB (below l) 1114111 = true := by
  obtain ⟨h1, h2⟩ := rises_pairs h
  have h3 : (below l).Pairwise (fun p q => p.1 < q.1) := h2.filter _
  have h4 : ∀ p ∈ below l, 0 ≤ p.1 ∧ p.1 ≤ 65534 := fun p hp => by
    unfold below at hp
    rw [List.mem_filter] at hp
    have a := h1 p hp.1
    have b := hp.2
    simp only [decide_eq_true_eq] at b
    omega
  exact ⟨pairs_rises h4 h3, pairs_rises (fun p hp => by have := h4 p hp; omega) h3⟩
theorem below_pr {l : List (Int × Int)} (h : PrOK l) : PrOK (below l) := mem_pr fun p hp => by
  unfold below at hp
  rw [List.mem_filter] at hp
  obtain ⟨k, hk, rfl⟩ := List.getElem_of_mem hp.1
  have := h k
  rw [pair_at hk]
  exact this
theorem below_len (l : List (Int × Int)) : (below l).length ≤ l.length := List.length_filter_le _ _
theorem below_snoc {l : List (Int × Int)} {i : Nat} (hi : i < l.length) : below (l.take (i + 1)) = if (l.getD i (0, 0)).1 < 65535 then below (l.take i) ++ [((l.getD i (0, 0)).1, (l.getD i (0, 0)).2)] else below (l.take i) := by
  rw [take_snoc' (0, 0) hi]
  unfold below
  rw [List.filter_append]
  by_cases h : (l.getD i (0, 0)).1 < 65535
  · rw [if_pos h, List.filter_cons_of_pos (by simpa using h)]
    rfl
  · rw [if_neg h, List.filter_cons_of_neg (by simpa using h)]
    simp
end Go.AM
