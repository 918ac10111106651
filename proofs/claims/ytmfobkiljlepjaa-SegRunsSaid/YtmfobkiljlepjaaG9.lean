/- The plain law of package seg: codes and glyphs that go on by one each, the glyphs beyond ffff from nought. No program in sight. -/
import Derived.Test.YtmfobkiljlepjaaG8
set_option linter.unusedVariables false
set_option linter.unusedSimpArgs false
namespace Go.AM
open Go

def seqW (a g : Int) (k : Nat) : List (Int × Int) := (List.range k).map fun i : Nat => (a + (i : Int), (g + (i : Int)) % 65536)
theorem seqW_len (a g : Int) (k : Nat) : (seqW a g k).length = k := by simp [seqW]
theorem seqW_at {a g : Int} {k i : Nat} (h : i < k) (m : List (Int × Int)) : cd (seqW a g k ++ m) i = a + i ∧ gl (seqW a g k ++ m) i = (g + i) % 65536 := by
  have : (seqW a g k ++ m)[i]? = some (a + (i : Int), (g + (i : Int)) % 65536) := by
    rw [List.getElem?_append_left (by rw [seqW_len]; exact h)]
    simp [seqW, h]
  simp [cd, gl, List.getD_eq_getElem?_getD, this]
theorem seqW_snoc (a g : Int) (k : Nat) : seqW a g (k + 1) = seqW a g k ++ [(a + k, (g + k) % 65536)] := by simp [seqW, List.range_succ]
theorem runsW_seq {a g : Int} {k : Nat} (hg0 : 0 ≤ g) (hg1 : g < 65536) (m : List (Int × Int)) : ∀ i, i < k → runsQ (seqW a g k ++ m) (i + 1) = [(a, a + i, (g - a) % 65536, 0)]
  | 0, h => by
    have := seqW_at (a := a) (g := g) h m
    show stepQ _ 0 [] = _
    unfold stepQ
    rw [if_neg (fun h => by omega), this.1, this.2]
    have e3 : ((g + ((0 : Nat) : Int)) % 65536 - (a + ((0 : Nat) : Int))) % 65536 = (g - a) % 65536 := by omega
    rw [e3]
    simp
  | i + 1, h => by
    have e := runsW_seq (a := a) (g := g) (k := k) hg0 hg1 m i (by omega)
    have h1 := seqW_at (a := a) (g := g) h m
    have h2 := seqW_at (a := a) (g := g) (show i < k by omega) m
    show stepQ _ (i + 1) (runsQ _ (i + 1)) = _
    unfold stepQ
    rw [Nat.add_sub_cancel, e, if_pos ⟨by omega, by rw [h1.1, h2.1]; omega, by rw [h1.2, h2.2]; omega⟩, h1.1]
    rfl
/-- The same, and one behind a gap: one run more. -/
theorem runsW_gap {a g x : Int} {k : Nat} (hk : 0 < k) (hg0 : 0 ≤ g) (hg1 : g < 65536) : (runsQ (seqW a g k ++ [(a + k + 1, x)]) (k + 1)).length = 2 := by
  obtain ⟨j, rfl⟩ : ∃ j, k = j + 1 := ⟨k - 1, by omega⟩
  have e := runsW_seq (a := a) (g := g) (k := j + 1) hg0 hg1 [(a + (j + 1 : Nat) + 1, x)] j (by omega)
  have h2 := seqW_at (a := a) (g := g) (show j < j + 1 by omega) [(a + (j + 1 : Nat) + 1, x)]
  have h3 : (seqW a g (j + 1) ++ [(a + (j + 1 : Nat) + 1, x)])[j + 1]? = some (a + (j + 1 : Nat) + 1, x) := by
    rw [List.getElem?_append_right (by rw [seqW_len]; exact Nat.le_refl _), seqW_len, Nat.sub_self]; rfl
  have h4 : cd (seqW a g (j + 1) ++ [(a + (j + 1 : Nat) + 1, x)]) (j + 1) = a + (j + 1 : Nat) + 1 := by simp only [cd, List.getD_eq_getElem?_getD, h3]; rfl
  show (stepQ _ (j + 1) (runsQ _ (j + 1))).length = _
  unfold stepQ
  rw [Nat.add_sub_cancel, e, if_neg (fun h => by have := h.2.1; rw [h4, h2.1] at this; omega)]
  rfl
theorem seqW_rises {a g : Int} {k : Nat} (ha : 0 ≤ a) (hak : a + k ≤ 65534) : risesB (seqW a g k) 65534 = true := by
  refine risesB_of fun j hj => ?_
  rw [seqW_len] at hj
  have h1 := (seqW_at (a := a) (g := g) hj []).1
  rw [List.append_nil] at h1
  simp only [cnd, h1, Bool.and_eq_true, Bool.or_eq_true, decide_eq_true_eq]
  refine ⟨⟨by omega, by omega⟩, ?_⟩
  by_cases h0 : j = 0
  · exact .inl h0
  · right
    have h2 := (seqW_at (a := a) (g := g) (show j - 1 < k by omega) []).1
    rw [List.append_nil] at h2
    rw [h2]; omega
theorem gapW_rises {a g x : Int} {k : Nat} (hk : 0 < k) (ha : 0 ≤ a) (hak : a + k + 1 ≤ 65534) : risesB (seqW a g k ++ [(a + k + 1, x)]) 65534 = true := by
  refine risesB_of fun j hj => ?_
  rw [List.length_append, seqW_len, List.length_singleton] at hj
  have hl : cd (seqW a g k ++ [(a + k + 1, x)]) k = a + k + 1 := by
    simp [cd, List.getD_eq_getElem?_getD, List.getElem?_append_right (show (seqW a g k).length ≤ k by rw [seqW_len]; exact Nat.le_refl _), seqW_len]
  simp only [cnd, Bool.and_eq_true, Bool.or_eq_true, decide_eq_true_eq]
  by_cases h : j = k
  · subst h
    rw [hl, (seqW_at (a := a) (g := g) (show j - 1 < j by omega) [(a + j + 1, x)]).1]
    omega
  · rw [(seqW_at (a := a) (g := g) (show j < k by omega) [(a + k + 1, x)]).1]
    refine ⟨⟨by omega, by omega⟩, ?_⟩
    by_cases h0 : j = 0
    · exact .inl h0
    · right
      rw [(seqW_at (a := a) (g := g) (show j - 1 < k by omega) [(a + k + 1, x)]).1]; omega
theorem seqW_pr {a g x : Int} {k : Nat} (ha : 0 ≤ a) (hak : a + k + 1 ≤ 65534) (hx0 : 0 ≤ x) (hx1 : x < 65536) : PrOK (seqW a g k) ∧ PrOK (seqW a g k ++ [(a + k + 1, x)]) := by
  have h1 : ∀ p ∈ seqW a g k, -2147483648 ≤ p.1 ∧ p.1 ≤ 2147483647 ∧ 0 ≤ p.2 ∧ p.2 ≤ 65535 := by
    intro p hp
    simp only [seqW, List.mem_map, List.mem_range] at hp
    obtain ⟨i, hi, rfl⟩ := hp
    simp only
    omega
  refine ⟨mem_pr h1, mem_pr fun p hp => ?_⟩
  rcases List.mem_append.1 hp with hp | hp
  · exact h1 p hp
  · simp only [List.mem_singleton] at hp
    subst hp
    simp only
    omega
theorem lk_seqW (a g c : Int) : ∀ (n : Nat) (rest : List (Int × Int)), lkP (seqW a g n ++ rest) c = if a ≤ c ∧ c < a + n then (g + (c - a)) % 65536 else lkP rest c
  | 0, rest => by
    rw [if_neg (by omega)]
    rfl
  | n + 1, rest => by
    rw [seqW_snoc, List.append_assoc, lk_seqW a g c n]
    simp only [List.cons_append, List.nil_append, lkP]
    by_cases h1 : a ≤ c ∧ c < a + n
    · rw [if_pos h1, if_pos (by omega)]
    · rw [if_neg h1]
      by_cases h2 : a + n = c
      · rw [if_pos h2, if_pos (by omega)]
        congr 1
        omega
      · rw [if_neg h2, if_neg (by omega)]
theorem lk_miss0 {p : Int × Int} {c : Int} (h : p.1 ≠ c) : lkP [p] c = 0 := by
  show (if p.1 = c then p.2 else 0) = 0
  rw [if_neg h]
end Go.AM
