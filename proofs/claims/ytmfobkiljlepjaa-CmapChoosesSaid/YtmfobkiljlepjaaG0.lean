/- Pairs, and what is looked up of them. No program in sight. -/
import Derived.Test.YtmfobkiljlepjaaC13
set_option linter.unusedVariables false
set_option linter.unusedSimpArgs false
namespace Go.AM
open Go

theorem take_snoc' {α : Type} (d : α) {l : List α} {i : Nat} (hi : i < l.length) : l.take (i + 1) = l.take i ++ [l.getD i d] := by
  rw [List.take_add_one, List.getElem?_eq_getElem hi, List.getD_eq_getElem?_getD, List.getElem?_eq_getElem hi]
  rfl

/-- Pairs of their types. -/
def PrOK (l : List (Int × Int)) : Prop := ∀ i, -2147483648 ≤ cd l i ∧ cd l i ≤ 2147483647 ∧ 0 ≤ gl l i ∧ gl l i ≤ 65535
theorem rises_at {l : List (Int × Int)} {most : Int} (h : risesB l most = true) {i : Nat} (hi : i < l.length) : 0 ≤ cd l i ∧ cd l i ≤ most ∧ (0 < i → cd l (i - 1) < cd l i) := by
  simp only [risesB, List.all_eq_true, List.mem_range] at h
  have := h i hi
  simp only [cnd, Bool.and_eq_true, Bool.or_eq_true, decide_eq_true_eq] at this
  omega
theorem pair_at {l : List (Int × Int)} {i : Nat} (hi : i < l.length) : l[i] = (cd l i, gl l i) := by
  simp [cd, gl, List.getD_eq_getElem?_getD, List.getElem?_eq_getElem hi]
/-- A code's glyph, by the first pair that has it. -/
def lkP : List (Int × Int) → Int → Int
  | [], _ => 0
  | p :: l, c => if p.1 = c then p.2 else lkP l c
theorem lkP_skip {a b : List (Int × Int)} {c : Int} (h : ∀ p ∈ a, p.1 ≠ c) : lkP (a ++ b) c = lkP b c := by
  induction a with
  | nil => rfl
  | cons p a ih =>
    show (if p.1 = c then p.2 else lkP (a ++ b) c) = _
    rw [if_neg (h p (by simp)), ih fun q hq => h q (by simp [hq])]
theorem lkP_none {l : List (Int × Int)} {c : Int} (h : ∀ p ∈ l, p.1 ≠ c) : lkP l c = 0 := by
  have := lkP_skip (b := []) h
  rw [List.append_nil] at this
  exact this
theorem lkP_last {a : List (Int × Int)} {p : Int × Int} {c : Int} (h : p.1 ≠ c) : lkP (a ++ [p]) c = lkP a c := by
  induction a with
  | nil => exact if_neg h
  | cons q a ih =>
    show (if q.1 = c then q.2 else lkP (a ++ [p]) c) = if q.1 = c then q.2 else lkP a c
    rw [ih]
theorem lkP_range (a g c : Int) : ∀ (n : Nat) (rest : List (Int × Int)), lkP ((List.range n).map (fun k : Nat => (a + (k : Int), g + (k : Int))) ++ rest) c = if a ≤ c ∧ c < a + n then g + (c - a) else lkP rest c
  | 0, rest => by
    rw [if_neg (by omega)]
    rfl
  | n + 1, rest => by
    rw [List.range_succ, List.map_append, List.append_assoc, lkP_range a g c n]
    simp only [List.map_cons, List.map_nil, List.cons_append, List.nil_append, lkP]
    by_cases h1 : a ≤ c ∧ c < a + n
    · rw [if_pos h1, if_pos (by omega)]
    · rw [if_neg h1]
      by_cases h2 : a + n = c
      · rw [if_pos h2, if_pos (by omega)]; omega
      · rw [if_neg h2, if_neg (by omega)]
theorem rises_lt {l : List (Int × Int)} {most : Int} (h : risesB l most = true) {i j : Nat} (hij : i < j) (hj : j < l.length) : cd l i < cd l j := by
  induction j with
  | zero => omega
  | succ j ih =>
    have h1 := (rises_at h hj).2.2 (by omega)
    rw [Nat.add_sub_cancel] at h1
    by_cases e : i = j
    · rw [e]; exact h1
    · have := ih (by omega) (by omega); omega
theorem mem_take_cd {l : List (Int × Int)} {i : Nat} {p : Int × Int} (h : p ∈ l.take i) : ∃ k, k < i ∧ k < l.length ∧ p = (cd l k, gl l k) := by
  obtain ⟨k, hk⟩ := List.mem_iff_getElem?.1 h
  have h1 := (List.getElem?_eq_some_iff.1 hk).1
  simp only [List.length_take] at h1
  rw [List.getElem?_take_of_lt (by omega)] at hk
  refine ⟨k, by omega, by omega, ?_⟩
  simp [cd, gl, List.getD_eq_getElem?_getD, hk]
theorem lk_take {l : List (Int × Int)} {most : Int} (h : risesB l most = true) {i : Nat} (hi : i < l.length) (c : Int) : lkP (l.take (i + 1)) c = if cd l i = c then gl l i else lkP (l.take i) c := by
  rw [take_snoc' (0, 0) hi]
  by_cases e : cd l i = c
  · rw [if_pos e, lkP_skip fun p hp => ?_]
    · show (if cd l i = c then gl l i else 0) = _
      rw [if_pos e]
    · obtain ⟨k, hk, hkl, rfl⟩ := mem_take_cd hp
      have := rises_lt h hk hi
      show cd l k ≠ c
      omega
  · rw [if_neg e]
    exact lkP_last e
theorem lk_at {l : List (Int × Int)} {most : Int} (h : risesB l most = true) {i : Nat} (hi : i < l.length) : lkP l (cd l i) = gl l i := by
  have e : l = l.take i ++ (cd l i, gl l i) :: l.drop (i + 1) := by
    rw [← pair_at hi, ← List.drop_eq_getElem_cons hi, List.take_append_drop]
  have : lkP (l.take i ++ (cd l i, gl l i) :: l.drop (i + 1)) (cd l i) = gl l i := by
    rw [lkP_skip fun p hp => ?_]
    · exact if_pos rfl
    · obtain ⟨k, hk, hkl, rfl⟩ := mem_take_cd hp
      have := rises_lt h hk hi
      show cd l k ≠ cd l i
      omega
  rw [← e] at this
  exact this
theorem lk_out {l : List (Int × Int)} {most c : Int} (h : risesB l most = true) (hc : c < 0 ∨ most < c) : lkP l c = 0 := by
  refine lkP_none fun p hp => ?_
  rw [← List.take_length (l := l)] at hp
  obtain ⟨k, hk, hkl, rfl⟩ := mem_take_cd hp
  have := rises_at h hkl
  show cd l k ≠ c
  omega
theorem lk_bd {l : List (Int × Int)} (hp : PrOK l) (c : Int) : 0 ≤ lkP l c ∧ lkP l c ≤ 65535 := by
  have key : ∀ l : List (Int × Int), (∀ p ∈ l, 0 ≤ p.2 ∧ p.2 ≤ 65535) → 0 ≤ lkP l c ∧ lkP l c ≤ 65535 := by
    intro l
    induction l with
    | nil => intro _; show (0 : Int) ≤ 0 ∧ (0 : Int) ≤ 65535; omega
    | cons p l ih =>
      intro h
      show 0 ≤ (if p.1 = c then p.2 else lkP l c) ∧ (if p.1 = c then p.2 else lkP l c) ≤ 65535
      split
      · exact h p (by simp)
      · exact ih fun q hq => h q (by simp [hq])
  refine key l fun p hm => ?_
  rw [← List.take_length (l := l)] at hm
  obtain ⟨k, hk, hkl, rfl⟩ := mem_take_cd hm
  have := hp k
  exact ⟨this.2.2.1, this.2.2.2⟩
/-- Codes and glyphs that go on by one each. -/
def seqP (a g : Int) (k : Nat) : List (Int × Int) := (List.range k).map fun i : Nat => (a + (i : Int), g + (i : Int))
theorem seqP_len (a g : Int) (k : Nat) : (seqP a g k).length = k := by simp [seqP]
theorem seqP_at {a g : Int} {k i : Nat} (h : i < k) (m : List (Int × Int)) : cd (seqP a g k ++ m) i = a + i ∧ gl (seqP a g k ++ m) i = g + i := by
  have : (seqP a g k ++ m)[i]? = some (a + (i : Int), g + (i : Int)) := by
    rw [List.getElem?_append_left (by rw [seqP_len]; exact h)]
    simp [seqP, h]
  simp [cd, gl, List.getD_eq_getElem?_getD, this]
theorem seqP_snoc (a g : Int) (k : Nat) : seqP a g (k + 1) = seqP a g k ++ [(a + k, g + k)] := by simp [seqP, List.range_succ]
theorem mem_pr {l : List (Int × Int)} (h : ∀ p ∈ l, -2147483648 ≤ p.1 ∧ p.1 ≤ 2147483647 ∧ 0 ≤ p.2 ∧ p.2 ≤ 65535) : PrOK l := fun i => by
  by_cases hi : i < l.length
  · have := h (l[i]) (List.getElem_mem hi)
    simpa [cd, gl, List.getD_eq_getElem?_getD, hi] using this
  · simp only [cd, gl, List.getD_eq_getElem?_getD, List.getElem?_eq_none (show l.length ≤ i by omega), Option.getD_none]; omega
end Go.AM
