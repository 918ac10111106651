/- The plain law of package group: what is looked up. No program in sight. -/
import Derived.Test.YtmfobkiljlepjaaC23
set_option linter.unusedVariables false
set_option linter.unusedSimpArgs false
namespace Go.AM
open Go

/-- A code's glyph, by the first pair that has it. -/
def lkP : List (Int × Int) → Int → Int
  | [], _ => 0
  | p :: l, c => if p.1 = c then p.2 else lkP l c
theorem lkP_skip {a b : List (Int × Int)} {c : Int} (h : ∀ p ∈ a, p.1 ≠ c) : lkP (a ++ b) c = lkP b c := by
  induction a with
  | nil => rfl
  | cons p a ih =>
    show (if p.1 = c then p.2 else lkP (a ++ b) c) = _
    rw [if_neg (h p (by simp)), ih fun q hq => h q (by simp [hq])]
theorem lkP_none {l : List (Int × Int)} {c : Int} (h : ∀ p ∈ l, p.1 ≠ c) : lkP l c = 0 := by
  have := lkP_skip (b := []) h
  rw [List.append_nil] at this
  exact this
theorem lkP_last {a : List (Int × Int)} {p : Int × Int} {c : Int} (h : p.1 ≠ c) : lkP (a ++ [p]) c = lkP a c := by
  induction a with
  | nil => exact if_neg h
  | cons q a ih =>
    show (if q.1 = c then q.2 else lkP (a ++ [p]) c) = if q.1 = c then q.2 else lkP a c
    rw [ih]
theorem lkP_range (a g c : Int) : ∀ (n : Nat) (rest : List (Int × Int)), lkP ((List.range n).map (fun k : Nat => (a + (k : Int), g + (k : Int))) ++ rest) c = if a ≤ c ∧ c < a + n then g + (c - a) else lkP rest c
  | 0, rest => by
    rw [if_neg (by omega)]
    rfl
  | n + 1, rest => by
    rw [List.range_succ, List.map_append, List.append_assoc, lkP_range a g c n]
    simp only [List.map_cons, List.map_nil, List.cons_append, List.nil_append, lkP]
    by_cases h1 : a ≤ c ∧ c < a + n
    · rw [if_pos h1, if_pos (by omega)]
    · rw [if_neg h1]
      by_cases h2 : a + n = c
      · rw [if_pos h2, if_pos (by omega)]; omega
      · rw [if_neg h2, if_neg (by omega)]
theorem lkP_exp {s : Int × Int × Int} (h : SpOK s) (rest : List (Int × Int)) (c : Int) : lkP (expS s ++ rest) c = if inS s c = true then s.2.2 + c - s.1 else lkP rest c := by
  unfold SpOK at h
  unfold expS inS
  rw [lkP_range]
  by_cases h1 : s.1 ≤ c ∧ c ≤ s.2.1
  · rw [if_pos (by omega), if_pos (by simp [h1])]; omega
  · rw [if_neg (by omega), if_neg (by simpa using h1)]
theorem lookR_exp {m : List (Int × Int × Int)} (hm : ∀ s ∈ m, SpOK s) (c : Int) : lookR m c = lkP (m.flatMap expS) c := by
  have key : ∀ m : List (Int × Int × Int), (∀ s ∈ m, SpOK s) → (match m.find? fun s => inS s c with | some s => s.2.2 + c - s.1 | none => (0 : Int)) = lkP (m.flatMap expS) c := by
    intro m
    induction m with
    | nil => intro _; rfl
    | cons s m ih =>
      intro hm
      rw [List.flatMap_cons, lkP_exp (hm s (by simp)), List.find?_cons]
      cases h : inS s c with
      | true => simp
      | false => simpa using ih fun t ht => hm t (by simp [ht])
  unfold lookR
  by_cases h0 : c < 0
  · rw [if_pos h0, ← key m hm]
    have : m.find? (fun s => inS s c) = none := by
      rw [List.find?_eq_none]
      intro s hs
      have := hm s hs
      unfold SpOK at this
      simp only [inS, Bool.and_eq_true, decide_eq_true_eq, not_and]
      omega
    rw [this]
  · rw [if_neg h0]
    exact key m hm
theorem look_runs {l : List (Int × Int)} (hr : risesB l 1114111 = true) (hp : PrOK l) (hl : l.length ≤ 1000000) (c : Int) : lookG (runsTo l l.length) c = lkP l c := by
  have hg := good_runs hr hp hl
  rw [lookG_eq (good_map hg), lookR_exp hg.1, (runs_ok hr hp (Nat.le_refl l.length)).2.2.1, List.take_length]
theorem rises_lt {l : List (Int × Int)} {most : Int} (h : risesB l most = true) {i j : Nat} (hij : i < j) (hj : j < l.length) : cd l i < cd l j := by
  induction j with
  | zero => omega
  | succ j ih =>
    have h1 := (rises_at h hj).2.2 (by omega)
    rw [Nat.add_sub_cancel] at h1
    by_cases e : i = j
    · rw [e]; exact h1
    · have := ih (by omega) (by omega); omega
theorem mem_take_cd {l : List (Int × Int)} {i : Nat} {p : Int × Int} (h : p ∈ l.take i) : ∃ k, k < i ∧ k < l.length ∧ p = (cd l k, gl l k) := by
  obtain ⟨k, hk⟩ := List.mem_iff_getElem?.1 h
  have h1 := (List.getElem?_eq_some_iff.1 hk).1
  simp only [List.length_take] at h1
  rw [List.getElem?_take_of_lt (by omega)] at hk
  refine ⟨k, by omega, by omega, ?_⟩
  simp [cd, gl, List.getD_eq_getElem?_getD, hk]
theorem lk_take {l : List (Int × Int)} {most : Int} (h : risesB l most = true) {i : Nat} (hi : i < l.length) (c : Int) : lkP (l.take (i + 1)) c = if cd l i = c then gl l i else lkP (l.take i) c := by
  rw [take_snoc' (0, 0) hi]
  by_cases e : cd l i = c
  · rw [if_pos e, lkP_skip fun p hp => ?_]
    · show (if cd l i = c then gl l i else 0) = _
      rw [if_pos e]
    · obtain ⟨k, hk, hkl, rfl⟩ := mem_take_cd hp
      have := rises_lt h hk hi
      show cd l k ≠ c
      omega
  · rw [if_neg e]
    exact lkP_last e
theorem lk_at {l : List (Int × Int)} {most : Int} (h : risesB l most = true) {i : Nat} (hi : i < l.length) : lkP l (cd l i) = gl l i := by
  have e : l = l.take i ++ (cd l i, gl l i) :: l.drop (i + 1) := by
    rw [← pair_at hi, ← List.drop_eq_getElem_cons hi, List.take_append_drop]
  have : lkP (l.take i ++ (cd l i, gl l i) :: l.drop (i + 1)) (cd l i) = gl l i := by
    rw [lkP_skip fun p hp => ?_]
    · exact if_pos rfl
    · obtain ⟨k, hk, hkl, rfl⟩ := mem_take_cd hp
      have := rises_lt h hk hi
      show cd l k ≠ cd l i
      omega
  rw [← e] at this
  exact this
theorem lk_out {l : List (Int × Int)} {most c : Int} (h : risesB l most = true) (hc : c < 0 ∨ most < c) : lkP l c = 0 := by
  refine lkP_none fun p hp => ?_
  rw [← List.take_length (l := l)] at hp
  obtain ⟨k, hk, hkl, rfl⟩ := mem_take_cd hp
  have := rises_at h hkl
  show cd l k ≠ c
  omega
theorem lk_bd {l : List (Int × Int)} (hp : PrOK l) (c : Int) : 0 ≤ lkP l c ∧ lkP l c ≤ 65535 := by
  have key : ∀ l : List (Int × Int), (∀ p ∈ l, 0 ≤ p.2 ∧ p.2 ≤ 65535) → 0 ≤ lkP l c ∧ lkP l c ≤ 65535 := by
    intro l
    induction l with
    | nil => intro _; show (0 : Int) ≤ 0 ∧ (0 : Int) ≤ 65535; omega
    | cons p l ih =>
      intro h
      show 0 ≤ (if p.1 = c then p.2 else lkP l c) ∧ (if p.1 = c then p.2 else lkP l c) ≤ 65535
      split
      · exact h p (by simp)
      · exact ih fun q hq => h q (by simp [hq])
  refine key l fun p hm => ?_
  rw [← List.take_length (l := l)] at hm
  obtain ⟨k, hk, hkl, rfl⟩ := mem_take_cd hm
  have := hp k
  exact ⟨this.2.2.1, this.2.2.2⟩
end Go.AM
