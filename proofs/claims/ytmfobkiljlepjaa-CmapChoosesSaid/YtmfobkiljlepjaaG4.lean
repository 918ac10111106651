/- The plain law of package group: a right table's map. No program in sight. -/
import Derived.Test.YtmfobkiljlepjaaG3
set_option linter.unusedVariables false
set_option linter.unusedSimpArgs false
namespace Go.AM
open Go

theorem right_map {l : List Int} (hb : Byt l) (hl : l.length ≤ 1000000000000) (h : rightG l = true) : MapG (spans l (numG l)) := by
  have h' := h
  simp only [rightG, Bool.and_eq_true, List.all_eq_true, List.mem_range] at h'
  obtain ⟨h1, h2⟩ := h'
  have hn := hdG_num hb h1
  have ok : ∀ i, i < numG l → (spS l i).1 ≤ (spS l i).2.1 ∧ (spS l i).2.1 ≤ 1114111 ∧ (i = 0 ∨ n4V l (8 + 12 * (i : Int)) < (spS l i).1) ∧ (spS l i).2.2 + (spS l i).2.1 - (spS l i).1 ≤ 65535 := fun i hi => by
    have := h2 i hi
    simp only [okS, Bool.and_eq_true, Bool.or_eq_true, decide_eq_true_eq] at this
    exact ⟨this.1.1.1, this.1.1.2, this.1.2, this.2⟩
  have step : ∀ i, i + 1 < numG l → (spS l i).2.1 < (spS l (i + 1)).1 := fun i hi => by
    have := (ok (i + 1) hi).2.2.1.resolve_left (by omega)
    have e : (8 + 12 * ((i + 1 : Nat) : Int)) = 20 + 12 * (i : Int) := by omega
    rw [e] at this
    exact this
  have nn : ∀ i, 0 ≤ (spS l i).1 ∧ 0 ≤ (spS l i).2.2 := fun i => ⟨(n4V_bound hb _).1, (n4V_bound hb _).1⟩
  have lt : ∀ i j, i < j → j < numG l → (spS l i).2.1 < (spS l j).2.1 := by
    intro i j hij hj
    induction j with
    | zero => omega
    | succ j ih =>
      have a := step j hj
      have b := (ok (j + 1) hj).1
      by_cases e : i = j
      · subst e; omega
      · have := ih (by omega) (by omega); omega
  refine ⟨fun i j hij hj => ?_, by rw [spans_length]; omega, fun i hi => ?_, fun i hi => ?_⟩
  · rw [spans_length] at hj
    rw [spans_getD (by omega), spans_getD hj]; exact lt i j hij hj
  · rw [spans_length] at hi
    rw [spans_getD hi]
    have := ok i hi
    have := nn i
    omega
  · rw [spans_length] at hi
    rw [spans_getD (by omega), spans_getD hi]; exact step i hi
theorem MapG.nil : MapG [] := ⟨fun i j h hj => by simp at hj, by simp, fun i hi => by simp at hi, fun i hi => by simp at hi⟩
theorem map_spsG {l : List Int} (hb : Byt l) (hl : l.length ≤ 1000000000000) : MapG (spsG l) := by
  unfold spsG
  split
  · rename_i h; exact right_map hb hl h
  · exact MapG.nil
theorem lookG_bd {m : List (Int × Int × Int)} (hm : MapG m) (c : Int) : 0 ≤ lookG m c ∧ lookG m c ≤ 65535 := by
  unfold lookG
  split
  · omega
  · rename_i h
    have h1 := cnt_le m c
    have h2 := hm.2.2.1 (cnt m c) (by omega)
    have h3 := cnt_ge (m := m) (c := c) (by omega)
    omega
theorem lookG_nil (c : Int) : lookG [] c = 0 := by simp [lookG, cnt]
theorem runs_seq {a g : Int} {k : Nat} (m : List (Int × Int)) : ∀ i, i < k → runsTo (seqP a g k ++ m) (i + 1) = [(a, a + i, g)]
  | 0, h => by
    have := seqP_at (a := a) (g := g) h m
    simp only [runsTo, stepR, Nat.lt_irrefl, false_and, if_false, List.nil_append, this.1, this.2]
    simp
  | i + 1, h => by
    have e := runs_seq (a := a) (g := g) (k := k) m i (by omega)
    have h1 := seqP_at (a := a) (g := g) h m
    have h2 := seqP_at (a := a) (g := g) (show i < k by omega) m
    show stepR _ (i + 1) (runsTo _ (i + 1)) = _
    unfold stepR
    rw [Nat.add_sub_cancel, e, if_pos ⟨by omega, by rw [h1.1, h2.1]; omega, by rw [h1.2, h2.2]; omega⟩, h1.1]
    rfl
/-- The same, and one behind a gap. -/
theorem runs_gap {a g : Int} {k : Nat} (hk : 0 < k) : runsTo (seqP a g k ++ [(a + k + 1, g + k)]) (k + 1) = [(a, a + (k - 1 : Nat), g), (a + k + 1, a + k + 1, g + k)] := by
  obtain ⟨j, rfl⟩ : ∃ j, k = j + 1 := ⟨k - 1, by omega⟩
  have e := runs_seq (a := a) (g := g) (k := j + 1) [(a + (j + 1 : Nat) + 1, g + (j + 1 : Nat))] j (by omega)
  have h2 := seqP_at (a := a) (g := g) (show j < j + 1 by omega) [(a + (j + 1 : Nat) + 1, g + (j + 1 : Nat))]
  have h3 : (seqP a g (j + 1) ++ [(a + (j + 1 : Nat) + 1, g + (j + 1 : Nat))])[j + 1]? = some (a + (j + 1 : Nat) + 1, g + (j + 1 : Nat)) := by
    rw [List.getElem?_append_right (by rw [seqP_len]; exact Nat.le_refl _), seqP_len, Nat.sub_self]; rfl
  have h4 : cd (seqP a g (j + 1) ++ [(a + (j + 1 : Nat) + 1, g + (j + 1 : Nat))]) (j + 1) = a + (j + 1 : Nat) + 1 := by simp only [cd, List.getD_eq_getElem?_getD, h3]; rfl
  have h5 : gl (seqP a g (j + 1) ++ [(a + (j + 1 : Nat) + 1, g + (j + 1 : Nat))]) (j + 1) = g + (j + 1 : Nat) := by simp only [gl, List.getD_eq_getElem?_getD, h3]; rfl
  show stepR _ (j + 1) (runsTo _ (j + 1)) = _
  unfold stepR
  rw [Nat.add_sub_cancel, e, if_neg (fun h => by have := h.2.1; rw [h4, h2.1] at this; omega), h4, h5]
  rfl
/-- Pairs that rise: what is known of the table of them. -/
theorem seq_rises {a g : Int} {k : Nat} (ha : 0 ≤ a) (hak : a + k ≤ 1114111) : risesB (seqP a g k) 1114111 = true := by
  refine risesB_of fun j hj => ?_
  rw [seqP_len] at hj
  have h1 := (seqP_at (a := a) (g := g) hj []).1
  rw [List.append_nil] at h1
  simp only [cnd, h1, Bool.and_eq_true, Bool.or_eq_true, decide_eq_true_eq]
  refine ⟨⟨by omega, by omega⟩, ?_⟩
  by_cases h0 : j = 0
  · exact .inl h0
  · right
    have h2 := (seqP_at (a := a) (g := g) (show j - 1 < k by omega) []).1
    rw [List.append_nil] at h2
    rw [h2]; omega
theorem gap_rises {a g : Int} {k : Nat} (hk : 0 < k) (ha : 0 ≤ a) (hak : a + k + 1 ≤ 1114111) : risesB (seqP a g k ++ [(a + k + 1, g + k)]) 1114111 = true := by
  refine risesB_of fun j hj => ?_
  rw [List.length_append, seqP_len, List.length_singleton] at hj
  have hl : cd (seqP a g k ++ [(a + k + 1, g + k)]) k = a + k + 1 := by
    simp [cd, List.getD_eq_getElem?_getD, List.getElem?_append_right (show (seqP a g k).length ≤ k by rw [seqP_len]; exact Nat.le_refl _), seqP_len]
  simp only [cnd, Bool.and_eq_true, Bool.or_eq_true, decide_eq_true_eq]
  by_cases h : j = k
  · subst h
    rw [hl, (seqP_at (a := a) (g := g) (show j - 1 < j by omega) [(a + j + 1, g + j)]).1]
    omega
  · rw [(seqP_at (a := a) (g := g) (show j < k by omega) [(a + k + 1, g + k)]).1]
    refine ⟨⟨by omega, by omega⟩, ?_⟩
    by_cases h0 : j = 0
    · exact .inl h0
    · right
      rw [(seqP_at (a := a) (g := g) (show j - 1 < k by omega) [(a + k + 1, g + k)]).1]; omega
theorem seq_pr {a g : Int} {k : Nat} (ha : 0 ≤ a) (hak : a + k ≤ 1114111) (hg : 0 ≤ g) (hgk : g + k ≤ 65535) : PrOK (seqP a g k) ∧ PrOK (seqP a g k ++ [(a + k + 1, g + k)]) := by
  have h1 : ∀ p ∈ seqP a g k, -2147483648 ≤ p.1 ∧ p.1 ≤ 2147483647 ∧ 0 ≤ p.2 ∧ p.2 ≤ 65535 := by
    intro p hp
    simp only [seqP, List.mem_map, List.mem_range] at hp
    obtain ⟨i, hi, rfl⟩ := hp
    simp only
    omega
  refine ⟨mem_pr h1, mem_pr fun p hp => ?_⟩
  rcases List.mem_append.1 hp with hp | hp
  · exact h1 p hp
  · simp only [List.mem_singleton] at hp
    subst hp
    simp only
    omega
theorem lk_seq {a g : Int} {k : Nat} (c : Int) (rest : List (Int × Int)) : lkP (seqP a g k ++ rest) c = if a ≤ c ∧ c < a + k then g + (c - a) else lkP rest c := lkP_range a g c k rest
/-- All that is known of a table that was built. -/
theorem built_facts {r : List (Int × Int)} (hr : risesB r 1114111 = true) (hp : PrOK r) (hl : r.length ≤ 1000000) : ∃ R B, runsTo r r.length = R ∧ buildG r = B ∧ B = tabG R ∧ Byt B ∧ B.length = 16 + 12 * R.length ∧ rightG B = true ∧ spsG B = R ∧ MapG R ∧ R.length ≤ r.length ∧ ∀ c, lookG R c = lkP r c := by
  have h1 := good_runs hr hp hl
  have h2 := build_read hr hp hl
  have h3 := buildG_byt hp hl
  have e : buildG r = tabG (runsTo r r.length) := by unfold buildG; rw [if_pos hr]
  refine ⟨_, _, rfl, rfl, e, h3.1, by rw [e, tab_len], h2.1, h2.2, good_map h1, (runs_ok hr hp (Nat.le_refl _)).2.2.2.2, look_runs hr hp hl⟩
end Go.AM
