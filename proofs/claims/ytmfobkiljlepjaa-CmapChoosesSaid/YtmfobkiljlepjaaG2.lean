/- The plain law of package group: a table that was built is read as it was. No program in sight. -/
import Derived.Test.YtmfobkiljlepjaaC19
set_option linter.unusedVariables false
set_option linter.unusedSimpArgs false
namespace Go.AM
open Go

theorem n4_skip (x r : List Int) (k : Nat) (h : k + 4 ≤ r.length) : n4V (x ++ r) ((x.length + k : Nat) : Int) = n4V r (k : Int) := by
  rw [← be4_at (l := x ++ r) (k := x.length + k) (by rw [List.length_append]; omega), ← be4_at h, ← List.drop_drop, List.drop_left]
theorem n4_head (n : Int) (r : List Int) (h0 : 0 ≤ n) (h1 : n < 4294967296) : n4V (b4 n ++ r) 0 = n := by
  have := be4_at (l := b4 n ++ r) (k := 0) (by rw [List.length_append]; show 0 + 4 ≤ 4 + _; omega)
  rw [List.drop_zero, List.take_append_of_le_length (by exact Nat.le_refl _), List.take_of_length_le (by exact Nat.le_refl _)] at this
  rw [← show ((0 : Nat) : Int) = 0 from rfl, ← this]
  simp [be, b4]
  omega
theorem encS_split {m : List (Int × Int × Int)} {i : Nat} (hi : i < m.length) : encS m = encS (m.take i) ++ (b4 (m.getD i (0, 0, 0)).1 ++ (b4 (m.getD i (0, 0, 0)).2.1 ++ (b4 (m.getD i (0, 0, 0)).2.2 ++ encS (m.drop (i + 1))))) := by
  have e : m = m.take i ++ m.getD i (0, 0, 0) :: m.drop (i + 1) := by
    rw [List.getD_eq_getElem?_getD, List.getElem?_eq_getElem hi, Option.getD_some, ← List.drop_eq_getElem_cons hi, List.take_append_drop]
  conv => lhs; rw [e]
  simp only [encS, List.flatMap_append, List.flatMap_cons, List.append_assoc]
/-- The numbers of a table. -/
theorem tab_span {m : List (Int × Int × Int)} (hm : ∀ s ∈ m, SpOK s) {i : Nat} (hi : i < m.length) : spS (tabG m) i = m.getD i (0, 0, 0) := by
  have hs : SpOK (m.getD i (0, 0, 0)) := by
    rw [List.getD_eq_getElem?_getD, List.getElem?_eq_getElem hi]
    exact hm _ (by simp)
  obtain ⟨q1, q2, q3, q4, q5⟩ := hs
  have hl : (encS (m.take i)).length = 12 * i := by rw [encS_len]; simp only [List.length_take]; omega
  have h16 := hdB_len m.length
  have key : ∀ (x r : List Int) (k : Nat), tabG m = x ++ r → x.length = k → 4 ≤ r.length → n4V (tabG m) (k : Int) = n4V r 0 := fun x r k e h1 h2 => by
    have := n4_skip x r 0 (by omega)
    rw [e, ← h1]
    simpa using this
  have e0 := tabG_eq m
  have e1 : tabG m = (hdB m.length ++ encS (m.take i)) ++ (b4 (m.getD i (0, 0, 0)).1 ++ (b4 (m.getD i (0, 0, 0)).2.1 ++ (b4 (m.getD i (0, 0, 0)).2.2 ++ encS (m.drop (i + 1))))) := by
    rw [e0, encS_split hi, List.append_assoc]
  have lb : ∀ n : Int, (b4 n).length = 4 := fun _ => rfl
  generalize m.getD i (0, 0, 0) = s at e1 q1 q2 q3 q4 q5 ⊢
  have e2 : tabG m = (hdB m.length ++ encS (m.take i) ++ b4 s.1) ++ (b4 s.2.1 ++ (b4 s.2.2 ++ encS (m.drop (i + 1)))) := by rw [e1]; simp only [List.append_assoc]
  have e3 : tabG m = (hdB m.length ++ encS (m.take i) ++ b4 s.1 ++ b4 s.2.1) ++ (b4 s.2.2 ++ encS (m.drop (i + 1))) := by rw [e1]; simp only [List.append_assoc]
  have k1 := key _ _ (16 + 12 * i) e1 (by simp only [List.length_append]; omega) (by simp only [List.length_append, lb]; omega)
  have k2 := key _ _ (20 + 12 * i) e2 (by simp only [List.length_append, lb]; omega) (by simp only [List.length_append, lb]; omega)
  have k3 := key _ _ (24 + 12 * i) e3 (by simp only [List.length_append, lb]; omega) (by simp only [List.length_append, lb]; omega)
  rw [n4_head _ _ (by omega) (by omega)] at k1 k2 k3
  have c1 : ((16 + 12 * i : Nat) : Int) = 16 + 12 * (i : Int) := by omega
  have c2 : ((20 + 12 * i : Nat) : Int) = 20 + 12 * (i : Int) := by omega
  have c3 : ((24 + 12 * i : Nat) : Int) = 24 + 12 * (i : Int) := by omega
  rw [c1] at k1
  rw [c2] at k2
  rw [c3] at k3
  unfold spS
  rw [k1, k2, k3]
theorem tab_len (m : List (Int × Int × Int)) : (tabG m).length = 16 + 12 * m.length := by rw [tabG_eq, List.length_append, hdB_len, encS_len]
theorem tab_byt {m : List (Int × Int × Int)} (hm : ∀ s ∈ m, SpOK s) (hl : m.length ≤ 1000000) : Byt (tabG m) := by
  rw [tabG_eq]
  exact (hdB_byt (by omega) (by omega)).append (encS_byt hm)
theorem tab_head (m : List (Int × Int × Int)) (hl : m.length ≤ 1000000) : n4V (tabG m) 0 = 786432 ∧ n4V (tabG m) 4 = 16 + 12 * (m.length : Int) ∧ n4V (tabG m) 12 = m.length := by
  have lb : ∀ n : Int, (b4 n).length = 4 := fun _ => rfl
  have h0 : [0, 12, 0, 0] = b4 786432 := by decide
  have e : tabG m = b4 786432 ++ (b4 (16 + 12 * (m.length : Int)) ++ (b4 0 ++ (b4 (m.length : Int) ++ encS m))) := by rw [← h0]; rfl
  have s4 := n4_skip (b4 786432) (b4 (16 + 12 * (m.length : Int)) ++ (b4 0 ++ (b4 (m.length : Int) ++ encS m))) 0 (by simp only [List.length_append, lb]; omega)
  have s12 := n4_skip (b4 786432 ++ (b4 (16 + 12 * (m.length : Int)) ++ b4 0)) (b4 (m.length : Int) ++ encS m) 0 (by simp only [List.length_append, lb]; omega)
  refine ⟨?_, ?_, ?_⟩
  · rw [e, n4_head _ _ (by decide) (by decide)]
  · rw [e]
    refine Eq.trans s4 ?_
    exact n4_head _ _ (by omega) (by omega)
  · rw [e]
    have e2 : b4 786432 ++ (b4 (16 + 12 * (m.length : Int)) ++ (b4 0 ++ (b4 (m.length : Int) ++ encS m))) = (b4 786432 ++ (b4 (16 + 12 * (m.length : Int)) ++ b4 0)) ++ (b4 (m.length : Int) ++ encS m) := by simp only [List.append_assoc]
    rw [e2]
    refine Eq.trans s12 ?_
    exact n4_head _ _ (by omega) (by omega)
/-- Spans that a table may have: each is one, and they rise. -/
def GoodS (m : List (Int × Int × Int)) : Prop := (∀ s ∈ m, SpOK s) ∧ m.Pairwise (fun s t => s.2.1 < t.1) ∧ m.length ≤ 1000000
theorem tab_right {m : List (Int × Int × Int)} (h : GoodS m) : rightG (tabG m) = true ∧ spsG (tabG m) = m := by
  obtain ⟨hm, hp, hl⟩ := h
  obtain ⟨h0, h4, h12⟩ := tab_head m hl
  have hlen := tab_len m
  have hnum : numG (tabG m) = m.length := by unfold numG; rw [h12]; omega
  have hr : rightG (tabG m) = true := by
    refine rightG_of ?_ fun i hi => ?_
    · simp only [hdG, Bool.and_eq_true, decide_eq_true_eq]
      rw [h0, h4, h12, hlen]
      omega
    · rw [hnum] at hi
      have hs : SpOK (m.getD i (0, 0, 0)) := by
        rw [List.getD_eq_getElem?_getD, List.getElem?_eq_getElem hi]
        exact hm _ (by simp)
      have hsp := tab_span hm hi
      simp only [okS, Bool.and_eq_true, Bool.or_eq_true, decide_eq_true_eq]
      rw [hsp]
      obtain ⟨q1, q2, q3, q4, q5⟩ := hs
      refine ⟨⟨⟨by omega, by omega⟩, ?_⟩, by omega⟩
      by_cases hi0 : i = 0
      · exact .inl hi0
      · right
        have hsp2 := tab_span hm (i := i - 1) (by omega)
        have e : n4V (tabG m) (8 + 12 * (i : Int)) = (spS (tabG m) (i - 1)).2.1 := by
          show _ = n4V (tabG m) (20 + 12 * ((i - 1 : Nat) : Int))
          congr 1
          omega
        rw [e, hsp2]
        have := List.pairwise_iff_getElem.1 hp (i - 1) i (by omega) hi (by omega)
        rw [List.getD_eq_getElem?_getD, List.getD_eq_getElem?_getD, List.getElem?_eq_getElem hi, List.getElem?_eq_getElem (show i - 1 < m.length by omega)]
        exact this
  refine ⟨hr, ?_⟩
  unfold spsG
  rw [hr, if_pos rfl, hnum]
  apply List.ext_getElem
  · rw [spans_length]
  · intro i h1 h2
    have := tab_span hm h2
    rw [List.getD_eq_getElem?_getD, List.getElem?_eq_getElem h2, Option.getD_some] at this
    simp only [spans, List.getElem_map, List.getElem_range]
    exact this
theorem good_runs {l : List (Int × Int)} (hr : risesB l 1114111 = true) (hp : PrOK l) (hl : l.length ≤ 1000000) : GoodS (runsTo l l.length) := by
  obtain ⟨h1, h2, h3, h4, h5⟩ := runs_ok hr hp (Nat.le_refl l.length)
  exact ⟨h1, h2, by omega⟩
theorem good_map {m : List (Int × Int × Int)} (h : GoodS m) : MapG m := by
  obtain ⟨hm, hp, hl⟩ := h
  have get : ∀ i, i < m.length → SpOK (m.getD i (0, 0, 0)) := fun i hi => by
    rw [List.getD_eq_getElem?_getD, List.getElem?_eq_getElem hi]
    exact hm _ (by simp)
  have pw : ∀ i j, i < j → j < m.length → (m.getD i (0, 0, 0)).2.1 < (m.getD j (0, 0, 0)).1 := fun i j hij hj => by
    have := List.pairwise_iff_getElem.1 hp i j (by omega) hj hij
    rw [List.getD_eq_getElem?_getD, List.getD_eq_getElem?_getD, List.getElem?_eq_getElem hj, List.getElem?_eq_getElem (show i < m.length by omega)]
    exact this
  refine ⟨fun i j hij hj => ?_, by omega, fun i hi => get i hi, fun i hi => pw i (i + 1) (by omega) hi⟩
  have h1 := pw i j hij hj
  have h2 := (get j hj).2.1
  omega
theorem buildG_byt {l : List (Int × Int)} (hp : PrOK l) (hl : l.length ≤ 1000000) : Byt (buildG l) ∧ (buildG l).length ≤ 12000016 := by
  unfold buildG
  split
  · rename_i hr
    have hg := good_runs hr hp hl
    exact ⟨tab_byt hg.1 hg.2.2, by rw [tab_len]; have := hg.2.2; omega⟩
  · exact ⟨Byt.nil, by simp⟩
theorem build_read {l : List (Int × Int)} (hr : risesB l 1114111 = true) (hp : PrOK l) (hl : l.length ≤ 1000000) : rightG (buildG l) = true ∧ spsG (buildG l) = runsTo l l.length := by
  unfold buildG
  rw [if_pos hr]
  exact tab_right (good_runs hr hp hl)
end Go.AM
