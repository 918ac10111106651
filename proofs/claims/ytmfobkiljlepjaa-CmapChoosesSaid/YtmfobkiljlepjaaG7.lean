/- The plain law of package seg: a table that was built is read as it was. No program in sight. -/
import Derived.Test.YtmfobkiljlepjaaG6
import Derived.Test.YtmfobkiljlepjaaC34
set_option linter.unusedVariables false
set_option linter.unusedSimpArgs false
namespace Go.AM
open Go

theorem getD_apd {a b : List Int} {k : Nat} : (a ++ b).getD k 0 = if k < a.length then a.getD k 0 else b.getD (k - a.length) 0 := by
  simp only [List.getD_eq_getElem?_getD, List.getElem?_append]
  split <;> rfl
theorem getD_mp {m : List Sg} {f : Sg → Int} {i : Nat} (hi : i < m.length) : (m.map f).getD i 0 = f (m.getD i (0, 0, 0, 0)) := by
  simp [List.getD_eq_getElem?_getD, hi]
theorem wS_len (m : List Sg) : (wS m).length = 8 + 4 * m.length := by
  simp only [wS, List.length_append, List.length_cons, List.length_nil, List.length_map, List.length_replicate]
  omega
theorem w_end {m : List Sg} {i : Nat} (hi : i < m.length) : (wS m).getD (7 + i) 0 = (m.getD i (0, 0, 0, 0)).2.1 := by
  unfold wS
  rw [getD_apd, if_neg (by simp only [List.length_cons, List.length_nil]; omega), getD_apd, if_pos (by simp only [List.length_cons, List.length_nil, List.length_map]; omega)]
  simp only [List.length_cons, List.length_nil]
  rw [show 7 + i - (0 + 1 + 1 + 1 + 1 + 1 + 1 + 1) = i by omega, getD_mp hi]
theorem w_pad (m : List Sg) : (wS m).getD (7 + m.length) 0 = 0 := by
  unfold wS
  rw [getD_apd, if_neg (by simp only [List.length_cons, List.length_nil]; omega), getD_apd, if_neg (by simp only [List.length_cons, List.length_nil, List.length_map]; omega), getD_apd, if_pos (by simp only [List.length_cons, List.length_nil, List.length_map]; omega)]
  simp only [List.length_cons, List.length_nil, List.length_map]
  rw [show 7 + m.length - (0 + 1 + 1 + 1 + 1 + 1 + 1 + 1) - m.length = 0 by omega]
  rfl
theorem w_start {m : List Sg} {i : Nat} (hi : i < m.length) : (wS m).getD (8 + m.length + i) 0 = (m.getD i (0, 0, 0, 0)).1 := by
  unfold wS
  rw [getD_apd, if_neg (by simp only [List.length_cons, List.length_nil]; omega), getD_apd, if_neg (by simp only [List.length_cons, List.length_nil, List.length_map]; omega), getD_apd, if_neg (by simp only [List.length_cons, List.length_nil, List.length_map]; omega), getD_apd, if_pos (by simp only [List.length_cons, List.length_nil, List.length_map]; omega)]
  simp only [List.length_cons, List.length_nil, List.length_map]
  rw [show 8 + m.length + i - (0 + 1 + 1 + 1 + 1 + 1 + 1 + 1) - m.length - (0 + 1) = i by omega, getD_mp hi]
theorem w_delta {m : List Sg} {i : Nat} (hi : i < m.length) : (wS m).getD (8 + 2 * m.length + i) 0 = (m.getD i (0, 0, 0, 0)).2.2.1 := by
  unfold wS
  rw [getD_apd, if_neg (by simp only [List.length_cons, List.length_nil]; omega), getD_apd, if_neg (by simp only [List.length_cons, List.length_nil, List.length_map]; omega), getD_apd, if_neg (by simp only [List.length_cons, List.length_nil, List.length_map]; omega), getD_apd, if_neg (by simp only [List.length_cons, List.length_nil, List.length_map]; omega), getD_apd, if_pos (by simp only [List.length_cons, List.length_nil, List.length_map]; omega)]
  simp only [List.length_cons, List.length_nil, List.length_map]
  rw [show 8 + 2 * m.length + i - (0 + 1 + 1 + 1 + 1 + 1 + 1 + 1) - m.length - (0 + 1) - m.length = i by omega, getD_mp hi]
theorem w_off {m : List Sg} {i : Nat} (hi : i < m.length) : (wS m).getD (8 + 3 * m.length + i) 0 = 0 := by
  unfold wS
  rw [getD_apd, if_neg (by simp only [List.length_cons, List.length_nil]; omega), getD_apd, if_neg (by simp only [List.length_cons, List.length_nil, List.length_map]; omega), getD_apd, if_neg (by simp only [List.length_cons, List.length_nil, List.length_map]; omega), getD_apd, if_neg (by simp only [List.length_cons, List.length_nil, List.length_map]; omega), getD_apd, if_neg (by simp only [List.length_cons, List.length_nil, List.length_map]; omega)]
  simp only [List.getD_eq_getElem?_getD, List.getElem?_replicate]
  split <;> rfl
/-- Segments that a table may have. -/
def GoodQ (m : List Sg) : Prop := (∀ s ∈ m, SqOK s) ∧ m.Pairwise (fun s t => s.2.1 < t.1) ∧ 0 < m.length ∧ m.length ≤ 7001 ∧ (m.getD (m.length - 1) (0, 0, 0, 0)).2.1 = 65535
theorem w16_wS {m : List Sg} (h : GoodQ m) : W16 (wS m) := by
  obtain ⟨h1, _, h3, h4, _⟩ := h
  have hs := srch_bd h3 (show m.length ≤ 32767 by omega)
  intro n hn
  unfold wS at hn
  simp only [List.mem_append, List.mem_cons, List.not_mem_nil, or_false, List.mem_map, List.mem_replicate] at hn
  rcases hn with (rfl | rfl | rfl | rfl | rfl | rfl | rfl) | ⟨s, hm, rfl⟩ | rfl | ⟨s, hm, rfl⟩ | ⟨s, hm, rfl⟩ | ⟨_, rfl⟩
  all_goals first | omega | (have := h1 _ hm; unfold SqOK at this; omega)
def nm (s : Sg) : Sg := (s.1, s.2.1, s.2.2.1, -1)
theorem tabS_len (m : List Sg) : (tabS m).length = 16 + 8 * m.length := by unfold tabS; rw [enc2_len, wS_len]; omega
theorem tabS_at {m : List Sg} (h : GoodQ m) {k : Nat} (hk : k < 8 + 4 * m.length) {q : Int} (hq : q = ((2 * k : Nat) : Int)) : n2V (tabS m) q = (wS m).getD k 0 := by
  subst hq
  exact n2_enc0 (w16_wS h) (by rw [wS_len]; exact hk)
theorem tabS_right {m : List Sg} (h : GoodQ m) : rightS (tabS m) = true ∧ segP (tabS m) = m.map nm ∧ datP (tabS m) = tabS m ∧ Byt (tabS m) := by
  have h' := h
  obtain ⟨h1, h2, h3, h4, h5⟩ := h'
  have hsr := srch_bd h3 (show m.length ≤ 32767 by omega)
  have hlen := tabS_len m
  have get : ∀ i, i < m.length → SqOK (m.getD i (0, 0, 0, 0)) := fun i hi => by
    rw [List.getD_eq_getElem?_getD, List.getElem?_eq_getElem hi]
    exact h1 _ (by simp)
  have v0 : n2V (tabS m) 0 = 4 := tabS_at h (k := 0) (by omega) rfl
  have v2 : n2V (tabS m) 2 = 16 + 8 * (m.length : Int) := tabS_at h (k := 1) (by omega) rfl
  have v6 : n2V (tabS m) 6 = 2 * (m.length : Int) := tabS_at h (k := 3) (by omega) rfl
  have v8 : n2V (tabS m) 8 = sA m.length := tabS_at h (k := 4) (by omega) rfl
  have v10 : n2V (tabS m) 10 = sB m.length := tabS_at h (k := 5) (by omega) rfl
  have v12 : n2V (tabS m) 12 = sC m.length := tabS_at h (k := 6) (by omega) rfl
  have hn : nS (tabS m) = m.length := by unfold nS; rw [v6]; omega
  have vend : ∀ i, i < m.length → n2V (tabS m) (14 + 2 * (i : Int)) = (m.getD i (0, 0, 0, 0)).2.1 := fun i hi => (tabS_at h (k := 7 + i) (by omega) (by omega)).trans (w_end hi)
  have vst : ∀ i, i < m.length → n2V (tabS m) (16 + 2 * (m.length : Int) + 2 * (i : Int)) = (m.getD i (0, 0, 0, 0)).1 := fun i hi => (tabS_at h (k := 8 + m.length + i) (by omega) (by omega)).trans (w_start hi)
  have vdl : ∀ i, i < m.length → n2V (tabS m) (16 + 4 * (m.length : Int) + 2 * (i : Int)) = (m.getD i (0, 0, 0, 0)).2.2.1 := fun i hi => (tabS_at h (k := 8 + 2 * m.length + i) (by omega) (by omega)).trans (w_delta hi)
  have vof : ∀ i, i < m.length → n2V (tabS m) (16 + 6 * (m.length : Int) + 2 * (i : Int)) = 0 := fun i hi => (tabS_at h (k := 8 + 3 * m.length + i) (by omega) (by omega)).trans (w_off hi)
  have vpad : n2V (tabS m) (14 + 2 * (m.length : Int)) = 0 := (tabS_at h (k := 7 + m.length) (by omega) (by omega)).trans (w_pad m)
  have vlast : n2V (tabS m) (12 + 2 * (m.length : Int)) = 65535 := by
    have := vend (m.length - 1) (by omega)
    rw [h5] at this
    rwa [show (14 + 2 * ((m.length - 1 : Nat) : Int)) = 12 + 2 * (m.length : Int) by omega] at this
  have hd : hdS (tabS m) = true := hdS_iff.2 (by rw [v0, v2, v6, hlen]; omega)
  have hs : srS (tabS m) = true := srS_iff.2 (by rw [hn]; exact ⟨v8, v10, v12⟩)
  have he : endS (tabS m) = true := by
    simp only [endS, hn, Bool.and_eq_true, decide_eq_true_eq]
    exact ⟨vpad, vlast⟩
  have hr : rightS (tabS m) = true := by
    refine rightS_iff.2 ⟨hd, hs, he, fun i hi => ?_⟩
    rw [hn] at hi ⊢
    have g := get i hi
    unfold SqOK at g
    refine okQ_iff.2 ⟨by rw [vend i hi, vst i hi]; omega, ?_, by rw [vof i hi]; rfl, .inl (vof i hi)⟩
    by_cases h0 : i = 0
    · exact .inl h0
    · right
      have e := vend (i - 1) (by omega)
      rw [show (14 + 2 * ((i - 1 : Nat) : Int)) = 12 + 2 * (i : Int) by omega] at e
      rw [e, vst i hi]
      have := List.pairwise_iff_getElem.1 h2 (i - 1) i (by omega) hi (by omega)
      rw [List.getD_eq_getElem?_getD, List.getD_eq_getElem?_getD, List.getElem?_eq_getElem hi, List.getElem?_eq_getElem (show i - 1 < m.length by omega)]
      exact this
  refine ⟨hr, ?_, ?_, enc2_byt _⟩
  · unfold segP
    rw [hr, if_pos rfl, hn]
    apply List.ext_getElem
    · simp [segsR]
    · intro i g1 g2
      have hi : i < m.length := by simpa using g2
      have e : m.getD i (0, 0, 0, 0) = m[i] := by simp [List.getD_eq_getElem?_getD, hi]
      simp only [segsR, List.getElem_map, List.getElem_range]
      unfold segR nm
      rw [vend i hi, vst i hi, vdl i hi, vof i hi, e]
      rfl
  · unfold datP
    rw [hr, if_pos rfl, v2, List.take_of_length_le (by rw [hlen]; omega)]
theorem look_nm (m : List Sg) (p : List Int) (c : Int) : lookS (m.map nm) p c = if c < 0 ∨ 65535 < c then 0 else lookD m c := by
  unfold lookS lookD
  by_cases h : c < 0 ∨ 65535 < c
  · rw [if_pos h, if_pos h]
  · rw [if_neg h, if_neg h, List.find?_map]
    show (match Option.map nm (m.find? fun s => decide (c ≤ s.2.1)) with | some s => look1 s p c | none => 0) = _
    cases m.find? fun s => decide (c ≤ s.2.1) with
    | none => rfl
    | some s =>
      show look1 (nm s) p c = _
      unfold look1 nm
      simp only
      rfl
theorem good_all {r : List (Int × Int)} (hr : risesB r 65534 = true) (hp : PrOK r) (hl : r.length ≤ 7000) : GoodQ (allQ r) := by
  have h1 := runsQ_ok hr hp (Nat.le_refl r.length)
  have h2 := runsQ_len r r.length
  have hl2 : (allQ r).length = (runsQ r r.length).length + 1 := by unfold allQ; rw [List.length_append, List.length_singleton]
  refine ⟨fun s hs => ?_, ?_, by omega, by omega, ?_⟩
  · unfold allQ at hs
    rcases List.mem_append.1 hs with hs | hs
    · exact (h1.1 s hs).1
    · simp only [List.mem_singleton] at hs; subst hs; exact sq_mk (by omega) (by omega) (by omega) (by omega) (by omega)
  · unfold allQ
    rw [List.pairwise_append]
    exact ⟨h1.2.1, by simp, fun s hs t ht => by simp only [List.mem_singleton] at ht; subst ht; have := (h1.1 s hs).2; simp only; omega⟩
  · rw [hl2, Nat.add_sub_cancel]
    unfold allQ
    rw [List.getD_eq_getElem?_getD, List.getElem?_append_right (Nat.le_refl _), Nat.sub_self]
    rfl
theorem map_nm {m : List Sg} (h : GoodQ m) (hl : (tabS m).length ≤ 10000000) : MapS (m.map nm) (tabS m) := by
  refine ⟨fun i hi => ?_, enc2_byt _, hl⟩
  rw [List.length_map] at hi
  have e : (m.map nm).getD i (0, 0, 0, 0) = nm (m.getD i (0, 0, 0, 0)) := by simp [List.getD_eq_getElem?_getD, hi]
  have g : SqOK (m.getD i (0, 0, 0, 0)) := by
    rw [List.getD_eq_getElem?_getD, List.getElem?_eq_getElem hi]
    exact h.1 _ (by simp)
  rw [e]
  unfold SqOK at g
  unfold SgOK nm
  simp only
  omega
/-- All that is known of a table that was built. -/
theorem built_factsS {r : List (Int × Int)} (hr : risesB r 65534 = true) (hp : PrOK r) (hl : r.length ≤ 7000) : ∃ M B, buildS r = B ∧ M = (allQ r).map nm ∧ Byt B ∧ M.length = (runsQ r r.length).length + 1 ∧ B.length = 16 + 8 * M.length ∧ rightS B = true ∧ segP B = M ∧ datP B = B ∧ MapS M B ∧ (∀ c, lookS M B c = if c < 0 ∨ 65535 < c then 0 else lkP r c) := by
  have hg := good_all hr hp hl
  have ht := tabS_right hg
  have hlen := tabS_len (allQ r)
  have h2 := runsQ_len r r.length
  have hl2 : (allQ r).length = (runsQ r r.length).length + 1 := by unfold allQ; rw [List.length_append, List.length_singleton]
  have e : buildS r = tabS (allQ r) := by unfold buildS; rw [if_pos hr]
  refine ⟨_, _, e, rfl, ht.2.2.2, by rw [List.length_map, hl2], by rw [List.length_map]; exact hlen, ht.1, ht.2.1, ht.2.2.1, map_nm hg (by omega), fun c => ?_⟩
  rw [look_nm]
  by_cases hc : c < 0 ∨ 65535 < c
  · rw [if_pos hc, if_pos hc]
  · rw [if_neg hc, if_neg hc]
    unfold allQ
    have h4 := (runsQ_ok hr hp (Nat.le_refl r.length)).2.2.2 c
    rw [List.take_length] at h4
    rw [lookD_app, lookD_one]
    by_cases hh : hits (runsQ r r.length) c = true
    · rw [if_pos hh, h4]
    · have hf : hits (runsQ r r.length) c = false := by simpa using hh
      rw [lookD_none hf] at h4
      rw [if_neg hh, ← h4]
      simp only
      by_cases h5 : c ≤ 65535 ∧ 65535 ≤ c
      · rw [if_pos h5, show c = 65535 by omega]; rfl
      · rw [if_neg h5]
end Go.AM
