/- The plain law of package seg: runs of pairs, the table of them, and that it is read as it was. No program in sight. -/
import Derived.Test.YtmfobkiljlepjaaC33
import Derived.Test.YtmfobkiljlepjaaG0
set_option linter.unusedVariables false
set_option linter.unusedSimpArgs false
namespace Go.AM
open Go

abbrev Sg := Int × Int × Int × Int
/-- One pair more: it goes on with the last run, or begins one. -/
def stepQ (l : List (Int × Int)) (i : Nat) (m : List Sg) : List Sg :=
  if 0 < i ∧ cd l i = cd l (i - 1) + 1 ∧ gl l i = (gl l (i - 1) + 1) % 65536 then m.set (m.length - 1) ((m.getD (m.length - 1) (0, 0, 0, 0)).1, cd l i, (m.getD (m.length - 1) (0, 0, 0, 0)).2.2.1, (m.getD (m.length - 1) (0, 0, 0, 0)).2.2.2) else m ++ [(cd l i, cd l i, (gl l i - cd l i) % 65536, 0)]
def runsQ (l : List (Int × Int)) : Nat → List Sg
  | 0 => []
  | i + 1 => stepQ l i (runsQ l i)
/-- A segment of a run. -/
def SqOK (s : Sg) : Prop := 0 ≤ s.1 ∧ s.1 ≤ s.2.1 ∧ s.2.1 ≤ 65535 ∧ 0 ≤ s.2.2.1 ∧ s.2.2.1 < 65536 ∧ s.2.2.2 = 0
theorem sq_mk {a b d : Int} (h1 : 0 ≤ a) (h2 : a ≤ b) (h3 : b ≤ 65535) (h4 : 0 ≤ d) (h5 : d < 65536) : SqOK (a, b, d, 0) := ⟨h1, h2, h3, h4, h5, rfl⟩
def lookD (m : List Sg) (c : Int) : Int := match m.find? fun s => decide (c ≤ s.2.1) with
  | some s => if c < s.1 then 0 else (c + s.2.2.1) % 65536
  | none => 0
def hits (m : List Sg) (c : Int) : Bool := m.any fun s => decide (c ≤ s.2.1)
theorem lookD_app (m r : List Sg) (c : Int) : lookD (m ++ r) c = if hits m c = true then lookD m c else lookD r c := by
  unfold lookD hits
  rw [List.find?_append]
  cases h : m.find? fun s => decide (c ≤ s.2.1) with
  | none =>
    rw [List.find?_eq_none] at h
    have : (m.any fun s => decide (c ≤ s.2.1)) = false := by
      rw [List.any_eq_false]
      exact h
    rw [this]
    simp
  | some s =>
    have : (m.any fun s => decide (c ≤ s.2.1)) = true := by
      rw [List.any_eq_true]
      have h2 := List.find?_some (p := fun s : Sg => decide (c ≤ s.2.1)) h
      exact ⟨s, List.mem_of_find?_eq_some h, h2⟩
    rw [this]
    simp
theorem lookD_none {m : List Sg} {c : Int} (h : hits m c = false) : lookD m c = 0 := by
  unfold lookD
  unfold hits at h
  rw [List.any_eq_false] at h
  rw [List.find?_eq_none.2 h]
theorem lookD_one (s : Sg) (c : Int) : lookD [s] c = if c ≤ s.2.1 ∧ s.1 ≤ c then (c + s.2.2.1) % 65536 else 0 := by
  unfold lookD
  by_cases h : c ≤ s.2.1
  · simp only [List.find?_cons, decide_eq_true h]
    by_cases h2 : c < s.1
    · rw [if_pos h2, if_neg (by omega)]
    · rw [if_neg h2, if_pos ⟨h, by omega⟩]
  · simp only [List.find?_cons, decide_eq_false h, List.find?_nil]
    rw [if_neg (by omega)]
theorem hits_lt {m : List Sg} {c a : Int} (h : ∀ s ∈ m, s.2.1 < a) (hh : hits m c = true) : c < a := by
  unfold hits at hh
  rw [List.any_eq_true] at hh
  obtain ⟨s, hs, h2⟩ := hh
  have := h s hs
  simp only [decide_eq_true_eq] at h2
  omega
structure SInv (l : List (Int × Int)) (i : Nat) : Prop where
  inv : ∃ pre a d, runsQ l (i + 1) = pre ++ [(a, cd l i, d, 0)] ∧ (∀ s ∈ pre, SqOK s ∧ s.2.1 < a) ∧ pre.Pairwise (fun s t => s.2.1 < t.1) ∧ SqOK (a, cd l i, d, 0) ∧ gl l i = (cd l i + d) % 65536 ∧ ∀ c, lookD (runsQ l (i + 1)) c = lkP (l.take (i + 1)) c
theorem take_snocP {l : List (Int × Int)} {i : Nat} (hi : i < l.length) : l.take (i + 1) = l.take i ++ [(cd l i, gl l i)] := by
  rw [take_snoc' (0, 0) hi]
  rfl
theorem runsQ_inv {l : List (Int × Int)} (hr : risesB l 65534 = true) (hp : PrOK l) : ∀ i, i < l.length → SInv l i
  | 0, h0 => by
    have h1 := rises_at hr h0
    have h2 := hp 0
    have e : runsQ l 1 = [(cd l 0, cd l 0, (gl l 0 - cd l 0) % 65536, 0)] := by simp [runsQ, stepQ]
    refine ⟨[], cd l 0, (gl l 0 - cd l 0) % 65536, e, by simp, by simp, ?_, by omega, fun c => ?_⟩
    · exact sq_mk (by omega) (by omega) (by omega) (by omega) (by omega)
    · rw [e, lookD_one, take_snocP h0]
      simp only [List.take_zero, List.nil_append]
      show _ = if cd l 0 = c then gl l 0 else 0
      by_cases hc : cd l 0 = c
      · rw [if_pos hc, if_pos (by omega)]; omega
      · rw [if_neg hc, if_neg (fun h => hc (Int.le_antisymm h.2 h.1))]
  | i + 1, hi => by
    obtain ⟨pre, a, d, e, hpre, hpw, hok, hg, hlk⟩ := (runsQ_inv hr hp i (by omega)).inv
    have h1 := rises_at hr hi
    have h0 := rises_at hr (show i < l.length by omega)
    have h2 := hp (i + 1)
    have h3 := h1.2.2 (by omega)
    rw [Nat.add_sub_cancel] at h3
    have hlt : ∀ s ∈ pre, s.2.1 < a := fun s hs => (hpre s hs).2
    unfold SqOK at hok
    simp only at hok
    by_cases hcn : cd l (i + 1) = cd l i + 1 ∧ gl l (i + 1) = (gl l i + 1) % 65536
    · have es : runsQ l (i + 1 + 1) = pre ++ [(a, cd l (i + 1), d, 0)] := by
        show stepQ l (i + 1) (runsQ l (i + 1)) = _
        unfold stepQ
        rw [if_pos ⟨by omega, by simpa using hcn.1, by simpa using hcn.2⟩, e]
        have el : (pre ++ [(a, cd l i, d, (0 : Int))]).length - 1 = pre.length := by simp
        rw [el, List.set_append_right _ _ (Nat.le_refl _), Nat.sub_self, List.getD_eq_getElem?_getD, List.getElem?_append_right (Nat.le_refl _), Nat.sub_self]
        rfl
      refine ⟨pre, a, d, es, hpre, hpw, ?_, by omega, fun c => ?_⟩
      · exact sq_mk (by omega) (by omega) (by omega) (by omega) (by omega)
      · have h5 := hlk c
        rw [e, lookD_app, lookD_one] at h5
        rw [es, lookD_app, lookD_one, lk_take hr hi c, ← h5]
        by_cases hh : hits pre c = true
        · have := hits_lt hlt hh
          rw [if_pos hh, if_pos hh, if_neg (by omega)]
        · rw [if_neg hh, if_neg hh]
          simp only
          by_cases hc : cd l (i + 1) = c
          · rw [if_pos hc, if_pos (by omega)]; omega
          · rw [if_neg hc]
            by_cases h6 : c ≤ cd l i ∧ a ≤ c
            · rw [if_pos h6, if_pos (by omega)]
            · rw [if_neg h6, if_neg (by omega)]
    · have es : runsQ l (i + 1 + 1) = (pre ++ [(a, cd l i, d, 0)]) ++ [(cd l (i + 1), cd l (i + 1), (gl l (i + 1) - cd l (i + 1)) % 65536, 0)] := by
        show stepQ l (i + 1) (runsQ l (i + 1)) = _
        unfold stepQ
        rw [if_neg (fun h => hcn ⟨by simpa using h.2.1, by simpa using h.2.2⟩), e]
      have hall : ∀ s ∈ pre ++ [(a, cd l i, d, (0 : Int))], SqOK s ∧ s.2.1 < cd l (i + 1) := by
        intro s hs
        rcases List.mem_append.1 hs with hs | hs
        · exact ⟨(hpre s hs).1, by have := (hpre s hs).2; omega⟩
        · simp only [List.mem_singleton] at hs; subst hs; exact ⟨by exact sq_mk (by omega) (by omega) (by omega) (by omega) (by omega), h3⟩
      refine ⟨pre ++ [(a, cd l i, d, 0)], cd l (i + 1), (gl l (i + 1) - cd l (i + 1)) % 65536, es, hall, ?_, ?_, by omega, fun c => ?_⟩
      · rw [List.pairwise_append]
        exact ⟨hpw, by simp, fun s hs t ht => by simp only [List.mem_singleton] at ht; subst ht; exact (hpre s hs).2⟩
      · exact sq_mk (by omega) (by omega) (by omega) (by omega) (by omega)
      · have h5 := hlk c
        rw [e] at h5
        rw [es, lookD_app, lookD_one, lk_take hr hi c, ← h5]
        by_cases hh : hits (pre ++ [(a, cd l i, d, (0 : Int))]) c = true
        · have := hits_lt (fun s hs => (hall s hs).2) hh
          rw [if_pos hh, if_neg (by omega)]
        · have hf : hits (pre ++ [(a, cd l i, d, (0 : Int))]) c = false := by simpa using hh
          rw [if_neg hh, lookD_none hf]
          simp only
          by_cases hc : cd l (i + 1) = c
          · rw [if_pos hc, if_pos (by omega)]; omega
          · rw [if_neg hc, if_neg (by omega)]
theorem runsQ_len (l : List (Int × Int)) (i : Nat) : (runsQ l i).length ≤ i := by
  induction i with
  | zero => simp [runsQ]
  | succ i ih =>
    show (stepQ l i (runsQ l i)).length ≤ _
    unfold stepQ
    split
    · simp only [List.length_set]; omega
    · simp only [List.length_append, List.length_cons, List.length_nil]; omega
theorem runsQ_ok {l : List (Int × Int)} (hr : risesB l 65534 = true) (hp : PrOK l) {i : Nat} (hi : i ≤ l.length) : (∀ s ∈ runsQ l i, SqOK s ∧ s.2.1 ≤ 65534) ∧ (runsQ l i).Pairwise (fun s t => s.2.1 < t.1) ∧ (0 < i → 0 < (runsQ l i).length) ∧ ∀ c, lookD (runsQ l i) c = lkP (l.take i) c := by
  cases i with
  | zero => exact ⟨by simp [runsQ], by simp [runsQ], by omega, fun c => rfl⟩
  | succ i =>
    obtain ⟨pre, a, d, e, hpre, hpw, hok, hg, hlk⟩ := (runsQ_inv hr hp i (by omega)).inv
    have h1 := rises_at hr (show i < l.length by omega)
    refine ⟨fun s hs => ?_, ?_, fun _ => by rw [e]; simp, hlk⟩
    · rw [e] at hs
      rcases List.mem_append.1 hs with hs | hs
      · have h2 := hpre s hs
        have h3 := hok.2.1
        simp only at h3
        exact ⟨h2.1, by omega⟩
      · simp only [List.mem_singleton] at hs; subst hs; exact ⟨hok, h1.2.1⟩
    · rw [e, List.pairwise_append]
      exact ⟨hpw, by simp, fun s hs t ht => by simp only [List.mem_singleton] at ht; subst ht; exact (hpre s hs).2⟩
/-- All runs, and the last segment. -/
def allQ (l : List (Int × Int)) : List Sg := runsQ l l.length ++ [(65535, 65535, 1, 0)]
/-- The words of a table. -/
def wS (m : List Sg) : List Int := [4, 16 + 8 * (m.length : Int), 0, 2 * (m.length : Int), (sA m.length : Int), (sB m.length : Int), (sC m.length : Int)] ++ (m.map (fun s => s.2.1) ++ ([0] ++ (m.map (fun s => s.1) ++ (m.map (fun s => s.2.2.1) ++ List.replicate m.length 0))))
def tabS (m : List Sg) : List Int := enc2 (wS m)
def buildS (l : List (Int × Int)) : List Int := if risesB l 65534 = true then tabS (allQ l) else []
end Go.AM
