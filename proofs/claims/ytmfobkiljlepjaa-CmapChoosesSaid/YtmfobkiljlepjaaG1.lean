/- The plain law of package group: runs of pairs, the table of them. No program in sight. -/
import Derived.Test.YtmfobkiljlepjaaC18
import Derived.Test.YtmfobkiljlepjaaG0
set_option linter.unusedVariables false
set_option linter.unusedSimpArgs false
namespace Go.AM
open Go

/-- One pair more: it goes on with the last run, or begins one. -/
def stepR (l : List (Int × Int)) (i : Nat) (m : List (Int × Int × Int)) : List (Int × Int × Int) :=
  if 0 < i ∧ cd l i = cd l (i - 1) + 1 ∧ gl l i = gl l (i - 1) + 1 then m.set (m.length - 1) ((m.getD (m.length - 1) (0, 0, 0)).1, cd l i, (m.getD (m.length - 1) (0, 0, 0)).2.2) else m ++ [(cd l i, cd l i, gl l i)]
def runsTo (l : List (Int × Int)) : Nat → List (Int × Int × Int)
  | 0 => []
  | i + 1 => stepR l i (runsTo l i)
/-- A span that may be one. -/
def SpOK (s : Int × Int × Int) : Prop := 0 ≤ s.1 ∧ s.1 ≤ s.2.1 ∧ s.2.1 ≤ 1114111 ∧ 0 ≤ s.2.2 ∧ s.2.2 + (s.2.1 - s.1) ≤ 65535
/-- The pairs that it stands for. -/
def expS (s : Int × Int × Int) : List (Int × Int) := (List.range (s.2.1 - s.1 + 1).toNat).map fun k : Nat => (s.1 + (k : Int), s.2.2 + (k : Int))
theorem expS_one (c g : Int) : expS (c, c, g) = [(c, g)] := by simp [expS]
theorem expS_snoc {a e g : Int} (h : a ≤ e) : expS (a, e + 1, g) = expS (a, e, g) ++ [(e + 1, g + (e + 1 - a))] := by
  unfold expS
  simp only
  have e1 : (e + 1 - a + 1).toNat = (e - a + 1).toNat + 1 := by omega
  rw [e1, List.range_succ, List.map_append]
  congr 1
  simp only [List.map_cons, List.map_nil, List.cons.injEq, Prod.mk.injEq, and_true]
  omega
structure RunInv (l : List (Int × Int)) (i : Nat) : Prop where
  inv : ∃ pre a g, runsTo l i = pre ++ [(a, cd l (i - 1), g)] ∧ (∀ s ∈ pre, SpOK s ∧ s.2.1 < a) ∧ pre.Pairwise (fun s t => s.2.1 < t.1) ∧ SpOK (a, cd l (i - 1), g) ∧ g + (cd l (i - 1) - a) = gl l (i - 1) ∧ (runsTo l i).flatMap expS = l.take i
theorem runs_inv {l : List (Int × Int)} (hr : risesB l 1114111 = true) (hp : PrOK l) : ∀ i, i < l.length → RunInv l (i + 1)
  | 0, h0 => by
    have h1 := rises_at hr h0
    have h2 := hp 0
    refine ⟨[], cd l 0, gl l 0, ?_, by simp, by simp, ?_, by simp, ?_⟩
    · simp [runsTo, stepR]
    · unfold SpOK; simp only [Nat.zero_add, Nat.sub_self]; omega
    · simp only [runsTo, stepR, Nat.lt_irrefl, false_and, if_false, List.nil_append, List.flatMap_cons, List.flatMap_nil, List.append_nil, Nat.zero_add]
      rw [expS_one, List.take_add_one, List.getElem?_eq_getElem h0, pair_at h0]
      rfl
  | i + 1, hi => by
    obtain ⟨pre, a, g, e, hpre, hpw, hok, hg, hexp⟩ := (runs_inv hr hp i (by omega)).inv
    have h1 := rises_at hr hi
    have h2 := hp (i + 1)
    have h3 := h1.2.2 (by omega)
    simp only [Nat.add_sub_cancel] at e hok hg h3
    have htake : l.take (i + 1 + 1) = l.take (i + 1) ++ [(cd l (i + 1), gl l (i + 1))] := by
      rw [List.take_add_one, List.getElem?_eq_getElem hi, pair_at hi]; rfl
    by_cases hc : cd l (i + 1) = cd l i + 1 ∧ gl l (i + 1) = gl l i + 1
    · have es : runsTo l (i + 1 + 1) = pre ++ [(a, cd l (i + 1), g)] := by
        show stepR l (i + 1) (runsTo l (i + 1)) = _
        unfold stepR
        rw [if_pos ⟨by omega, by simpa using hc.1, by simpa using hc.2⟩, e]
        have el : (pre ++ [(a, cd l i, g)]).length - 1 = pre.length := by simp
        rw [el, List.set_append_right _ _ (Nat.le_refl _), Nat.sub_self, List.getD_eq_getElem?_getD, List.getElem?_append_right (Nat.le_refl _), Nat.sub_self]
        rfl
      refine ⟨pre, a, g, by simpa using es, hpre, hpw, ?_, by simp only [Nat.add_sub_cancel]; omega, ?_⟩
      · unfold SpOK at hok ⊢; simp only [Nat.add_sub_cancel] at hok ⊢; omega
      · rw [es, htake, ← hexp, e, List.flatMap_append, List.flatMap_append]
        simp only [List.flatMap_cons, List.flatMap_nil, List.append_nil]
        have hok' : a ≤ cd l i := hok.2.1
        rw [hc.1, expS_snoc hok', List.append_assoc, hc.2]
        have : g + (cd l i + 1 - a) = gl l i + 1 := by omega
        rw [this]
    · have es : runsTo l (i + 1 + 1) = (pre ++ [(a, cd l i, g)]) ++ [(cd l (i + 1), cd l (i + 1), gl l (i + 1))] := by
        show stepR l (i + 1) (runsTo l (i + 1)) = _
        unfold stepR
        rw [if_neg (fun h => hc ⟨by simpa using h.2.1, by simpa using h.2.2⟩), e]
      have hae : a ≤ cd l i := hok.2.1
      refine ⟨pre ++ [(a, cd l i, g)], cd l (i + 1), gl l (i + 1), by simpa using es, ?_, ?_, ?_, by simp, ?_⟩
      · intro s hs
        rcases List.mem_append.1 hs with hs | hs
        · exact ⟨(hpre s hs).1, by have := (hpre s hs).2; omega⟩
        · simp at hs; subst hs; exact ⟨hok, h3⟩
      · rw [List.pairwise_append]
        exact ⟨hpw, by simp, fun s hs t ht => by simp at ht; subst ht; exact (hpre s hs).2⟩
      · unfold SpOK; simp only [Nat.add_sub_cancel]; omega
      · rw [es, htake, ← hexp, e, List.flatMap_append (xs := pre ++ [(a, cd l i, g)])]
        simp only [List.flatMap_cons, List.flatMap_nil, List.append_nil]
        rw [expS_one]
theorem runs_ok {l : List (Int × Int)} (hr : risesB l 1114111 = true) (hp : PrOK l) {i : Nat} (hi : i ≤ l.length) : (∀ s ∈ runsTo l i, SpOK s) ∧ (runsTo l i).Pairwise (fun s t => s.2.1 < t.1) ∧ (runsTo l i).flatMap expS = l.take i ∧ (0 < i → 0 < (runsTo l i).length) ∧ (runsTo l i).length ≤ i := by
  have hlen : ∀ i, (runsTo l i).length ≤ i := by
    intro i
    induction i with
    | zero => simp [runsTo]
    | succ i ih =>
      show (stepR l i (runsTo l i)).length ≤ _
      unfold stepR
      split
      · simp only [List.length_set]; omega
      · simp only [List.length_append, List.length_cons, List.length_nil]; omega
  cases i with
  | zero => exact ⟨by simp [runsTo], by simp [runsTo], by simp [runsTo], by omega, hlen 0⟩
  | succ i =>
    obtain ⟨pre, a, g, e, hpre, hpw, hok, hg, hexp⟩ := (runs_inv hr hp i (by omega)).inv
    refine ⟨fun s hs => ?_, ?_, hexp, fun _ => by rw [e]; simp, hlen _⟩
    · rw [e] at hs
      rcases List.mem_append.1 hs with hs | hs
      · exact (hpre s hs).1
      · simp at hs; subst hs; exact hok
    · rw [e, List.pairwise_append]
      exact ⟨hpw, by simp, fun s hs t ht => by simp at ht; subst ht; exact (hpre s hs).2⟩
/-- The table. -/
def encS (m : List (Int × Int × Int)) : List Int := m.flatMap fun s => b4 s.1 ++ (b4 s.2.1 ++ b4 s.2.2)
def tabG (m : List (Int × Int × Int)) : List Int := [0, 12, 0, 0] ++ (b4 (16 + 12 * (m.length : Int)) ++ (b4 0 ++ (b4 (m.length : Int) ++ encS m)))
def buildG (l : List (Int × Int)) : List Int := if risesB l 1114111 = true then tabG (runsTo l l.length) else []
theorem encS_snoc (m : List (Int × Int × Int)) (s : Int × Int × Int) : encS (m ++ [s]) = encS m ++ (b4 s.1 ++ (b4 s.2.1 ++ b4 s.2.2)) := by simp [encS]
theorem encS_len (m : List (Int × Int × Int)) : (encS m).length = 12 * m.length := by
  induction m with
  | nil => rfl
  | cons s m ih => simp only [encS, List.flatMap_cons, List.length_append, List.length_cons] at ih ⊢; rw [ih]; simp [b4]; omega
theorem encS_byt {m : List (Int × Int × Int)} (h : ∀ s ∈ m, SpOK s) : Byt (encS m) := by
  intro b hb
  simp only [encS, List.mem_flatMap, List.mem_append] at hb
  obtain ⟨s, hs, hb⟩ := hb
  have := h s hs
  unfold SpOK at this
  rcases hb with hb | hb | hb
  · exact b4_byt (by omega) (by omega) b hb
  · exact b4_byt (by omega) (by omega) b hb
  · exact b4_byt (by omega) (by omega) b hb
end Go.AM
