/- The plain law of package seg: a right table's map. No program in sight. -/
import Derived.Test.YtmfobkiljlepjaaG7
set_option linter.unusedVariables false
set_option linter.unusedSimpArgs false
namespace Go.AM
open Go

theorem segsR_len (l : List Int) (n : Nat) : (segsR l n).length = n := by simp [segsR]
theorem segsR_at {l : List Int} {n i : Nat} (h : i < n) : (segsR l n).getD i (0, 0, 0, 0) = segR l n i := by simp [segsR, List.getD_eq_getElem?_getD, h]
theorem segR_ok {l : List Int} (hb : Byt l) {S n i : Nat} (hS : n2V l 2 = S) (hSl : S ≤ l.length) (hS2 : S < 65536) (hn : n ≤ 32767) (hi : i < n) (hk : okQ l n i = true) : SgOK (l.take S).length (segR l n i) := by
  have h := okQ_iff.1 hk
  rw [hS] at h
  have b1 := n2V_bound hb (14 + 2 * (i : Int))
  have b2 := n2V_bound hb (16 + 2 * (n : Int) + 2 * (i : Int))
  have b3 := n2V_bound hb (16 + 4 * (n : Int) + 2 * (i : Int))
  have b4 := n2V_bound hb (16 + 6 * (n : Int) + 2 * (i : Int))
  have hl : (l.take S).length = S := by simp only [List.length_take]; omega
  unfold SgOK segR
  simp only
  rw [hl]
  by_cases h0 : n2V l (16 + 6 * (n : Int) + 2 * (i : Int)) = 0
  · rw [if_pos h0]; omega
  · rw [if_neg h0]; omega
theorem right_mapS {l : List Int} (hb : Byt l) (hr : rightS l = true) : MapS (segP l) (datP l) ∧ (segP l).length = nS l ∧ ∀ c, lookS (segP l) (datP l) c = lookS (segsR l (nS l)) l c := by
  obtain ⟨hd, hs, he, hq⟩ := rightS_iff.1 hr
  obtain ⟨hn0, hn1, hn6, hnS, hSl, h24⟩ := hdS_num hb hd
  have z2 := n2V_bound hb 2
  obtain ⟨S, hS⟩ : ∃ S : Nat, n2V l 2 = S := ⟨(n2V l 2).toNat, by omega⟩
  have e1 : segP l = segsR l (nS l) := by unfold segP; rw [if_pos hr]
  have e2 : datP l = l.take S := by unfold datP; rw [if_pos hr, hS, Int.toNat_natCast]
  rw [hS] at hnS hSl z2
  have ok : ∀ i, i < nS l → SgOK (l.take S).length (segR l (nS l) i) := fun i hi => segR_ok hb hS (by omega) (by omega) hn1 hi (hq i hi)
  have hm : MapS (segsR l (nS l)) (l.take S) := by
    refine ⟨fun i hi => ?_, hb.take _, by simp only [List.length_take]; omega⟩
    rw [segsR_len] at hi
    rw [segsR_at hi]
    exact ok i hi
  rw [e1, e2]
  refine ⟨hm, segsR_len _ _, fun c => ?_⟩
  unfold lookS
  by_cases hc : c < 0 ∨ 65535 < c
  · rw [if_pos hc, if_pos hc]
  · rw [if_neg hc, if_neg hc]
    cases hf : (segsR l (nS l)).find? fun s => decide (c ≤ s.2.1) with
    | none => rfl
    | some s =>
      show look1 s (l.take S) c = look1 s l c
      have hmem := List.mem_of_find?_eq_some hf
      have hce : c ≤ s.2.1 := by
        have := List.find?_some (p := fun s : Sg => decide (c ≤ s.2.1)) hf
        simpa using this
      obtain ⟨i, hi, rfl⟩ : ∃ i, i < nS l ∧ s = segR l (nS l) i := by
        simp only [segsR, List.mem_map, List.mem_range] at hmem
        obtain ⟨i, hi, e⟩ := hmem
        exact ⟨i, hi, e.symm⟩
      have g := ok i hi
      have hl : (l.take S).length = S := by simp only [List.length_take]; omega
      unfold SgOK at g
      rw [hl] at g
      unfold look1
      by_cases h1 : c < (segR l (nS l) i).1
      · rw [if_pos h1, if_pos h1]
      · rw [if_neg h1, if_neg h1]
        by_cases h2 : (segR l (nS l) i).2.2.2 < 0
        · rw [if_pos h2, if_pos h2]
        · rw [if_neg h2, if_neg h2]
          obtain ⟨q, hq2⟩ : ∃ q : Nat, (segR l (nS l) i).2.2.2 + 2 * (c - (segR l (nS l) i).1) = q := ⟨((segR l (nS l) i).2.2.2 + 2 * (c - (segR l (nS l) i).1)).toNat, by omega⟩
          rw [hq2, n2V_take (by omega) (by omega)]
theorem mapS_nil : MapS [] [] := ⟨fun i hi => by simp at hi, Byt.nil, by simp⟩
theorem lookS_nil (p : List Int) (c : Int) : lookS [] p c = 0 := by
  unfold lookS
  split <;> rfl
theorem lookS_bd {m : List Sg} {p : List Int} (hm : MapS m p) (c : Int) : 0 ≤ lookS m p c ∧ lookS m p c ≤ 65535 := by
  unfold lookS
  split
  · omega
  · split
    · unfold look1
      split
      · omega
      · split
        · omega
        · split <;> omega
    · omega
end Go.AM
