/- The plain law of package seg: a table of one segment whose glyphs stand in it. No program in sight. -/
import Derived.Test.YtmfobkiljlepjaaG8
set_option linter.unusedVariables false
set_option linter.unusedSimpArgs false
namespace Go.AM
open Go

def wO0 (n : Nat) (s e d : Int) : List Int := [4, 32 + 2 * (n : Int), 7, 4, 4, 1, 0, e, 65535, 0, s, 65535, d, 1, 4, 0]
theorem offs_right {n : Nat} {s e d : Int} {gs : List Int} (hn : gs.length = n) (hn0 : 0 < n) (hn1 : n ≤ 20) (hs0 : 0 ≤ s) (hs1 : s < 60000) (he : e = s + n - 1) (hd0 : 0 ≤ d) (hd1 : d < 65536) (hg : W16 gs) :
    ∃ T M, enc2 (wO0 n s e d ++ gs) = T ∧ M = [(s, e, d, (32 : Int)), (65535, 65535, 1, -1)] ∧ Byt T ∧ T.length ≤ 1000 ∧ rightS T = true ∧ segP T = M ∧ datP T = T ∧ MapS M T ∧ (∀ i, i < n → n2V T (32 + 2 * (i : Int)) = gs.getD i 0) := by
  have hlen : (enc2 (wO0 n s e d ++ gs)).length = 32 + 2 * n := by
    rw [enc2_len, List.length_append, hn]
    show 2 * (16 + n) = _
    omega
  have hw : W16 (wO0 n s e d ++ gs) := fun x hx => by
    rcases List.mem_append.1 hx with hx | hx
    · simp only [wO0, List.mem_cons, List.not_mem_nil, or_false] at hx
      omega
    · exact hg x hx
  have hat : ∀ (k : Nat) (q : Int), k < 16 + n → q = ((2 * k : Nat) : Int) → n2V (enc2 (wO0 n s e d ++ gs)) q = (wO0 n s e d ++ gs).getD k 0 := fun k q hk hq => by
    subst hq
    refine n2_enc0 hw ?_
    rw [List.length_append, hn]
    exact hk
  have hgl : ∀ i, i < n → n2V (enc2 (wO0 n s e d ++ gs)) (32 + 2 * (i : Int)) = gs.getD i 0 := fun i hi => by
    rw [hat (16 + i) _ (by omega) (by omega)]
    rw [List.getD_eq_getElem?_getD, List.getElem?_append_right (by show 16 ≤ 16 + i; omega), List.getD_eq_getElem?_getD]
    congr 2
    show 16 + i - 16 = i
    omega
  have hb := enc2_byt (wO0 n s e d ++ gs)
  generalize enc2 (wO0 n s e d ++ gs) = T at hlen hat hgl hb
  have v0 : n2V T 0 = 4 := hat 0 0 (by omega) rfl
  have v2 : n2V T 2 = 32 + 2 * (n : Int) := hat 1 2 (by omega) rfl
  have v6 : n2V T 6 = 4 := hat 3 6 (by omega) rfl
  have v8 : n2V T 8 = 4 := hat 4 8 (by omega) rfl
  have v10 : n2V T 10 = 1 := hat 5 10 (by omega) rfl
  have v12 : n2V T 12 = 0 := hat 6 12 (by omega) rfl
  have v14 : n2V T 14 = e := hat 7 14 (by omega) rfl
  have v16 : n2V T 16 = 65535 := hat 8 16 (by omega) rfl
  have v18 : n2V T 18 = 0 := hat 9 18 (by omega) rfl
  have v20 : n2V T 20 = s := hat 10 20 (by omega) rfl
  have v22 : n2V T 22 = 65535 := hat 11 22 (by omega) rfl
  have v24 : n2V T 24 = d := hat 12 24 (by omega) rfl
  have v26 : n2V T 26 = 1 := hat 13 26 (by omega) rfl
  have v28 : n2V T 28 = 4 := hat 14 28 (by omega) rfl
  have v30 : n2V T 30 = 0 := hat 15 30 (by omega) rfl
  have hnS : nS T = 2 := by unfold nS; rw [v6]; rfl
  have hd : hdS T = true := hdS_iff.2 (by rw [v0, v2, v6, hlen]; omega)
  have hsr : srS T = true := srS_iff.2 (by rw [hnS, v8, v10, v12]; exact ⟨rfl, rfl, rfl⟩)
  have hen : endS T = true := by
    simp only [endS, hnS, Bool.and_eq_true, decide_eq_true_eq]
    exact ⟨v18, v16⟩
  have hr : rightS T = true := by
    refine rightS_iff.2 ⟨hd, hsr, hen, fun i hi => ?_⟩
    rw [hnS] at hi ⊢
    have h2 : i = 0 ∨ i = 1 := by omega
    rcases h2 with rfl | rfl
    · refine okQ_iff.2 ?_
      show n2V T 20 ≤ n2V T 14 ∧ (0 = 0 ∨ n2V T 12 < n2V T 20) ∧ n2V T 28 % 2 = 0 ∧ (n2V T 28 = 0 ∨ 28 + n2V T 28 + 2 * (n2V T 14 - n2V T 20) + 2 ≤ n2V T 2)
      rw [v20, v14, v28, v2]
      omega
    · refine okQ_iff.2 ?_
      show n2V T 22 ≤ n2V T 16 ∧ (1 = 0 ∨ n2V T 14 < n2V T 22) ∧ n2V T 30 % 2 = 0 ∧ (n2V T 30 = 0 ∨ _)
      rw [v22, v16, v14, v30]
      exact ⟨by omega, .inr (by omega), rfl, .inl rfl⟩
  have hsg : segP T = [(s, e, d, (32 : Int)), (65535, 65535, 1, -1)] := by
    have e0 : segR T 2 0 = (s, e, d, (32 : Int)) := by
      show (n2V T 20, n2V T 14, n2V T 24, if n2V T 28 = 0 then (-1 : Int) else 28 + n2V T 28) = _
      rw [v20, v14, v24, v28]
      rfl
    have e1 : segR T 2 1 = (65535, 65535, 1, -1) := by
      show (n2V T 22, n2V T 16, n2V T 26, if n2V T 30 = 0 then (-1 : Int) else 30 + n2V T 30) = _
      rw [v22, v16, v26, v30]
      rfl
    unfold segP
    rw [hr, if_pos rfl, hnS]
    show [segR T 2 0, segR T 2 1] = _
    rw [e0, e1]
  have hdt : datP T = T := by
    unfold datP
    rw [hr, if_pos rfl, v2, List.take_of_length_le (by rw [hlen]; omega)]
  refine ⟨T, _, rfl, rfl, hb, by omega, hr, hsg, hdt, ?_, hgl⟩
  have := (right_mapS hb hr).1
  rwa [hsg, hdt] at this
theorem offs_look {s e d : Int} {T : List Int} {c : Int} (hs : 0 ≤ s) (he : e ≤ 65534) (hse : s ≤ e) : lookS [(s, e, d, (32 : Int)), (65535, 65535, 1, -1)] T c = if s ≤ c ∧ c ≤ e then (if n2V T (32 + 2 * (c - s)) = 0 then 0 else (n2V T (32 + 2 * (c - s)) + d) % 65536) else 0 := by
  unfold lookS
  by_cases h0 : c < 0 ∨ 65535 < c
  · rw [if_pos h0, if_neg (by omega)]
  · rw [if_neg h0]
    by_cases h1 : c ≤ e
    · simp only [List.find?_cons, decide_eq_true h1]
      unfold look1
      simp only
      by_cases h2 : c < s
      · rw [if_pos h2, if_neg (by omega)]
      · rw [if_neg h2, if_neg (show ¬ (32 : Int) < 0 by decide), if_pos (show s ≤ c ∧ c ≤ e by omega)]
    · simp only [List.find?_cons, decide_eq_false h1, decide_eq_true (show c ≤ 65535 by omega)]
      rw [if_neg (by omega)]
      unfold look1
      simp only
      by_cases h2 : c < 65535
      · rw [if_pos h2]
      · rw [if_neg h2, if_pos (show (-1 : Int) < 0 by decide), show c = 65535 by omega]; rfl
end Go.AM
