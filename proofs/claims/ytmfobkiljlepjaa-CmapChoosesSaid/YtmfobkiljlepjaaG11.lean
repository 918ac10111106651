/- Pairs whose codes rise by gaps. No program in sight. -/
import Derived.Test.YtmfobkiljlepjaaG0
set_option linter.unusedVariables false
set_option linter.unusedSimpArgs false
namespace Go.AM
open Go

/-- Pairs whose codes rise by gaps. -/
def rsg (md lim : Int) : Nat → Int → List Int → List Int → List (Int × Int)
  | k + 1, at_, g :: gs, h :: hs => if at_ + (1 + g % md) > lim then [] else (at_ + (1 + g % md), h) :: rsg md lim k (at_ + (1 + g % md)) gs hs
  | _, _, _, _ => []
theorem rsg_stop {md lim : Int} {k : Nat} {a : Int} {gs hs : List Int} (h : k = 0 ∨ gs = [] ∨ hs = []) : rsg md lim k a gs hs = [] := by
  rcases h with rfl | rfl | rfl
  · rfl
  · cases k <;> rfl
  · cases k <;> cases gs <;> rfl
theorem rsg_step {md lim : Int} {n : Nat} {a : Int} {gs hs : List Int} {i : Nat} (hi : i < n) (h1 : i < gs.length) (h2 : i < hs.length) :
    rsg md lim (n - i) a (gs.drop i) (hs.drop i) = if a + (1 + gs.getD i 0 % md) > lim then [] else (a + (1 + gs.getD i 0 % md), hs.getD i 0) :: rsg md lim (n - (i + 1)) (a + (1 + gs.getD i 0 % md)) (gs.drop (i + 1)) (hs.drop (i + 1)) := by
  have e : n - i = (n - (i + 1)) + 1 := by omega
  rw [e, List.drop_eq_getElem_cons h1, List.drop_eq_getElem_cons h2, List.getD_eq_getElem?_getD, List.getD_eq_getElem?_getD, List.getElem?_eq_getElem h1, List.getElem?_eq_getElem h2]
  rfl
/-- What rising makes. -/
theorem rsg_at {md lim : Int} (hm : 0 < md) {k : Nat} {a : Int} {gs hs : List Int} (hh : W16 hs) (ha : -1 ≤ a) (hl : lim ≤ 2147483647) : ∀ i, i < (rsg md lim k a gs hs).length → a < cd (rsg md lim k a gs hs) i ∧ cd (rsg md lim k a gs hs) i ≤ lim ∧ 0 ≤ gl (rsg md lim k a gs hs) i ∧ gl (rsg md lim k a gs hs) i ≤ 65535 ∧ (0 < i → cd (rsg md lim k a gs hs) (i - 1) < cd (rsg md lim k a gs hs) i) := by
  induction k generalizing a gs hs with
  | zero => intro i hi; exact absurd hi (Nat.not_lt_zero _)
  | succ k ih =>
    cases gs with
    | nil => intro i hi; exact absurd hi (Nat.not_lt_zero _)
    | cons g gs =>
      cases hs with
      | nil => intro i hi; exact absurd hi (Nat.not_lt_zero _)
      | cons h hs =>
        intro i hi
        have h0 := hh h (by simp)
        have hm0 := Int.emod_nonneg g (show md ≠ 0 by omega)
        simp only [rsg] at hi ⊢
        by_cases hc : a + (1 + g % md) > lim
        · rw [if_pos hc] at hi; exact absurd hi (Nat.not_lt_zero _)
        · rw [if_neg hc] at hi ⊢
          have ih2 := ih (a := a + (1 + g % md)) (gs := gs) (hs := hs) (fun x hx => hh x (by simp [hx])) (by omega)
          cases i with
          | zero => simp only [cd, gl, List.getD_cons_zero]; omega
          | succ i =>
            have := ih2 i (by simpa using hi)
            refine ⟨?_, ?_, ?_, ?_, fun _ => ?_⟩
            · simp only [cd, gl, List.getD_cons_succ] at this ⊢; omega
            · simp only [cd, gl, List.getD_cons_succ] at this ⊢; omega
            · simp only [cd, gl, List.getD_cons_succ] at this ⊢; omega
            · simp only [cd, gl, List.getD_cons_succ] at this ⊢; omega
            · cases i with
              | zero => simp only [cd, gl, List.getD_cons_succ, Nat.add_sub_cancel, List.getD_cons_zero] at this ⊢; omega
              | succ i => 
                simp only [cd, gl, List.getD_cons_succ, Nat.add_sub_cancel] at this ⊢; exact this.2.2.2.2 (by omega)
theorem rsg_rises {md lim : Int} (hm : 0 < md) {k : Nat} {a : Int} {gs hs : List Int} (hh : W16 hs) (ha : -1 ≤ a) (hl : lim ≤ 2147483647) : risesB (rsg md lim k a gs hs) lim = true := by
  simp only [risesB, List.all_eq_true, List.mem_range]
  intro i hi
  have := rsg_at hm hh ha hl i hi
  simp only [cnd, Bool.and_eq_true, Bool.or_eq_true, decide_eq_true_eq]
  omega
theorem rsg_ok {md lim : Int} (hm : 0 < md) {k : Nat} {a : Int} {gs hs : List Int} (hh : W16 hs) (ha : -1 ≤ a) (hl : lim ≤ 2147483647) : PrOK (rsg md lim k a gs hs) := fun i => by
  by_cases hi : i < (rsg md lim k a gs hs).length
  · have := rsg_at hm hh ha hl i hi; omega
  · simp only [cd, gl, List.getD_eq_getElem?_getD, List.getElem?_eq_none (show (rsg md lim k a gs hs).length ≤ i by omega), Option.getD_none]; omega
theorem rsg_len {md lim : Int} {k : Nat} {a : Int} {gs hs : List Int} : (rsg md lim k a gs hs).length ≤ k := by
  induction k generalizing a gs hs with
  | zero => exact Nat.le_refl _
  | succ k ih =>
    cases gs with
    | nil => exact Nat.zero_le _
    | cons g gs =>
      cases hs with
      | nil => exact Nat.zero_le _
      | cons h hs =>
        simp only [rsg]
        split
        · exact Nat.zero_le _
        · simp only [List.length_cons]; have := ih (a := a + (1 + g % md)) (gs := gs) (hs := hs); omega
end Go.AM
