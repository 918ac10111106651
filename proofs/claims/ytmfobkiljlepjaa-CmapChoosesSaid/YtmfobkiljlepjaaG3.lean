/- The plain law of package group: what is looked up. No program in sight. -/
import Derived.Test.YtmfobkiljlepjaaC23
set_option linter.unusedVariables false
set_option linter.unusedSimpArgs false
namespace Go.AM
open Go

theorem lkP_exp {s : Int × Int × Int} (h : SpOK s) (rest : List (Int × Int)) (c : Int) : lkP (expS s ++ rest) c = if inS s c = true then s.2.2 + c - s.1 else lkP rest c := by
  unfold SpOK at h
  unfold expS inS
  rw [lkP_range]
  by_cases h1 : s.1 ≤ c ∧ c ≤ s.2.1
  · rw [if_pos (by omega), if_pos (by simp [h1])]; omega
  · rw [if_neg (by omega), if_neg (by simpa using h1)]
theorem lookR_exp {m : List (Int × Int × Int)} (hm : ∀ s ∈ m, SpOK s) (c : Int) : lookR m c = lkP (m.flatMap expS) c := by
  have key : ∀ m : List (Int × Int × Int), (∀ s ∈ m, SpOK s) → (match m.find? fun s => inS s c with | some s => s.2.2 + c - s.1 | none => (0 : Int)) = lkP (m.flatMap expS) c := by
    intro m
    induction m with
    | nil => intro _; rfl
    | cons s m ih =>
      intro hm
      rw [List.flatMap_cons, lkP_exp (hm s (by simp)), List.find?_cons]
      cases h : inS s c with
      | true => simp
      | false => simpa using ih fun t ht => hm t (by simp [ht])
  unfold lookR
  by_cases h0 : c < 0
  · rw [if_pos h0, ← key m hm]
    have : m.find? (fun s => inS s c) = none := by
      rw [List.find?_eq_none]
      intro s hs
      have := hm s hs
      unfold SpOK at this
      simp only [inS, Bool.and_eq_true, decide_eq_true_eq, not_and]
      omega
    rw [this]
  · rw [if_neg h0]
    exact key m hm
theorem look_runs {l : List (Int × Int)} (hr : risesB l 1114111 = true) (hp : PrOK l) (hl : l.length ≤ 1000000) (c : Int) : lookG (runsTo l l.length) c = lkP l c := by
  have hg := good_runs hr hp hl
  rw [lookG_eq (good_map hg), lookR_exp hg.1, (runs_ok hr hp (Nat.le_refl l.length)).2.2.1, List.take_length]
end Go.AM
