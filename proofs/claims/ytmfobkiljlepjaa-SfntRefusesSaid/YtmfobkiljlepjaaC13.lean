/- AM: seg.Rises. -/
import Derived.Test.YtmfobkiljlepjaaC17
set_option maxRecDepth 100000
set_option maxHeartbeats 8000000
set_option linter.unusedSimpArgs false
set_option linter.unusedVariables false
namespace Go.AM
open Go Go.Proofs


/-! ### seg.Rises -/
def cd (l : List (Int × Int)) (i : Nat) : Int := (l.getD i (0, 0)).1
def gl (l : List (Int × Int)) (i : Nat) : Int := (l.getD i (0, 0)).2
def cnd (l : List (Int × Int)) (most : Int) (i : Nat) : Bool := decide (0 ≤ cd l i) && decide (cd l i ≤ most) && (decide (i = 0) || decide (cd l (i - 1) < cd l i))
def risesB (l : List (Int × Int)) (most : Int) : Bool := (List.range l.length).all (cnd l most)
theorem risesB_of {l : List (Int × Int)} {most : Int} (h : ∀ j, j < l.length → cnd l most j = true) : risesB l most = true := by
  simp only [risesB, List.all_eq_true, List.mem_range]
  exact h
theorem risesB_not {l : List (Int × Int)} {most : Int} {i : Nat} (hi : i < l.length) (h : cnd l most i = false) : risesB l most = false := by
  cases e : risesB l most with
  | false => rfl
  | true =>
    simp only [risesB, List.all_eq_true, List.mem_range] at e
    rw [e i hi] at h
    cases h
theorem s61 (l : List (Int × Int)) (most : Int) : Spec Try.prog 61 [.d false (.sl 2 (prs l)), .d true (.v (.int .i32 most))] none ⟨True, .d true (.v (.bool (risesB l most))), none⟩ := by
  have hG := (Gf_ok F34_ok)
  have hfs := @evP
  have hxs := @Nat.add_zero
  refine spec_of_awp (Gf_ok F34_ok) Try.func61 rfl (Nat.le_of_ble_eq_true rfl) fun E hps hN _ => ?_
  simp only [begin, List.zipIdx_cons, List.zipIdx_nil, List.map_cons, List.map_nil, Option.toList, Nat.zero_add, Nat.reduceAdd]
  repeat refine AWP.nest ?_
  first | refine rsa hG [] [0, 1] fun K hK => ?_ | refine rna hG [] [0, 1] fun K hK => ?_
  repeat first | ((with_reducible refine shN ?_); refine sL ?_) | ((with_reducible refine shG ?_); refine sG ?_)
  refine Eq.mpr evalL_nil (hK _ ?_)
  clear hK K
  simp only [evU, St.keep, List.map_cons, look, reduceIte, Nat.reduceEqDiff]
  try show AWP _ _ _ _ _
  repeat refine AWP.nest ?_
  first | refine rsa hG [] [0, 1, 7, 8, 9] fun K hK => ?_ | refine rna hG [] [0, 1, 7, 8, 9] fun K hK => ?_
  repeat first | ((with_reducible refine shN ?_); refine sL ?_) | ((with_reducible refine shG ?_); refine sG ?_)
  refine Eq.mpr evalL_nil (hK _ ?_)
  clear hK K
  simp only [evU, St.keep, List.map_cons, look, reduceIte, Nat.reduceEqDiff]
  try show AWP _ _ _ _ _
  refine AWP.len 0 rfl fun hlen => ?_
  rw [prs_length] at hlen
  repeat refine AWP.nest ?_
  first | refine AWP.seq (AWP.block ?_) | refine AWP.block ?_
  refine AWP.loop (fun k st => ∃ (i : Nat), i ≤ l.length ∧ k = l.length - i ∧ (∀ j, j < i → cnd l most j = true) ∧ st = ⟨[(0, .d false (.sl 2 (prs l))), (1, .d true (.v (.int .i32 most))), (7, .d false (.sl 2 (prs l))), (8, .d true (.v (.int .i64 (l.length : Int)))), (9, .d true (.v (.int .i64 (i : Int))))], []⟩) (l.length) ?_ ?_
  · exact ⟨0, Nat.zero_le _, rfl, (fun j h => absurd h (Nat.not_lt_zero j)), rfl⟩
  rintro k st ⟨i, hi, hk, hj, rfl⟩
  repeat refine AWP.nest ?_
  first | refine rsa hG [] [0, 1, 7, 8, 9, 10] fun K hK => ?_ | refine rna hG [] [0, 1, 7, 8, 9, 10] fun K hK => ?_
  repeat first | ((with_reducible refine shN ?_); refine sL ?_) | ((with_reducible refine shG ?_); refine sG ?_)
  refine Eq.mpr evalL_nil (hK _ ?_)
  clear hK K
  simp only [evU, St.keep, List.map_cons, look, reduceIte, Nat.reduceEqDiff]
  try show AWP _ _ _ _ _
  first | refine AWP.seq (AWP.cond (b := _) rfl (fun hc => ?_) (fun hc => ?_)) | refine AWP.cond (b := _) rfl (fun hc => ?_) (fun hc => ?_)
  rotate_left
  · refine AWP.exit ?_
    show AWP _ _ _ _ _
    simp only [evC, Int.not_lt] at hc
    obtain rfl : i = l.length := by omega
    repeat refine AWP.nest ?_
    first | refine rsa hG [] [4] fun K hK => ?_ | refine rna hG [] [4] fun K hK => ?_
    repeat first | ((with_reducible refine shN ?_); refine sL ?_) | ((with_reducible refine shG ?_); refine sG ?_)
    refine Eq.mpr evalL_nil (hK _ ?_)
    clear hK K
    simp only [evU, St.keep, List.map_cons, look, reduceIte, Nat.reduceEqDiff]
    try show AWP _ _ _ _ _
    refine AWP.ret ?_
    refine ⟨.inl rfl, ⟨⟨_, rfl, ?_⟩, fun ob hob => by cases hob⟩⟩
    simp only [look, reduceIte, Nat.reduceEqDiff]
    rw [risesB_of hj]
    exact sub1_of rfl
  simp only [evC, Int.not_lt] at hc
  refine AWP.skip ?_
  show AWP _ _ _ _ _
  have hi' := hc
  clear hc
  repeat refine AWP.nest ?_
  first | refine AWP.seq (AWP.block ?_) | refine AWP.block ?_
  repeat refine AWP.nest ?_
  first | refine rsa hG [] [0, 1, 5, 6, 7, 8, 9] fun K hK => ?_ | refine rna hG [] [0, 1, 5, 6, 7, 8, 9] fun K hK => ?_
  repeat first | ((with_reducible refine shN ?_); refine sL ?_) | ((with_reducible refine shG ?_); refine sG ?_)
  refine Eq.mpr evalL_nil (hK _ ?_)
  clear hK K
  simp only [evU, St.keep, List.map_cons, look, reduceIte, Nat.reduceEqDiff]
  try show AWP _ _ _ _ _
  repeat refine AWP.nest ?_
  first | refine rda hG [] [0, 1, 7, 8, 9, 37] Try.mixed fun K hK => ?_ | refine dna hG [] [0, 1, 7, 8, 9, 37] Try.mixed fun K hK => ?_
  repeat first | ((with_reducible refine shD ?_); refine sD ?_) | ((with_reducible refine shDG ?_); refine sDG ?_)
  refine evalD_done (by kernel_rfl) (hK _ ?_)
  clear hK K
  simp only [evU, St.keep, List.map_cons, look, reduceIte, Nat.reduceEqDiff]
  try show AWP _ _ _ _ _
  have ei : ((i : Int) - 1).toNat = i - 1 := by omega
  rw [ei]
  repeat refine AWP.nest ?_
  first | refine AWP.seq (AWP.cond (b := _) rfl (fun hc => ?_) (fun hc => ?_)) | refine AWP.cond (b := _) rfl (fun hc => ?_) (fun hc => ?_)
  all_goals try simp only [evC] at hc
  · have hf : cnd l most i = false := by
      cases e : cnd l most i with
      | false => rfl
      | true =>
        exfalso
        simp only [cnd, Bool.and_eq_true, Bool.or_eq_true, decide_eq_true_eq] at e
        simp only [cd] at e
        omega
    rw [risesB_not hi' hf]
    repeat refine AWP.nest ?_
    first | refine rsa hG [] [4] fun K hK => ?_ | refine rna hG [] [4] fun K hK => ?_
    repeat first | ((with_reducible refine shN ?_); refine sL ?_) | ((with_reducible refine shG ?_); refine sG ?_)
    refine Eq.mpr evalL_nil (hK _ ?_)
    clear hK K
    simp only [evU, St.keep, List.map_cons, look, reduceIte, Nat.reduceEqDiff]
    try show AWP _ _ _ _ _
    refine AWP.ret ?_
    refine ⟨.inl rfl, ⟨⟨_, rfl, ?_⟩, fun ob hob => by cases hob⟩⟩
    simp only [look, reduceIte, Nat.reduceEqDiff]
    exact sub1_of rfl
  · have ht : cnd l most i = true := by
      simp only [cnd, Bool.and_eq_true, Bool.or_eq_true, decide_eq_true_eq]
      simp only [cd]
      omega
    refine AWP.skip ?_
    show AWP _ _ _ _ _
    refine AWP.trunc 0 (by rw [hps]; decide) rfl ?_
    simp only [St.trunc, List.take_zero, List.take_succ_cons]
    repeat refine AWP.nest ?_
    first | refine rsa hG [] [0, 1, 7, 8, 9] fun K hK => ?_ | refine rna hG [] [0, 1, 7, 8, 9] fun K hK => ?_
    repeat first | ((with_reducible refine shN ?_); refine sL ?_) | ((with_reducible refine shG ?_); refine sG ?_)
    refine Eq.mpr evalL_nil (hK _ ?_)
    clear hK K
    simp only [evU, St.keep, List.map_cons, look, reduceIte, Nat.reduceEqDiff]
    try show AWP _ _ _ _ _
    exact ⟨l.length - (i + 1), by omega, i + 1, by omega, rfl, fun j hj2 => by
      rcases Nat.lt_succ_iff_lt_or_eq.1 hj2 with h | h
      · exact hj j h
      · rw [h]; exact ht, rfl⟩
def e61 : List AV → Option Ob → Option Res := fun args i => match args, i with
  | [.d false (.sl 2 xs), .d true (.v (.int .i32 most))], none => some ⟨xs = prs (toPrs xs), .d true (.v (.bool (risesB (toPrs xs) most))), none⟩
  | _, _ => none
def F25 : FT := F34.upd 61 e61
theorem F25_ok : FOK Try.prog F25 := FOK.upd F34_ok Try.func61 (by kernel_rfl) rfl fun args i R h => by
  unfold e61 at h
  split at h
  · rename_i xs most
    cases h
    refine Spec.pre fun h => ?_
    have := s61 (toPrs xs) most
    rw [← h] at this
    exact this
  · cases h

end Go.AM

