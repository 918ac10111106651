/- AM: group.Map's methods. -/
import Derived.Test.YtmfobkiljlepjaaC13
set_option maxRecDepth 100000
set_option maxHeartbeats 8000000
set_option linter.unusedSimpArgs false
set_option linter.unusedVariables false
namespace Go.AM
open Go Go.Proofs


/-! ### group.Map.Groups -/
theorem s45 (m : List (Int × Int × Int)) : Spec Try.prog 45 [.d false (.agg [.sl 3 (sps m)])] none ⟨True, .d true (.v (.int .i64 (m.length : Int))), none⟩ := by
  have hG := (Gf_ok F25_ok)
  have hfs := @evP
  have hxs := @Nat.add_zero
  refine spec_of_awp (Gf_ok F25_ok) Try.func45 rfl (Nat.le_of_ble_eq_true rfl) fun E hps hN _ => ?_
  simp only [begin, List.zipIdx_cons, List.zipIdx_nil, List.map_cons, List.map_nil, Option.toList, Nat.zero_add, Nat.reduceAdd]
  repeat refine AWP.nest ?_
  first | refine rsa hG [] [1] fun K hK => ?_ | refine rna hG [] [1] fun K hK => ?_
  repeat first | ((with_reducible refine shN ?_); refine sL ?_) | ((with_reducible refine shG ?_); refine sG ?_)
  refine Eq.mpr evalL_nil (hK _ ?_)
  clear hK K
  simp only [evU, St.keep, List.map_cons, look, reduceIte, Nat.reduceEqDiff]
  try show AWP _ _ _ _ _
  repeat refine AWP.nest ?_
  first | refine rsa hG [] [2] fun K hK => ?_ | refine rna hG [] [2] fun K hK => ?_
  repeat first | ((with_reducible refine shN ?_); refine sL ?_) | ((with_reducible refine shG ?_); refine sG ?_)
  refine Eq.mpr evalL_nil (hK _ ?_)
  clear hK K
  simp only [evU, St.keep, List.map_cons, look, reduceIte, Nat.reduceEqDiff]
  try show AWP _ _ _ _ _
  refine AWP.ret ?_
  refine ⟨.inl rfl, ⟨⟨_, rfl, ?_⟩, fun ob hob => by cases hob⟩⟩
  simp only [look, reduceIte, Nat.reduceEqDiff]
  exact sub1_of rfl
def e45 : List AV → Option Ob → Option Res := fun args i => match args, i with
  | [.d false (.agg [.sl 3 xs])], none => some ⟨xs = sps (toSps xs), .d true (.v (.int .i64 ((toSps xs).length : Int))), none⟩
  | _, _ => none
def F26 : FT := F25.upd 45 e45
theorem F26_ok : FOK Try.prog F26 := FOK.upd F25_ok Try.func45 (by kernel_rfl) rfl fun args i R h => by
  unfold e45 at h
  split at h
  · rename_i xs
    cases h
    refine Spec.pre fun h => ?_
    have := s45 (toSps xs)
    rw [← h] at this
    exact this
  · cases h


/-! ### group.Map.Look's comparison -/
theorem s95 (s : Int × Int × Int) (c : Int) : Spec Try.prog 95 [.d true (.agg [.v (.int .u32 s.1), .v (.int .u32 s.2.1), .v (.int .u32 s.2.2)]), .d true (.v (.int .u32 c))] none ⟨True, .d true (.v (.int .i64 (if s.2.1 < c then -1 else 1))), none⟩ := by
  have hG := (Gf_ok F26_ok)
  have hfs := @evP
  have hxs := @Nat.add_zero
  refine spec_of_awp (Gf_ok F26_ok) Try.func95 rfl (Nat.le_of_ble_eq_true rfl) fun E hps hN _ => ?_
  simp only [begin, List.zipIdx_cons, List.zipIdx_nil, List.map_cons, List.map_nil, Option.toList, Nat.zero_add, Nat.reduceAdd]
  repeat refine AWP.nest ?_
  first | refine rsa hG [] [1, 2] fun K hK => ?_ | refine rna hG [] [1, 2] fun K hK => ?_
  repeat first | ((with_reducible refine shN ?_); refine sL ?_) | ((with_reducible refine shG ?_); refine sG ?_)
  refine Eq.mpr evalL_nil (hK _ ?_)
  clear hK K
  simp only [evU, St.keep, List.map_cons, look, reduceIte, Nat.reduceEqDiff]
  try show AWP _ _ _ _ _
  repeat refine AWP.nest ?_
  first | refine rsa hG [] [8] fun K hK => ?_ | refine rna hG [] [8] fun K hK => ?_
  repeat first | ((with_reducible refine shN ?_); refine sL ?_) | ((with_reducible refine shG ?_); refine sG ?_)
  refine Eq.mpr evalL_nil (hK _ ?_)
  clear hK K
  simp only [evU, St.keep, List.map_cons, look, reduceIte, Nat.reduceEqDiff]
  try show AWP _ _ _ _ _
  repeat refine AWP.nest ?_
  first | refine AWP.seq (AWP.cond (b := _) rfl (fun hc => ?_) (fun hc => ?_)) | refine AWP.cond (b := _) rfl (fun hc => ?_) (fun hc => ?_)
  all_goals try simp only [evC] at hc
  · rw [if_pos hc]
    repeat refine AWP.nest ?_
    first | refine rsa hG [] [4] fun K hK => ?_ | refine rna hG [] [4] fun K hK => ?_
    repeat first | ((with_reducible refine shN ?_); refine sL ?_) | ((with_reducible refine shG ?_); refine sG ?_)
    refine Eq.mpr evalL_nil (hK _ ?_)
    clear hK K
    simp only [evU, St.keep, List.map_cons, look, reduceIte, Nat.reduceEqDiff]
    try show AWP _ _ _ _ _
    refine AWP.ret ?_
    refine ⟨.inl rfl, ⟨⟨_, rfl, ?_⟩, fun ob hob => by cases hob⟩⟩
    simp only [look, reduceIte, Nat.reduceEqDiff]
    exact sub1_of rfl
  · rw [if_neg hc]
    refine AWP.skip ?_
    show AWP _ _ _ _ _
    repeat refine AWP.nest ?_
    first | refine rsa hG [] [4] fun K hK => ?_ | refine rna hG [] [4] fun K hK => ?_
    repeat first | ((with_reducible refine shN ?_); refine sL ?_) | ((with_reducible refine shG ?_); refine sG ?_)
    refine Eq.mpr evalL_nil (hK _ ?_)
    clear hK K
    simp only [evU, St.keep, List.map_cons, look, reduceIte, Nat.reduceEqDiff]
    try show AWP _ _ _ _ _
    refine AWP.ret ?_
    refine ⟨.inl rfl, ⟨⟨_, rfl, ?_⟩, fun ob hob => by cases hob⟩⟩
    simp only [look, reduceIte, Nat.reduceEqDiff]
    exact sub1_of rfl
def e95 : List AV → Option Ob → Option Res := fun args i => match args, i with
  | [.d true (.agg [.v (.int .u32 a), .v (.int .u32 b), .v (.int .u32 g)]), .d true (.v (.int .u32 c))], none => some ⟨True, .d true (.v (.int .i64 (if b < c then -1 else 1))), none⟩
  | _, _ => none
def F27 : FT := F26.upd 95 e95
theorem F27_ok : FOK Try.prog F27 := FOK.upd F26_ok Try.func95 (by kernel_rfl) rfl fun args i R h => by
  unfold e95 at h
  split at h
  · rename_i a b g c
    cases h
    exact s95 (a, b, g) c
  · cases h


/-! ### the search -/
/-- How many spans end ahead of a code. -/
def cnt (m : List (Int × Int × Int)) (c : Int) : Nat := (m.takeWhile fun s => decide (s.2.1 < c)).length
/-- Spans that rise. -/
def SpR (m : List (Int × Int × Int)) : Prop := ∀ i j, i < j → j < m.length → (m.getD i (0, 0, 0)).2.1 < (m.getD j (0, 0, 0)).2.1
theorem cnt_le (m : List (Int × Int × Int)) (c : Int) : cnt m c ≤ m.length := by
  unfold cnt
  exact (List.takeWhile_sublist _).length_le
theorem cnt_lt {m : List (Int × Int × Int)} {c : Int} {i : Nat} (h : i < cnt m c) : (m.getD i (0, 0, 0)).2.1 < c := by
  have h1 : i < m.length := Nat.lt_of_lt_of_le h (cnt_le m c)
  have h2 : (m.takeWhile fun s => decide (s.2.1 < c))[i]'h = m[i] := by
    have := (List.takeWhile_prefix (l := m) fun s => decide (s.2.1 < c)).getElem h
    exact this
  have h3 := List.all_takeWhile (p := fun s : Int × Int × Int => decide (s.2.1 < c)) (l := m)
  rw [List.all_eq_true] at h3
  have h4 := h3 _ (List.getElem_mem h)
  rw [h2] at h4
  rw [List.getD_eq_getElem?_getD, List.getElem?_eq_getElem h1]
  simpa using h4
theorem cnt_ge {m : List (Int × Int × Int)} {c : Int} (h : cnt m c < m.length) : c ≤ (m.getD (cnt m c) (0, 0, 0)).2.1 := by
  have h1 : m = (m.takeWhile fun s => decide (s.2.1 < c)) ++ (m.dropWhile fun s => decide (s.2.1 < c)) := (List.takeWhile_append_dropWhile).symm
  have h2 : (m.dropWhile fun s => decide (s.2.1 < c)) ≠ [] := by
    intro e
    rw [e, List.append_nil] at h1
    have := congrArg List.length h1
    unfold cnt at h
    omega
  have h3 := List.head_dropWhile_not (fun s : Int × Int × Int => decide (s.2.1 < c)) h2
  have h4 : ((m.takeWhile fun s => decide (s.2.1 < c)) ++ (m.dropWhile fun s => decide (s.2.1 < c)))[(m.takeWhile fun s => decide (s.2.1 < c)).length]? = some ((m.dropWhile fun s => decide (s.2.1 < c)).head h2) := by
    rw [List.getElem?_append_right (Nat.le_refl _), Nat.sub_self, List.head_eq_getElem, List.getElem?_eq_getElem]
  have h5 : m[cnt m c]? = some ((m.dropWhile fun s => decide (s.2.1 < c)).head h2) := (congrArg (fun q : List (Int × Int × Int) => q[(m.takeWhile fun s : Int × Int × Int => decide (s.2.1 < c)).length]?) h1).trans h4
  rw [List.getD_eq_getElem?_getD, h5]
  simp at h3
  simpa using h3
theorem s94 (m : List (Int × Int × Int)) (hm : SpR m) (hl : m.length ≤ 1000000000000) (c : Int) : Spec Try.prog 94 [.d false (.sl 3 (sps m)), .d true (.v (.int .u32 c)), .fn 95 []] none ⟨True, .tup [.d true (.v (.int .i64 (cnt m c : Int))), .d true (.v (.bool false))], none⟩ := by
  have hG := (Gf_ok F27_ok)
  have hfs := And.intro @evP (And.intro (@id (F27 95 = e95) rfl) @e95.eq_1)
  have hxs := @Nat.add_zero
  refine spec_of_awp (Gf_ok F27_ok) Try.func94 rfl (Nat.le_of_ble_eq_true rfl) fun E hps hN _ => ?_
  simp only [begin, List.zipIdx_cons, List.zipIdx_nil, List.map_cons, List.map_nil, Option.toList, Nat.zero_add, Nat.reduceAdd]
  have hf95 : F27 95 = e95 := rfl
  repeat refine AWP.nest ?_
  first | refine rsa hG [] [0, 1, 2] fun K hK => ?_ | refine rna hG [] [0, 1, 2] fun K hK => ?_
  repeat first | ((with_reducible refine shN ?_); refine sL ?_) | ((with_reducible refine shG ?_); refine sG ?_)
  refine Eq.mpr evalL_nil (hK _ ?_)
  clear hK K
  simp only [evU, St.keep, List.map_cons, look, reduceIte, Nat.reduceEqDiff]
  try show AWP _ _ _ _ _
  repeat refine AWP.nest ?_
  first | refine rsa hG [] [0, 1, 2, 8] fun K hK => ?_ | refine rna hG [] [0, 1, 2, 8] fun K hK => ?_
  repeat first | ((with_reducible refine shN ?_); refine sL ?_) | ((with_reducible refine shG ?_); refine sG ?_)
  refine Eq.mpr evalL_nil (hK _ ?_)
  clear hK K
  simp only [evU, St.keep, List.map_cons, look, reduceIte, Nat.reduceEqDiff]
  try show AWP _ _ _ _ _
  repeat refine AWP.nest ?_
  first | refine rsa hG [] [0, 1, 2, 8, 9, 10] fun K hK => ?_ | refine rna hG [] [0, 1, 2, 8, 9, 10] fun K hK => ?_
  repeat first | ((with_reducible refine shN ?_); refine sL ?_) | ((with_reducible refine shG ?_); refine sG ?_)
  refine Eq.mpr evalL_nil (hK _ ?_)
  clear hK K
  simp only [evU, St.keep, List.map_cons, look, reduceIte, Nat.reduceEqDiff]
  try show AWP _ _ _ _ _
  repeat refine AWP.nest ?_
  first | refine AWP.seq (AWP.block ?_) | refine AWP.block ?_
  refine AWP.loop (fun k st => ∃ (i j : Nat), i ≤ j ∧ j ≤ m.length ∧ k = j - i ∧ i ≤ cnt m c ∧ cnt m c ≤ j ∧ st = ⟨[(0, .d false (.sl 3 (sps m))), (1, .d true (.v (.int .u32 c))), (2, .fn 95 []), (8, .d true (.v (.int .i64 (m.length : Int)))), (9, .d true (.v (.int .i64 (i : Int)))), (10, .d true (.v (.int .i64 (j : Int))))], []⟩) (m.length) ?_ ?_
  · exact ⟨0, m.length, Nat.zero_le _, Nat.le_refl _, rfl, Nat.zero_le _, cnt_le m c, rfl⟩
  rintro k st ⟨i, j, hij, hj, hk, h1, h2, rfl⟩
  repeat refine AWP.nest ?_
  first | refine rsa hG [] [0, 1, 2, 8, 9, 10, 17] fun K hK => ?_ | refine rna hG [] [0, 1, 2, 8, 9, 10, 17] fun K hK => ?_
  repeat first | ((with_reducible refine shN ?_); refine sL ?_) | ((with_reducible refine shG ?_); refine sG ?_)
  refine Eq.mpr evalL_nil (hK _ ?_)
  clear hK K
  simp only [evU, St.keep, List.map_cons, look, reduceIte, Nat.reduceEqDiff]
  try show AWP _ _ _ _ _
  first | refine AWP.seq (AWP.cond (b := _) rfl (fun hc => ?_) (fun hc => ?_)) | refine AWP.cond (b := _) rfl (fun hc => ?_) (fun hc => ?_)
  rotate_left
  · refine AWP.exit ?_
    show AWP _ _ _ _ _
    simp only [evC, Int.not_lt] at hc
    obtain rfl : i = j := by omega
    have hi : i = cnt m c := by omega
    repeat refine AWP.nest ?_
    first | refine rsa hG [] [6, 7] fun K hK => ?_ | refine rna hG [] [6, 7] fun K hK => ?_
    repeat first | ((with_reducible refine shN ?_); refine sL ?_) | ((with_reducible refine shG ?_); refine sG ?_)
    refine Eq.mpr evalL_nil (hK _ ?_)
    clear hK K
    simp only [evU, St.keep, List.map_cons, look, reduceIte, Nat.reduceEqDiff]
    try show AWP _ _ _ _ _
    have e0 : ∀ p : Prop, ∀ [Decidable p], (((if p then -1 else 1 : Int)) == 0) = false := fun p _ => by split <;> rfl
    refine AWP.ret ?_
    refine ⟨.inl rfl, ⟨⟨_, rfl, ?_⟩, fun ob hob => by cases hob⟩⟩
    simp only [look, reduceIte, Nat.reduceEqDiff]
    refine ⟨_, rfl, (.cons ?_ (.cons ?_ .nil))⟩
    · exact sub1_of (by rw [hi])
    · exact sub1_of (by rw [e0, Bool.and_false])
  simp only [evC, Int.not_lt] at hc
  refine AWP.skip ?_
  show AWP _ _ _ _ _
  repeat refine AWP.nest ?_
  first | refine AWP.seq (AWP.block ?_) | refine AWP.block ?_
  repeat refine AWP.nest ?_
  first | refine rsa hG [] [0, 1, 2, 8, 9, 10, 11] fun K hK => ?_ | refine rna hG [] [0, 1, 2, 8, 9, 10, 11] fun K hK => ?_
  repeat first | ((with_reducible refine shN ?_); refine sL ?_) | ((with_reducible refine shG ?_); refine sG ?_)
  refine Eq.mpr evalL_nil (hK _ ?_)
  clear hK K
  simp only [evU, St.keep, List.map_cons, look, reduceIte, Nat.reduceEqDiff]
  try show AWP _ _ _ _ _
  obtain ⟨h, hh, hh1, hh2⟩ : ∃ h : Nat, IntKind.i64.wrap ((((i : Int) + j) % 18446744073709551616).fdiv 2) = h ∧ i ≤ h ∧ h < j := by
    rw [Int.fdiv_eq_ediv_of_nonneg _ (by decide), w_i64 (by omega) (by omega)]
    exact ⟨(i + j) / 2, by omega, by omega, by omega⟩
  rw [hh]
  clear hh
  repeat refine AWP.nest ?_
  first | refine rsa hG [] [0, 1, 2, 8, 9, 10, 11, 31] fun K hK => ?_ | refine rna hG [] [0, 1, 2, 8, 9, 10, 11, 31] fun K hK => ?_
  repeat first | ((with_reducible refine shN ?_); refine sL ?_) | ((with_reducible refine shG ?_); refine sG ?_)
  refine Eq.mpr evalL_nil (hK _ ?_)
  clear hK K
  simp only [evU, St.keep, List.map_cons, look, reduceIte, Nat.reduceEqDiff]
  try show AWP _ _ _ _ _
  repeat refine AWP.nest ?_
  first | refine AWP.seq (AWP.cond (b := _) rfl (fun hc => ?_) (fun hc => ?_)) | refine AWP.cond (b := _) rfl (fun hc => ?_) (fun hc => ?_)
  all_goals try simp only [evC] at hc
  · have hlt : (m.getD h (0, 0, 0)).2.1 < c := by
      rcases Int.lt_or_le (m.getD h (0, 0, 0)).2.1 c with h' | h'
      · exact h'
      · rw [if_neg (by omega)] at hc; omega
    have hcn : h + 1 ≤ cnt m c := by
      rcases Nat.lt_or_ge h (cnt m c) with h' | h'
      · exact h'
      · exfalso
        have g := cnt_ge (m := m) (c := c) (by omega)
        rcases Nat.eq_or_lt_of_le h' with e | e
        · rw [e] at g; omega
        · have := hm _ _ e (by omega); omega
    repeat refine AWP.nest ?_
    first | refine rsa hG [] [0, 1, 2, 8, 9, 10] fun K hK => ?_ | refine rna hG [] [0, 1, 2, 8, 9, 10] fun K hK => ?_
    repeat first | ((with_reducible refine shN ?_); refine sL ?_) | ((with_reducible refine shG ?_); refine sG ?_)
    refine Eq.mpr evalL_nil (hK _ ?_)
    clear hK K
    simp only [evU, St.keep, List.map_cons, look, reduceIte, Nat.reduceEqDiff]
    try show AWP _ _ _ _ _
    exact ⟨j - (h + 1), by omega, h + 1, j, by omega, hj, rfl, hcn, h2, rfl⟩
  · have hge : c ≤ (m.getD h (0, 0, 0)).2.1 := by
      rcases Int.lt_or_le (m.getD h (0, 0, 0)).2.1 c with h' | h'
      · rw [if_pos h'] at hc; omega
      · exact h'
    have hcn : cnt m c ≤ h := by
      rcases Nat.lt_or_ge h (cnt m c) with h' | h'
      · have := cnt_lt h'; omega
      · exact h'
    repeat refine AWP.nest ?_
    first | refine rsa hG [] [0, 1, 2, 8, 9, 10] fun K hK => ?_ | refine rna hG [] [0, 1, 2, 8, 9, 10] fun K hK => ?_
    repeat first | ((with_reducible refine shN ?_); refine sL ?_) | ((with_reducible refine shG ?_); refine sG ?_)
    refine Eq.mpr evalL_nil (hK _ ?_)
    clear hK K
    simp only [evU, St.keep, List.map_cons, look, reduceIte, Nat.reduceEqDiff]
    try show AWP _ _ _ _ _
    exact ⟨h - i, by omega, i, h, hh1, by omega, rfl, h1, hcn, rfl⟩
def e94 : List AV → Option Ob → Option Res := fun args i => match args, i with
  | [.d false (.sl 3 xs), .d true (.v (.int .u32 c)), .fn 95 []], none => some ⟨xs = sps (toSps xs) ∧ SpR (toSps xs) ∧ (toSps xs).length ≤ 1000000000000, .tup [.d true (.v (.int .i64 (cnt (toSps xs) c : Int))), .d true (.v (.bool false))], none⟩
  | _, _ => none
def F28 : FT := F27.upd 94 e94
theorem F28_ok : FOK Try.prog F28 := FOK.upd F27_ok Try.func94 (by kernel_rfl) rfl fun args i R h => by
  unfold e94 at h
  split at h
  · rename_i xs c
    cases h
    refine Spec.pre fun h => ?_
    have := s94 (toSps xs) h.2.1 h.2.2 c
    rw [← h.1] at this
    exact this
  · cases h

end Go.AM

