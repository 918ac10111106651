/- AM: ref09.Right, ref09.Look. -/
import Derived.Test.YtmfobkiljlepjaaG5
set_option maxRecDepth 100000
set_option maxHeartbeats 8000000
set_option linter.unusedSimpArgs false
set_option linter.unusedVariables false
namespace Go.AM
open Go Go.Proofs


/-! ### ref09.Right -/
theorem s57 (l : List Int) (hb : Byt l) (hl : l.length ≤ 1000000000000) : Spec Try.prog 57 [.d false (.sl 1 (ints .u8 l))] none ⟨True, .tup [.d true (.v (.int .i64 (if rightS l = true then (nS l : Int) else 0))), .d true (.v (.bool (rightS l)))], none⟩ := by
  have z0 := n2V_bound hb 0
  have z2 := n2V_bound hb 2
  have z6 := n2V_bound hb 6
  have hn : n2V l 6 / 2 = (nS l : Int) := by unfold nS; omega
  have hn1 : nS l ≤ 32767 := by omega
  have hsb := enc2_byt [(sA (nS l) : Int), (sB (nS l) : Int), (sC (nS l) : Int)]
  have hsb' : Byt (srch (nS l)) := hsb
  have hdb : Byt ((l.drop 8).take 6) := (hb.drop 8).take 6
  have za := n2V_bound hb (14 + 2 * (nS l : Int))
  have zb := n2V_bound hb (12 + 2 * (nS l : Int))
  have hf37 : F57 37 = e37 := rfl
  have hf60 : F57 60 = e60 := rfl
  have hf103 : F57 103 = e103 := rfl
  have hG := (Gf_ok F57_ok)
  have hfs := And.intro @hf37 (And.intro @e37.eq_1 (And.intro @hf60 (And.intro @e60.eq_1 (And.intro @hf103 (And.intro @e103.eq_1 @evP)))))
  have hxs := @Nat.add_zero
  refine spec_of_awp (Gf_ok F57_ok) Try.func57 rfl (Nat.le_of_ble_eq_true rfl) fun E hps hN _ => ?_
  simp only [begin, List.zipIdx_cons, List.zipIdx_nil, List.map_cons, List.map_nil, Option.toList, Nat.zero_add, Nat.reduceAdd]
  repeat refine AWP.nest ?_
  first | refine rsa hG [] [0] fun K hK => ?_ | refine rna hG [] [0] fun K hK => ?_
  repeat first | ((with_reducible refine shN ?_); refine sL ?_) | ((with_reducible refine shG ?_); refine sG ?_)
  refine Eq.mpr evalL_nil (hK _ ?_)
  clear hK K
  simp only [evU, St.keep, List.map_cons, look, reduceIte, Nat.reduceEqDiff]
  try show AWP _ _ _ _ _
  repeat refine AWP.nest ?_
  first | refine rsa hG [] [0, 4] fun K hK => ?_ | refine rna hG [] [0, 4] fun K hK => ?_
  repeat first | ((with_reducible refine shN ?_); refine sL ?_) | ((with_reducible refine shG ?_); refine sG ?_)
  refine Eq.mpr evalL_nil (hK _ ?_)
  clear hK K
  simp only [evU, St.keep, List.map_cons, look, reduceIte, Nat.reduceEqDiff]
  try show AWP _ _ _ _ _
  repeat refine AWP.nest ?_
  have hxs := @hn
  first | refine rsa hG [] [0, 4, 5] fun K hK => ?_ | refine rna hG [] [0, 4, 5] fun K hK => ?_
  repeat first | ((with_reducible refine shN ?_); refine sL ?_) | ((with_reducible refine shG ?_); refine sG ?_)
  refine Eq.mpr evalL_nil (hK _ ?_)
  clear hK K hxs
  simp only [evU, St.keep, List.map_cons, look, reduceIte, Nat.reduceEqDiff]
  try show AWP _ _ _ _ _
  repeat refine AWP.nest ?_
  first | refine rda hG [] [0, 4, 5, 78] Try.mixed fun K hK => ?_ | refine dna hG [] [0, 4, 5, 78] Try.mixed fun K hK => ?_
  repeat first | ((with_reducible refine shD ?_); refine sD ?_) | ((with_reducible refine shDG ?_); refine sDG ?_)
  refine evalD_done (by kernel_rfl) (hK _ ?_)
  clear hK K
  simp only [evU, St.keep, List.map_cons, look, reduceIte, Nat.reduceEqDiff]
  try show AWP _ _ _ _ _
  clear za zb
  repeat refine AWP.nest ?_
  first | refine AWP.seq (AWP.cond (b := _) rfl (fun hc => ?_) (fun hc => ?_)) | refine AWP.cond (b := _) rfl (fun hc => ?_) (fun hc => ?_)
  all_goals try simp only [evC] at hc
  · have hno : ¬ (hdS l = true ∧ srS l = true ∧ endS l = true) := by
      rintro ⟨h1, h2, h3⟩
      have h4 := hdS_iff.1 h1
      have h5 := hdS_num hb h1
      have h6 := (sr_iff hb h5.2.2.2.2.2 h5.1 h5.2.1).2 h2
      simp only [endS, Bool.and_eq_true, decide_eq_true_eq] at h3
      rcases hc with (((((((((h | h) | h) | h) | h) | h) | h) | h) | h) | h) | h
      all_goals first | omega | (simp [h6] at h)
    rw [rightS_no hno]
    repeat refine AWP.nest ?_
    first | refine rsa hG [] [2, 3] fun K hK => ?_ | refine rna hG [] [2, 3] fun K hK => ?_
    repeat first | ((with_reducible refine shN ?_); refine sL ?_) | ((with_reducible refine shG ?_); refine sG ?_)
    refine Eq.mpr evalL_nil (hK _ ?_)
    clear hK K
    simp only [evU, St.keep, List.map_cons, look, reduceIte, Nat.reduceEqDiff]
    try show AWP _ _ _ _ _
    refine AWP.ret ?_
    refine ⟨.inl rfl, ⟨⟨_, rfl, ?_⟩, fun ob hob => by cases hob⟩⟩
    simp only [look, reduceIte, Nat.reduceEqDiff]
    refine ⟨_, rfl, (.cons ?_ (.cons ?_ .nil))⟩
    · exact sub1_n rfl
    · exact sub1_of rfl
  refine AWP.skip ?_
  show AWP _ _ _ _ _
  have h1 : hdS l = true := hdS_iff.2 (by omega)
  have h5 := hdS_num hb h1
  have h2 : srS l = true := (sr_iff hb h5.2.2.2.2.2 h5.1 h5.2.1).1 (by simpa using hc.1.1.2)
  have h3 : endS l = true := by simp only [endS, Bool.and_eq_true, decide_eq_true_eq]; exact ⟨hc.1.2, hc.2⟩
  clear hc z0 z6
  repeat refine AWP.nest ?_
  first | refine rsa hG [] [0, 4, 5, 6] fun K hK => ?_ | refine rna hG [] [0, 4, 5, 6] fun K hK => ?_
  repeat first | ((with_reducible refine shN ?_); refine sL ?_) | ((with_reducible refine shG ?_); refine sG ?_)
  refine Eq.mpr evalL_nil (hK _ ?_)
  clear hK K
  simp only [evU, St.keep, List.map_cons, look, reduceIte, Nat.reduceEqDiff]
  try show AWP _ _ _ _ _
  repeat refine AWP.nest ?_
  first | refine AWP.seq (AWP.block ?_) | refine AWP.block ?_
  refine AWP.loop (fun k st => ∃ (i : Nat), i ≤ nS l ∧ k = nS l - i ∧ (∀ j, j < i → okQ l (nS l) j = true) ∧ st = ⟨[(0, .d false (.sl 1 (ints .u8 l))), (4, .d true (.v (.int .i64 (n2V l 2)))), (5, .d true (.v (.int .i64 (nS l : Int)))), (6, .d true (.v (.int .i64 (i : Int))))], []⟩) (nS l) ?_ ?_
  · exact ⟨0, Nat.zero_le _, rfl, (fun j h => absurd h (Nat.not_lt_zero j)), rfl⟩
  rintro k st ⟨i, hi, hk, hj, rfl⟩
  repeat refine AWP.nest ?_
  first | refine rsa hG [] [0, 4, 5, 6, 81] fun K hK => ?_ | refine rna hG [] [0, 4, 5, 6, 81] fun K hK => ?_
  repeat first | ((with_reducible refine shN ?_); refine sL ?_) | ((with_reducible refine shG ?_); refine sG ?_)
  refine Eq.mpr evalL_nil (hK _ ?_)
  clear hK K
  simp only [evU, St.keep, List.map_cons, look, reduceIte, Nat.reduceEqDiff]
  try show AWP _ _ _ _ _
  first | refine AWP.seq (AWP.cond (b := _) rfl (fun hc => ?_) (fun hc => ?_)) | refine AWP.cond (b := _) rfl (fun hc => ?_) (fun hc => ?_)
  rotate_left
  · refine AWP.exit ?_
    show AWP _ _ _ _ _
    simp only [evC, Int.not_lt] at hc
    obtain rfl : i = nS l := by omega
    have hr : rightS l = true := rightS_iff.2 ⟨h1, h2, h3, hj⟩
    rw [hr]
    repeat refine AWP.nest ?_
    first | refine rsa hG [] [2, 3] fun K hK => ?_ | refine rna hG [] [2, 3] fun K hK => ?_
    repeat first | ((with_reducible refine shN ?_); refine sL ?_) | ((with_reducible refine shG ?_); refine sG ?_)
    refine Eq.mpr evalL_nil (hK _ ?_)
    clear hK K
    simp only [evU, St.keep, List.map_cons, look, reduceIte, Nat.reduceEqDiff]
    try show AWP _ _ _ _ _
    refine AWP.ret ?_
    refine ⟨.inl rfl, ⟨⟨_, rfl, ?_⟩, fun ob hob => by cases hob⟩⟩
    simp only [look, reduceIte, Nat.reduceEqDiff]
    refine ⟨_, rfl, (.cons ?_ (.cons ?_ .nil))⟩
    · exact sub1_n rfl
    · exact sub1_of rfl
  simp only [evC, Int.not_lt] at hc
  refine AWP.skip ?_
  show AWP _ _ _ _ _
  have hi' := hc
  clear hc
  have y1 := n2V_bound hb (14 + 2 * (i : Int))
  have y2 := n2V_bound hb (16 + 2 * (nS l : Int) + 2 * (i : Int))
  have y3 := n2V_bound hb (16 + 6 * (nS l : Int) + 2 * (i : Int))
  have y4 := n2V_bound hb (12 + 2 * (i : Int))
  repeat refine AWP.nest ?_
  first | refine AWP.seq (AWP.block ?_) | refine AWP.block ?_
  repeat refine AWP.nest ?_
  first | refine rsa hG [] [0, 4, 5, 6, 7, 8, 9] fun K hK => ?_ | refine rna hG [] [0, 4, 5, 6, 7, 8, 9] fun K hK => ?_
  repeat first | ((with_reducible refine shN ?_); refine sL ?_) | ((with_reducible refine shG ?_); refine sG ?_)
  refine Eq.mpr evalL_nil (hK _ ?_)
  clear hK K
  simp only [evU, St.keep, List.map_cons, look, reduceIte, Nat.reduceEqDiff]
  try show AWP _ _ _ _ _
  repeat refine AWP.nest ?_
  first | refine rsa hG [] [0, 4, 5, 6, 147] fun K hK => ?_ | refine rna hG [] [0, 4, 5, 6, 147] fun K hK => ?_
  repeat first | ((with_reducible refine shN ?_); refine sL ?_) | ((with_reducible refine shG ?_); refine sG ?_)
  refine Eq.mpr evalL_nil (hK _ ?_)
  clear hK K
  simp only [evU, St.keep, List.map_cons, look, reduceIte, Nat.reduceEqDiff]
  try show AWP _ _ _ _ _
  repeat refine AWP.nest ?_
  first | refine AWP.seq (AWP.cond (b := _) rfl (fun hc => ?_) (fun hc => ?_)) | refine AWP.cond (b := _) rfl (fun hc => ?_) (fun hc => ?_)
  all_goals try simp only [evC] at hc
  · have hno : okQ l (nS l) i = false := by
      cases e : okQ l (nS l) i with
      | false => rfl
      | true =>
        have := okQ_iff.1 e
        exfalso
        omega
    rw [rightS_not hi' hno]
    repeat refine AWP.nest ?_
    first | refine rsa hG [] [2, 3] fun K hK => ?_ | refine rna hG [] [2, 3] fun K hK => ?_
    repeat first | ((with_reducible refine shN ?_); refine sL ?_) | ((with_reducible refine shG ?_); refine sG ?_)
    refine Eq.mpr evalL_nil (hK _ ?_)
    clear hK K
    simp only [evU, St.keep, List.map_cons, look, reduceIte, Nat.reduceEqDiff]
    try show AWP _ _ _ _ _
    refine AWP.ret ?_
    refine ⟨.inl rfl, ⟨⟨_, rfl, ?_⟩, fun ob hob => by cases hob⟩⟩
    simp only [look, reduceIte, Nat.reduceEqDiff]
    refine ⟨_, rfl, (.cons ?_ (.cons ?_ .nil))⟩
    · exact sub1_n rfl
    · exact sub1_of rfl
  refine AWP.skip ?_
  show AWP _ _ _ _ _
  have hok : okQ l (nS l) i = true := okQ_iff.2 (by omega)
  repeat refine AWP.nest ?_
  first | refine rsa hG [] [0, 4, 5, 6] fun K hK => ?_ | refine rna hG [] [0, 4, 5, 6] fun K hK => ?_
  repeat first | ((with_reducible refine shN ?_); refine sL ?_) | ((with_reducible refine shG ?_); refine sG ?_)
  refine Eq.mpr evalL_nil (hK _ ?_)
  clear hK K
  simp only [evU, St.keep, List.map_cons, look, reduceIte, Nat.reduceEqDiff]
  try show AWP _ _ _ _ _
  exact ⟨nS l - (i + 1), by omega, i + 1, by omega, rfl, fun j hj2 => by
    rcases Nat.lt_succ_iff_lt_or_eq.1 hj2 with h | h
    · exact hj j h
    · rw [h]; exact hok, rfl⟩
def e57 : List AV → Option Ob → Option Res := fun args i => match args, i with
  | [.d false (.sl 1 xs)], none => some ⟨IsB xs ∧ (toInts xs).length ≤ 1000000000000, .tup [.d true (.v (.int .i64 (if rightS (toInts xs) = true then (nS (toInts xs) : Int) else 0))), .d true (.v (.bool (rightS (toInts xs))))], none⟩
  | _, _ => none
def F58 : FT := F57.upd 57 e57
theorem F58_ok : FOK Try.prog F58 := FOK.upd F57_ok Try.func57 (by kernel_rfl) rfl fun args i R h => by
  unfold e57 at h
  split at h
  · cases h
    refine Spec.pre fun h => ?_
    obtain ⟨⟨h1, h2⟩, h3⟩ := h
    rw [h1, toInts_ints]
    exact s57 _ h2 h3
  · cases h

/-! ### ref09.Look -/
theorem look1_off {s : Int × Int × Int × Int} {p : List Int} {c o : Int} (h : s.2.2.2 = o) : look1 s p c = if c < s.1 then 0 else if o < 0 then (c + s.2.2.1) % 65536 else if n2V p (o + 2 * (c - s.1)) = 0 then 0 else (n2V p (o + 2 * (c - s.1)) + s.2.2.1) % 65536 := by
  subst h; rfl
theorem s58 (l : List Int) (hb : Byt l) (n : Nat) (hn : n ≤ 32767) (c : Int) (hc0 : -2147483648 ≤ c) (hc1 : c ≤ 2147483647) : Spec Try.prog 58 [.d false (.sl 1 (ints .u8 l)), .d true (.v (.int .i64 (n : Int))), .d true (.v (.int .i64 c))] none ⟨True, .d true (.v (.int .i64 (lookS (segsR l n) l c))), none⟩ := by
  have hf103 : F58 103 = e103 := rfl
  have hG := (Gf_ok F58_ok)
  have hfs := And.intro @hf103 (And.intro @e103.eq_1 @evP)
  have hxs := @Nat.add_zero
  refine spec_of_awp (Gf_ok F58_ok) Try.func58 rfl (Nat.le_of_ble_eq_true rfl) fun E hps hN _ => ?_
  simp only [begin, List.zipIdx_cons, List.zipIdx_nil, List.map_cons, List.map_nil, Option.toList, Nat.zero_add, Nat.reduceAdd]
  repeat refine AWP.nest ?_
  first | refine rsa hG [] [0, 1, 2] fun K hK => ?_ | refine rna hG [] [0, 1, 2] fun K hK => ?_
  repeat first | ((with_reducible refine shN ?_); refine sL ?_) | ((with_reducible refine shG ?_); refine sG ?_)
  refine Eq.mpr evalL_nil (hK _ ?_)
  clear hK K
  simp only [evU, St.keep, List.map_cons, look, reduceIte, Nat.reduceEqDiff]
  try show AWP _ _ _ _ _
  repeat refine AWP.nest ?_
  first | refine rsa hG [] [0, 1, 2, 17] fun K hK => ?_ | refine rna hG [] [0, 1, 2, 17] fun K hK => ?_
  repeat first | ((with_reducible refine shN ?_); refine sL ?_) | ((with_reducible refine shG ?_); refine sG ?_)
  refine Eq.mpr evalL_nil (hK _ ?_)
  clear hK K
  simp only [evU, St.keep, List.map_cons, look, reduceIte, Nat.reduceEqDiff]
  try show AWP _ _ _ _ _
  repeat refine AWP.nest ?_
  first | refine AWP.seq (AWP.cond (b := _) rfl (fun hc => ?_) (fun hc => ?_)) | refine AWP.cond (b := _) rfl (fun hc => ?_) (fun hc => ?_)
  all_goals try simp only [evC] at hc
  · have e : lookS (segsR l n) l c = 0 := if_pos (by omega)
    rw [e]
    repeat refine AWP.nest ?_
    first | refine rsa hG [] [6] fun K hK => ?_ | refine rna hG [] [6] fun K hK => ?_
    repeat first | ((with_reducible refine shN ?_); refine sL ?_) | ((with_reducible refine shG ?_); refine sG ?_)
    refine Eq.mpr evalL_nil (hK _ ?_)
    clear hK K
    simp only [evU, St.keep, List.map_cons, look, reduceIte, Nat.reduceEqDiff]
    try show AWP _ _ _ _ _
    refine AWP.ret ?_
    refine ⟨.inl rfl, ⟨⟨_, rfl, ?_⟩, fun ob hob => by cases hob⟩⟩
    simp only [look, reduceIte, Nat.reduceEqDiff]
    exact sub1_of rfl
  refine AWP.skip ?_
  show AWP _ _ _ _ _
  have hcr : 0 ≤ c ∧ c ≤ 65535 := by omega
  clear hc hc0 hc1
  repeat refine AWP.nest ?_
  first | refine rsa hG [] [0, 1, 2, 7] fun K hK => ?_ | refine rna hG [] [0, 1, 2, 7] fun K hK => ?_
  repeat first | ((with_reducible refine shN ?_); refine sL ?_) | ((with_reducible refine shG ?_); refine sG ?_)
  refine Eq.mpr evalL_nil (hK _ ?_)
  clear hK K
  simp only [evU, St.keep, List.map_cons, look, reduceIte, Nat.reduceEqDiff]
  try show AWP _ _ _ _ _
  repeat refine AWP.nest ?_
  first | refine AWP.seq (AWP.block ?_) | refine AWP.block ?_
  refine AWP.loop (fun k st => ∃ (i : Nat), i ≤ n ∧ k = n - i ∧ (∀ j, j < i → decide (c ≤ (segR l n j).2.1) = false) ∧ st = ⟨[(0, .d false (.sl 1 (ints .u8 l))), (1, .d true (.v (.int .i64 (n : Int)))), (2, .d true (.v (.int .i64 c))), (7, .d true (.v (.int .i64 (i : Int))))], []⟩) (n) ?_ ?_
  · exact ⟨0, Nat.zero_le _, rfl, (fun j h => absurd h (Nat.not_lt_zero j)), rfl⟩
  rintro k st ⟨i, hi, hk, hj, rfl⟩
  repeat refine AWP.nest ?_
  first | refine rsa hG [] [0, 1, 2, 7, 20] fun K hK => ?_ | refine rna hG [] [0, 1, 2, 7, 20] fun K hK => ?_
  repeat first | ((with_reducible refine shN ?_); refine sL ?_) | ((with_reducible refine shG ?_); refine sG ?_)
  refine Eq.mpr evalL_nil (hK _ ?_)
  clear hK K
  simp only [evU, St.keep, List.map_cons, look, reduceIte, Nat.reduceEqDiff]
  try show AWP _ _ _ _ _
  first | refine AWP.seq (AWP.cond (b := _) rfl (fun hc => ?_) (fun hc => ?_)) | refine AWP.cond (b := _) rfl (fun hc => ?_) (fun hc => ?_)
  rotate_left
  · refine AWP.exit ?_
    show AWP _ _ _ _ _
    simp only [evC, Int.not_lt] at hc
    obtain rfl : i = n := by omega
    have e : lookS (segsR l i) l c = 0 := by
      unfold lookS segsR
      rw [if_neg (by omega), find_range_none (p := fun s : Int × Int × Int × Int => decide (c ≤ s.2.1)) hj]
    rw [e]
    repeat refine AWP.nest ?_
    first | refine rsa hG [] [6] fun K hK => ?_ | refine rna hG [] [6] fun K hK => ?_
    repeat first | ((with_reducible refine shN ?_); refine sL ?_) | ((with_reducible refine shG ?_); refine sG ?_)
    refine Eq.mpr evalL_nil (hK _ ?_)
    clear hK K
    simp only [evU, St.keep, List.map_cons, look, reduceIte, Nat.reduceEqDiff]
    try show AWP _ _ _ _ _
    refine AWP.ret ?_
    refine ⟨.inl rfl, ⟨⟨_, rfl, ?_⟩, fun ob hob => by cases hob⟩⟩
    simp only [look, reduceIte, Nat.reduceEqDiff]
    exact sub1_of rfl
  simp only [evC, Int.not_lt] at hc
  refine AWP.skip ?_
  show AWP _ _ _ _ _
  have hi' := hc
  clear hc
  have y1 := n2V_bound hb (14 + 2 * (i : Int))
  have y2 := n2V_bound hb (16 + 2 * (n : Int) + 2 * (i : Int))
  have y3 := n2V_bound hb (16 + 6 * (n : Int) + 2 * (i : Int))
  have y4 := n2V_bound hb (16 + 4 * (n : Int) + 2 * (i : Int))
  repeat refine AWP.nest ?_
  first | refine AWP.seq (AWP.block ?_) | refine AWP.block ?_
  repeat refine AWP.nest ?_
  first | refine rsa hG [] [0, 1, 2, 7, 29] fun K hK => ?_ | refine rna hG [] [0, 1, 2, 7, 29] fun K hK => ?_
  repeat first | ((with_reducible refine shN ?_); refine sL ?_) | ((with_reducible refine shG ?_); refine sG ?_)
  refine Eq.mpr evalL_nil (hK _ ?_)
  clear hK K
  simp only [evU, St.keep, List.map_cons, look, reduceIte, Nat.reduceEqDiff]
  try show AWP _ _ _ _ _
  repeat refine AWP.nest ?_
  first | refine AWP.seq (AWP.cond (b := _) rfl (fun hc => ?_) (fun hc => ?_)) | refine AWP.cond (b := _) rfl (fun hc => ?_) (fun hc => ?_)
  all_goals try simp only [evC] at hc
  · refine AWP.exit ?_
    show AWP _ _ _ _ _
    repeat refine AWP.nest ?_
    first | refine rsa hG [] [0, 1, 2, 7] fun K hK => ?_ | refine rna hG [] [0, 1, 2, 7] fun K hK => ?_
    repeat first | ((with_reducible refine shN ?_); refine sL ?_) | ((with_reducible refine shG ?_); refine sG ?_)
    refine Eq.mpr evalL_nil (hK _ ?_)
    clear hK K
    simp only [evU, St.keep, List.map_cons, look, reduceIte, Nat.reduceEqDiff]
    try show AWP _ _ _ _ _
    exact ⟨n - (i + 1), by omega, i + 1, by omega, rfl, fun j hj2 => by
      rcases Nat.lt_succ_iff_lt_or_eq.1 hj2 with h | h
      · exact hj j h
      · rw [h]; exact decide_eq_false (by show ¬ c ≤ n2V l (14 + 2 * (i : Int)); omega), rfl⟩
  refine AWP.skip ?_
  show AWP _ _ _ _ _
  have hfd : lookS (segsR l n) l c = look1 (segR l n i) l c := by
    unfold lookS segsR
    rw [if_neg (by omega), find_range (p := fun s : Int × Int × Int × Int => decide (c ≤ s.2.1)) hi' hj (decide_eq_true (by show c ≤ n2V l (14 + 2 * (i : Int)); omega))]
  rw [hfd]
  clear hfd hj hc
  repeat refine AWP.nest ?_
  first | refine rsa hG [] [0, 1, 2, 7, 8, 9, 10] fun K hK => ?_ | refine rna hG [] [0, 1, 2, 7, 8, 9, 10] fun K hK => ?_
  repeat first | ((with_reducible refine shN ?_); refine sL ?_) | ((with_reducible refine shG ?_); refine sG ?_)
  refine Eq.mpr evalL_nil (hK _ ?_)
  clear hK K
  simp only [evU, St.keep, List.map_cons, look, reduceIte, Nat.reduceEqDiff]
  try show AWP _ _ _ _ _
  repeat refine AWP.nest ?_
  first | refine rsa hG [] [0, 1, 2, 7, 8, 9, 10, 56] fun K hK => ?_ | refine rna hG [] [0, 1, 2, 7, 8, 9, 10, 56] fun K hK => ?_
  repeat first | ((with_reducible refine shN ?_); refine sL ?_) | ((with_reducible refine shG ?_); refine sG ?_)
  refine Eq.mpr evalL_nil (hK _ ?_)
  clear hK K
  simp only [evU, St.keep, List.map_cons, look, reduceIte, Nat.reduceEqDiff]
  try show AWP _ _ _ _ _
  repeat refine AWP.nest ?_
  first | refine AWP.seq (AWP.cond (b := _) rfl (fun hc => ?_) (fun hc => ?_)) | refine AWP.cond (b := _) rfl (fun hc => ?_) (fun hc => ?_)
  all_goals try simp only [evC] at hc
  · have e : look1 (segR l n i) l c = 0 := if_pos hc
    rw [e]
    repeat refine AWP.nest ?_
    first | refine rsa hG [] [6] fun K hK => ?_ | refine rna hG [] [6] fun K hK => ?_
    repeat first | ((with_reducible refine shN ?_); refine sL ?_) | ((with_reducible refine shG ?_); refine sG ?_)
    refine Eq.mpr evalL_nil (hK _ ?_)
    clear hK K
    simp only [evU, St.keep, List.map_cons, look, reduceIte, Nat.reduceEqDiff]
    try show AWP _ _ _ _ _
    refine AWP.ret ?_
    refine ⟨.inl rfl, ⟨⟨_, rfl, ?_⟩, fun ob hob => by cases hob⟩⟩
    simp only [look, reduceIte, Nat.reduceEqDiff]
    exact sub1_of rfl
  refine AWP.skip ?_
  show AWP _ _ _ _ _
  have hst : ¬ c < (segR l n i).1 := hc
  repeat refine AWP.nest ?_
  first | refine rsa hG [] [0, 1, 2, 7, 8, 9, 10, 11] fun K hK => ?_ | refine rna hG [] [0, 1, 2, 7, 8, 9, 10, 11] fun K hK => ?_
  repeat first | ((with_reducible refine shN ?_); refine sL ?_) | ((with_reducible refine shG ?_); refine sG ?_)
  refine Eq.mpr evalL_nil (hK _ ?_)
  clear hK K
  simp only [evU, St.keep, List.map_cons, look, reduceIte, Nat.reduceEqDiff]
  try show AWP _ _ _ _ _
  repeat refine AWP.nest ?_
  first | refine rsa hG [] [0, 1, 2, 7, 8, 9, 10, 11, 59] fun K hK => ?_ | refine rna hG [] [0, 1, 2, 7, 8, 9, 10, 11, 59] fun K hK => ?_
  repeat first | ((with_reducible refine shN ?_); refine sL ?_) | ((with_reducible refine shG ?_); refine sG ?_)
  refine Eq.mpr evalL_nil (hK _ ?_)
  clear hK K
  simp only [evU, St.keep, List.map_cons, look, reduceIte, Nat.reduceEqDiff]
  try show AWP _ _ _ _ _
  repeat refine AWP.nest ?_
  first | refine AWP.seq (AWP.cond (b := _) rfl (fun hc => ?_) (fun hc => ?_)) | refine AWP.cond (b := _) rfl (fun hc => ?_) (fun hc => ?_)
  all_goals try simp only [evC] at hc
  · have y5 := n2V_bound hb (16 + 6 * (n : Int) + 2 * (i : Int) + n2V l (16 + 6 * (n : Int) + 2 * (i : Int)) + 2 * (c - n2V l (16 + 2 * (n : Int) + 2 * (i : Int))))
    have e : look1 (segR l n i) l c = if n2V l (16 + 6 * (n : Int) + 2 * (i : Int) + n2V l (16 + 6 * (n : Int) + 2 * (i : Int)) + 2 * (c - n2V l (16 + 2 * (n : Int) + 2 * (i : Int)))) = 0 then 0 else (n2V l (16 + 6 * (n : Int) + 2 * (i : Int) + n2V l (16 + 6 * (n : Int) + 2 * (i : Int)) + 2 * (c - n2V l (16 + 2 * (n : Int) + 2 * (i : Int)))) + n2V l (16 + 4 * (n : Int) + 2 * (i : Int))) % 65536 := by
      rw [look1_off (o := 16 + 6 * (n : Int) + 2 * (i : Int) + n2V l (16 + 6 * (n : Int) + 2 * (i : Int))) (if_neg (by omega)), if_neg hst, if_neg (by omega)]
      rfl
    rw [e]
    clear e
    repeat refine AWP.nest ?_
    first | refine rsa hG [] [9, 11] fun K hK => ?_ | refine rna hG [] [9, 11] fun K hK => ?_
    repeat first | ((with_reducible refine shN ?_); refine sL ?_) | ((with_reducible refine shG ?_); refine sG ?_)
    refine Eq.mpr evalL_nil (hK _ ?_)
    clear hK K
    simp only [evU, St.keep, List.map_cons, look, reduceIte, Nat.reduceEqDiff]
    try show AWP _ _ _ _ _
    repeat refine AWP.nest ?_
    first | refine rsa hG [] [9, 11, 76] fun K hK => ?_ | refine rna hG [] [9, 11, 76] fun K hK => ?_
    repeat first | ((with_reducible refine shN ?_); refine sL ?_) | ((with_reducible refine shG ?_); refine sG ?_)
    refine Eq.mpr evalL_nil (hK _ ?_)
    clear hK K
    simp only [evU, St.keep, List.map_cons, look, reduceIte, Nat.reduceEqDiff]
    try show AWP _ _ _ _ _
    repeat refine AWP.nest ?_
    first | refine AWP.seq (AWP.cond (b := _) rfl (fun hc => ?_) (fun hc => ?_)) | refine AWP.cond (b := _) rfl (fun hc => ?_) (fun hc => ?_)
    all_goals try simp only [evC] at hc
    · rw [if_pos hc]
      repeat refine AWP.nest ?_
      first | refine rsa hG [] [6] fun K hK => ?_ | refine rna hG [] [6] fun K hK => ?_
      repeat first | ((with_reducible refine shN ?_); refine sL ?_) | ((with_reducible refine shG ?_); refine sG ?_)
      refine Eq.mpr evalL_nil (hK _ ?_)
      clear hK K
      simp only [evU, St.keep, List.map_cons, look, reduceIte, Nat.reduceEqDiff]
      try show AWP _ _ _ _ _
      refine AWP.ret ?_
      refine ⟨.inl rfl, ⟨⟨_, rfl, ?_⟩, fun ob hob => by cases hob⟩⟩
      simp only [look, reduceIte, Nat.reduceEqDiff]
      exact sub1_of rfl
    refine AWP.skip ?_
    show AWP _ _ _ _ _
    rw [if_neg hc]
    repeat refine AWP.nest ?_
    first | refine rsa hG [] [6] fun K hK => ?_ | refine rna hG [] [6] fun K hK => ?_
    repeat first | ((with_reducible refine shN ?_); refine sL ?_) | ((with_reducible refine shG ?_); refine sG ?_)
    refine Eq.mpr evalL_nil (hK _ ?_)
    clear hK K
    simp only [evU, St.keep, List.map_cons, look, reduceIte, Nat.reduceEqDiff]
    try show AWP _ _ _ _ _
    refine AWP.ret ?_
    refine ⟨.inl rfl, ⟨⟨_, rfl, ?_⟩, fun ob hob => by cases hob⟩⟩
    simp only [look, reduceIte, Nat.reduceEqDiff]
    exact sub1_of rfl
  refine AWP.skip ?_
  show AWP _ _ _ _ _
  have e : look1 (segR l n i) l c = (c + n2V l (16 + 4 * (n : Int) + 2 * (i : Int))) % 65536 := by
    rw [look1_off (o := -1) (if_pos (by omega)), if_neg hst, if_pos (by decide)]
    rfl
  rw [e]
  repeat refine AWP.nest ?_
  first | refine rsa hG [] [6] fun K hK => ?_ | refine rna hG [] [6] fun K hK => ?_
  repeat first | ((with_reducible refine shN ?_); refine sL ?_) | ((with_reducible refine shG ?_); refine sG ?_)
  refine Eq.mpr evalL_nil (hK _ ?_)
  clear hK K
  simp only [evU, St.keep, List.map_cons, look, reduceIte, Nat.reduceEqDiff]
  try show AWP _ _ _ _ _
  refine AWP.ret ?_
  refine ⟨.inl rfl, ⟨⟨_, rfl, ?_⟩, fun ob hob => by cases hob⟩⟩
  simp only [look, reduceIte, Nat.reduceEqDiff]
  exact sub1_of rfl
def e58 : List AV → Option Ob → Option Res := fun args i => match args, i with
  | [.d false (.sl 1 xs), .d true (.v (.int .i64 n)), .d true (.v (.int .i64 c))], none => some ⟨IsB xs ∧ 0 ≤ n ∧ n ≤ 32767 ∧ -2147483648 ≤ c ∧ c ≤ 2147483647, .d true (.v (.int .i64 (lookS (segsR (toInts xs) n.toNat) (toInts xs) c))), none⟩
  | _, _ => none
def F59 : FT := F58.upd 58 e58
theorem F59_ok : FOK Try.prog F59 := FOK.upd F58_ok Try.func58 (by kernel_rfl) rfl fun args i R h => by
  unfold e58 at h
  split at h
  · rename_i xs n c
    cases h
    refine Spec.pre fun h => ?_
    obtain ⟨⟨h1, h2⟩, h3, h4, h5, h6⟩ := h
    rw [h1, toInts_ints]
    obtain ⟨m, rfl⟩ : ∃ m : Nat, n = m := ⟨n.toNat, by omega⟩
    exact s58 (toInts xs) h2 m (by omega) c h5 h6
  · cases h
end Go.AM

