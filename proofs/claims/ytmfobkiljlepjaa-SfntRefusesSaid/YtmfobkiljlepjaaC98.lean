/- AM: the law SfntRefuses. -/
import Derived.Test.YtmfobkiljlepjaaC97
set_option maxRecDepth 100000
set_option maxHeartbeats 8000000
set_option linter.unusedSimpArgs false
set_option linter.unusedVariables false
namespace Go.AM
open Go Go.Proofs

/-- Tables without data, of tags that rise. -/
def manyT (q : Nat) : List Tb := (List.range q).map fun (i : Nat) => (strL [97, 98, (i : Int), 100], [])
theorem manyT_succ {q : Nat} : manyT (q + 1) = manyT q ++ [(strL [97, 98, (q : Int), 100], [])] := by unfold manyT; rw [List.range_succ, List.map_append]; rfl
theorem manyT_len {q : Nat} : (manyT q).length = q := by simp [manyT]
theorem manyT_up {q : Nat} (hq : q ≤ 256) : upT (manyT q) := by
  unfold upT manyT
  rw [List.pairwise_map]
  refine List.Pairwise.imp_of_mem ?_ (List.pairwise_lt_range (n := q))
  intro i j hi hj hij
  have hi := List.mem_range.1 hi
  have hj := List.mem_range.1 hj
  rw [ltT_eq, ByteArray.toList_eq, ByteArray.toList_eq, strL_data, strL_data]
  have h2 : UInt8.ofNat ((i : Int).toNat) < UInt8.ofNat ((j : Int).toNat) := by
    rw [UInt8.lt_iff_toNat_lt, UInt8.toNat_ofNat', UInt8.toNat_ofNat']
    omega
  simp [Op.bytesLess]
  exact h2
theorem manyT_mem {q : Nat} {t : Tb} (h : t ∈ manyT q) : t.1.size = 4 ∧ t.2 = [] := by
  unfold manyT at h
  obtain ⟨i, _, rfl⟩ := List.mem_map.1 h
  exact ⟨strL_size _, rfl⟩
theorem noWhole {t : Tb} (h : t.2 = []) : wholeT t = false := by
  unfold wholeT
  rw [h]
  simp
theorem right_dup {l : List Tb} {t : Tb} (h : t ∈ l) : rightT (srtT (l ++ [t])) = false := by
  cases hr : rightT (srtT (l ++ [t])) with
  | false => rfl
  | true =>
    obtain ⟨_, _, _, hu⟩ := rightT_iff.1 hr
    have hne : (srtT (l ++ [t])).Pairwise fun a b => a.1 ≠ b.1 := hu.imp fun {a b} hab e => by
      rw [ltT_eq, e, bl_irr] at hab
      cases hab
    have hne2 : (l ++ [t]).Pairwise fun a b => a.1 ≠ b.1 := ((srtT_perm (l := l ++ [t])).pairwise_iff (fun {a b} hab => Ne.symm hab)).1 hne
    exact absurd rfl ((List.pairwise_append.1 hne2).2.2 t h t (by simp))
theorem right_odd {l : List Tb} {t : Tb} (h : t ∈ l) (h4 : t.1.size ≠ 4) : rightT (srtT l) = false := by
  cases hr : rightT (srtT l) with
  | false => rfl
  | true =>
    obtain ⟨_, _, ht, _⟩ := rightT_iff.1 hr
    exact absurd (ht t ((srtT_perm (l := l)).mem_iff.2 h)) h4
theorem bldT_bad {l : List Tb} (h : rightT (srtT l) = false) : bldT l = [] := by
  unfold bldT
  rw [if_neg (by rw [h]; exact Bool.false_ne_true)]
theorem bldT_many {q : Nat} (hq : q ≤ 256) : (0 < (bldT (manyT q)).length) ↔ (1 ≤ q ∧ q ≤ 64) := by
  have hu := manyT_up hq
  have ht : Tags4 (manyT q) := fun t h => (manyT_mem h).1
  unfold bldT
  rw [srtT_up hu]
  constructor
  · intro h
    by_cases hr : rightT (manyT q) = true
    · obtain ⟨h1, h2, _, _⟩ := rightT_iff.1 hr
      rw [manyT_len] at h1 h2
      exact ⟨h1, h2⟩
    · rw [if_neg hr] at h; simp at h
  · intro h
    have hr : rightT (manyT q) = true := rightT_iff.2 ⟨by rw [manyT_len]; exact h.1, by rw [manyT_len]; exact h.2, ht, hu⟩
    rw [if_pos hr, (file_facts hu ht).1, rawF_len ht]
    omega
theorem drop_ne {l : List Tb} (h : l ≠ []) : decide (l = l.drop 1) = false := by
  rw [decide_eq_false_iff_not]
  intro e
  have := congrArg List.length e
  rw [List.length_drop] at this
  have : 0 < l.length := List.length_pos_iff.2 h
  omega


theorem s26 (l : List Tb) (hb : DatB l) (s : ByteArray) (n : Int) (hn0 : 0 ≤ n) (hn1 : n < 256) : Spec Try.prog 26 [.d false (.sl 2 (tbs l)), .d true (.v (.string s)), .d true (.v (.int .u8 n))] none ⟨True, .d true (.v (.bool true)), none⟩ := by
  have hf37 : F141 37 = e37 := rfl
  have hf62 : F141 62 = e62 := rfl
  have hf74 : F141 74 = e74 := rfl
  have hf75 : F141 75 = e75 := rfl
  have hf76 : F141 76 = e76 := rfl
  have hf77 : F141 77 = e77 := rfl
  have hf78 : F141 78 = e78r := rfl
  have hf79 : F141 79 = e79 := rfl
  have hG := (Gf_ok F141_ok)
  have hfs := And.intro @hf37 (And.intro @e37.eq_1 (And.intro @hf62 (And.intro @e62.eq_1 (And.intro @hf74 (And.intro @e74.eq_1 (And.intro @hf75 (And.intro @e75.eq_1 (And.intro @hf76 (And.intro @e76.eq_1 (And.intro @hf77 (And.intro @e77.eq_1 (And.intro @hf78 (And.intro @e78r.eq_1 (And.intro @hf79 (And.intro @e79.eq_1 (And.intro @evP @evTb))))))))))))))))
  have hxs := @Nat.add_zero
  refine spec_of_awp (Gf_ok F141_ok) Try.func26 rfl (Nat.le_of_ble_eq_true rfl) fun E hps hN _ => ?_
  simp only [begin, List.zipIdx_cons, List.zipIdx_nil, List.map_cons, List.map_nil, Option.toList, Nat.zero_add, Nat.reduceAdd]
  repeat refine AWP.nest ?_
  first | refine rsa hG [] [0, 1, 2] fun K hK => ?_ | refine rna hG [] [0, 1, 2] fun K hK => ?_
  repeat first | ((with_reducible refine shN ?_); refine sL ?_) | ((with_reducible refine shG ?_); refine sG ?_)
  refine Eq.mpr evalL_nil (hK _ ?_)
  clear hK K
  simp only [evU, St.keep, List.map_cons, look, reduceIte, Nat.reduceEqDiff]
  try show AWP _ _ _ _ _
  repeat refine AWP.nest ?_
  first | refine rsa hG [] [0, 1, 2, 16] fun K hK => ?_ | refine rna hG [] [0, 1, 2, 16] fun K hK => ?_
  repeat first | ((with_reducible refine shN ?_); refine sL ?_) | ((with_reducible refine shG ?_); refine sG ?_)
  refine Eq.mpr evalL_nil (hK _ ?_)
  clear hK K
  simp only [evU, St.keep, List.map_cons, look, reduceIte, Nat.reduceEqDiff]
  try show AWP _ _ _ _ _
  repeat refine AWP.nest ?_
  first | refine AWP.seq (AWP.cond (b := _) rfl (fun hc => ?_) (fun hc => ?_)) | refine AWP.cond (b := _) rfl (fun hc => ?_) (fun hc => ?_)
  all_goals try simp only [evC] at hc
  · cases hc
  refine AWP.skip ?_
  show AWP _ _ _ _ _
  clear hc
  repeat refine AWP.nest ?_
  first | refine rsa hG [] [1, 2, 7, 8] fun K hK => ?_ | refine rna hG [] [1, 2, 7, 8] fun K hK => ?_
  repeat first | ((with_reducible refine shN ?_); refine sL ?_) | ((with_reducible refine shG ?_); refine sG ?_)
  refine Eq.mpr evalL_nil (hK _ ?_)
  clear hK K
  simp only [evU, St.keep, List.map_cons, look, reduceIte, Nat.reduceEqDiff]
  try show AWP _ _ _ _ _
  obtain ⟨hu, ht4, hAb, hA60, hAl⟩ := fewT_ok hb (min l.length 9) (by omega)
  generalize fewT l (min l.length 9) = A at hu ht4 hAb hA60 hAl ⊢
  have hAl9 : A.length ≤ 9 := by omega
  clear hAl
  repeat refine AWP.nest ?_
  first | refine rsa hG [] [1, 2, 7, 8] fun K hK => ?_ | refine rna hG [] [1, 2, 7, 8] fun K hK => ?_
  repeat first | ((with_reducible refine shN ?_); refine sL ?_) | ((with_reducible refine shG ?_); refine sG ?_)
  refine Eq.mpr evalL_nil (hK _ ?_)
  clear hK K
  simp only [evU, St.keep, List.map_cons, look, reduceIte, Nat.reduceEqDiff]
  try show AWP _ _ _ _ _
  generalize txtS s 6 = tg
  repeat refine AWP.nest ?_
  first | refine rsa hG [] [1, 2, 7, 8, 9] fun K hK => ?_ | refine rna hG [] [1, 2, 7, 8, 9] fun K hK => ?_
  repeat first | ((with_reducible refine shN ?_); refine sL ?_) | ((with_reducible refine shG ?_); refine sG ?_)
  refine Eq.mpr evalL_nil (hK _ ?_)
  clear hK K
  simp only [evU, St.keep, List.map_cons, look, reduceIte, Nat.reduceEqDiff]
  try show AWP _ _ _ _ _
  obtain ⟨q, hq⟩ : ∃ q : Nat, n % 80 = q := ⟨(n % 80).toNat, by omega⟩
  have hq80 : q < 80 := by omega
  repeat refine AWP.nest ?_
  have hxs := @hq
  first | refine rsa hG [] [1, 7, 8, 9, 26, 27] fun K hK => ?_ | refine rna hG [] [1, 7, 8, 9, 26, 27] fun K hK => ?_
  repeat first | ((with_reducible refine shN ?_); refine sL ?_) | ((with_reducible refine shG ?_); refine sG ?_)
  refine Eq.mpr evalL_nil (hK _ ?_)
  clear hK K hxs
  simp only [evU, St.keep, List.map_cons, look, reduceIte, Nat.reduceEqDiff]
  try show AWP _ _ _ _ _
  refine AWP.adopt 9 106 2 (by decide) rfl ?_
  refine AWP.keep [1, 7, 8, 9, 26, 27] ?_
  simp only [St.adopt, St.keep, List.map_cons, List.map_nil, look, reduceIte, Nat.reduceEqDiff, List.nil_append, List.length_nil, List.cons_append, List.length_cons, Nat.reduceAdd]
  repeat refine AWP.nest ?_
  first | refine AWP.seq (AWP.block ?_) | refine AWP.block ?_
  refine AWP.loop (fun k st => ∃ (i : Nat), i ≤ q ∧ k = q - i ∧ st = ⟨[(1, .d true (.v (.string tg))), (7, .d true (.sl 2 (tbs A))), (8, .d true (.sl 2 (tbs A))), (9, .own 0 i), (26, .d true (.v (.int .i64 (q : Int)))), (27, .d true (.v (.int .i64 (i : Int))))], [some (.row 106 2 i true (tbs (manyT i)))]⟩) (q) ?_ ?_
  · exact ⟨0, Nat.zero_le _, rfl, rfl⟩
  rintro k st ⟨i, hi, hk, rfl⟩
  repeat refine AWP.nest ?_
  first | refine rsa hG [] [1, 7, 8, 9, 26, 27, 28] fun K hK => ?_ | refine rna hG [] [1, 7, 8, 9, 26, 27, 28] fun K hK => ?_
  repeat first | ((with_reducible refine shN ?_); refine sL ?_) | ((with_reducible refine shG ?_); refine sG ?_)
  refine Eq.mpr evalL_nil (hK _ ?_)
  clear hK K
  simp only [evU, St.keep, List.map_cons, look, reduceIte, Nat.reduceEqDiff]
  try show AWP _ _ _ _ _
  first | refine AWP.seq (AWP.cond (b := _) rfl (fun hc => ?_) (fun hc => ?_)) | refine AWP.cond (b := _) rfl (fun hc => ?_) (fun hc => ?_)
  rotate_left
  · refine AWP.exit ?_
    show AWP _ _ _ _ _
    simp only [evC, Int.not_lt] at hc
    obtain rfl : i = q := by omega
    clear hc
    have hA6 : ∀ t ∈ A, t.2.length ≤ 1000000 := fun t ht => by have := hA60 t ht; omega
    have hM1 : (manyT i).length < 20 ∨ ((manyT i).length ≤ 1000 ∧ Asc ltT tb0 (manyT i) 0 (manyT i).length) := .inr ⟨by rw [manyT_len]; omega, upT_asc (manyT_up (by omega))⟩
    have hM2 : DatB (manyT i) := fun t ht => by rw [(manyT_mem ht).2]; exact Byt.nil
    have hM3 : ∀ t ∈ manyT i, t.2.length ≤ 60000 := fun t ht => by rw [(manyT_mem ht).2]; simp
    have hM4 : rightT (srtT (manyT i)) = false ∨ ∀ t ∈ manyT i, wholeT t = false := .inr fun t ht => noWhole (manyT_mem ht).2
    have hMq := bldT_many (q := i) (by omega)
    have hml : (manyT i).length = i := manyT_len
    have gM : (((bldT (manyT i)).length : Int) > 0) = (1 ≤ (i : Int) ∧ (i : Int) ≤ 64) := by
      rw [eq_iff_iff]
      constructor
      · intro h
        have := hMq.1 (by omega)
        omega
      · intro h
        have := hMq.2 (by omega)
        omega
    have gD : ((tbs A).drop 1).take (A.length - 1) = tbs (A.drop 1) := by
      unfold tbs
      rw [← List.map_drop, List.take_of_length_le (by rw [List.length_map, List.length_drop]; exact Nat.le_refl _)]
    have hq1 : (decide (1 ≤ (i : Int) ∧ (i : Int) ≤ 64) == (decide ((i : Int) ≥ 1) && decide ((i : Int) ≤ 64))) = true := by
      by_cases h1 : 1 ≤ (i : Int) <;> by_cases h2 : (i : Int) ≤ 64 <;> simp [h1, h2]
    have hq3 : ((A.length : Int) == 0 || !decide (A = A.drop 1)) = true := by
      by_cases h : A = []
      · rw [h]; rfl
      · rw [drop_ne h]; simp
    have hq2 : ((tg.size : Int) == 4 || ((0 : Nat) : Int) == 0) = true := by simp
    have hDd : DatB (A.drop 1) := fun t ht => hAb t (List.mem_of_mem_drop ht)
    have hO1 : (A ++ [(tg, ([] : List Int))]).length < 20 ∨ ((A ++ [(tg, ([] : List Int))]).length ≤ 1000 ∧ Asc ltT tb0 (A ++ [(tg, ([] : List Int))]) 0 (A ++ [(tg, ([] : List Int))]).length) := .inl (by rw [List.length_append, List.length_singleton]; omega)
    have hO2 : DatB (A ++ [(tg, ([] : List Int))]) := fun t ht => by
      rcases List.mem_append.1 ht with ht | ht
      · exact hAb t ht
      · rw [List.mem_singleton] at ht; subst ht; exact Byt.nil
    have hO3 : ∀ t ∈ A ++ [(tg, ([] : List Int))], t.2.length ≤ 60000 := fun t ht => by
      rcases List.mem_append.1 ht with ht | ht
      · have := hA60 t ht; omega
      · rw [List.mem_singleton] at ht; subst ht; simp
    have hO4 : tg.size ≠ 4 → rightT (srtT (A ++ [(tg, ([] : List Int))])) = false := fun h => right_odd (t := (tg, [])) (by simp) h
    repeat refine AWP.nest ?_
    first | refine rsa hG [] [1, 7, 8, 9, 11, 12] fun K hK => ?_ | refine rna hG [] [1, 7, 8, 9, 11, 12] fun K hK => ?_
    repeat first | ((with_reducible refine shN ?_); refine sL ?_) | ((with_reducible refine shG ?_); refine sG ?_)
    refine Eq.mpr evalL_nil (hK _ ?_)
    clear hK K
    simp only [evU, St.keep, List.map_cons, look, reduceIte, Nat.reduceEqDiff]
    try show AWP _ _ _ _ _
    repeat refine AWP.nest ?_
    first | refine rsa hG [] [1, 7, 8, 9, 11, 12, 13] fun K hK => ?_ | refine rna hG [] [1, 7, 8, 9, 11, 12, 13] fun K hK => ?_
    repeat first | ((with_reducible refine shN ?_); refine sL ?_) | ((with_reducible refine shG ?_); refine sG ?_)
    refine Eq.mpr evalL_nil (hK _ ?_)
    clear hK K
    simp only [evU, St.keep, List.map_cons, look, reduceIte, Nat.reduceEqDiff]
    try show AWP _ _ _ _ _
    have hfl := findT_le (s := tg) (l := A) (i := 0)
    have hjump : ∀ b : Bool, b = b := fun _ => rfl
    rcases Int.lt_or_le (findT tg A 0) 0 with hK | hK
    · have hD : findD A tg = [] := by unfold findD; rw [if_pos hK]
      have g1 : (0 ≤ findT tg A 0) = False := by simp; omega
      have g2 : (findT tg A 0 ≥ 0) = False := by simp; omega
      rw [hD]
      repeat refine AWP.nest ?_
      have hxs := And.intro @g1 @g2
      first | refine rsm hG [] [1, 7, 9, 73] fun K hK => ?_ | refine rnm hG [] [1, 7, 9, 73] fun K hK => ?_
      repeat first | ((with_reducible refine mhN ?_); refine mN ?_) | ((with_reducible refine mhG ?_); refine mT ?_) | ((with_reducible refine mhG ?_); refine mF ?_)
      refine Eq.mpr evalM_nil (hK _ ?_)
      clear hK K hxs
      simp only [evU, St.keep, List.map_cons, look, reduceIte, Nat.reduceEqDiff]
      try show AWP _ _ _ _ _
      repeat refine AWP.nest ?_
      first | refine AWP.seq (AWP.cond (b := _) rfl (fun hc => ?_) (fun hc => ?_)) | refine AWP.cond (b := _) rfl (fun hc => ?_) (fun hc => ?_)
      all_goals try simp only [evC] at hc
      · exfalso
        revert hc
        simp
      refine AWP.skip ?_
      show AWP _ _ _ _ _
      clear hc
      rcases Decidable.em (A = []) with hA0 | hA0
      · have hgt : ((A.length : Int) > 0) = False := by rw [hA0]; simp
        repeat refine AWP.nest ?_
        have hxs := @hgt
        first | refine rda hG [9999, 4] [1, 7, 9, 89] Try.mixed fun K hK => ?_ | refine dna hG [9999, 4] [1, 7, 9, 89] Try.mixed fun K hK => ?_
        repeat first | ((with_reducible refine shD ?_); refine sD ?_) | ((with_reducible refine shDG ?_); refine dT ?_) | ((with_reducible refine shDG ?_); refine dF ?_)
        refine evalD_done (by kernel_rfl) (hK _ ?_)
        clear hK K hxs
        simp only [evU, St.keep, List.map_cons, look, reduceIte, Nat.reduceEqDiff]
        try show AWP _ _ _ _ _
        repeat refine AWP.nest ?_
        first | refine AWP.seq (AWP.cond (b := _) rfl (fun hc => ?_) (fun hc => ?_)) | refine AWP.cond (b := _) rfl (fun hc => ?_) (fun hc => ?_)
        all_goals try simp only [evC] at hc
        · exfalso
          revert hc
          simp
        refine AWP.skip ?_
        show AWP _ _ _ _ _
        clear hc
        refine AWP.keep [1, 7, 9] ?_
        simp only [St.keep, List.map_cons, List.map_nil, look, reduceIte, Nat.reduceEqDiff]
        refine AWP.trunc 1 (by rw [hps]; decide) rfl ?_
        simp only [St.trunc, List.take_zero, List.take_succ_cons]
        repeat refine AWP.nest ?_
        first | refine rsa hG [0] [1, 7, 9, 14] fun K hK => ?_ | refine rna hG [0] [1, 7, 9, 14] fun K hK => ?_
        repeat first | ((with_reducible refine shN ?_); refine sL ?_) | ((with_reducible refine shG ?_); refine sG ?_)
        refine Eq.mpr evalL_nil (hK _ ?_)
        clear hK K
        simp only [evU, St.keep, List.map_cons, look, reduceIte, Nat.reduceEqDiff]
        try show AWP _ _ _ _ _
        refine AWP.rowto 1 _ (tbs (A ++ [(tg, [])])) rfl (by rw [← tbs_append, List.length_append, List.length_append]; rfl) tbs_wd (fun C fl h => RL_nil h) ?_
        simp only [List.set_cons_zero, List.set_cons_succ]
        rcases Decidable.em (tg.size = 4) with h4 | h4
        · have g4 : ((tg.size : Int) = 4) = True := by simp; omega
          repeat refine AWP.nest ?_
          have hxs := And.intro @g4 (And.intro @gM (And.intro @gD @hml))
          first | refine rsa hG [] [6] fun K hK => ?_ | refine rna hG [] [6] fun K hK => ?_
          repeat first | ((with_reducible refine shN ?_); refine sL ?_) | ((with_reducible refine shG ?_); refine sG ?_)
          refine Eq.mpr evalL_nil (hK _ ?_)
          clear hK K hxs
          simp only [evU, St.keep, List.map_cons, look, reduceIte, Nat.reduceEqDiff]
          try show AWP _ _ _ _ _
          refine AWP.ret ?_
          refine ⟨.inl rfl, ⟨⟨_, rfl, ?_⟩, fun ob hob => by cases hob⟩⟩
          simp only [look, reduceIte, Nat.reduceEqDiff]
          have hq4 : ((tg.size : Int) == 4 || ((bldT (A ++ [(tg, ([] : List Int))])).length : Int) == 0) = true := by rw [Bool.or_eq_true, beq_iff_eq]; left; omega
          exact sub1_of (by rw [hq1, Bool.true_and, hq4, Bool.true_and, hq3])
        have g4 : ((tg.size : Int) = 4) = False := by simp; omega
        have hOd := bldT_bad (hO4 h4)
        have hO5 : rightT (srtT (A ++ [(tg, ([] : List Int))])) = false ∨ ∀ t ∈ A ++ [(tg, ([] : List Int))], wholeT t = false := .inl (hO4 h4)
        repeat refine AWP.nest ?_
        have hxs := And.intro @g4 (And.intro @gM (And.intro @gD (And.intro @hml @hOd)))
        first | refine rsa hG [] [6] fun K hK => ?_ | refine rna hG [] [6] fun K hK => ?_
        repeat first | ((with_reducible refine shN ?_); refine sL ?_) | ((with_reducible refine shG ?_); refine sG ?_)
        refine Eq.mpr evalL_nil (hK _ ?_)
        clear hK K hxs
        simp only [evU, St.keep, List.map_cons, look, reduceIte, Nat.reduceEqDiff]
        try show AWP _ _ _ _ _
        refine AWP.ret ?_
        refine ⟨.inl rfl, ⟨⟨_, rfl, ?_⟩, fun ob hob => by cases hob⟩⟩
        simp only [look, reduceIte, Nat.reduceEqDiff]
        exact sub1_of (by rw [hq1, Bool.true_and, hq2, Bool.true_and, hq3])
      have hApos : 0 < A.length := List.length_pos_iff.2 hA0
      have hgt : ((A.length : Int) > 0) = True := by simp; omega
      have at0 : ∀ z, (tbs A).getD 0 z = .agg [.v (.string (A.getD 0 tb0).1), .sl 1 (ints .u8 (A.getD 0 tb0).2)] := fun z => tbs_at hApos
      have hm0 : A.getD 0 tb0 ∈ A := by
        rw [List.getD_eq_getElem?_getD, List.getElem?_eq_getElem hApos]
        exact List.getElem_mem _
      have hd1 : (A ++ [((A.getD 0 tb0).1, (A.getD 0 tb0).2)]).length < 20 ∨ ((A ++ [((A.getD 0 tb0).1, (A.getD 0 tb0).2)]).length ≤ 1000 ∧ Asc ltT tb0 (A ++ [((A.getD 0 tb0).1, (A.getD 0 tb0).2)]) 0 (A ++ [((A.getD 0 tb0).1, (A.getD 0 tb0).2)]).length) := .inl (by rw [List.length_append, List.length_singleton]; omega)
      have hd2 : DatB (A ++ [((A.getD 0 tb0).1, (A.getD 0 tb0).2)]) := fun t ht => by
        rcases List.mem_append.1 ht with ht | ht
        · exact hAb t ht
        · rw [List.mem_singleton] at ht; subst ht; exact hAb _ hm0
      have hd3 : ∀ t ∈ A ++ [((A.getD 0 tb0).1, (A.getD 0 tb0).2)], t.2.length ≤ 60000 := fun t ht => by
        rcases List.mem_append.1 ht with ht | ht
        · have := hA60 t ht; omega
        · rw [List.mem_singleton] at ht; subst ht; have := hA60 _ hm0; show (A.getD 0 tb0).2.length ≤ _; omega
      have hd4 : rightT (srtT (A ++ [((A.getD 0 tb0).1, (A.getD 0 tb0).2)])) = false := right_dup (t := A.getD 0 tb0) hm0
      have hd5 : bldT (A ++ [((A.getD 0 tb0).1, (A.getD 0 tb0).2)]) = [] := bldT_bad hd4
      have hd6 : rightT (srtT (A ++ [((A.getD 0 tb0).1, (A.getD 0 tb0).2)])) = false ∨ ∀ t ∈ A ++ [((A.getD 0 tb0).1, (A.getD 0 tb0).2)], wholeT t = false := .inl hd4
      repeat refine AWP.nest ?_
      have hxs := And.intro @hgt (And.intro @at0 @hd5)
      first | refine rda hG [9999, 4] [1, 7, 9, 89] Try.mixed fun K hK => ?_ | refine dna hG [9999, 4] [1, 7, 9, 89] Try.mixed fun K hK => ?_
      repeat first | ((with_reducible refine shD ?_); refine sD ?_) | ((with_reducible refine shDG ?_); refine dT ?_) | ((with_reducible refine shDG ?_); refine dF ?_)
      refine evalD_done (by kernel_rfl) (hK _ ?_)
      clear hK K hxs
      simp only [evU, St.keep, List.map_cons, look, reduceIte, Nat.reduceEqDiff]
      try show AWP _ _ _ _ _
      repeat refine AWP.nest ?_
      first | refine AWP.seq (AWP.cond (b := _) rfl (fun hc => ?_) (fun hc => ?_)) | refine AWP.cond (b := _) rfl (fun hc => ?_) (fun hc => ?_)
      all_goals try simp only [evC] at hc
      · exfalso
        revert hc
        simp
      refine AWP.skip ?_
      show AWP _ _ _ _ _
      clear hc hd1 hd2 hd3 hd4 hd5 hd6
      refine AWP.keep [1, 7, 9] ?_
      simp only [St.keep, List.map_cons, List.map_nil, look, reduceIte, Nat.reduceEqDiff]
      refine AWP.trunc 1 (by rw [hps]; decide) rfl ?_
      simp only [St.trunc, List.take_zero, List.take_succ_cons]
      repeat refine AWP.nest ?_
      first | refine rsa hG [0] [1, 7, 9, 14] fun K hK => ?_ | refine rna hG [0] [1, 7, 9, 14] fun K hK => ?_
      repeat first | ((with_reducible refine shN ?_); refine sL ?_) | ((with_reducible refine shG ?_); refine sG ?_)
      refine Eq.mpr evalL_nil (hK _ ?_)
      clear hK K
      simp only [evU, St.keep, List.map_cons, look, reduceIte, Nat.reduceEqDiff]
      try show AWP _ _ _ _ _
      refine AWP.rowto 1 _ (tbs (A ++ [(tg, [])])) rfl (by rw [← tbs_append, List.length_append, List.length_append]; rfl) tbs_wd (fun C fl h => RL_nil h) ?_
      simp only [List.set_cons_zero, List.set_cons_succ]
      rcases Decidable.em (tg.size = 4) with h4 | h4
      · have g4 : ((tg.size : Int) = 4) = True := by simp; omega
        repeat refine AWP.nest ?_
        have hxs := And.intro @g4 (And.intro @gM (And.intro @gD @hml))
        first | refine rsa hG [] [6] fun K hK => ?_ | refine rna hG [] [6] fun K hK => ?_
        repeat first | ((with_reducible refine shN ?_); refine sL ?_) | ((with_reducible refine shG ?_); refine sG ?_)
        refine Eq.mpr evalL_nil (hK _ ?_)
        clear hK K hxs
        simp only [evU, St.keep, List.map_cons, look, reduceIte, Nat.reduceEqDiff]
        try show AWP _ _ _ _ _
        refine AWP.ret ?_
        refine ⟨.inl rfl, ⟨⟨_, rfl, ?_⟩, fun ob hob => by cases hob⟩⟩
        simp only [look, reduceIte, Nat.reduceEqDiff]
        have hq4 : ((tg.size : Int) == 4 || ((bldT (A ++ [(tg, ([] : List Int))])).length : Int) == 0) = true := by rw [Bool.or_eq_true, beq_iff_eq]; left; omega
        exact sub1_of (by rw [hq1, Bool.true_and, hq4, Bool.true_and, hq3])
      have g4 : ((tg.size : Int) = 4) = False := by simp; omega
      have hOd := bldT_bad (hO4 h4)
      have hO5 : rightT (srtT (A ++ [(tg, ([] : List Int))])) = false ∨ ∀ t ∈ A ++ [(tg, ([] : List Int))], wholeT t = false := .inl (hO4 h4)
      repeat refine AWP.nest ?_
      have hxs := And.intro @g4 (And.intro @gM (And.intro @gD (And.intro @hml @hOd)))
      first | refine rsa hG [] [6] fun K hK => ?_ | refine rna hG [] [6] fun K hK => ?_
      repeat first | ((with_reducible refine shN ?_); refine sL ?_) | ((with_reducible refine shG ?_); refine sG ?_)
      refine Eq.mpr evalL_nil (hK _ ?_)
      clear hK K hxs
      simp only [evU, St.keep, List.map_cons, look, reduceIte, Nat.reduceEqDiff]
      try show AWP _ _ _ _ _
      refine AWP.ret ?_
      refine ⟨.inl rfl, ⟨⟨_, rfl, ?_⟩, fun ob hob => by cases hob⟩⟩
      simp only [look, reduceIte, Nat.reduceEqDiff]
      exact sub1_of (by rw [hq1, Bool.true_and, hq2, Bool.true_and, hq3])
    obtain ⟨j, hj⟩ : ∃ j : Nat, findT tg A 0 = j := ⟨(findT tg A 0).toNat, by omega⟩
    have hD : findD A tg = (A.getD j tb0).2 := by unfold findD; rw [if_neg (by omega), hj, Int.toNat_natCast]
    rw [hD, hj]
    have hjA : j < A.length := by omega
    have hat : ∀ z, (tbs A).getD j z = .agg [.v (.string (A.getD j tb0).1), .sl 1 (ints .u8 (A.getD j tb0).2)] := fun z => tbs_at hjA
    have hbj := hAb.at j
    have g1 : (0 ≤ (j : Int)) = True := by simp
    have g2 : ((j : Int) ≥ 0) = True := by simp
    repeat refine AWP.nest ?_
    have hxs := And.intro @hat (And.intro @g1 @g2)
    first | refine rsm hG [] [1, 7, 9, 73] fun K hK => ?_ | refine rnm hG [] [1, 7, 9, 73] fun K hK => ?_
    repeat first | ((with_reducible refine mhN ?_); refine mN ?_) | ((with_reducible refine mhG ?_); refine mT ?_) | ((with_reducible refine mhG ?_); refine mF ?_)
    refine Eq.mpr evalM_nil (hK _ ?_)
    clear hK K hxs
    simp only [evU, St.keep, List.map_cons, look, reduceIte, Nat.reduceEqDiff]
    try show AWP _ _ _ _ _
    repeat refine AWP.nest ?_
    first | refine AWP.seq (AWP.cond (b := _) rfl (fun hc => ?_) (fun hc => ?_)) | refine AWP.cond (b := _) rfl (fun hc => ?_) (fun hc => ?_)
    all_goals try simp only [evC] at hc
    · exfalso
      revert hc
      simp
    refine AWP.skip ?_
    show AWP _ _ _ _ _
    clear hc
    rcases Decidable.em (A = []) with hA0 | hA0
    · have hgt : ((A.length : Int) > 0) = False := by rw [hA0]; simp
      repeat refine AWP.nest ?_
      have hxs := @hgt
      first | refine rda hG [9999, 4] [1, 7, 9, 89] Try.mixed fun K hK => ?_ | refine dna hG [9999, 4] [1, 7, 9, 89] Try.mixed fun K hK => ?_
      repeat first | ((with_reducible refine shD ?_); refine sD ?_) | ((with_reducible refine shDG ?_); refine dT ?_) | ((with_reducible refine shDG ?_); refine dF ?_)
      refine evalD_done (by kernel_rfl) (hK _ ?_)
      clear hK K hxs
      simp only [evU, St.keep, List.map_cons, look, reduceIte, Nat.reduceEqDiff]
      try show AWP _ _ _ _ _
      repeat refine AWP.nest ?_
      first | refine AWP.seq (AWP.cond (b := _) rfl (fun hc => ?_) (fun hc => ?_)) | refine AWP.cond (b := _) rfl (fun hc => ?_) (fun hc => ?_)
      all_goals try simp only [evC] at hc
      · exfalso
        revert hc
        simp
      refine AWP.skip ?_
      show AWP _ _ _ _ _
      clear hc
      refine AWP.keep [1, 7, 9] ?_
      simp only [St.keep, List.map_cons, List.map_nil, look, reduceIte, Nat.reduceEqDiff]
      refine AWP.trunc 1 (by rw [hps]; decide) rfl ?_
      simp only [St.trunc, List.take_zero, List.take_succ_cons]
      repeat refine AWP.nest ?_
      first | refine rsa hG [0] [1, 7, 9, 14] fun K hK => ?_ | refine rna hG [0] [1, 7, 9, 14] fun K hK => ?_
      repeat first | ((with_reducible refine shN ?_); refine sL ?_) | ((with_reducible refine shG ?_); refine sG ?_)
      refine Eq.mpr evalL_nil (hK _ ?_)
      clear hK K
      simp only [evU, St.keep, List.map_cons, look, reduceIte, Nat.reduceEqDiff]
      try show AWP _ _ _ _ _
      refine AWP.rowto 1 _ (tbs (A ++ [(tg, [])])) rfl (by rw [← tbs_append, List.length_append, List.length_append]; rfl) tbs_wd (fun C fl h => RL_nil h) ?_
      simp only [List.set_cons_zero, List.set_cons_succ]
      rcases Decidable.em (tg.size = 4) with h4 | h4
      · have g4 : ((tg.size : Int) = 4) = True := by simp; omega
        repeat refine AWP.nest ?_
        have hxs := And.intro @g4 (And.intro @gM (And.intro @gD @hml))
        first | refine rsa hG [] [6] fun K hK => ?_ | refine rna hG [] [6] fun K hK => ?_
        repeat first | ((with_reducible refine shN ?_); refine sL ?_) | ((with_reducible refine shG ?_); refine sG ?_)
        refine Eq.mpr evalL_nil (hK _ ?_)
        clear hK K hxs
        simp only [evU, St.keep, List.map_cons, look, reduceIte, Nat.reduceEqDiff]
        try show AWP _ _ _ _ _
        refine AWP.ret ?_
        refine ⟨.inl rfl, ⟨⟨_, rfl, ?_⟩, fun ob hob => by cases hob⟩⟩
        simp only [look, reduceIte, Nat.reduceEqDiff]
        have hq4 : ((tg.size : Int) == 4 || ((bldT (A ++ [(tg, ([] : List Int))])).length : Int) == 0) = true := by rw [Bool.or_eq_true, beq_iff_eq]; left; omega
        exact sub1_of (by rw [hq1, Bool.true_and, hq4, Bool.true_and, hq3])
      have g4 : ((tg.size : Int) = 4) = False := by simp; omega
      have hOd := bldT_bad (hO4 h4)
      have hO5 : rightT (srtT (A ++ [(tg, ([] : List Int))])) = false ∨ ∀ t ∈ A ++ [(tg, ([] : List Int))], wholeT t = false := .inl (hO4 h4)
      repeat refine AWP.nest ?_
      have hxs := And.intro @g4 (And.intro @gM (And.intro @gD (And.intro @hml @hOd)))
      first | refine rsa hG [] [6] fun K hK => ?_ | refine rna hG [] [6] fun K hK => ?_
      repeat first | ((with_reducible refine shN ?_); refine sL ?_) | ((with_reducible refine shG ?_); refine sG ?_)
      refine Eq.mpr evalL_nil (hK _ ?_)
      clear hK K hxs
      simp only [evU, St.keep, List.map_cons, look, reduceIte, Nat.reduceEqDiff]
      try show AWP _ _ _ _ _
      refine AWP.ret ?_
      refine ⟨.inl rfl, ⟨⟨_, rfl, ?_⟩, fun ob hob => by cases hob⟩⟩
      simp only [look, reduceIte, Nat.reduceEqDiff]
      exact sub1_of (by rw [hq1, Bool.true_and, hq2, Bool.true_and, hq3])
    have hApos : 0 < A.length := List.length_pos_iff.2 hA0
    have hgt : ((A.length : Int) > 0) = True := by simp; omega
    have at0 : ∀ z, (tbs A).getD 0 z = .agg [.v (.string (A.getD 0 tb0).1), .sl 1 (ints .u8 (A.getD 0 tb0).2)] := fun z => tbs_at hApos
    have hm0 : A.getD 0 tb0 ∈ A := by
      rw [List.getD_eq_getElem?_getD, List.getElem?_eq_getElem hApos]
      exact List.getElem_mem _
    have hd1 : (A ++ [((A.getD 0 tb0).1, (A.getD 0 tb0).2)]).length < 20 ∨ ((A ++ [((A.getD 0 tb0).1, (A.getD 0 tb0).2)]).length ≤ 1000 ∧ Asc ltT tb0 (A ++ [((A.getD 0 tb0).1, (A.getD 0 tb0).2)]) 0 (A ++ [((A.getD 0 tb0).1, (A.getD 0 tb0).2)]).length) := .inl (by rw [List.length_append, List.length_singleton]; omega)
    have hd2 : DatB (A ++ [((A.getD 0 tb0).1, (A.getD 0 tb0).2)]) := fun t ht => by
      rcases List.mem_append.1 ht with ht | ht
      · exact hAb t ht
      · rw [List.mem_singleton] at ht; subst ht; exact hAb _ hm0
    have hd3 : ∀ t ∈ A ++ [((A.getD 0 tb0).1, (A.getD 0 tb0).2)], t.2.length ≤ 60000 := fun t ht => by
      rcases List.mem_append.1 ht with ht | ht
      · have := hA60 t ht; omega
      · rw [List.mem_singleton] at ht; subst ht; have := hA60 _ hm0; show (A.getD 0 tb0).2.length ≤ _; omega
    have hd4 : rightT (srtT (A ++ [((A.getD 0 tb0).1, (A.getD 0 tb0).2)])) = false := right_dup (t := A.getD 0 tb0) hm0
    have hd5 : bldT (A ++ [((A.getD 0 tb0).1, (A.getD 0 tb0).2)]) = [] := bldT_bad hd4
    have hd6 : rightT (srtT (A ++ [((A.getD 0 tb0).1, (A.getD 0 tb0).2)])) = false ∨ ∀ t ∈ A ++ [((A.getD 0 tb0).1, (A.getD 0 tb0).2)], wholeT t = false := .inl hd4
    repeat refine AWP.nest ?_
    have hxs := And.intro @hgt (And.intro @at0 @hd5)
    first | refine rda hG [9999, 4] [1, 7, 9, 89] Try.mixed fun K hK => ?_ | refine dna hG [9999, 4] [1, 7, 9, 89] Try.mixed fun K hK => ?_
    repeat first | ((with_reducible refine shD ?_); refine sD ?_) | ((with_reducible refine shDG ?_); refine dT ?_) | ((with_reducible refine shDG ?_); refine dF ?_)
    refine evalD_done (by kernel_rfl) (hK _ ?_)
    clear hK K hxs
    simp only [evU, St.keep, List.map_cons, look, reduceIte, Nat.reduceEqDiff]
    try show AWP _ _ _ _ _
    repeat refine AWP.nest ?_
    first | refine AWP.seq (AWP.cond (b := _) rfl (fun hc => ?_) (fun hc => ?_)) | refine AWP.cond (b := _) rfl (fun hc => ?_) (fun hc => ?_)
    all_goals try simp only [evC] at hc
    · exfalso
      revert hc
      simp
    refine AWP.skip ?_
    show AWP _ _ _ _ _
    clear hc hd1 hd2 hd3 hd4 hd5 hd6
    refine AWP.keep [1, 7, 9] ?_
    simp only [St.keep, List.map_cons, List.map_nil, look, reduceIte, Nat.reduceEqDiff]
    refine AWP.trunc 1 (by rw [hps]; decide) rfl ?_
    simp only [St.trunc, List.take_zero, List.take_succ_cons]
    repeat refine AWP.nest ?_
    first | refine rsa hG [0] [1, 7, 9, 14] fun K hK => ?_ | refine rna hG [0] [1, 7, 9, 14] fun K hK => ?_
    repeat first | ((with_reducible refine shN ?_); refine sL ?_) | ((with_reducible refine shG ?_); refine sG ?_)
    refine Eq.mpr evalL_nil (hK _ ?_)
    clear hK K
    simp only [evU, St.keep, List.map_cons, look, reduceIte, Nat.reduceEqDiff]
    try show AWP _ _ _ _ _
    refine AWP.rowto 1 _ (tbs (A ++ [(tg, [])])) rfl (by rw [← tbs_append, List.length_append, List.length_append]; rfl) tbs_wd (fun C fl h => RL_nil h) ?_
    simp only [List.set_cons_zero, List.set_cons_succ]
    rcases Decidable.em (tg.size = 4) with h4 | h4
    · have g4 : ((tg.size : Int) = 4) = True := by simp; omega
      repeat refine AWP.nest ?_
      have hxs := And.intro @g4 (And.intro @gM (And.intro @gD @hml))
      first | refine rsa hG [] [6] fun K hK => ?_ | refine rna hG [] [6] fun K hK => ?_
      repeat first | ((with_reducible refine shN ?_); refine sL ?_) | ((with_reducible refine shG ?_); refine sG ?_)
      refine Eq.mpr evalL_nil (hK _ ?_)
      clear hK K hxs
      simp only [evU, St.keep, List.map_cons, look, reduceIte, Nat.reduceEqDiff]
      try show AWP _ _ _ _ _
      refine AWP.ret ?_
      refine ⟨.inl rfl, ⟨⟨_, rfl, ?_⟩, fun ob hob => by cases hob⟩⟩
      simp only [look, reduceIte, Nat.reduceEqDiff]
      have hq4 : ((tg.size : Int) == 4 || ((bldT (A ++ [(tg, ([] : List Int))])).length : Int) == 0) = true := by rw [Bool.or_eq_true, beq_iff_eq]; left; omega
      exact sub1_of (by rw [hq1, Bool.true_and, hq4, Bool.true_and, hq3])
    have g4 : ((tg.size : Int) = 4) = False := by simp; omega
    have hOd := bldT_bad (hO4 h4)
    have hO5 : rightT (srtT (A ++ [(tg, ([] : List Int))])) = false ∨ ∀ t ∈ A ++ [(tg, ([] : List Int))], wholeT t = false := .inl (hO4 h4)
    repeat refine AWP.nest ?_
    have hxs := And.intro @g4 (And.intro @gM (And.intro @gD (And.intro @hml @hOd)))
    first | refine rsa hG [] [6] fun K hK => ?_ | refine rna hG [] [6] fun K hK => ?_
    repeat first | ((with_reducible refine shN ?_); refine sL ?_) | ((with_reducible refine shG ?_); refine sG ?_)
    refine Eq.mpr evalL_nil (hK _ ?_)
    clear hK K hxs
    simp only [evU, St.keep, List.map_cons, look, reduceIte, Nat.reduceEqDiff]
    try show AWP _ _ _ _ _
    refine AWP.ret ?_
    refine ⟨.inl rfl, ⟨⟨_, rfl, ?_⟩, fun ob hob => by cases hob⟩⟩
    simp only [look, reduceIte, Nat.reduceEqDiff]
    exact sub1_of (by rw [hq1, Bool.true_and, hq2, Bool.true_and, hq3])
  simp only [evC, Int.not_lt] at hc
  refine AWP.skip ?_
  show AWP _ _ _ _ _
  have hi' : i < q := by omega
  clear hc
  have hml : (manyT i).length = i := manyT_len
  have e256 : (i : Int) % 256 = (i : Int) := by omega
  repeat refine AWP.nest ?_
  first | refine AWP.seq (AWP.block ?_) | refine AWP.block ?_
  repeat refine AWP.nest ?_
  first | refine rsa hG [] [1, 7, 8, 9, 10, 26, 27] fun K hK => ?_ | refine rna hG [] [1, 7, 8, 9, 10, 26, 27] fun K hK => ?_
  repeat first | ((with_reducible refine shN ?_); refine sL ?_) | ((with_reducible refine shG ?_); refine sG ?_)
  refine Eq.mpr evalL_nil (hK _ ?_)
  clear hK K
  simp only [evU, St.keep, List.map_cons, look, reduceIte, Nat.reduceEqDiff]
  try show AWP _ _ _ _ _
  repeat refine AWP.nest ?_
  have hxs := And.intro @e256 @hml
  first | refine rsa hG [] [1, 7, 8, 9, 26, 27] fun K hK => ?_ | refine rna hG [] [1, 7, 8, 9, 26, 27] fun K hK => ?_
  repeat first | ((with_reducible refine shN ?_); refine sL ?_) | ((with_reducible refine shG ?_); refine sG ?_)
  refine Eq.mpr evalL_nil (hK _ ?_)
  clear hK K hxs
  simp only [evU, St.keep, List.map_cons, look, reduceIte, Nat.reduceEqDiff]
  try show AWP _ _ _ _ _
  refine AWP.rowto 0 true (tbs (manyT (i + 1))) rfl (by rw [manyT_succ, ← tbs_append, List.length_append, List.length_append]; rfl) tbs_wd (fun C fl h => by rw [manyT_succ]; exact RL_nil h) ?_
  simp only [List.set_cons_zero]
  repeat refine AWP.nest ?_
  first | refine rsa hG [] [1, 7, 8, 9, 26, 27] fun K hK => ?_ | refine rna hG [] [1, 7, 8, 9, 26, 27] fun K hK => ?_
  repeat first | ((with_reducible refine shN ?_); refine sL ?_) | ((with_reducible refine shG ?_); refine sG ?_)
  refine Eq.mpr evalL_nil (hK _ ?_)
  clear hK K
  simp only [evU, St.keep, List.map_cons, look, reduceIte, Nat.reduceEqDiff]
  try show AWP _ _ _ _ _
  exact ⟨q - (i + 1), by omega, i + 1, by omega, rfl, rfl⟩
theorem tbs_of {xs : List Dat} (h : ∀ y ∈ xs, (AT.st2 .str (.sl 5 (.int .u8)) 9 24).holds y) : ∃ l : List Tb, xs = tbs l ∧ DatB l := by
  induction xs with
  | nil => exact ⟨[], rfl, fun t h => by cases h⟩
  | cons y xs ih =>
    obtain ⟨l, rfl, hl⟩ := ih fun z hz => h z (by simp [hz])
    obtain ⟨u, v, rfl, hu, hv⟩ := h y (by simp)
    obtain ⟨s, rfl, _⟩ := hu
    obtain ⟨ys, rfl, hy⟩ := hv
    obtain ⟨p, rfl, hp⟩ := ints_of hy
    refine ⟨(s, p) :: l, rfl, fun t ht => ?_⟩
    rcases List.mem_cons.1 ht with rfl | ht
    · exact fun n hn => by have := bounds_u8 (hp n hn); omega
    · exact hl t ht
theorem law26 (x : Dat) (h : (AT.sl 106 (.st2 .str (.sl 5 (.int .u8)) 9 24)).holds x) (y : Dat) (h2 : AT.str.holds y) (z : Dat) (h3 : (AT.int .u8).holds z) : Spec Try.prog 26 [.d x.flat x, .d y.flat y, .d z.flat z] none ⟨True, .d true (.v (.bool true)), none⟩ := by
  obtain ⟨xs, rfl, hx⟩ := h
  obtain ⟨l, rfl, hl⟩ := tbs_of hx
  obtain ⟨s, rfl, _⟩ := h2
  obtain ⟨c, rfl, hc⟩ := h3
  have := bounds_u8 hc
  exact s26 l hl s c (by omega) (by omega)
theorem at9 : AT.str.ok Try.prog 9 := Try.underlying9
theorem at106 : (AT.st2 .str (.sl 5 (.int .u8)) 9 24).ok Try.prog 106 := ⟨_, Try.underlying106, ⟨_, _, rfl, rfl, rfl, rfl, rfl⟩, by kernel_rfl, by kernel_rfl, by kernel_rfl, at9, at24⟩
theorem at100 : (AT.sl 106 (.st2 .str (.sl 5 (.int .u8)) 9 24)).ok Try.prog 100 := ⟨Try.underlying100, by kernel_rfl, at106⟩
end Go.AM

