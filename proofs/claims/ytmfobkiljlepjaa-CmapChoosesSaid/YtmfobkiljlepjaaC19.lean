/- AM: group.Build. -/
import Derived.Test.YtmfobkiljlepjaaG1
set_option maxRecDepth 100000
set_option maxHeartbeats 8000000
set_option linter.unusedSimpArgs false
set_option linter.unusedVariables false
namespace Go.AM
open Go Go.Proofs

theorem toInts_nil : toInts [] = [] := rfl
def hdB (n : Int) : List Int := 0 :: 12 :: 0 :: 0 :: (b4 (16 + 12 * n) ++ b4 0 ++ b4 n)
theorem hdB_len (n : Int) : (hdB n).length = 16 := rfl
theorem hdB_byt {n : Int} (h0 : 0 ≤ n) (h1 : n ≤ 1000000) : Byt (hdB n) := by
  intro b hb
  simp only [hdB, List.mem_cons, List.mem_append] at hb
  rcases hb with rfl | rfl | rfl | rfl | (hb | hb) | hb
  · omega
  · omega
  · omega
  · omega
  · exact b4_byt (by omega) (by omega) b hb
  · exact b4_byt (by omega) (by omega) b hb
  · exact b4_byt (by omega) (by omega) b hb
theorem tabG_eq (m : List (Int × Int × Int)) : tabG m = hdB m.length ++ encS m := by simp [tabG, hdB]
theorem b4_length {n : Int} : (b4 n).length = 4 := rfl

theorem s42 (l : List (Int × Int)) (hp : PrOK l) (hl : l.length ≤ 1000000) : Spec Try.prog 42 [.d false (.sl 2 (prs l))] none ⟨True, .d true (.sl 1 (ints .u8 (buildG l))), none⟩ := by
  have hf61 : F35 61 = e61 := rfl
  have hf89 : F35 89 = e89 := rfl
  have hf90 : F35 90 = e90 := rfl
  have hf91 : F35 91 = e91 := rfl
  have hG := (Gf_ok F35_ok)
  have hfs := And.intro @hf61 (And.intro @e61.eq_1 (And.intro @hf89 (And.intro @e89.eq_1 (And.intro @hf90 (And.intro @e90.eq_1 (And.intro @hf91 (And.intro @e91.eq_1 (And.intro @evP (And.intro @toPrs_prs (And.intro @toSps_sps @toInts_nil))))))))))
  have hxs := @Nat.add_zero
  refine spec_of_awp (Gf_ok F35_ok) Try.func42 rfl (Nat.le_of_ble_eq_true rfl) fun E hps hN _ => ?_
  simp only [begin, List.zipIdx_cons, List.zipIdx_nil, List.map_cons, List.map_nil, Option.toList, Nat.zero_add, Nat.reduceAdd]
  repeat refine AWP.nest ?_
  first | refine rsa hG [] [0] fun K hK => ?_ | refine rna hG [] [0] fun K hK => ?_
  repeat first | ((with_reducible refine shN ?_); refine sL ?_) | ((with_reducible refine shG ?_); refine sG ?_)
  refine Eq.mpr evalL_nil (hK _ ?_)
  clear hK K
  simp only [evU, St.keep, List.map_cons, look, reduceIte, Nat.reduceEqDiff]
  try show AWP _ _ _ _ _
  repeat refine AWP.nest ?_
  first | refine rsa hG [] [0, 11] fun K hK => ?_ | refine rna hG [] [0, 11] fun K hK => ?_
  repeat first | ((with_reducible refine shN ?_); refine sL ?_) | ((with_reducible refine shG ?_); refine sG ?_)
  refine Eq.mpr evalL_nil (hK _ ?_)
  clear hK K
  simp only [evU, St.keep, List.map_cons, look, reduceIte, Nat.reduceEqDiff]
  try show AWP _ _ _ _ _
  repeat refine AWP.nest ?_
  first | refine AWP.seq (AWP.cond (b := _) rfl (fun hc => ?_) (fun hc => ?_)) | refine AWP.cond (b := _) rfl (fun hc => ?_) (fun hc => ?_)
  all_goals try simp only [evC] at hc
  · have h0 : risesB l 1114111 = false := by simpa using hc
    have e0 : buildG l = [] := by unfold buildG; rw [h0]; rfl
    rw [e0]
    repeat refine AWP.nest ?_
    first | refine rsa hG [] [2] fun K hK => ?_ | refine rna hG [] [2] fun K hK => ?_
    repeat first | ((with_reducible refine shN ?_); refine sL ?_) | ((with_reducible refine shG ?_); refine sG ?_)
    refine Eq.mpr evalL_nil (hK _ ?_)
    clear hK K
    simp only [evU, St.keep, List.map_cons, look, reduceIte, Nat.reduceEqDiff]
    try show AWP _ _ _ _ _
    refine AWP.ret ?_
    exact ⟨.inl rfl, ⟨⟨_, rfl, .nil true true 1⟩, fun ob hob => by cases hob⟩⟩
  refine AWP.skip ?_
  show AWP _ _ _ _ _
  have hr : risesB l 1114111 = true := by simpa using hc
  clear hc
  have e0 : buildG l = tabG (runsTo l l.length) := by unfold buildG; rw [hr]; rfl
  rw [e0]
  repeat refine AWP.nest ?_
  first | refine rsa hG [] [0, 3] fun K hK => ?_ | refine rna hG [] [0, 3] fun K hK => ?_
  repeat first | ((with_reducible refine shN ?_); refine sL ?_) | ((with_reducible refine shG ?_); refine sG ?_)
  refine Eq.mpr evalL_nil (hK _ ?_)
  clear hK K
  simp only [evU, St.keep, List.map_cons, look, reduceIte, Nat.reduceEqDiff]
  try show AWP _ _ _ _ _
  repeat refine AWP.nest ?_
  first | refine rsa hG [] [0, 3, 12, 13, 14] fun K hK => ?_ | refine rna hG [] [0, 3, 12, 13, 14] fun K hK => ?_
  repeat first | ((with_reducible refine shN ?_); refine sL ?_) | ((with_reducible refine shG ?_); refine sG ?_)
  refine Eq.mpr evalL_nil (hK _ ?_)
  clear hK K
  simp only [evU, St.keep, List.map_cons, look, reduceIte, Nat.reduceEqDiff]
  try show AWP _ _ _ _ _
  refine AWP.adopt 3 132 3 (by decide) rfl ?_
  refine AWP.keep [0, 3, 12, 13, 14] ?_
  simp only [St.adopt, St.keep, List.map_cons, List.map_nil, look, reduceIte, Nat.reduceEqDiff, List.nil_append, List.length_nil]
  repeat refine AWP.nest ?_
  first | refine AWP.seq (AWP.block ?_) | refine AWP.block ?_
  refine AWP.loop (fun k st => ∃ (i : Nat), i ≤ l.length ∧ k = l.length - i ∧ st = ⟨[(0, .d false (.sl 2 (prs l))), (3, .own 0 (runsTo l i).length), (12, .d false (.sl 2 (prs l))), (13, .d true (.v (.int .i64 (l.length : Int)))), (14, .d true (.v (.int .i64 (i : Int))))], [some (.row 132 3 (runsTo l i).length true (sps (runsTo l i)))]⟩) (l.length) ?_ ?_
  · exact ⟨0, Nat.zero_le _, rfl, rfl⟩
  rintro k st ⟨i, hi, hk, rfl⟩
  obtain ⟨ho1, ho2, ho3, ho4, ho5⟩ := runs_ok hr hp hi
  repeat refine AWP.nest ?_
  first | refine rsa hG [] [0, 3, 12, 13, 14, 15] fun K hK => ?_ | refine rna hG [] [0, 3, 12, 13, 14, 15] fun K hK => ?_
  repeat first | ((with_reducible refine shN ?_); refine sL ?_) | ((with_reducible refine shG ?_); refine sG ?_)
  refine Eq.mpr evalL_nil (hK _ ?_)
  clear hK K
  simp only [evU, St.keep, List.map_cons, look, reduceIte, Nat.reduceEqDiff]
  try show AWP _ _ _ _ _
  first | refine AWP.seq (AWP.cond (b := _) rfl (fun hc => ?_) (fun hc => ?_)) | refine AWP.cond (b := _) rfl (fun hc => ?_) (fun hc => ?_)
  rotate_left
  · refine AWP.exit ?_
    show AWP _ _ _ _ _
    simp only [evC, Int.not_lt] at hc
    obtain rfl : i = l.length := by omega
    generalize runsTo l l.length = R at ho1 ho2 ho3 ho4 ho5 ⊢
    clear hk hi hc
    repeat refine AWP.nest ?_
    first | refine rsa hG [] [3, 6] fun K hK => ?_ | refine rna hG [] [3, 6] fun K hK => ?_
    repeat first | ((with_reducible refine shN ?_); refine sL ?_) | ((with_reducible refine shG ?_); refine sG ?_)
    refine Eq.mpr evalL_nil (hK _ ?_)
    clear hK K
    simp only [evU, St.keep, List.map_cons, look, reduceIte, Nat.reduceEqDiff]
    try show AWP _ _ _ _ _
    refine AWP.tobuf 6 1 5 (by rw [hps]; decide) rfl rfl ?_
    simp only [List.set_cons_zero, List.set_cons_succ, List.cons_append, List.nil_append, List.length_cons, List.length_nil, Nat.reduceAdd]
    have hrl : R.length ≤ 1000000 := by omega
    have em1 : (16 + 12 * (R.length : Int)) % 4294967296 = 16 + 12 * (R.length : Int) := by omega
    have em2 : (R.length : Int) % 4294967296 = R.length := by omega
    repeat refine AWP.nest ?_
    have hxs := And.intro @em1 (And.intro @em2 (And.intro @ints_nil @b4_length))
    first | refine rsa hG [] [3, 6] fun K hK => ?_ | refine rna hG [] [3, 6] fun K hK => ?_
    repeat first | ((with_reducible refine shN ?_); refine sL ?_) | ((with_reducible refine shG ?_); refine sG ?_)
    refine Eq.mpr evalL_nil (hK _ ?_)
    clear hK K hxs
    simp only [evU, St.keep, List.map_cons, look, reduceIte, Nat.reduceEqDiff]
    try show AWP _ _ _ _ _
    refine AWP.frz 0 (by rw [hps]; decide) rfl ?_
    simp only [St.frz, Ob.frz, AV.frz, AV.frz1, Option.map_none, mkAgg, datas, Dat.nagg, List.map_cons, List.map_nil, Option.map_some, and_self, true_and, and_true, reduceIte, Nat.reduceEqDiff, List.set_cons_zero, List.set_cons_succ, Bool.and_true, Bool.true_and]
    rw [show (0 :: 12 :: 0 :: 0 :: (b4 (16 + 12 * (R.length : Int)) ++ b4 0 ++ b4 (R.length : Int)) : List Int) = hdB R.length from rfl, tabG_eq]
    have hH := hdB_len R.length
    have hHb := hdB_byt (n := R.length) (by omega) (by omega)
    generalize hdB R.length = H at hH hHb ⊢
    repeat refine AWP.nest ?_
    first | refine rsa hG [] [6, 83, 84, 85] fun K hK => ?_ | refine rna hG [] [6, 83, 84, 85] fun K hK => ?_
    repeat first | ((with_reducible refine shN ?_); refine sL ?_) | ((with_reducible refine shG ?_); refine sG ?_)
    refine Eq.mpr evalL_nil (hK _ ?_)
    clear hK K
    simp only [evU, St.keep, List.map_cons, look, reduceIte, Nat.reduceEqDiff]
    try show AWP _ _ _ _ _
    repeat refine AWP.nest ?_
    first | refine AWP.seq (AWP.block ?_) | refine AWP.block ?_
    refine AWP.loop (fun k st => ∃ (j : Nat), j ≤ R.length ∧ k = R.length - j ∧ st = ⟨[(6, .ptr 2 0), (83, .d true (.sl 3 (sps R))), (84, .d true (.v (.int .i64 (R.length : Int)))), (85, .d true (.v (.int .i64 (j : Int))))], [none, none, some (.buf 134 5 1 (ints .u8 (H ++ encS (R.take j))))]⟩) (R.length) ?_ ?_
    · exact ⟨0, Nat.zero_le _, rfl, by simp [encS]⟩
    rintro k st ⟨j, hj, hk, rfl⟩
    have hE := encS_len (R.take j)
    have hT : (R.take j).length = j := by simp only [List.length_take]; omega
    have hEb := encS_byt (m := R.take j) (fun s hs => ho1 s (List.mem_of_mem_take hs))
    repeat refine AWP.nest ?_
    first | refine rsa hG [] [6, 83, 84, 85, 86] fun K hK => ?_ | refine rna hG [] [6, 83, 84, 85, 86] fun K hK => ?_
    repeat first | ((with_reducible refine shN ?_); refine sL ?_) | ((with_reducible refine shG ?_); refine sG ?_)
    refine Eq.mpr evalL_nil (hK _ ?_)
    clear hK K
    simp only [evU, St.keep, List.map_cons, look, reduceIte, Nat.reduceEqDiff]
    try show AWP _ _ _ _ _
    first | refine AWP.seq (AWP.cond (b := _) rfl (fun hc => ?_) (fun hc => ?_)) | refine AWP.cond (b := _) rfl (fun hc => ?_) (fun hc => ?_)
    rotate_left
    · refine AWP.exit ?_
      show AWP _ _ _ _ _
      simp only [evC, Int.not_lt] at hc
      obtain rfl : j = R.length := by omega
      rw [List.take_length]
      rw [List.take_length] at hE hEb
      have hB := hHb.append hEb
      have hBl : (H ++ encS R).length ≤ 1099511627776 := by simp only [List.length_append]; omega
      repeat refine AWP.nest ?_
      first | refine rsa hG [] [2] fun K hK => ?_ | refine rna hG [] [2] fun K hK => ?_
      repeat first | ((with_reducible refine shN ?_); refine sL ?_) | ((with_reducible refine shG ?_); refine sG ?_)
      refine Eq.mpr evalL_nil (hK _ ?_)
      clear hK K
      simp only [evU, St.keep, List.map_cons, look, reduceIte, Nat.reduceEqDiff]
      try show AWP _ _ _ _ _
      refine AWP.ret ?_
      refine ⟨.inl rfl, ⟨⟨_, rfl, ?_⟩, fun ob hob => by cases hob⟩⟩
      simp only [look, reduceIte, Nat.reduceEqDiff]
      exact sub1_of rfl
    simp only [evC, Int.not_lt] at hc
    refine AWP.skip ?_
    show AWP _ _ _ _ _
    have hj' := hc
    clear hc
    have hs : SpOK (R.getD j (0, 0, 0)) := by
      rw [List.getD_eq_getElem?_getD, List.getElem?_eq_getElem hj']
      exact ho1 _ (by simp)
    obtain ⟨q1, q2, q3, q4, q5⟩ := hs
    repeat refine AWP.nest ?_
    first | refine AWP.seq (AWP.block ?_) | refine AWP.block ?_
    repeat refine AWP.nest ?_
    first | refine rsa hG [] [6, 8, 83, 84, 85] fun K hK => ?_ | refine rna hG [] [6, 8, 83, 84, 85] fun K hK => ?_
    repeat first | ((with_reducible refine shN ?_); refine sL ?_) | ((with_reducible refine shG ?_); refine sG ?_)
    refine Eq.mpr evalL_nil (hK _ ?_)
    clear hK K
    simp only [evU, St.keep, List.map_cons, look, reduceIte, Nat.reduceEqDiff]
    try show AWP _ _ _ _ _
    repeat refine AWP.nest ?_
    have hxs := @b4_length
    first | refine rda hG [] [6, 83, 84, 85] Try.mixed fun K hK => ?_ | refine dna hG [] [6, 83, 84, 85] Try.mixed fun K hK => ?_
    repeat first | ((with_reducible refine shD ?_); refine sD ?_) | ((with_reducible refine shDG ?_); refine sDG ?_)
    refine evalD_done (by kernel_rfl) (hK _ ?_)
    clear hK K hxs
    simp only [evU, St.keep, List.map_cons, look, reduceIte, Nat.reduceEqDiff]
    try show AWP _ _ _ _ _
    refine AWP.trunc 3 (by rw [hps]; decide) rfl ?_
    simp only [St.trunc, List.take_zero, List.take_succ_cons]
    repeat refine AWP.nest ?_
    first | refine rsa hG [] [6, 83, 84, 85] fun K hK => ?_ | refine rna hG [] [6, 83, 84, 85] fun K hK => ?_
    repeat first | ((with_reducible refine shN ?_); refine sL ?_) | ((with_reducible refine shG ?_); refine sG ?_)
    refine Eq.mpr evalL_nil (hK _ ?_)
    clear hK K
    simp only [evU, St.keep, List.map_cons, look, reduceIte, Nat.reduceEqDiff]
    try show AWP _ _ _ _ _
    refine ⟨R.length - (j + 1), by omega, j + 1, by omega, rfl, ?_⟩
    rw [take_snoc' (0, 0, 0) hj', encS_snoc]
    simp only [List.append_assoc]
    rfl
  simp only [evC, Int.not_lt] at hc
  refine AWP.skip ?_
  show AWP _ _ _ _ _
  have hi' := hc
  clear hc
  have hx := rises_at hr hi'
  have hy := hp i
  have hy1 := hp (i - 1)
  have hx1 : 0 < i → 0 ≤ cd l (i - 1) ∧ cd l (i - 1) ≤ 1114111 := fun h => by
    have := rises_at hr (show i - 1 < l.length by omega)
    exact ⟨this.1, this.2.1⟩
  have ei : 0 < i → ((i : Int) - 1).toNat = i - 1 := fun h => by omega
  repeat refine AWP.nest ?_
  first | refine AWP.seq (AWP.block ?_) | refine AWP.block ?_
  repeat refine AWP.nest ?_
  first | refine rsa hG [] [0, 3, 4, 5, 12, 13, 14] fun K hK => ?_ | refine rna hG [] [0, 3, 4, 5, 12, 13, 14] fun K hK => ?_
  repeat first | ((with_reducible refine shN ?_); refine sL ?_) | ((with_reducible refine shG ?_); refine sG ?_)
  refine Eq.mpr evalL_nil (hK _ ?_)
  clear hK K
  simp only [evU, St.keep, List.map_cons, look, reduceIte, Nat.reduceEqDiff]
  try show AWP _ _ _ _ _
  repeat refine AWP.nest ?_
  first | refine rda hG [] [0, 3, 5, 12, 13, 14, 46] Try.mixed fun K hK => ?_ | refine dna hG [] [0, 3, 5, 12, 13, 14, 46] Try.mixed fun K hK => ?_
  repeat first | ((with_reducible refine shD ?_); refine sD ?_) | ((with_reducible refine shDG ?_); refine sDG ?_)
  refine evalD_done (by kernel_rfl) (hK _ ?_)
  clear hK K
  simp only [evU, St.keep, List.map_cons, look, reduceIte, Nat.reduceEqDiff]
  try show AWP _ _ _ _ _
  have hkey : (((i : Int) > 0 ∧ (l.getD i (0, 0)).1 = IntKind.i32.wrap ((l.getD ((i : Int) - 1).toNat (0, 0)).1 + 1)) ∧ IntKind.i64.wrap (l.getD i (0, 0)).2 = IntKind.i64.wrap (IntKind.i64.wrap (l.getD ((i : Int) - 1).toNat (0, 0)).2 + 1)) ↔ (0 < i ∧ cd l i = cd l (i - 1) + 1 ∧ gl l i = gl l (i - 1) + 1) := by
    change (((i : Int) > 0 ∧ cd l i = IntKind.i32.wrap (cd l ((i : Int) - 1).toNat + 1)) ∧ IntKind.i64.wrap (gl l i) = IntKind.i64.wrap (IntKind.i64.wrap (gl l ((i : Int) - 1).toNat) + 1)) ↔ _
    by_cases h0 : 0 < i
    · have h1 := hx1 h0
      rw [ei h0, w_i32 (by omega) (by omega), w_i64 (x := gl l i) (by omega) (by omega), w_i64 (x := gl l (i - 1)) (by omega) (by omega), w_i64 (by omega) (by omega)]
      constructor
      · rintro ⟨⟨_, h2⟩, h3⟩; exact ⟨h0, h2, h3⟩
      · rintro ⟨_, h2, h3⟩; exact ⟨⟨by omega, h2⟩, h3⟩
    · constructor
      · rintro ⟨⟨h2, _⟩, _⟩; omega
      · rintro ⟨h2, _⟩; omega
  have ec : (l.getD i (0, 0)).1 % 4294967296 = (l.getD i (0, 0)).1 := by
    change cd l i % 4294967296 = cd l i
    omega
  repeat refine AWP.nest ?_
  first | refine AWP.seq (AWP.cond (b := _) rfl (fun hc => ?_) (fun hc => ?_)) | refine AWP.cond (b := _) rfl (fun hc => ?_) (fun hc => ?_)
  all_goals try simp only [evC] at hc
  · have hk2 := hkey.1 hc
    have hpos := ho4 hk2.1
    have en : (((runsTo l i).length : Int) - 1).toNat = (runsTo l i).length - 1 := by omega
    have es : runsTo l (i + 1) = (runsTo l i).set ((runsTo l i).length - 1) (((runsTo l i).getD ((runsTo l i).length - 1) (0, 0, 0)).1, (l.getD i (0, 0)).1, ((runsTo l i).getD ((runsTo l i).length - 1) (0, 0, 0)).2.2) := if_pos hk2
    repeat refine AWP.nest ?_
    have hxs := And.intro @ec @en
    first | refine rsa hG [] [0, 3, 12, 13, 14] fun K hK => ?_ | refine rna hG [] [0, 3, 12, 13, 14] fun K hK => ?_
    repeat first | ((with_reducible refine shN ?_); refine sL ?_) | ((with_reducible refine shG ?_); refine sG ?_)
    refine Eq.mpr evalL_nil (hK _ ?_)
    clear hK K hxs
    simp only [evU, St.keep, List.map_cons, look, reduceIte, Nat.reduceEqDiff]
    try show AWP _ _ _ _ _
    refine AWP.exit ?_
    show AWP _ _ _ _ _
    refine AWP.trunc 1 (by rw [hps]; decide) rfl ?_
    simp only [St.trunc, List.take_zero, List.take_succ_cons]
    repeat refine AWP.nest ?_
    first | refine rsa hG [] [0, 3, 12, 13, 14] fun K hK => ?_ | refine rna hG [] [0, 3, 12, 13, 14] fun K hK => ?_
    repeat first | ((with_reducible refine shN ?_); refine sL ?_) | ((with_reducible refine shG ?_); refine sG ?_)
    refine Eq.mpr evalL_nil (hK _ ?_)
    clear hK K
    simp only [evU, St.keep, List.map_cons, look, reduceIte, Nat.reduceEqDiff]
    try show AWP _ _ _ _ _
    refine ⟨l.length - (i + 1), by omega, i + 1, by omega, rfl, ?_⟩
    rw [es, List.length_set]
    rfl
  · have hk2 : ¬(0 < i ∧ cd l i = cd l (i - 1) + 1 ∧ gl l i = gl l (i - 1) + 1) := fun h => by
      have := hkey.2 h
      rcases hc with (h1 | h1) | h1
      · exact h1 this.1.1
      · exact h1 this.1.2
      · exact h1 this.2
    have es : runsTo l (i + 1) = runsTo l i ++ [((l.getD i (0, 0)).1, (l.getD i (0, 0)).1, (l.getD i (0, 0)).2)] := if_neg hk2
    have eg : (l.getD i (0, 0)).2 % 4294967296 = (l.getD i (0, 0)).2 := by
      change gl l i % 4294967296 = gl l i
      omega
    refine AWP.skip ?_
    show AWP _ _ _ _ _
    repeat refine AWP.nest ?_
    have hxs := And.intro @ec @eg
    first | refine rsa hG [] [0, 3, 12, 13, 14] fun K hK => ?_ | refine rna hG [] [0, 3, 12, 13, 14] fun K hK => ?_
    repeat first | ((with_reducible refine shN ?_); refine sL ?_) | ((with_reducible refine shG ?_); refine sG ?_)
    refine Eq.mpr evalL_nil (hK _ ?_)
    clear hK K hxs
    simp only [evU, St.keep, List.map_cons, look, reduceIte, Nat.reduceEqDiff]
    try show AWP _ _ _ _ _
    refine AWP.trunc 1 (by rw [hps]; decide) rfl ?_
    simp only [St.trunc, List.take_zero, List.take_succ_cons]
    repeat refine AWP.nest ?_
    first | refine rsa hG [] [0, 3, 12, 13, 14] fun K hK => ?_ | refine rna hG [] [0, 3, 12, 13, 14] fun K hK => ?_
    repeat first | ((with_reducible refine shN ?_); refine sL ?_) | ((with_reducible refine shG ?_); refine sG ?_)
    refine Eq.mpr evalL_nil (hK _ ?_)
    clear hK K
    simp only [evU, St.keep, List.map_cons, look, reduceIte, Nat.reduceEqDiff]
    try show AWP _ _ _ _ _
    refine ⟨l.length - (i + 1), by omega, i + 1, by omega, rfl, ?_⟩
    rw [es, List.length_append]
    rfl
def e42 : List AV → Option Ob → Option Res := fun args i => match args, i with
  | [.d false (.sl 2 xs)], none => some ⟨xs = prs (toPrs xs) ∧ PrOK (toPrs xs) ∧ (toPrs xs).length ≤ 1000000, .d true (.sl 1 (ints .u8 (buildG (toPrs xs)))), none⟩
  | _, _ => none
def F36 : FT := F35.upd 42 e42
theorem F36_ok : FOK Try.prog F36 := FOK.upd F35_ok Try.func42 (by kernel_rfl) rfl fun args i R h => by
  unfold e42 at h
  split at h
  · rename_i xs
    cases h
    refine Spec.pre fun h => ?_
    have := s42 (toPrs xs) h.2.1 h.2.2
    rw [← h.1] at this
    exact this
  · cases h
end Go.AM

