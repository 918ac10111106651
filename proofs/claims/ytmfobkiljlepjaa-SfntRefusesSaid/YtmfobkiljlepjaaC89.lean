/- AM: ref03.Parse. -/
import Derived.Test.YtmfobkiljlepjaaC88
set_option maxRecDepth 100000
set_option maxHeartbeats 8000000
set_option linter.unusedSimpArgs false
set_option linter.unusedVariables false
namespace Go.AM
open Go Go.Proofs

theorem begT_nums {l : List Int} (h : begT l = true) : 12 ≤ l.length ∧ n4V l 0 = 65536 ∧ 1 ≤ n2V l 4 ∧ n2V l 4 ≤ 64 ∧ nB l = n2V l 4 := by
  unfold begT at h
  simp only [Bool.and_eq_true, decide_eq_true_eq] at h
  obtain ⟨⟨⟨⟨⟨h12, hv⟩, hn1, hn64⟩, _⟩, _⟩, _⟩ := h
  exact ⟨h12, hv, hn1, hn64, (beg_vals h12).2.1⟩
theorem parT_bad {l : List Int} (h : begT l = true → (l.length : Int) < 12 + 16 * n2V l 4) : parT l = ([], 2) := by
  unfold parT
  cases hb : begT l with
  | false => rfl
  | true =>
    obtain ⟨h12, hv, hn1, hn64, hn⟩ := begT_nums hb
    have h2 := h hb
    have ha : allT l (nB l).toNat = false := by
      cases ha : allT l (nB l).toNat with
      | false => rfl
      | true =>
        have := allT_iff.1 ha ((nB l).toNat - 1) (by omega)
        unfold okT at this
        simp only [Bool.and_eq_true, decide_eq_true_eq] at this
        omega
    rw [ha]
    rfl
theorem n4V_bd {l : List Int} (hb : Byt l) (q : Int) : 0 ≤ n4V l q ∧ n4V l q < 4294967296 := by
  have b1 := n2V_bound hb q
  have b2 := n2V_bound hb (q + 2)
  unfold n4V
  split <;> omega
theorem n2V_at2 {l : List Int} {q : Nat} (h : q + 2 ≤ l.length) : n2V l (q : Int) = 256 * l.getD q 0 + l.getD (q + 1) 0 := by
  have hk : n2OK l.length (q : Int) = true := by simp only [n2OK, decide_eq_true_eq]; omega
  unfold n2V
  rw [hk, if_pos rfl, Int.toNat_natCast]
theorem mid6 {l : List Int} (h : 12 ≤ l.length) : (l.drop 6).take 6 = [l.getD 6 0, l.getD 7 0, l.getD 8 0, l.getD 9 0, l.getD 10 0, l.getD 11 0] := by
  match l, h with
  | a0 :: a1 :: a2 :: a3 :: a4 :: a5 :: a6 :: a7 :: a8 :: a9 :: a10 :: a11 :: r, _ => rfl
theorem head_iff {l : List Int} (hb : Byt l) (h : 12 ≤ l.length) {a b c : Int} (ha : 0 ≤ a ∧ a < 65536) (hbb : 0 ≤ b ∧ b < 65536) (hc : 0 ≤ c ∧ c < 65536) :
    (l.drop 6).take 6 = [a / 256 % 256, a % 256, b / 256 % 256, b % 256, c / 256 % 256, c % 256] ↔ n2V l 6 = a ∧ n2V l 8 = b ∧ n2V l 10 = c := by
  have e1 : n2V l 6 = 256 * l.getD 6 0 + l.getD 7 0 := n2V_at2 (l := l) (q := 6) (by omega)
  have e2 : n2V l 8 = 256 * l.getD 8 0 + l.getD 9 0 := n2V_at2 (l := l) (q := 8) (by omega)
  have e3 : n2V l 10 = 256 * l.getD 10 0 + l.getD 11 0 := n2V_at2 (l := l) (q := 10) (by omega)
  have g6 := hb.getD 6
  have g7 := hb.getD 7
  have g8 := hb.getD 8
  have g9 := hb.getD 9
  have g10 := hb.getD 10
  have g11 := hb.getD 11
  rw [mid6 h, e1, e2, e3]
  simp only [List.cons.injEq, and_true]
  constructor
  · intro h; omega
  · intro h; omega


theorem s83 (l : List Int) (hb : Byt l) (hl : l.length ≤ 1000000) : Spec Try.prog 83 [.d false (.sl 1 (ints .u8 l))] none
    ⟨True, .tup [.d true (.sl 2 (tbs (parT l).1)), .d true (.v (.int .i64 (parT l).2))], none⟩ := by
  have hf32 : F122 32 = e32 := rfl
  have hf36 : F122 36 = e36 := rfl
  have hf37 : F122 37 = e37 := rfl
  have hf59 : F122 59 = e59 := rfl
  have hf64 : F122 64 = e64 := rfl
  have hf82 : F122 82 = e82 := rfl
  have hf106 : F122 106 = e106 := rfl
  have hf107 : F122 107 = e107 := rfl
  have hf122 : F122 122 = e122 := rfl
  have hG := (Gf_ok F122_ok)
  have hfs := And.intro @hf32 (And.intro @e32.eq_1 (And.intro @hf36 (And.intro @e36.eq_1 (And.intro @hf37 (And.intro @e37.eq_1 (And.intro @hf59 (And.intro @e59.eq_1 (And.intro @hf64 (And.intro @e64.eq_1 (And.intro @hf82 (And.intro @e82.eq_1 (And.intro @hf106 (And.intro @e106.eq_1 (And.intro @hf107 (And.intro @e107.eq_1 (And.intro @hf122 (And.intro @e122.eq_1 (And.intro @evP @evTb))))))))))))))))))
  have hxs := @Nat.add_zero
  refine spec_of_awp (Gf_ok F122_ok) Try.func83 rfl (Nat.le_of_ble_eq_true rfl) fun E hps hN _ => ?_
  simp only [begin, List.zipIdx_cons, List.zipIdx_nil, List.map_cons, List.map_nil, Option.toList, Nat.zero_add, Nat.reduceAdd]
  have z4 := n2V_bound hb 4
  repeat refine AWP.nest ?_
  first | refine rsa hG [] [0] fun K hK => ?_ | refine rna hG [] [0] fun K hK => ?_
  repeat first | ((with_reducible refine shN ?_); refine sL ?_) | ((with_reducible refine shG ?_); refine sG ?_)
  refine Eq.mpr evalL_nil (hK _ ?_)
  clear hK K
  simp only [evU, St.keep, List.map_cons, look, reduceIte, Nat.reduceEqDiff]
  try show AWP _ _ _ _ _
  repeat refine AWP.nest ?_
  first | refine rsa hG [] [0, 4, 5] fun K hK => ?_ | refine rna hG [] [0, 4, 5] fun K hK => ?_
  repeat first | ((with_reducible refine shN ?_); refine sL ?_) | ((with_reducible refine shG ?_); refine sG ?_)
  refine Eq.mpr evalL_nil (hK _ ?_)
  clear hK K
  simp only [evU, St.keep, List.map_cons, look, reduceIte, Nat.reduceEqDiff]
  try show AWP _ _ _ _ _
  repeat refine AWP.nest ?_
  first | refine rsa hG [] [0, 4, 5, 6, 7] fun K hK => ?_ | refine rna hG [] [0, 4, 5, 6, 7] fun K hK => ?_
  repeat first | ((with_reducible refine shN ?_); refine sL ?_) | ((with_reducible refine shG ?_); refine sG ?_)
  refine Eq.mpr evalL_nil (hK _ ?_)
  clear hK K
  simp only [evU, St.keep, List.map_cons, look, reduceIte, Nat.reduceEqDiff]
  try show AWP _ _ _ _ _
  have em : (16 * n2V l 4 + 12) = 12 + 16 * n2V l 4 := by omega
  repeat refine AWP.nest ?_
  first | refine rsa hG [] [0, 4, 6, 57] fun K hK => ?_ | refine rna hG [] [0, 4, 6, 57] fun K hK => ?_
  repeat first | ((with_reducible refine shN ?_); refine sL ?_) | ((with_reducible refine shG ?_); refine sG ?_)
  refine Eq.mpr evalL_nil (hK _ ?_)
  clear hK K
  simp only [evU, St.keep, List.map_cons, look, reduceIte, Nat.reduceEqDiff]
  try show AWP _ _ _ _ _
  repeat refine AWP.nest ?_
  first | refine AWP.seq (AWP.cond (b := _) rfl (fun hc => ?_) (fun hc => ?_)) | refine AWP.cond (b := _) rfl (fun hc => ?_) (fun hc => ?_)
  all_goals try simp only [evC] at hc
  · have e : parT l = ([], 2) := by
      refine parT_bad fun hbg => ?_
      obtain ⟨h12, hv, hn1, hn64, _⟩ := begT_nums hbg
      rcases hc with ((((h | h) | h) | h) | h) | h
      · simp only [n4OK, Bool.not_eq_true', decide_eq_false_iff_not] at h
        omega
      · simp only [n2OK, Bool.not_eq_true', decide_eq_false_iff_not] at h
        omega
      · exact absurd hv h
      · omega
      · omega
      · exact h
    rw [e]
    repeat refine AWP.nest ?_
    first | refine rsa hG [] [2, 3] fun K hK => ?_ | refine rna hG [] [2, 3] fun K hK => ?_
    repeat first | ((with_reducible refine shN ?_); refine sL ?_) | ((with_reducible refine shG ?_); refine sG ?_)
    refine Eq.mpr evalL_nil (hK _ ?_)
    clear hK K
    simp only [evU, St.keep, List.map_cons, look, reduceIte, Nat.reduceEqDiff]
    try show AWP _ _ _ _ _
    refine AWP.ret ?_
    refine ⟨.inl rfl, ⟨⟨_, rfl, ?_⟩, fun ob hob => by cases hob⟩⟩
    simp only [look, reduceIte, Nat.reduceEqDiff]
    refine ⟨_, rfl, (.cons ?_ (.cons ?_ .nil))⟩
    · exact .nil _ _ _
    · exact sub1_of rfl
  refine AWP.skip ?_
  show AWP _ _ _ _ _
  obtain ⟨n, hn⟩ : ∃ n : Nat, n2V l 4 = n := ⟨(n2V l 4).toNat, by omega⟩
  have hnn : 1 ≤ n ∧ n ≤ 64 ∧ 12 + 16 * n ≤ l.length ∧ n4V l 0 = 65536 := by
    obtain ⟨⟨⟨⟨⟨_, _⟩, h3⟩, h4⟩, h5⟩, h6⟩ := hc
    rw [hn] at h4 h5 h6
    refine ⟨by omega, by omega, by omega, ?_⟩
    exact Classical.byContradiction fun h => absurd h3 (by simpa using h)
  obtain ⟨hn1, hn64, hlen, hv⟩ := hnn
  rw [hn]
  clear hc
  repeat refine AWP.nest ?_
  first | refine rsa hG [] [0, 6, 8, 9, 10] fun K hK => ?_ | refine rna hG [] [0, 6, 8, 9, 10] fun K hK => ?_
  repeat first | ((with_reducible refine shN ?_); refine sL ?_) | ((with_reducible refine shG ?_); refine sG ?_)
  refine Eq.mpr evalL_nil (hK _ ?_)
  clear hK K
  simp only [evU, St.keep, List.map_cons, look, reduceIte, Nat.reduceEqDiff]
  try show AWP _ _ _ _ _
  obtain ⟨q1, q2, q3, q4⟩ := log_64 (n := n) (by omega) hn64
  have hn2 : 1 ≤ (n : Int) ∧ (n : Int) ≤ 64 := by omega
  have w1 : 0 ≤ tA (n : Int) ∧ tA n < 65536 := by unfold tA; rw [if_pos hn2, Int.toNat_natCast]; omega
  have w2 : 0 ≤ tB (n : Int) ∧ tB n < 65536 := by unfold tB; rw [if_pos hn2, Int.toNat_natCast]; omega
  have w3 : 0 ≤ tD (n : Int) ∧ tD n < 65536 := by unfold tD; rw [if_pos hn2, Int.toNat_natCast]; omega
  have bt : Byt ((l.drop 6).take 6) := (hb.drop _).take _
  repeat refine AWP.nest ?_
  first | refine rda hG [] [0, 6, 75] Try.mixed fun K hK => ?_ | refine dna hG [] [0, 6, 75] Try.mixed fun K hK => ?_
  repeat first | ((with_reducible refine shD ?_); refine sD ?_) | ((with_reducible refine shDG ?_); refine sDG ?_)
  refine evalD_done (by kernel_rfl) (hK _ ?_)
  clear hK K
  simp only [evU, St.keep, List.map_cons, look, reduceIte, Nat.reduceEqDiff]
  try show AWP _ _ _ _ _
  repeat refine AWP.nest ?_
  first | refine AWP.seq (AWP.cond (b := _) rfl (fun hc => ?_) (fun hc => ?_)) | refine AWP.cond (b := _) rfl (fun hc => ?_) (fun hc => ?_)
  all_goals try simp only [evC] at hc
  · have e : parT l = ([], 2) := by
      refine parT_bad fun hbg => ?_
      exfalso
      have hne : ¬ (n2V l 6 = tA n ∧ n2V l 8 = tB n ∧ n2V l 10 = tD n) := fun h => by
        rw [decide_eq_true ((head_iff hb (by omega) w1 w2 w3).2 h)] at hc
        cases hc
      unfold begT at hbg
      simp only [Bool.and_eq_true, decide_eq_true_eq, hn] at hbg
      exact hne ⟨hbg.1.1.2, hbg.1.2, hbg.2⟩
    rw [e]
    repeat refine AWP.nest ?_
    first | refine rsa hG [] [2, 3] fun K hK => ?_ | refine rna hG [] [2, 3] fun K hK => ?_
    repeat first | ((with_reducible refine shN ?_); refine sL ?_) | ((with_reducible refine shG ?_); refine sG ?_)
    refine Eq.mpr evalL_nil (hK _ ?_)
    clear hK K
    simp only [evU, St.keep, List.map_cons, look, reduceIte, Nat.reduceEqDiff]
    try show AWP _ _ _ _ _
    refine AWP.ret ?_
    refine ⟨.inl rfl, ⟨⟨_, rfl, ?_⟩, fun ob hob => by cases hob⟩⟩
    simp only [look, reduceIte, Nat.reduceEqDiff]
    refine ⟨_, rfl, (.cons ?_ (.cons ?_ .nil))⟩
    · exact .nil _ _ _
    · exact sub1_of rfl
  refine AWP.skip ?_
  show AWP _ _ _ _ _
  have hbg : begT l = true := by
    have hh := (head_iff hb (by omega) w1 w2 w3).1 (by simpa using hc)
    unfold begT
    simp only [Bool.and_eq_true, decide_eq_true_eq, hn]
    exact ⟨⟨⟨⟨⟨by omega, hv⟩, by omega, by omega⟩, hh.1⟩, hh.2.1⟩, hh.2.2⟩
  have hnB : nB l = n := by rw [(begT_nums hbg).2.2.2.2, hn]
  have hpar : parT l = if allT l n then (if allM l n then (tabsT l n, 0) else ([], 3)) else ([], 2) := by
    unfold parT
    rw [hbg, hnB, Int.toNat_natCast, Bool.true_and]
  rw [hpar]
  clear hpar hbg hnB hc w1 w2 w3 q1 q2 q3 q4 hn2 bt hv z4 em
  repeat refine AWP.nest ?_
  first | refine rsa hG [] [0, 6, 11] fun K hK => ?_ | refine rna hG [] [0, 6, 11] fun K hK => ?_
  repeat first | ((with_reducible refine shN ?_); refine sL ?_) | ((with_reducible refine shG ?_); refine sG ?_)
  refine Eq.mpr evalL_nil (hK _ ?_)
  clear hK K
  simp only [evU, St.keep, List.map_cons, look, reduceIte, Nat.reduceEqDiff]
  try show AWP _ _ _ _ _
  repeat refine AWP.nest ?_
  first | refine rsa hG [] [0, 6, 11, 12] fun K hK => ?_ | refine rna hG [] [0, 6, 11, 12] fun K hK => ?_
  repeat first | ((with_reducible refine shN ?_); refine sL ?_) | ((with_reducible refine shG ?_); refine sG ?_)
  refine Eq.mpr evalL_nil (hK _ ?_)
  clear hK K
  simp only [evU, St.keep, List.map_cons, look, reduceIte, Nat.reduceEqDiff]
  try show AWP _ _ _ _ _
  refine AWP.adopt 11 110 2 (by decide) rfl ?_
  refine AWP.keep [0, 6, 11, 12] ?_
  simp only [St.adopt, St.keep, List.map_cons, List.map_nil, look, reduceIte, Nat.reduceEqDiff, List.nil_append, List.length_nil, List.cons_append, List.length_cons, Nat.reduceAdd]
  repeat refine AWP.nest ?_
  first | refine AWP.seq (AWP.block ?_) | refine AWP.block ?_
  refine AWP.loop (fun k st => ∃ (i : Nat), i ≤ n ∧ k = n - i ∧ (∀ j, j < i → okT l n j = true) ∧ st = ⟨[(0, .d false (.sl 1 (ints .u8 l))), (6, .d true (.v (.int .i64 (n : Int)))), (11, .own 0 i), (12, .d true (.v (.int .i64 (i : Int))))], [some (.row 110 2 i true (tbs (tabsT l i)))]⟩) (n) ?_ ?_
  · exact ⟨0, Nat.zero_le _, rfl, fun j h => absurd h (Nat.not_lt_zero j), rfl⟩
  rintro k st ⟨i, hi, hk, hj, rfl⟩
  repeat refine AWP.nest ?_
  first | refine rsa hG [] [0, 6, 11, 12, 78] fun K hK => ?_ | refine rna hG [] [0, 6, 11, 12, 78] fun K hK => ?_
  repeat first | ((with_reducible refine shN ?_); refine sL ?_) | ((with_reducible refine shG ?_); refine sG ?_)
  refine Eq.mpr evalL_nil (hK _ ?_)
  clear hK K
  simp only [evU, St.keep, List.map_cons, look, reduceIte, Nat.reduceEqDiff]
  try show AWP _ _ _ _ _
  first | refine AWP.seq (AWP.cond (b := _) rfl (fun hc => ?_) (fun hc => ?_)) | refine AWP.cond (b := _) rfl (fun hc => ?_) (fun hc => ?_)
  rotate_left
  · refine AWP.exit ?_
    show AWP _ _ _ _ _
    simp only [evC, Int.not_lt] at hc
    obtain rfl : i = n := by omega
    have hall : allT l i = true := allT_iff.2 hj
    rw [hall, if_pos rfl]
    clear hc hi hj hall
    have htl : (tabsT l i).length = i := tabsT_length
    repeat refine AWP.nest ?_
    have hxs := @htl
    first | refine rsa hG [] [0, 11, 158, 159, 160] fun K hK => ?_ | refine rna hG [] [0, 11, 158, 159, 160] fun K hK => ?_
    repeat first | ((with_reducible refine shN ?_); refine sL ?_) | ((with_reducible refine shG ?_); refine sG ?_)
    refine Eq.mpr evalL_nil (hK _ ?_)
    clear hK K hxs
    simp only [evU, St.keep, List.map_cons, look, reduceIte, Nat.reduceEqDiff]
    try show AWP _ _ _ _ _
    repeat refine AWP.nest ?_
    first | refine AWP.seq (AWP.block ?_) | refine AWP.block ?_
    refine AWP.loop (fun k st => ∃ (j : Nat), j ≤ i ∧ k = i - j ∧ (∀ q, q < j → okM l q = true) ∧ st = ⟨[(0, .d false (.sl 1 (ints .u8 l))), (11, .own 0 i), (158, .own 0 i), (159, .d true (.v (.int .i64 (i : Int)))), (160, .d true (.v (.int .i64 (j : Int))))], [some (.row 110 2 i true (tbs (tabsT l i)))]⟩) (i) ?_ ?_
    · exact ⟨0, Nat.zero_le _, rfl, fun j h => absurd h (Nat.not_lt_zero j), rfl⟩
    rintro k st ⟨j, hjn, hk, hj, rfl⟩
    repeat refine AWP.nest ?_
    first | refine rsa hG [] [0, 11, 158, 159, 160, 161] fun K hK => ?_ | refine rna hG [] [0, 11, 158, 159, 160, 161] fun K hK => ?_
    repeat first | ((with_reducible refine shN ?_); refine sL ?_) | ((with_reducible refine shG ?_); refine sG ?_)
    refine Eq.mpr evalL_nil (hK _ ?_)
    clear hK K
    simp only [evU, St.keep, List.map_cons, look, reduceIte, Nat.reduceEqDiff]
    try show AWP _ _ _ _ _
    first | refine AWP.seq (AWP.cond (b := _) rfl (fun hc => ?_) (fun hc => ?_)) | refine AWP.cond (b := _) rfl (fun hc => ?_) (fun hc => ?_)
    rotate_left
    · refine AWP.exit ?_
      show AWP _ _ _ _ _
      simp only [evC, Int.not_lt] at hc
      obtain rfl : j = i := by omega
      have hall : allM l j = true := allM_iff.2 hj
      rw [hall, if_pos rfl]
      repeat refine AWP.nest ?_
      first | refine rsa hG [] [2, 3] fun K hK => ?_ | refine rna hG [] [2, 3] fun K hK => ?_
      repeat first | ((with_reducible refine shN ?_); refine sL ?_) | ((with_reducible refine shG ?_); refine sG ?_)
      refine Eq.mpr evalL_nil (hK _ ?_)
      clear hK K
      simp only [evU, St.keep, List.map_cons, look, reduceIte, Nat.reduceEqDiff]
      try show AWP _ _ _ _ _
      refine AWP.frz 0 (by rw [hps]; decide) rfl ?_
      simp only [St.frz, Ob.frz, AV.frz, AV.frz1, Option.map_none, mkAgg, datas, Dat.nagg, List.map_cons, List.map_nil, Option.map_some, and_self, true_and, and_true, reduceIte, Nat.reduceEqDiff, List.set_cons_zero, List.set_cons_succ, Bool.and_true, Bool.true_and]
      refine AWP.ret ?_
      refine ⟨.inl rfl, ⟨⟨_, rfl, ?_⟩, fun ob hob => by cases hob⟩⟩
      simp only [look, reduceIte, Nat.reduceEqDiff]
      refine ⟨_, rfl, (.cons ?_ (.cons ?_ .nil))⟩
      · exact sub1_of rfl
      · exact sub1_of rfl
    simp only [evC, Int.not_lt] at hc
    refine AWP.skip ?_
    show AWP _ _ _ _ _
    have hj' : j < i := by omega
    clear hc
    have hat : ∀ z, (tbs (tabsT l i)).getD j z = .agg [.v (.string (tabT l j).1), .sl 1 (ints .u8 (tabT l j).2)] := fun z => by
      rw [tbs_at (by rw [tabsT_length]; omega), tabsT_at hj']
    have ht1 : Byt (tabT l j).2 := by
      show Byt (subV _ _ _)
      unfold subV
      split
      · exact (hb.drop _).take _
      · exact Byt.nil
    have ht2 : (tabT l j).2.length ≤ 1000000000000 := by
      show (subV _ _ _).length ≤ _
      unfold subV
      split
      · simp only [List.length_take, List.length_drop]; omega
      · simp
    have eta : ((tabT l j).1, (tabT l j).2) = tabT l j := rfl
    have hz1 : Byt (zerT (tabT l j)) := zerT_byt ht1
    have hz2 := zerT_len (tabT l j)
    have f1 : 12 + 16 * (j : Int) + 4 = 16 + 16 * (j : Int) := by omega
    have f3 : n4V l (16 + 16 * (j : Int)) = smT l j := rfl
    have hsm : refSum 0 (zerT (tabT l j)) % 4294967296 = sumT (tabT l j) := rfl
    have hok : okM l j = (decide (sumT (tabT l j) = smT l j) && !(wholeT (tabT l j) && decide (refSum 0 l % 4294967296 ≠ 2981146554))) := rfl
    have hwh : wholeT (tabT l j) = ((tabT l j).1.toList == headB.toList && decide (12 ≤ ((tabT l j).2.length : Int))) := rfl
    have hall0 : okM l j = false → allM l i = false := fun hno => by
      cases h : allM l i with
      | false => rfl
      | true => rw [allM_iff.1 h j hj'] at hno; cases hno
    repeat refine AWP.nest ?_
    first | refine AWP.seq (AWP.block ?_) | refine AWP.block ?_
    repeat refine AWP.nest ?_
    have hxs := And.intro @hat @htl
    first | refine rsa hG [] [0, 11, 18, 19, 158, 159, 160] fun K hK => ?_ | refine rna hG [] [0, 11, 18, 19, 158, 159, 160] fun K hK => ?_
    repeat first | ((with_reducible refine shN ?_); refine sL ?_) | ((with_reducible refine shG ?_); refine sG ?_)
    refine Eq.mpr evalL_nil (hK _ ?_)
    clear hK K hxs
    simp only [evU, St.keep, List.map_cons, look, reduceIte, Nat.reduceEqDiff]
    try show AWP _ _ _ _ _
    repeat refine AWP.nest ?_
    have hxs := And.intro @f1 @f3
    first | refine rsa hG [] [0, 11, 19, 20, 158, 159, 160] fun K hK => ?_ | refine rna hG [] [0, 11, 19, 20, 158, 159, 160] fun K hK => ?_
    repeat first | ((with_reducible refine shN ?_); refine sL ?_) | ((with_reducible refine shG ?_); refine sG ?_)
    refine Eq.mpr evalL_nil (hK _ ?_)
    clear hK K hxs
    simp only [evU, St.keep, List.map_cons, look, reduceIte, Nat.reduceEqDiff]
    try show AWP _ _ _ _ _
    repeat refine AWP.nest ?_
    have hxs := And.intro @eta @hsm
    first | refine rsa hG [] [0, 11, 19, 158, 159, 160, 178] fun K hK => ?_ | refine rna hG [] [0, 11, 19, 158, 159, 160, 178] fun K hK => ?_
    repeat first | ((with_reducible refine shN ?_); refine sL ?_) | ((with_reducible refine shG ?_); refine sG ?_)
    refine Eq.mpr evalL_nil (hK _ ?_)
    clear hK K hxs
    simp only [evU, St.keep, List.map_cons, look, reduceIte, Nat.reduceEqDiff]
    try show AWP _ _ _ _ _
    repeat refine AWP.nest ?_
    first | refine AWP.seq (AWP.cond (b := _) rfl (fun hc => ?_) (fun hc => ?_)) | refine AWP.cond (b := _) rfl (fun hc => ?_) (fun hc => ?_)
    all_goals try simp only [evC] at hc
    · rw [hall0 (by rw [hok, decide_eq_false (fun e => hc e.symm)]; rfl)]
      repeat refine AWP.nest ?_
      first | refine rsa hG [] [2, 3] fun K hK => ?_ | refine rna hG [] [2, 3] fun K hK => ?_
      repeat first | ((with_reducible refine shN ?_); refine sL ?_) | ((with_reducible refine shG ?_); refine sG ?_)
      refine Eq.mpr evalL_nil (hK _ ?_)
      clear hK K
      simp only [evU, St.keep, List.map_cons, look, reduceIte, Nat.reduceEqDiff]
      try show AWP _ _ _ _ _
      refine AWP.ret ?_
      refine ⟨.inl rfl, ⟨⟨_, rfl, ?_⟩, fun ob hob => by cases hob⟩⟩
      simp only [look, reduceIte, Nat.reduceEqDiff]
      refine ⟨_, rfl, (.cons ?_ (.cons ?_ .nil))⟩
      · exact .nil _ _ _
      · exact sub1_of rfl
    refine AWP.skip ?_
    show AWP _ _ _ _ _
    have hc1 := hc
    clear hc
    repeat refine AWP.nest ?_
    first | refine rsa hG [] [0, 11, 158, 159, 160, 192] fun K hK => ?_ | refine rna hG [] [0, 11, 158, 159, 160, 192] fun K hK => ?_
    repeat first | ((with_reducible refine shN ?_); refine sL ?_) | ((with_reducible refine shG ?_); refine sG ?_)
    refine Eq.mpr evalL_nil (hK _ ?_)
    clear hK K
    simp only [evU, St.keep, List.map_cons, look, reduceIte, Nat.reduceEqDiff]
    try show AWP _ _ _ _ _
    repeat refine AWP.nest ?_
    first | refine AWP.seq (AWP.cond (b := _) rfl (fun hc => ?_) (fun hc => ?_)) | refine AWP.cond (b := _) rfl (fun hc => ?_) (fun hc => ?_)
    all_goals try simp only [evC] at hc
    · rw [hall0 (by
        have hw : wholeT (tabT l j) = true := by
          rw [hwh, Bool.and_eq_true, decide_eq_true_eq, beq_iff_eq]
          exact ⟨hc.1.1, hc.1.2⟩
        rw [hok, decide_eq_true hc1.symm, hw, decide_eq_true hc.2]
        rfl)]
      repeat refine AWP.nest ?_
      first | refine rsa hG [] [2, 3] fun K hK => ?_ | refine rna hG [] [2, 3] fun K hK => ?_
      repeat first | ((with_reducible refine shN ?_); refine sL ?_) | ((with_reducible refine shG ?_); refine sG ?_)
      refine Eq.mpr evalL_nil (hK _ ?_)
      clear hK K
      simp only [evU, St.keep, List.map_cons, look, reduceIte, Nat.reduceEqDiff]
      try show AWP _ _ _ _ _
      refine AWP.ret ?_
      refine ⟨.inl rfl, ⟨⟨_, rfl, ?_⟩, fun ob hob => by cases hob⟩⟩
      simp only [look, reduceIte, Nat.reduceEqDiff]
      refine ⟨_, rfl, (.cons ?_ (.cons ?_ .nil))⟩
      · exact .nil _ _ _
      · exact sub1_of rfl
    refine AWP.skip ?_
    show AWP _ _ _ _ _
    refine AWP.trunc 1 (by rw [hps]; decide) rfl ?_
    simp only [St.trunc, List.take_zero, List.take_succ_cons]
    repeat refine AWP.nest ?_
    first | refine rsa hG [] [0, 11, 158, 159, 160] fun K hK => ?_ | refine rna hG [] [0, 11, 158, 159, 160] fun K hK => ?_
    repeat first | ((with_reducible refine shN ?_); refine sL ?_) | ((with_reducible refine shG ?_); refine sG ?_)
    refine Eq.mpr evalL_nil (hK _ ?_)
    clear hK K
    simp only [evU, St.keep, List.map_cons, look, reduceIte, Nat.reduceEqDiff]
    try show AWP _ _ _ _ _
    refine ⟨i - (j + 1), by omega, j + 1, by omega, rfl, ?_, rfl⟩
    intro q hq
    by_cases hqj : q < j
    · exact hj q hqj
    rw [show q = j by omega, hok, decide_eq_true hc1.symm]
    have hw : wholeT (tabT l j) = false ∨ refSum 0 l % 4294967296 = 2981146554 := by
      rcases hc with h | h
      · left
        rw [hwh, Bool.and_eq_false_iff, decide_eq_false_iff_not, beq_eq_false_iff_ne]
        exact h
      · exact .inr h
    rcases hw with h | h
    · rw [h]; rfl
    · rw [decide_eq_false (fun h3 => h3 h)]; simp
  simp only [evC, Int.not_lt] at hc
  refine AWP.skip ?_
  show AWP _ _ _ _ _
  have hi' : i < n := by omega
  clear hc
  have htl : (tabsT l i).length = i := tabsT_length
  have f1 : 12 + 16 * (i : Int) + 8 = 20 + 16 * (i : Int) := by omega
  have f2 : 12 + 16 * (i : Int) + 12 = 24 + 16 * (i : Int) := by omega
  have f3 : n4V l (20 + 16 * (i : Int)) = ofT l i := rfl
  have f4 : n4V l (24 + 16 * (i : Int)) = lnT l i := rfl
  have b1 : 0 ≤ ofT l i ∧ ofT l i < 4294967296 := n4V_bd hb _
  have b2 : 0 ≤ lnT l i ∧ lnT l i < 4294967296 := n4V_bd hb _
  repeat refine AWP.nest ?_
  first | refine AWP.seq (AWP.block ?_) | refine AWP.block ?_
  repeat refine AWP.nest ?_
  have hxs := And.intro @f1 @f3
  first | refine rsa hG [] [0, 6, 11, 12, 13] fun K hK => ?_ | refine rna hG [] [0, 6, 11, 12, 13] fun K hK => ?_
  repeat first | ((with_reducible refine shN ?_); refine sL ?_) | ((with_reducible refine shG ?_); refine sG ?_)
  refine Eq.mpr evalL_nil (hK _ ?_)
  clear hK K hxs
  simp only [evU, St.keep, List.map_cons, look, reduceIte, Nat.reduceEqDiff]
  try show AWP _ _ _ _ _
  repeat refine AWP.nest ?_
  have hxs := And.intro @f2 @f4
  first | refine rsa hG [] [0, 6, 11, 12, 13, 15] fun K hK => ?_ | refine rna hG [] [0, 6, 11, 12, 13, 15] fun K hK => ?_
  repeat first | ((with_reducible refine shN ?_); refine sL ?_) | ((with_reducible refine shG ?_); refine sG ?_)
  refine Eq.mpr evalL_nil (hK _ ?_)
  clear hK K hxs
  simp only [evU, St.keep, List.map_cons, look, reduceIte, Nat.reduceEqDiff]
  try show AWP _ _ _ _ _
  repeat refine AWP.nest ?_
  first | refine rsa hG [] [0, 6, 11, 12, 13, 15, 17] fun K hK => ?_ | refine rna hG [] [0, 6, 11, 12, 13, 15, 17] fun K hK => ?_
  repeat first | ((with_reducible refine shN ?_); refine sL ?_) | ((with_reducible refine shG ?_); refine sG ?_)
  refine Eq.mpr evalL_nil (hK _ ?_)
  clear hK K
  simp only [evU, St.keep, List.map_cons, look, reduceIte, Nat.reduceEqDiff]
  try show AWP _ _ _ _ _
  have ftg : strL (List.take ((16 + 16 * (i : Int)).toNat - (12 + 16 * (i : Int)).toNat) (List.drop (12 + 16 * (i : Int)).toNat l)) = tagT l i := by
    unfold tagT
    rw [show (12 + 16 * (i : Int)).toNat = 12 + 16 * i by omega, show (16 + 16 * (i : Int)).toNat - (12 + 16 * i) = 4 by omega]
  rw [ftg]
  have hok : okT l n i = (decide (ofT l i + lnT l i ≤ (l.length : Int)) && decide (ofT l i % 4 = 0) && decide (12 + 16 * (n : Int) ≤ ofT l i) && !(decide (0 < i) && leS (tagT l i) (tagT l (i - 1)))) := by
    unfold okT
    rw [decide_eq_true (show 12 + 16 * (i + 1) ≤ l.length by omega), Bool.true_and]
  have hle : leS (tagT l i) (tagT l (i - 1)) = (Op.bytesLess (tagT l i).toList (tagT l (i - 1)).toList || (tagT l i).toList == (tagT l (i - 1)).toList) := rfl
  have hall0 : okT l n i = false → allT l n = false := fun hno => by
    cases h : allT l n with
    | false => rfl
    | true => rw [allT_iff.1 h i hi'] at hno; cases hno
  have fsub : ofT l i + lnT l i ≤ (l.length : Int) → (l.take (ofT l i + lnT l i).toNat).drop (ofT l i).toNat = (tabT l i).2 := fun h => by
    show _ = subV _ _ _
    unfold subV
    rw [if_pos h, List.drop_take]
    congr 1
    omega
  generalize hv2 : ofT l i = v2 at *
  generalize hv3 : lnT l i = v3 at *
  clear f1 f2 f3 f4 ftg
  have fin : ∀ st : St, st = ⟨[(0, .d false (.sl 1 (ints .u8 l))), (6, .d true (.v (.int .i64 (n : Int)))), (11, .own 0 (i + 1)), (12, .d true (.v (.int .i64 ((i + 1 : Nat) : Int))))], [some (.row 110 2 (i + 1) true (tbs (tabsT l (i + 1))))]⟩ → okT l n i = true →
      ∃ m, m < k ∧ ∃ (i : Nat), i ≤ n ∧ m = n - i ∧ (∀ j, j < i → okT l n j = true) ∧ st = ⟨[(0, .d false (.sl 1 (ints .u8 l))), (6, .d true (.v (.int .i64 (n : Int)))), (11, .own 0 i), (12, .d true (.v (.int .i64 (i : Int))))], [some (.row 110 2 i true (tbs (tabsT l i)))]⟩ := fun st hst hyes => by
    refine ⟨n - (i + 1), by omega, i + 1, by omega, rfl, fun j hjl => ?_, hst⟩
    by_cases hji : j < i
    · exact hj j hji
    · rwa [show j = i by omega]
  rcases Nat.eq_zero_or_pos i with hi0 | hi0
  · subst hi0
    repeat refine AWP.nest ?_
    first | refine rsa hG [] [0, 6, 11, 12, 13, 15, 17, 143] fun K hK => ?_ | refine rna hG [] [0, 6, 11, 12, 13, 15, 17, 143] fun K hK => ?_
    repeat first | ((with_reducible refine shN ?_); refine sL ?_) | ((with_reducible refine shG ?_); refine sG ?_)
    refine Eq.mpr evalL_nil (hK _ ?_)
    clear hK K
    simp only [evU, St.keep, List.map_cons, look, reduceIte, Nat.reduceEqDiff]
    try show AWP _ _ _ _ _
    repeat refine AWP.nest ?_
    first | refine AWP.seq (AWP.cond (b := _) rfl (fun hc => ?_) (fun hc => ?_)) | refine AWP.cond (b := _) rfl (fun hc => ?_) (fun hc => ?_)
    all_goals try simp only [evC] at hc
    · rw [hall0 (by
        rw [hok]
        rcases hc with ((h | h) | h) | h
        · rw [decide_eq_false (show ¬ (v2 % 4 = 0) by omega)]; simp
        · rw [decide_eq_false (show ¬ (12 + 16 * (n : Int) ≤ v2) by omega)]; simp
        · rw [decide_eq_false (show ¬ (v2 + v3 ≤ (l.length : Int)) by omega)]; simp
        · exact absurd h.1 (by simp))]
      repeat refine AWP.nest ?_
      first | refine rsa hG [] [2, 3] fun K hK => ?_ | refine rna hG [] [2, 3] fun K hK => ?_
      repeat first | ((with_reducible refine shN ?_); refine sL ?_) | ((with_reducible refine shG ?_); refine sG ?_)
      refine Eq.mpr evalL_nil (hK _ ?_)
      clear hK K
      simp only [evU, St.keep, List.map_cons, look, reduceIte, Nat.reduceEqDiff]
      try show AWP _ _ _ _ _
      refine AWP.ret ?_
      refine ⟨.inl rfl, ⟨⟨_, rfl, ?_⟩, fun ob hob => by cases hob⟩⟩
      simp only [look, reduceIte, Nat.reduceEqDiff]
      refine ⟨_, rfl, (.cons ?_ (.cons ?_ .nil))⟩
      · exact .nil _ _ _
      · exact sub1_of rfl
    refine AWP.skip ?_
    show AWP _ _ _ _ _
    obtain ⟨⟨⟨h1, h2⟩, h3⟩, _⟩ := hc
    have h4 : v2 + v3 ≤ (l.length : Int) := by omega
    have hyes : okT l n 0 = true := by
      rw [hok, decide_eq_true h4, decide_eq_true (show v2 % 4 = 0 by omega), decide_eq_true (show 12 + 16 * (n : Int) ≤ v2 by omega)]
      rfl
    have fs := fsub h4
    repeat refine AWP.nest ?_
    have hxs := @fs
    first | refine rsa hG [] [0, 6, 11, 12] fun K hK => ?_ | refine rna hG [] [0, 6, 11, 12] fun K hK => ?_
    repeat first | ((with_reducible refine shN ?_); refine sL ?_) | ((with_reducible refine shG ?_); refine sG ?_)
    refine Eq.mpr evalL_nil (hK _ ?_)
    clear hK K hxs
    simp only [evU, St.keep, List.map_cons, look, reduceIte, Nat.reduceEqDiff]
    try show AWP _ _ _ _ _
    refine AWP.trunc 1 (by rw [hps]; decide) rfl ?_
    simp only [St.trunc, List.take_zero, List.take_succ_cons]
    repeat refine AWP.nest ?_
    first | refine rsa hG [] [0, 6, 11, 12] fun K hK => ?_ | refine rna hG [] [0, 6, 11, 12] fun K hK => ?_
    repeat first | ((with_reducible refine shN ?_); refine sL ?_) | ((with_reducible refine shG ?_); refine sG ?_)
    refine Eq.mpr evalL_nil (hK _ ?_)
    clear hK K
    simp only [evU, St.keep, List.map_cons, look, reduceIte, Nat.reduceEqDiff]
    try show AWP _ _ _ _ _
    refine fin _ ?_ hyes
    rw [tabsT_succ]
    rfl
  have hat : ∀ z, (tbs (tabsT l i)).getD ((i : Int) - 1).toNat z = .agg [.v (.string (tagT l (i - 1))), .sl 1 (ints .u8 (tabT l (i - 1)).2)] := fun z => by
    rw [show ((i : Int) - 1).toNat = i - 1 by omega, tbs_at (by rw [tabsT_length]; omega), tabsT_at (by omega)]
    rfl
  repeat refine AWP.nest ?_
  have hxs := And.intro @hat @htl
  first | refine rsa hG [] [0, 6, 11, 12, 13, 15, 17, 143] fun K hK => ?_ | refine rna hG [] [0, 6, 11, 12, 13, 15, 17, 143] fun K hK => ?_
  repeat first | ((with_reducible refine shN ?_); refine sL ?_) | ((with_reducible refine shG ?_); refine sG ?_)
  refine Eq.mpr evalL_nil (hK _ ?_)
  clear hK K hxs
  simp only [evU, St.keep, List.map_cons, look, reduceIte, Nat.reduceEqDiff]
  try show AWP _ _ _ _ _
  repeat refine AWP.nest ?_
  first | refine AWP.seq (AWP.cond (b := _) rfl (fun hc => ?_) (fun hc => ?_)) | refine AWP.cond (b := _) rfl (fun hc => ?_) (fun hc => ?_)
  all_goals try simp only [evC] at hc
  · rw [hall0 (by
      rw [hok]
      rcases hc with ((h | h) | h) | h
      · rw [decide_eq_false (show ¬ (v2 % 4 = 0) by omega)]; simp
      · rw [decide_eq_false (show ¬ (12 + 16 * (n : Int) ≤ v2) by omega)]; simp
      · rw [decide_eq_false (show ¬ (v2 + v3 ≤ (l.length : Int)) by omega)]; simp
      · rw [show leS (tagT l i) (tagT l (i - 1)) = true by rw [hle]; simpa using h.2, decide_eq_true hi0]; simp)]
    repeat refine AWP.nest ?_
    first | refine rsa hG [] [2, 3] fun K hK => ?_ | refine rna hG [] [2, 3] fun K hK => ?_
    repeat first | ((with_reducible refine shN ?_); refine sL ?_) | ((with_reducible refine shG ?_); refine sG ?_)
    refine Eq.mpr evalL_nil (hK _ ?_)
    clear hK K
    simp only [evU, St.keep, List.map_cons, look, reduceIte, Nat.reduceEqDiff]
    try show AWP _ _ _ _ _
    refine AWP.ret ?_
    refine ⟨.inl rfl, ⟨⟨_, rfl, ?_⟩, fun ob hob => by cases hob⟩⟩
    simp only [look, reduceIte, Nat.reduceEqDiff]
    refine ⟨_, rfl, (.cons ?_ (.cons ?_ .nil))⟩
    · exact .nil _ _ _
    · exact sub1_of rfl
  refine AWP.skip ?_
  show AWP _ _ _ _ _
  obtain ⟨⟨⟨h1, h2⟩, h3⟩, h5⟩ := hc
  have h4 : v2 + v3 ≤ (l.length : Int) := by omega
  have hyes : okT l n i = true := by
    rw [hok, decide_eq_true h4, decide_eq_true (show v2 % 4 = 0 by omega), decide_eq_true (show 12 + 16 * (n : Int) ≤ v2 by omega), show leS (tagT l i) (tagT l (i - 1)) = false by rw [hle]; simpa using h5.resolve_left (by omega)]
    simp
  have fs := fsub h4
  repeat refine AWP.nest ?_
  have hxs := @fs
  first | refine rsa hG [] [0, 6, 11, 12] fun K hK => ?_ | refine rna hG [] [0, 6, 11, 12] fun K hK => ?_
  repeat first | ((with_reducible refine shN ?_); refine sL ?_) | ((with_reducible refine shG ?_); refine sG ?_)
  refine Eq.mpr evalL_nil (hK _ ?_)
  clear hK K hxs
  simp only [evU, St.keep, List.map_cons, look, reduceIte, Nat.reduceEqDiff]
  try show AWP _ _ _ _ _
  refine AWP.trunc 1 (by rw [hps]; decide) rfl ?_
  simp only [St.trunc, List.take_zero, List.take_succ_cons]
  repeat refine AWP.nest ?_
  first | refine rsa hG [] [0, 6, 11, 12] fun K hK => ?_ | refine rna hG [] [0, 6, 11, 12] fun K hK => ?_
  repeat first | ((with_reducible refine shN ?_); refine sL ?_) | ((with_reducible refine shG ?_); refine sG ?_)
  refine Eq.mpr evalL_nil (hK _ ?_)
  clear hK K
  simp only [evU, St.keep, List.map_cons, look, reduceIte, Nat.reduceEqDiff]
  try show AWP _ _ _ _ _
  refine fin _ ?_ hyes
  rw [tabsT_succ]
  rfl
def e83 : List AV → Option Ob → Option Res := fun args i => match args, i with
  | [.d false (.sl 1 xs)], none => some ⟨IsB xs ∧ (toInts xs).length ≤ 1000000, .tup [.d true (.sl 2 (tbs (parT (toInts xs)).1)), .d true (.v (.int .i64 (parT (toInts xs)).2))], none⟩
  | _, _ => none
def F123 : FT := F122.upd 83 e83
theorem F123_ok : FOK Try.prog F123 := FOK.upd F122_ok Try.func83 (by kernel_rfl) rfl fun args i R h => by
  unfold e83 at h
  split at h
  · rename_i xs
    cases h
    refine Spec.pre fun h => ?_
    obtain ⟨l, rfl, hb⟩ := h.1.elim
    rw [toInts_ints] at h ⊢
    exact s83 l hb h.2
  · cases h
end Go.AM

