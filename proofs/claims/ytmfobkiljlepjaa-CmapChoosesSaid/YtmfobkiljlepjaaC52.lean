/- AM: ref11.Find, ref11.Look. -/
import Derived.Test.YtmfobkiljlepjaaC51
set_option maxRecDepth 100000
set_option maxHeartbeats 8000000
set_option linter.unusedSimpArgs false
set_option linter.unusedVariables false
namespace Go.AM
open Go Go.Proofs

def wL : List (List Int) := [[0, 3, 0, 10], [0, 0, 0, 4], [0, 3, 0, 1], [0, 0, 0, 3]]
theorem four_at {l : List Int} {q : Nat} (h : q + 4 ≤ l.length) : (l.drop q).take 4 = [l.getD q 0, l.getD (q + 1) 0, l.getD (q + 2) 0, l.getD (q + 3) 0] := by
  rw [show (4 : Nat) = 2 + 2 from rfl, List.take_add, List.drop_drop, two_at (by omega), two_at (q := q + 2) (by omega)]
  rfl
theorem n2V_at {l : List Int} {q : Nat} (h : q + 2 ≤ l.length) : n2V l (q : Int) = 256 * l.getD q 0 + l.getD (q + 1) 0 := by
  have e : n2OK l.length (q : Int) = true := by simp only [n2OK, decide_eq_true_eq]; omega
  unfold n2V
  rw [e, if_pos rfl, Int.toNat_natCast]
theorem want_iff {l : List Int} (hb : Byt l) {i k : Nat} (hi : 12 + 8 * i ≤ l.length) (hk : k < 4) : ((l.drop (4 + 8 * i)).take 4 = wL.getD k []) ↔ recK l i = kindAt k := by
  rw [four_at (by omega)]
  unfold recK
  rw [show (4 : Int) + 8 * (i : Int) = ((4 + 8 * i : Nat) : Int) by omega, show (6 : Int) + 8 * (i : Int) = ((4 + 8 * i + 2 : Nat) : Int) by omega, n2V_at (by omega), n2V_at (by omega)]
  have b1 := hb.getD (4 + 8 * i)
  have b2 := hb.getD (4 + 8 * i + 1)
  have b3 := hb.getD (4 + 8 * i + 2)
  have b4 := hb.getD (4 + 8 * i + 3)
  rw [show 4 + 8 * i + 2 + 1 = 4 + 8 * i + 3 by omega]
  generalize l.getD (4 + 8 * i) 0 = x1 at b1 ⊢
  generalize l.getD (4 + 8 * i + 1) 0 = x2 at b2 ⊢
  generalize l.getD (4 + 8 * i + 2) 0 = x3 at b3 ⊢
  generalize l.getD (4 + 8 * i + 3) 0 = x4 at b4 ⊢
  match k, hk with
  | 0, _ => simp only [wL, kindAt, kinds, List.getD_cons_zero, List.cons.injEq, and_true]; omega
  | 1, _ => simp only [wL, kindAt, kinds, List.getD_cons_zero, List.getD_cons_succ, List.cons.injEq, and_true]; omega
  | 2, _ => simp only [wL, kindAt, kinds, List.getD_cons_zero, List.getD_cons_succ, List.cons.injEq, and_true]; omega
  | 3, _ => simp only [wL, kindAt, kinds, List.getD_cons_zero, List.getD_cons_succ, List.cons.injEq, and_true]; omega
theorem wL_byt (k : Nat) : Byt (wL.getD k []) := by
  match k with
  | 0 => intro b hb; simp [wL] at hb; omega
  | 1 => intro b hb; simp [wL] at hb; omega
  | 2 => intro b hb; simp [wL] at hb; omega
  | 3 => intro b hb; simp [wL] at hb; omega
  | k + 4 => exact Byt.nil


theorem s72 (l : List Int) (hb : Byt l) (hl : l.length ≤ 1000000000) : Spec Try.prog 72 [.d false (.sl 1 (ints .u8 l))] none ⟨True, .tup [.d false (.sl 1 (ints .u8 (tC l))), .d true (.v (.bool (wideC l))), .d true (.v (.int .i64 (nC l : Int))), .d true (.v (.bool (rightC l)))], none⟩ := by
  have hf37 : F83 37 = e37 := rfl
  have hf47 : F83 47 = e47 := rfl
  have hf57 : F83 57 = e57 := rfl
  have hf106 : F83 106 = e106 := rfl
  have hf107 : F83 107 = e107 := rfl
  have hG := (Gf_ok F83_ok)
  have hfs := And.intro @hf37 (And.intro @e37.eq_1 (And.intro @hf47 (And.intro @e47.eq_1 (And.intro @hf57 (And.intro @e57.eq_1 (And.intro @hf106 (And.intro @e106.eq_1 (And.intro @hf107 (And.intro @e107.eq_1 (And.intro @evP (And.intro @evS (And.intro @toPrs_prs (And.intro @toPrs_prs9 (And.intro @toSps_sps @toSgs_sgs))))))))))))))
  have hxs := @Nat.add_zero
  refine spec_of_awp (Gf_ok F83_ok) Try.func72 rfl (Nat.le_of_ble_eq_true rfl) fun E hps hN _ => ?_
  simp only [begin, List.zipIdx_cons, List.zipIdx_nil, List.map_cons, List.map_nil, Option.toList, Nat.zero_add, Nat.reduceAdd]
  have f0 := n2V_bound hb 0
  have f2 := n2V_bound hb 2
  have hnn : n2V l 2 = (nrec l : Int) := by unfold nrec; omega
  repeat refine AWP.nest ?_
  first | refine rsa hG [] [0] fun K hK => ?_ | refine rna hG [] [0] fun K hK => ?_
  repeat first | ((with_reducible refine shN ?_); refine sL ?_) | ((with_reducible refine shG ?_); refine sG ?_)
  refine Eq.mpr evalL_nil (hK _ ?_)
  clear hK K
  simp only [evU, St.keep, List.map_cons, look, reduceIte, Nat.reduceEqDiff]
  try show AWP _ _ _ _ _
  repeat refine AWP.nest ?_
  first | refine rsa hG [] [0, 6, 7] fun K hK => ?_ | refine rna hG [] [0, 6, 7] fun K hK => ?_
  repeat first | ((with_reducible refine shN ?_); refine sL ?_) | ((with_reducible refine shG ?_); refine sG ?_)
  refine Eq.mpr evalL_nil (hK _ ?_)
  clear hK K
  simp only [evU, St.keep, List.map_cons, look, reduceIte, Nat.reduceEqDiff]
  try show AWP _ _ _ _ _
  repeat refine AWP.nest ?_
  first | refine rsa hG [] [0, 6, 7, 8, 9] fun K hK => ?_ | refine rna hG [] [0, 6, 7, 8, 9] fun K hK => ?_
  repeat first | ((with_reducible refine shN ?_); refine sL ?_) | ((with_reducible refine shG ?_); refine sG ?_)
  refine Eq.mpr evalL_nil (hK _ ?_)
  clear hK K
  simp only [evU, St.keep, List.map_cons, look, reduceIte, Nat.reduceEqDiff]
  try show AWP _ _ _ _ _
  repeat refine AWP.nest ?_
  first | refine rsa hG [] [0, 8, 47] fun K hK => ?_ | refine rna hG [] [0, 8, 47] fun K hK => ?_
  repeat first | ((with_reducible refine shN ?_); refine sL ?_) | ((with_reducible refine shG ?_); refine sG ?_)
  refine Eq.mpr evalL_nil (hK _ ?_)
  clear hK K
  simp only [evU, St.keep, List.map_cons, look, reduceIte, Nat.reduceEqDiff]
  try show AWP _ _ _ _ _
  cases ho : okC l with
  | false =>
    obtain ⟨z1, z2, z3, z4, z5⟩ := ch_none (ch_bad ho)
    rw [z1, z2, z3, z4]
    repeat refine AWP.nest ?_
    first | refine AWP.seq (AWP.cond (b := _) rfl (fun hc => ?_) (fun hc => ?_)) | refine AWP.cond (b := _) rfl (fun hc => ?_) (fun hc => ?_)
    all_goals try simp only [evC] at hc
    · repeat refine AWP.nest ?_
      first | refine rsa hG [] [2, 3, 4, 5] fun K hK => ?_ | refine rna hG [] [2, 3, 4, 5] fun K hK => ?_
      repeat first | ((with_reducible refine shN ?_); refine sL ?_) | ((with_reducible refine shG ?_); refine sG ?_)
      refine Eq.mpr evalL_nil (hK _ ?_)
      clear hK K
      simp only [evU, St.keep, List.map_cons, look, reduceIte, Nat.reduceEqDiff]
      try show AWP _ _ _ _ _
      refine AWP.ret ?_
      refine ⟨.inl rfl, ⟨⟨_, rfl, ?_⟩, fun ob hob => by cases hob⟩⟩
      simp only [look, reduceIte, Nat.reduceEqDiff]
      refine ⟨_, rfl, (.cons ?_ (.cons ?_ (.cons ?_ (.cons ?_ .nil))))⟩
      · exact .nil _ _ _
      · exact sub1_of rfl
      · exact sub1_of rfl
      · exact sub1_of rfl
    · exfalso
      have : okC l = true := by
        simp [n2OK] at hc
        simp only [okC, Bool.and_eq_true, decide_eq_true_eq]
        omega
      rw [this] at ho
      cases ho
  | true =>
    obtain ⟨⟨h4, hv⟩, hn⟩ : (4 ≤ l.length ∧ n2V l 0 = 0) ∧ 4 + 8 * nrec l ≤ l.length := by
      simpa only [okC, Bool.and_eq_true, decide_eq_true_eq] using ho
    repeat refine AWP.nest ?_
    first | refine AWP.seq (AWP.cond (b := _) rfl (fun hc => ?_) (fun hc => ?_)) | refine AWP.cond (b := _) rfl (fun hc => ?_) (fun hc => ?_)
    all_goals try simp only [evC] at hc
    · exfalso
      simp [n2OK] at hc
      omega
    refine AWP.skip ?_
    show AWP _ _ _ _ _
    clear hc
    rw [hnn]
    repeat refine AWP.nest ?_
    first | refine rsa hG [] [0, 8, 52, 53, 54] fun K hK => ?_ | refine rna hG [] [0, 8, 52, 53, 54] fun K hK => ?_
    repeat first | ((with_reducible refine shN ?_); refine sL ?_) | ((with_reducible refine shG ?_); refine sG ?_)
    refine Eq.mpr evalL_nil (hK _ ?_)
    clear hK K
    simp only [evU, St.keep, List.map_cons, look, reduceIte, Nat.reduceEqDiff]
    try show AWP _ _ _ _ _
    generalize hnr : nrec l = n at hn
    repeat refine AWP.nest ?_
    first | refine AWP.seq (AWP.block ?_) | refine AWP.block ?_
    refine AWP.loop (fun m st => ∃ (k : Nat), k ≤ 4 ∧ m = 4 - k ∧ (∀ j, j < k → kFind l j = none) ∧ st = ⟨[(0, .d false (.sl 1 (ints .u8 l))), (8, .d true (.v (.int .i64 (n : Int)))), (52, .d true (.sl 1 (rows wL))), (53, .d true (.v (.int .i64 4))), (54, .d true (.v (.int .i64 (k : Int))))], []⟩) (4) ?_ ?_
    · exact ⟨0, Nat.zero_le _, rfl, fun j h => absurd h (Nat.not_lt_zero j), rfl⟩
    rintro m st ⟨k, hk, hm, hj, rfl⟩
    repeat refine AWP.nest ?_
    first | refine rsa hG [] [0, 8, 52, 53, 54, 55] fun K hK => ?_ | refine rna hG [] [0, 8, 52, 53, 54, 55] fun K hK => ?_
    repeat first | ((with_reducible refine shN ?_); refine sL ?_) | ((with_reducible refine shG ?_); refine sG ?_)
    refine Eq.mpr evalL_nil (hK _ ?_)
    clear hK K
    simp only [evU, St.keep, List.map_cons, look, reduceIte, Nat.reduceEqDiff]
    try show AWP _ _ _ _ _
    first | refine AWP.seq (AWP.cond (b := _) rfl (fun hc => ?_) (fun hc => ?_)) | refine AWP.cond (b := _) rfl (fun hc => ?_) (fun hc => ?_)
    rotate_left
    · refine AWP.exit ?_
      show AWP _ _ _ _ _
      simp only [evC, Int.not_lt] at hc
      obtain rfl : k = 4 := by omega
      obtain ⟨z1, z2, z3, z4, z5⟩ := ch_none (ch_no hj)
      rw [z1, z2, z3, z4]
      repeat refine AWP.nest ?_
      first | refine rsa hG [] [2, 3, 4, 5] fun K hK => ?_ | refine rna hG [] [2, 3, 4, 5] fun K hK => ?_
      repeat first | ((with_reducible refine shN ?_); refine sL ?_) | ((with_reducible refine shG ?_); refine sG ?_)
      refine Eq.mpr evalL_nil (hK _ ?_)
      clear hK K
      simp only [evU, St.keep, List.map_cons, look, reduceIte, Nat.reduceEqDiff]
      try show AWP _ _ _ _ _
      refine AWP.ret ?_
      refine ⟨.inl rfl, ⟨⟨_, rfl, ?_⟩, fun ob hob => by cases hob⟩⟩
      simp only [look, reduceIte, Nat.reduceEqDiff]
      refine ⟨_, rfl, (.cons ?_ (.cons ?_ (.cons ?_ (.cons ?_ .nil))))⟩
      · exact .nil _ _ _
      · exact sub1_of rfl
      · exact sub1_of rfl
      · exact sub1_of rfl
    simp only [evC, Int.not_lt] at hc
    refine AWP.skip ?_
    show AWP _ _ _ _ _
    have hk' : k < 4 := by omega
    clear hc
    have hlen4 : wL.length = 4 := rfl
    have hwb := wL_byt k
    repeat refine AWP.nest ?_
    first | refine AWP.seq (AWP.block ?_) | refine AWP.block ?_
    repeat refine AWP.nest ?_
    first | refine rsa hG [] [0, 8, 10, 11, 52, 53, 54] fun K hK => ?_ | refine rna hG [] [0, 8, 10, 11, 52, 53, 54] fun K hK => ?_
    repeat first | ((with_reducible refine shN ?_); refine sL ?_) | ((with_reducible refine shG ?_); refine sG ?_)
    refine Eq.mpr evalL_nil (hK _ ?_)
    clear hK K
    simp only [evU, St.keep, List.map_cons, look, reduceIte, Nat.reduceEqDiff]
    try show AWP _ _ _ _ _
    repeat refine AWP.nest ?_
    first | refine rsa hG [] [0, 8, 10, 11, 12, 52, 53, 54] fun K hK => ?_ | refine rna hG [] [0, 8, 10, 11, 12, 52, 53, 54] fun K hK => ?_
    repeat first | ((with_reducible refine shN ?_); refine sL ?_) | ((with_reducible refine shG ?_); refine sG ?_)
    refine Eq.mpr evalL_nil (hK _ ?_)
    clear hK K
    simp only [evU, St.keep, List.map_cons, look, reduceIte, Nat.reduceEqDiff]
    try show AWP _ _ _ _ _
    repeat refine AWP.nest ?_
    first | refine AWP.seq (AWP.block ?_) | refine AWP.block ?_
    refine AWP.loop (fun m2 st => ∃ (i : Nat), i ≤ n ∧ m2 = n - i ∧ (∀ j, j < i → recK l j ≠ kindAt k) ∧ st = ⟨[(0, .d false (.sl 1 (ints .u8 l))), (8, .d true (.v (.int .i64 (n : Int)))), (10, .d true (.v (.int .i64 (k : Int)))), (11, .d true (.sl 1 (ints .u8 (wL.getD k [])))), (12, .d true (.v (.int .i64 (i : Int)))), (52, .d true (.sl 1 (rows wL))), (53, .d true (.v (.int .i64 4))), (54, .d true (.v (.int .i64 (k : Int))))], []⟩) (n) ?_ ?_
    · exact ⟨0, Nat.zero_le _, rfl, fun j h => absurd h (Nat.not_lt_zero j), rfl⟩
    rintro m2 st ⟨i, hi, hm2, hji, rfl⟩
    repeat refine AWP.nest ?_
    first | refine rsa hG [] [0, 8, 10, 11, 12, 52, 53, 54, 61] fun K hK => ?_ | refine rna hG [] [0, 8, 10, 11, 12, 52, 53, 54, 61] fun K hK => ?_
    repeat first | ((with_reducible refine shN ?_); refine sL ?_) | ((with_reducible refine shG ?_); refine sG ?_)
    refine Eq.mpr evalL_nil (hK _ ?_)
    clear hK K
    simp only [evU, St.keep, List.map_cons, look, reduceIte, Nat.reduceEqDiff]
    try show AWP _ _ _ _ _
    first | refine AWP.seq (AWP.cond (b := _) rfl (fun hc => ?_) (fun hc => ?_)) | refine AWP.cond (b := _) rfl (fun hc => ?_) (fun hc => ?_)
    rotate_left
    · refine AWP.exit ?_
      show AWP _ _ _ _ _
      simp only [evC, Int.not_lt] at hc
      obtain rfl : i = n := by omega
      have hf : kFind l k = none := by unfold kFind; rw [hnr]; exact firstR_no hji
      repeat refine AWP.nest ?_
      first | refine rsa hG [] [0, 8, 52, 53, 54] fun K hK => ?_ | refine rna hG [] [0, 8, 52, 53, 54] fun K hK => ?_
      repeat first | ((with_reducible refine shN ?_); refine sL ?_) | ((with_reducible refine shG ?_); refine sG ?_)
      refine Eq.mpr evalL_nil (hK _ ?_)
      clear hK K
      simp only [evU, St.keep, List.map_cons, look, reduceIte, Nat.reduceEqDiff]
      try show AWP _ _ _ _ _
      exact ⟨4 - (k + 1), by omega, k + 1, by omega, rfl, fun j h => by
        rcases Nat.lt_succ_iff_lt_or_eq.1 h with h | rfl
        · exact hj j h
        · exact hf, rfl⟩
    simp only [evC, Int.not_lt] at hc
    refine AWP.skip ?_
    show AWP _ _ _ _ _
    have hi' := hc
    clear hc
    have ea : (4 + 8 * (i : Int)).toNat = 4 + 8 * i := by omega
    have eb : (8 + 8 * (i : Int)).toNat = 8 + 8 * i := by omega
    have ec : 8 + 8 * i - (4 + 8 * i) = 4 := by omega
    have hbs : Byt ((l.drop (4 + 8 * i)).take 4) := (hb.drop _).take _
    have hwi := want_iff hb (i := i) (k := k) (by omega) hk'
    repeat refine AWP.nest ?_
    first | refine AWP.seq (AWP.block ?_) | refine AWP.block ?_
    repeat refine AWP.nest ?_
    have hxs := And.intro @ea (And.intro @eb @ec)
    first | refine rsa hG [] [0, 8, 10, 11, 12, 52, 53, 54, 74] fun K hK => ?_ | refine rna hG [] [0, 8, 10, 11, 12, 52, 53, 54, 74] fun K hK => ?_
    repeat first | ((with_reducible refine shN ?_); refine sL ?_) | ((with_reducible refine shG ?_); refine sG ?_)
    refine Eq.mpr evalL_nil (hK _ ?_)
    clear hK K hxs
    simp only [evU, St.keep, List.map_cons, look, reduceIte, Nat.reduceEqDiff]
    try show AWP _ _ _ _ _
    repeat refine AWP.nest ?_
    first | refine AWP.seq (AWP.cond (b := _) rfl (fun hc => ?_) (fun hc => ?_)) | refine AWP.cond (b := _) rfl (fun hc => ?_) (fun hc => ?_)
    all_goals try simp only [evC] at hc
    · have hne : recK l i ≠ kindAt k := fun h => by
        rw [hwi.2 h] at hc
        simp at hc
      refine AWP.exit ?_
      show AWP _ _ _ _ _
      repeat refine AWP.nest ?_
      first | refine rsa hG [] [0, 8, 10, 11, 12, 52, 53, 54] fun K hK => ?_ | refine rna hG [] [0, 8, 10, 11, 12, 52, 53, 54] fun K hK => ?_
      repeat first | ((with_reducible refine shN ?_); refine sL ?_) | ((with_reducible refine shG ?_); refine sG ?_)
      refine Eq.mpr evalL_nil (hK _ ?_)
      clear hK K
      simp only [evU, St.keep, List.map_cons, look, reduceIte, Nat.reduceEqDiff]
      try show AWP _ _ _ _ _
      exact ⟨n - (i + 1), by omega, i + 1, by omega, rfl, fun j h => by
        rcases Nat.lt_succ_iff_lt_or_eq.1 h with h | rfl
        · exact hji j h
        · exact hne, rfl⟩
    refine AWP.skip ?_
    show AWP _ _ _ _ _
    have hyes : recK l i = kindAt k := by
      apply hwi.1
      simpa using hc
    have hf : kFind l k = some i := by unfold kFind; rw [hnr]; exact firstR_at hi' hji hyes
    have hrv : 0 ≤ recV l i ∧ recV l i < 4294967296 := n4V_bound hb _
    clear hc
    repeat refine AWP.nest ?_
    first | refine rsa hG [] [0, 10, 13] fun K hK => ?_ | refine rna hG [] [0, 10, 13] fun K hK => ?_
    repeat first | ((with_reducible refine shN ?_); refine sL ?_) | ((with_reducible refine shG ?_); refine sG ?_)
    refine Eq.mpr evalL_nil (hK _ ?_)
    clear hK K
    simp only [evU, St.keep, List.map_cons, look, reduceIte, Nat.reduceEqDiff]
    try show AWP _ _ _ _ _
    rw [show n4V l (8 + 8 * (i : Int)) = recV l i from rfl]
    repeat refine AWP.nest ?_
    first | refine rsa hG [] [0, 10, 13, 88] fun K hK => ?_ | refine rna hG [] [0, 10, 13, 88] fun K hK => ?_
    repeat first | ((with_reducible refine shN ?_); refine sL ?_) | ((with_reducible refine shG ?_); refine sG ?_)
    refine Eq.mpr evalL_nil (hK _ ?_)
    clear hK K
    simp only [evU, St.keep, List.map_cons, look, reduceIte, Nat.reduceEqDiff]
    try show AWP _ _ _ _ _
    repeat refine AWP.nest ?_
    first | refine AWP.seq (AWP.cond (b := _) rfl (fun hc => ?_) (fun hc => ?_)) | refine AWP.cond (b := _) rfl (fun hc => ?_) (fun hc => ?_)
    all_goals try simp only [evC] at hc
    · obtain ⟨z1, z2, z3, z4, z5⟩ := ch_none (ch_far hk' hj hf (by omega))
      rw [z1, z2, z3, z4]
      repeat refine AWP.nest ?_
      first | refine rsa hG [] [2, 3, 4, 5] fun K hK => ?_ | refine rna hG [] [2, 3, 4, 5] fun K hK => ?_
      repeat first | ((with_reducible refine shN ?_); refine sL ?_) | ((with_reducible refine shG ?_); refine sG ?_)
      refine Eq.mpr evalL_nil (hK _ ?_)
      clear hK K
      simp only [evU, St.keep, List.map_cons, look, reduceIte, Nat.reduceEqDiff]
      try show AWP _ _ _ _ _
      refine AWP.ret ?_
      refine ⟨.inl rfl, ⟨⟨_, rfl, ?_⟩, fun ob hob => by cases hob⟩⟩
      simp only [look, reduceIte, Nat.reduceEqDiff]
      refine ⟨_, rfl, (.cons ?_ (.cons ?_ (.cons ?_ (.cons ?_ .nil))))⟩
      · exact .nil _ _ _
      · exact sub1_of rfl
      · exact sub1_of rfl
      · exact sub1_of rfl
    refine AWP.skip ?_
    show AWP _ _ _ _ _
    have hat : ¬ recV l i > (l.length : Int) := by omega
    have hch := ch_at ho hk' hj hf hat
    have hdt : (l.drop (recV l i).toNat).take (l.length - (recV l i).toNat) = l.drop (recV l i).toNat := List.take_of_length_le (by rw [List.length_drop]; exact Nat.le_refl _)
    have hbt : Byt (l.drop (recV l i).toNat) := hb.drop _
    have hlt : (l.drop (recV l i).toNat).length ≤ 1000000000000 := by rw [List.length_drop]; omega
    clear hc hj
    repeat refine AWP.nest ?_
    have hxs := @hdt
    first | refine rsa hG [] [10, 15] fun K hK => ?_ | refine rna hG [] [10, 15] fun K hK => ?_
    repeat first | ((with_reducible refine shN ?_); refine sL ?_) | ((with_reducible refine shG ?_); refine sG ?_)
    refine Eq.mpr evalL_nil (hK _ ?_)
    clear hK K hxs
    simp only [evU, St.keep, List.map_cons, look, reduceIte, Nat.reduceEqDiff]
    try show AWP _ _ _ _ _
    generalize l.drop (recV l i).toNat = t at hch hdt hbt hlt ⊢
    repeat refine AWP.nest ?_
    first | refine rsa hG [] [10, 15, 93] fun K hK => ?_ | refine rna hG [] [10, 15, 93] fun K hK => ?_
    repeat first | ((with_reducible refine shN ?_); refine sL ?_) | ((with_reducible refine shG ?_); refine sG ?_)
    refine Eq.mpr evalL_nil (hK _ ?_)
    clear hK K
    simp only [evU, St.keep, List.map_cons, look, reduceIte, Nat.reduceEqDiff]
    try show AWP _ _ _ _ _
    repeat refine AWP.nest ?_
    first | refine AWP.seq (AWP.cond (b := _) rfl (fun hc => ?_) (fun hc => ?_)) | refine AWP.cond (b := _) rfl (fun hc => ?_) (fun hc => ?_)
    all_goals try simp only [evC] at hc
    · have hc2 : decide (k < 2) = true := by simp; omega
      rw [hc2] at hch
      obtain ⟨c1, c2, c3, c4, c5, c6, c7⟩ := ch_wide hch
      repeat refine AWP.nest ?_
      first | refine rsa hG [] [15, 16, 17] fun K hK => ?_ | refine rna hG [] [15, 16, 17] fun K hK => ?_
      repeat first | ((with_reducible refine shN ?_); refine sL ?_) | ((with_reducible refine shG ?_); refine sG ?_)
      refine Eq.mpr evalL_nil (hK _ ?_)
      clear hK K
      simp only [evU, St.keep, List.map_cons, look, reduceIte, Nat.reduceEqDiff]
      try show AWP _ _ _ _ _
      repeat refine AWP.nest ?_
      first | refine rsa hG [] [2, 3, 4, 5] fun K hK => ?_ | refine rna hG [] [2, 3, 4, 5] fun K hK => ?_
      repeat first | ((with_reducible refine shN ?_); refine sL ?_) | ((with_reducible refine shG ?_); refine sG ?_)
      refine Eq.mpr evalL_nil (hK _ ?_)
      clear hK K
      simp only [evU, St.keep, List.map_cons, look, reduceIte, Nat.reduceEqDiff]
      try show AWP _ _ _ _ _
      rw [c1, c2, c3, c4]
      refine AWP.ret ?_
      refine ⟨.inl rfl, ⟨⟨_, rfl, ?_⟩, fun ob hob => by cases hob⟩⟩
      simp only [look, reduceIte, Nat.reduceEqDiff]
      refine ⟨_, rfl, (.cons ?_ (.cons ?_ (.cons ?_ (.cons ?_ .nil))))⟩
      · exact sub1_of rfl
      · exact sub1_of rfl
      · exact sub1_of (by split <;> rfl)
      · exact sub1_of rfl
    · have hc2 : decide (k < 2) = false := by simp; omega
      rw [hc2] at hch
      obtain ⟨c1, c2, c3, c4, c5, c6, c7⟩ := ch_seg hch
      refine AWP.skip ?_
      show AWP _ _ _ _ _
      repeat refine AWP.nest ?_
      first | refine rsa hG [] [15, 18, 19] fun K hK => ?_ | refine rna hG [] [15, 18, 19] fun K hK => ?_
      repeat first | ((with_reducible refine shN ?_); refine sL ?_) | ((with_reducible refine shG ?_); refine sG ?_)
      refine Eq.mpr evalL_nil (hK _ ?_)
      clear hK K
      simp only [evU, St.keep, List.map_cons, look, reduceIte, Nat.reduceEqDiff]
      try show AWP _ _ _ _ _
      repeat refine AWP.nest ?_
      first | refine rsa hG [] [2, 3, 4, 5] fun K hK => ?_ | refine rna hG [] [2, 3, 4, 5] fun K hK => ?_
      repeat first | ((with_reducible refine shN ?_); refine sL ?_) | ((with_reducible refine shG ?_); refine sG ?_)
      refine Eq.mpr evalL_nil (hK _ ?_)
      clear hK K
      simp only [evU, St.keep, List.map_cons, look, reduceIte, Nat.reduceEqDiff]
      try show AWP _ _ _ _ _
      rw [c1, c2, c3, c4]
      refine AWP.ret ?_
      refine ⟨.inl rfl, ⟨⟨_, rfl, ?_⟩, fun ob hob => by cases hob⟩⟩
      simp only [look, reduceIte, Nat.reduceEqDiff]
      refine ⟨_, rfl, (.cons ?_ (.cons ?_ (.cons ?_ (.cons ?_ .nil))))⟩
      · exact sub1_of rfl
      · exact sub1_of rfl
      · exact sub1_of (by split <;> rfl)
      · exact sub1_of rfl
def e72 : List AV → Option Ob → Option Res := fun args i => match args, i with
  | [.d false (.sl 1 xs)], none => some ⟨IsB xs ∧ (toInts xs).length ≤ 1000000000, .tup [.d false (.sl 1 (ints .u8 (tC (toInts xs)))), .d true (.v (.bool (wideC (toInts xs)))), .d true (.v (.int .i64 (nC (toInts xs) : Int))), .d true (.v (.bool (rightC (toInts xs))))], none⟩
  | _, _ => none
def F84 : FT := F83.upd 72 e72
theorem F84_ok : FOK Try.prog F84 := FOK.upd F83_ok Try.func72 (by kernel_rfl) rfl fun args i R h => by
  unfold e72 at h
  split at h
  · cases h
    refine Spec.pre fun h => ?_
    obtain ⟨l, rfl, hb⟩ := h.1.elim
    rw [toInts_ints] at h ⊢
    exact s72 l hb h.2
  · cases h
def refC (t : List Int) (w : Bool) (n : Nat) (c : Int) : Int := if w = true then lookR (spans t n) c else lookS (segsR t n) t c

theorem s73 (t : List Int) (hb : Byt t) (w : Bool) (n : Nat) (hn : n ≤ 10000000000) (hw : w = false → n ≤ 32767) (c : Int) (hc0 : -2147483648 ≤ c) (hc1 : c ≤ 2147483647) :
    Spec Try.prog 73 [.d false (.sl 1 (ints .u8 t)), .d true (.v (.bool w)), .d true (.v (.int .i64 (n : Int))), .d true (.v (.int .i64 c))] none ⟨True, .d true (.v (.int .i64 (refC t w n c))), none⟩ := by
  have hf48 : F84 48 = e48 := rfl
  have hf58 : F84 58 = e58 := rfl
  have hG := (Gf_ok F84_ok)
  have hfs := And.intro @hf48 (And.intro @e48.eq_1 (And.intro @hf58 (And.intro @e58.eq_1 (And.intro @evP (And.intro @evS (And.intro @toPrs_prs (And.intro @toPrs_prs9 (And.intro @toSps_sps @toSgs_sgs))))))))
  have hxs := @Nat.add_zero
  refine spec_of_awp (Gf_ok F84_ok) Try.func73 rfl (Nat.le_of_ble_eq_true rfl) fun E hps hN _ => ?_
  simp only [begin, List.zipIdx_cons, List.zipIdx_nil, List.map_cons, List.map_nil, Option.toList, Nat.zero_add, Nat.reduceAdd]
  repeat refine AWP.nest ?_
  first | refine rsa hG [] [0, 1, 2, 3] fun K hK => ?_ | refine rna hG [] [0, 1, 2, 3] fun K hK => ?_
  repeat first | ((with_reducible refine shN ?_); refine sL ?_) | ((with_reducible refine shG ?_); refine sG ?_)
  refine Eq.mpr evalL_nil (hK _ ?_)
  clear hK K
  simp only [evU, St.keep, List.map_cons, look, reduceIte, Nat.reduceEqDiff]
  try show AWP _ _ _ _ _
  repeat refine AWP.nest ?_
  first | refine rsa hG [] [0, 2, 3, 9] fun K hK => ?_ | refine rna hG [] [0, 2, 3, 9] fun K hK => ?_
  repeat first | ((with_reducible refine shN ?_); refine sL ?_) | ((with_reducible refine shG ?_); refine sG ?_)
  refine Eq.mpr evalL_nil (hK _ ?_)
  clear hK K
  simp only [evU, St.keep, List.map_cons, look, reduceIte, Nat.reduceEqDiff]
  try show AWP _ _ _ _ _
  unfold refC
  repeat refine AWP.nest ?_
  first | refine AWP.seq (AWP.cond (b := _) rfl (fun hc => ?_) (fun hc => ?_)) | refine AWP.cond (b := _) rfl (fun hc => ?_) (fun hc => ?_)
  all_goals try simp only [evC] at hc
  · rw [if_pos hc]
    repeat refine AWP.nest ?_
    first | refine rsa hG [] [8] fun K hK => ?_ | refine rna hG [] [8] fun K hK => ?_
    repeat first | ((with_reducible refine shN ?_); refine sL ?_) | ((with_reducible refine shG ?_); refine sG ?_)
    refine Eq.mpr evalL_nil (hK _ ?_)
    clear hK K
    simp only [evU, St.keep, List.map_cons, look, reduceIte, Nat.reduceEqDiff]
    try show AWP _ _ _ _ _
    refine AWP.ret ?_
    refine ⟨.inl rfl, ⟨⟨_, rfl, ?_⟩, fun ob hob => by cases hob⟩⟩
    simp only [look, reduceIte, Nat.reduceEqDiff]
    exact sub1_of rfl
  · rw [if_neg (by simp [hc])]
    have hn2 := hw (by simpa using hc)
    refine AWP.skip ?_
    show AWP _ _ _ _ _
    repeat refine AWP.nest ?_
    first | refine rsa hG [] [8] fun K hK => ?_ | refine rna hG [] [8] fun K hK => ?_
    repeat first | ((with_reducible refine shN ?_); refine sL ?_) | ((with_reducible refine shG ?_); refine sG ?_)
    refine Eq.mpr evalL_nil (hK _ ?_)
    clear hK K
    simp only [evU, St.keep, List.map_cons, look, reduceIte, Nat.reduceEqDiff]
    try show AWP _ _ _ _ _
    refine AWP.ret ?_
    refine ⟨.inl rfl, ⟨⟨_, rfl, ?_⟩, fun ob hob => by cases hob⟩⟩
    simp only [look, reduceIte, Nat.reduceEqDiff]
    exact sub1_of rfl
def e73 : List AV → Option Ob → Option Res := fun args i => match args, i with
  | [.d false (.sl 1 xs), .d true (.v (.bool w)), .d true (.v (.int .i64 n)), .d true (.v (.int .i64 c))], none => some ⟨IsB xs ∧ 0 ≤ n ∧ n ≤ 10000000000 ∧ (w = false → n ≤ 32767) ∧ -2147483648 ≤ c ∧ c ≤ 2147483647, .d true (.v (.int .i64 (refC (toInts xs) w n.toNat c))), none⟩
  | _, _ => none
def F85 : FT := F84.upd 73 e73
theorem F85_ok : FOK Try.prog F85 := FOK.upd F84_ok Try.func73 (by kernel_rfl) rfl fun args i R h => by
  unfold e73 at h
  split at h
  · rename_i xs w n c
    cases h
    refine Spec.pre fun h => ?_
    obtain ⟨l, rfl, hb⟩ := h.1.elim
    obtain ⟨n, rfl⟩ : ∃ m : Nat, n = m := ⟨n.toNat, by omega⟩
    rw [toInts_ints, Int.toNat_natCast] at *
    exact s73 l hb w n (by omega) (fun e => by have := h.2.2.2.1 e; omega) c h.2.2.2.2.1 h.2.2.2.2.2
  · cases h
end Go.AM

