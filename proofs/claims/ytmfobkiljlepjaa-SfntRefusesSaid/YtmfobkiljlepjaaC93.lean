/- AM: the sort of tables. -/
import Derived.Test.YtmfobkiljlepjaaC99
set_option maxRecDepth 100000
set_option maxHeartbeats 8000000
set_option linter.unusedSimpArgs false
set_option linter.unusedVariables false
namespace Go.AM
open Go Go.Proofs



theorem s128s (S : List Tb) (hS : S.length < 20) : Spec Try.prog 128 [.own 0 0, .d true (.v (.int .i64 (S.length : Int))), .fn 112 []] (some (.row 106 2 0 false (tbs S))) ⟨True, .tup [], some (.row 106 2 0 false (tbs (srtT S)))⟩ := by
  have hf130 : F125 130 = e130 := rfl
  have hG := (Gf_ok F125_ok)
  have hfs := And.intro @hf130 (And.intro @e130.eq_1 (And.intro @evP @evTb))
  have hxs := @Nat.add_zero
  refine spec_of_awp (Gf_ok F125_ok) Try.func128 rfl (Nat.le_of_ble_eq_true rfl) fun E hps hN _ => ?_
  simp only [begin, List.zipIdx_cons, List.zipIdx_nil, List.map_cons, List.map_nil, Option.toList, Nat.zero_add, Nat.reduceAdd]
  repeat refine AWP.nest ?_
  first | refine rsa hG [] [0, 1, 2, 6] fun K hK => ?_ | refine rna hG [] [0, 1, 2, 6] fun K hK => ?_
  repeat first | ((with_reducible refine shN ?_); refine sL ?_) | ((with_reducible refine shG ?_); refine sG ?_)
  refine Eq.mpr evalL_nil (hK _ ?_)
  clear hK K
  simp only [evU, St.keep, List.map_cons, look, reduceIte, Nat.reduceEqDiff]
  try show AWP _ _ _ _ _
  repeat refine AWP.nest ?_
  first | refine rsa hG [] [0, 1, 2, 6, 7, 8] fun K hK => ?_ | refine rna hG [] [0, 1, 2, 6, 7, 8] fun K hK => ?_
  repeat first | ((with_reducible refine shN ?_); refine sL ?_) | ((with_reducible refine shG ?_); refine sG ?_)
  refine Eq.mpr evalL_nil (hK _ ?_)
  clear hK K
  simp only [evU, St.keep, List.map_cons, look, reduceIte, Nat.reduceEqDiff]
  try show AWP _ _ _ _ _
  repeat refine AWP.nest ?_
  first | refine AWP.seq (AWP.block ?_) | refine AWP.block ?_
  refine AWP.loop (fun k st => k = 0 ∧ st = ⟨[(0, .own 0 0), (1, .d true (.v (.int .i64 (S.length : Int)))), (2, .fn 112 []), (6, .d true (.v (.int .i64 (20 : Int)))), (7, .d true (.v (.int .i64 (0 : Int)))), (8, .d true (.v (.int .i64 (20 : Int))))], [some (.row 106 2 0 false (tbs S))]⟩) (0) ?_ ?_
  · exact ⟨rfl, rfl⟩
  rintro k st ⟨_, rfl⟩
  repeat refine AWP.nest ?_
  first | refine rsa hG [] [0, 1, 2, 6, 7, 8, 13] fun K hK => ?_ | refine rna hG [] [0, 1, 2, 6, 7, 8, 13] fun K hK => ?_
  repeat first | ((with_reducible refine shN ?_); refine sL ?_) | ((with_reducible refine shG ?_); refine sG ?_)
  refine Eq.mpr evalL_nil (hK _ ?_)
  clear hK K
  simp only [evU, St.keep, List.map_cons, look, reduceIte, Nat.reduceEqDiff]
  try show AWP _ _ _ _ _
  first | refine AWP.seq (AWP.cond (b := _) rfl (fun hc => ?_) (fun hc => ?_)) | refine AWP.cond (b := _) rfl (fun hc => ?_) (fun hc => ?_)
  rotate_left
  · refine AWP.exit ?_
    show AWP _ _ _ _ _
    simp only [evC, Int.not_lt] at hc
    clear hc
    have hT0 : Int.toNat 0 = 0 := rfl
    have fS : insS ltT tb0 0 (S.length - (0 + 1)) (0 + 1) S = srtT S := rfl
    have fS2 : insS ltT tb0 0 (S.length - 1) 1 S = srtT S := rfl
    repeat refine AWP.nest ?_
    have hxs := And.intro @hT0 (And.intro @fS @fS2)
    first | refine rsa hG [] [0, 1, 2, 6] fun K hK => ?_ | refine rna hG [] [0, 1, 2, 6] fun K hK => ?_
    repeat first | ((with_reducible refine shN ?_); refine sL ?_) | ((with_reducible refine shG ?_); refine sG ?_)
    refine Eq.mpr evalL_nil (hK _ ?_)
    clear hK K hxs
    simp only [evU, St.keep, List.map_cons, look, reduceIte, Nat.reduceEqDiff]
    try show AWP _ _ _ _ _
    repeat refine AWP.nest ?_
    first | refine AWP.seq (AWP.block ?_) | refine AWP.block ?_
    refine AWP.loop (fun k st => k = 0 ∧ st = ⟨[(0, .own 0 0), (1, .d true (.v (.int .i64 (S.length : Int)))), (2, .fn 112 []), (6, .d true (.v (.int .i64 (20 : Int))))], [some (.row 106 2 0 false (tbs (srtT S)))]⟩) (0) ?_ ?_
    · exact ⟨rfl, rfl⟩
    rintro k st ⟨_, rfl⟩
    repeat refine AWP.nest ?_
    first | refine rsa hG [] [0, 1, 2, 6, 30] fun K hK => ?_ | refine rna hG [] [0, 1, 2, 6, 30] fun K hK => ?_
    repeat first | ((with_reducible refine shN ?_); refine sL ?_) | ((with_reducible refine shG ?_); refine sG ?_)
    refine Eq.mpr evalL_nil (hK _ ?_)
    clear hK K
    simp only [evU, St.keep, List.map_cons, look, reduceIte, Nat.reduceEqDiff]
    try show AWP _ _ _ _ _
    first | refine AWP.seq (AWP.cond (b := _) rfl (fun hc => ?_) (fun hc => ?_)) | refine AWP.cond (b := _) rfl (fun hc => ?_) (fun hc => ?_)
    rotate_left
    · refine AWP.exit ?_
      refine ⟨.inr rfl, ⟨⟨_, rfl, _, rfl, .nil⟩, fun ob hob => ?_⟩⟩
      cases hob
      rfl
    simp only [evC] at hc
    refine AWP.skip ?_
    show AWP _ _ _ _ _
    exfalso
    omega
  simp only [evC, Int.not_lt] at hc
  refine AWP.skip ?_
  show AWP _ _ _ _ _
  exfalso
  omega

theorem s128u (F126_ok : FOK Try.prog F126) (S : List Tb) (hS : S.length ≤ 1000) (hasc : Asc ltT tb0 S 0 S.length) : Spec Try.prog 128 [.own 0 0, .d true (.v (.int .i64 (S.length : Int))), .fn 112 []] (some (.row 106 2 0 false (tbs S))) ⟨True, .tup [], some (.row 106 2 0 false (tbs S))⟩ := by
  have hf130 : F126 130 = e130 := rfl
  have hf131 : F126 131 = e131x := rfl
  have hG := (Gf_ok F126_ok)
  have hfs := And.intro @hf130 (And.intro @e130.eq_1 (And.intro @hf131 (And.intro @e131x.eq_1 (And.intro @evP (And.intro @evTb @e131.eq_1)))))
  have hxs := @Nat.add_zero
  refine spec_of_awp (Gf_ok F126_ok) Try.func128 rfl (Nat.le_of_ble_eq_true rfl) fun E hps hN _ => ?_
  simp only [begin, List.zipIdx_cons, List.zipIdx_nil, List.map_cons, List.map_nil, Option.toList, Nat.zero_add, Nat.reduceAdd]
  have fI : ∀ x y, y ≤ S.length → insS ltT tb0 x (y - (x + 1)) (x + 1) S = S := fun x y h => by
    by_cases hx : x + 1 ≤ y
    · exact insS_asc (n := S.length) (fun p q hp => hasc p q (by omega)) (by omega)
    · rw [show y - (x + 1) = 0 by omega]; rfl
  repeat refine AWP.nest ?_
  first | refine rsa hG [] [0, 1, 2, 6] fun K hK => ?_ | refine rna hG [] [0, 1, 2, 6] fun K hK => ?_
  repeat first | ((with_reducible refine shN ?_); refine sL ?_) | ((with_reducible refine shG ?_); refine sG ?_)
  refine Eq.mpr evalL_nil (hK _ ?_)
  clear hK K
  simp only [evU, St.keep, List.map_cons, look, reduceIte, Nat.reduceEqDiff]
  try show AWP _ _ _ _ _
  repeat refine AWP.nest ?_
  first | refine rsa hG [] [0, 1, 2, 6, 7, 8] fun K hK => ?_ | refine rna hG [] [0, 1, 2, 6, 7, 8] fun K hK => ?_
  repeat first | ((with_reducible refine shN ?_); refine sL ?_) | ((with_reducible refine shG ?_); refine sG ?_)
  refine Eq.mpr evalL_nil (hK _ ?_)
  clear hK K
  simp only [evU, St.keep, List.map_cons, look, reduceIte, Nat.reduceEqDiff]
  try show AWP _ _ _ _ _
  repeat refine AWP.nest ?_
  first | refine AWP.seq (AWP.block ?_) | refine AWP.block ?_
  refine AWP.loop (fun k st => ∃ (x : Nat), x ≤ S.length ∧ k = S.length - x ∧ st = ⟨[(0, .own 0 0), (1, .d true (.v (.int .i64 (S.length : Int)))), (2, .fn 112 []), (6, .d true (.v (.int .i64 (20 : Int)))), (7, .d true (.v (.int .i64 (x : Int)))), (8, .d true (.v (.int .i64 ((x + 20 : Nat) : Int))))], [some (.row 106 2 0 false (tbs S))]⟩) (S.length) ?_ ?_
  · exact ⟨0, by omega, rfl, rfl⟩
  rintro k st ⟨x, hx, hk, rfl⟩
  repeat refine AWP.nest ?_
  first | refine rsa hG [] [0, 1, 2, 6, 7, 8, 13] fun K hK => ?_ | refine rna hG [] [0, 1, 2, 6, 7, 8, 13] fun K hK => ?_
  repeat first | ((with_reducible refine shN ?_); refine sL ?_) | ((with_reducible refine shG ?_); refine sG ?_)
  refine Eq.mpr evalL_nil (hK _ ?_)
  clear hK K
  simp only [evU, St.keep, List.map_cons, look, reduceIte, Nat.reduceEqDiff]
  try show AWP _ _ _ _ _
  first | refine AWP.seq (AWP.cond (b := _) rfl (fun hc => ?_) (fun hc => ?_)) | refine AWP.cond (b := _) rfl (fun hc => ?_) (fun hc => ?_)
  rotate_left
  · refine AWP.exit ?_
    show AWP _ _ _ _ _
    simp only [evC, Int.not_lt] at hc
    clear hc
    have f1 := fI x S.length (by omega)
    repeat refine AWP.nest ?_
    have hxs := @f1
    first | refine rsa hG [] [0, 1, 2, 6] fun K hK => ?_ | refine rna hG [] [0, 1, 2, 6] fun K hK => ?_
    repeat first | ((with_reducible refine shN ?_); refine sL ?_) | ((with_reducible refine shG ?_); refine sG ?_)
    refine Eq.mpr evalL_nil (hK _ ?_)
    clear hK K hxs
    simp only [evU, St.keep, List.map_cons, look, reduceIte, Nat.reduceEqDiff]
    try show AWP _ _ _ _ _
    clear f1
    repeat refine AWP.nest ?_
    first | refine AWP.seq (AWP.block ?_) | refine AWP.block ?_
    refine AWP.loop (fun k st => ∃ (z : Nat), 20 ≤ z ∧ z ≤ 2000 ∧ k = 2000 - z ∧ st = ⟨[(0, .own 0 0), (1, .d true (.v (.int .i64 (S.length : Int)))), (2, .fn 112 []), (6, .d true (.v (.int .i64 (z : Int))))], [some (.row 106 2 0 false (tbs S))]⟩) (1980) ?_ ?_
    · exact ⟨20, by omega, by omega, rfl, rfl⟩
    rintro k st ⟨z, hz1, hz2, hk, rfl⟩
    repeat refine AWP.nest ?_
    first | refine rsa hG [] [0, 1, 2, 6, 30] fun K hK => ?_ | refine rna hG [] [0, 1, 2, 6, 30] fun K hK => ?_
    repeat first | ((with_reducible refine shN ?_); refine sL ?_) | ((with_reducible refine shG ?_); refine sG ?_)
    refine Eq.mpr evalL_nil (hK _ ?_)
    clear hK K
    simp only [evU, St.keep, List.map_cons, look, reduceIte, Nat.reduceEqDiff]
    try show AWP _ _ _ _ _
    first | refine AWP.seq (AWP.cond (b := _) rfl (fun hc => ?_) (fun hc => ?_)) | refine AWP.cond (b := _) rfl (fun hc => ?_) (fun hc => ?_)
    rotate_left
    · refine AWP.exit ?_
      refine ⟨.inr rfl, ⟨⟨_, rfl, _, rfl, .nil⟩, fun ob hob => ?_⟩⟩
      cases hob
      rfl
    simp only [evC] at hc
    refine AWP.skip ?_
    show AWP _ _ _ _ _
    have hzl : z < S.length := by omega
    clear hc
    repeat refine AWP.nest ?_
    first | refine AWP.seq (AWP.block ?_) | refine AWP.block ?_
    have cz : 2 * (z : Int) = ((2 * z : Nat) : Int) := by omega
    repeat refine AWP.nest ?_
    have hxs := @cz
    first | refine rsa hG [] [0, 1, 2, 6, 7, 8] fun K hK => ?_ | refine rna hG [] [0, 1, 2, 6, 7, 8] fun K hK => ?_
    repeat first | ((with_reducible refine shN ?_); refine sL ?_) | ((with_reducible refine shG ?_); refine sG ?_)
    refine Eq.mpr evalL_nil (hK _ ?_)
    clear hK K hxs
    simp only [evU, St.keep, List.map_cons, look, reduceIte, Nat.reduceEqDiff]
    try show AWP _ _ _ _ _
    repeat refine AWP.nest ?_
    first | refine AWP.seq (AWP.block ?_) | refine AWP.block ?_
    refine AWP.loop (fun q st => ∃ (y : Nat), y ≤ S.length ∧ q = S.length - y ∧ st = ⟨[(0, .own 0 0), (1, .d true (.v (.int .i64 (S.length : Int)))), (2, .fn 112 []), (6, .d true (.v (.int .i64 (z : Int)))), (7, .d true (.v (.int .i64 (y : Int)))), (8, .d true (.v (.int .i64 ((y + 2 * z : Nat) : Int))))], [some (.row 106 2 0 false (tbs S))]⟩) (S.length) ?_ ?_
    · exact ⟨0, by omega, rfl, by rw [Nat.zero_add]; rfl⟩
    rintro q st ⟨y, hy, hq, rfl⟩
    repeat refine AWP.nest ?_
    first | refine rsa hG [] [0, 1, 2, 6, 7, 8, 35] fun K hK => ?_ | refine rna hG [] [0, 1, 2, 6, 7, 8, 35] fun K hK => ?_
    repeat first | ((with_reducible refine shN ?_); refine sL ?_) | ((with_reducible refine shG ?_); refine sG ?_)
    refine Eq.mpr evalL_nil (hK _ ?_)
    clear hK K
    simp only [evU, St.keep, List.map_cons, look, reduceIte, Nat.reduceEqDiff]
    try show AWP _ _ _ _ _
    first | refine AWP.seq (AWP.cond (b := _) rfl (fun hc => ?_) (fun hc => ?_)) | refine AWP.cond (b := _) rfl (fun hc => ?_) (fun hc => ?_)
    rotate_left
    · refine AWP.exit ?_
      show AWP _ _ _ _ _
      simp only [evC, Int.not_lt] at hc
      clear hc
      have cy : (y : Int) + (z : Int) = ((y + z : Nat) : Int) := by omega
      have cz2 : (z : Int) * 2 = ((2 * z : Nat) : Int) := by omega
      repeat refine AWP.nest ?_
      have hxs := @cy
      first | refine rsa hG [] [0, 1, 2, 6, 7, 9] fun K hK => ?_ | refine rna hG [] [0, 1, 2, 6, 7, 9] fun K hK => ?_
      repeat first | ((with_reducible refine shN ?_); refine sL ?_) | ((with_reducible refine shG ?_); refine sG ?_)
      refine Eq.mpr evalL_nil (hK _ ?_)
      clear hK K hxs
      simp only [evU, St.keep, List.map_cons, look, reduceIte, Nat.reduceEqDiff]
      try show AWP _ _ _ _ _
      repeat refine AWP.nest ?_
      first | refine rsa hG [] [0, 1, 2, 6, 7, 9, 54] fun K hK => ?_ | refine rna hG [] [0, 1, 2, 6, 7, 9, 54] fun K hK => ?_
      repeat first | ((with_reducible refine shN ?_); refine sL ?_) | ((with_reducible refine shG ?_); refine sG ?_)
      refine Eq.mpr evalL_nil (hK _ ?_)
      clear hK K
      simp only [evU, St.keep, List.map_cons, look, reduceIte, Nat.reduceEqDiff]
      try show AWP _ _ _ _ _
      repeat refine AWP.nest ?_
      first | refine AWP.seq (AWP.cond (b := _) rfl (fun hc => ?_) (fun hc => ?_)) | refine AWP.cond (b := _) rfl (fun hc => ?_) (fun hc => ?_)
      all_goals try simp only [evC] at hc
      · repeat refine AWP.nest ?_
        first | refine rsa hG [] [0, 1, 2, 6] fun K hK => ?_ | refine rna hG [] [0, 1, 2, 6] fun K hK => ?_
        repeat first | ((with_reducible refine shN ?_); refine sL ?_) | ((with_reducible refine shG ?_); refine sG ?_)
        refine Eq.mpr evalL_nil (hK _ ?_)
        clear hK K
        simp only [evU, St.keep, List.map_cons, look, reduceIte, Nat.reduceEqDiff]
        try show AWP _ _ _ _ _
        repeat refine AWP.nest ?_
        have hxs := @cz2
        first | refine rsa hG [] [0, 1, 2, 6] fun K hK => ?_ | refine rna hG [] [0, 1, 2, 6] fun K hK => ?_
        repeat first | ((with_reducible refine shN ?_); refine sL ?_) | ((with_reducible refine shG ?_); refine sG ?_)
        refine Eq.mpr evalL_nil (hK _ ?_)
        clear hK K hxs
        simp only [evU, St.keep, List.map_cons, look, reduceIte, Nat.reduceEqDiff]
        try show AWP _ _ _ _ _
        exact ⟨2000 - 2 * z, by omega, 2 * z, by omega, by omega, rfl, rfl⟩
      refine AWP.skip ?_
      show AWP _ _ _ _ _
      repeat refine AWP.nest ?_
      have hxs := @cz2
      first | refine rsa hG [] [0, 1, 2, 6] fun K hK => ?_ | refine rna hG [] [0, 1, 2, 6] fun K hK => ?_
      repeat first | ((with_reducible refine shN ?_); refine sL ?_) | ((with_reducible refine shG ?_); refine sG ?_)
      refine Eq.mpr evalL_nil (hK _ ?_)
      clear hK K hxs
      simp only [evU, St.keep, List.map_cons, look, reduceIte, Nat.reduceEqDiff]
      try show AWP _ _ _ _ _
      exact ⟨2000 - 2 * z, by omega, 2 * z, by omega, by omega, rfl, rfl⟩
    simp only [evC, Int.not_lt] at hc
    refine AWP.skip ?_
    show AWP _ _ _ _ _
    have hyz : y + 2 * z ≤ S.length := by omega
    clear hc
    repeat refine AWP.nest ?_
    first | refine AWP.seq (AWP.block ?_) | refine AWP.block ?_
    have cy : (y : Int) + (z : Int) = ((y + z : Nat) : Int) := by omega
    have cy2 : ((y + 2 * z : Nat) : Int) + ((2 * z : Nat) : Int) = ((y + 2 * z + 2 * z : Nat) : Int) := by omega
    repeat refine AWP.nest ?_
    have hxs := @cy
    first | refine rsa hG [] [0, 1, 2, 6, 8] fun K hK => ?_ | refine rna hG [] [0, 1, 2, 6, 8] fun K hK => ?_
    repeat first | ((with_reducible refine shN ?_); refine sL ?_) | ((with_reducible refine shG ?_); refine sG ?_)
    refine Eq.mpr evalL_nil (hK _ ?_)
    clear hK K hxs
    simp only [evU, St.keep, List.map_cons, look, reduceIte, Nat.reduceEqDiff]
    try show AWP _ _ _ _ _
    repeat refine AWP.nest ?_
    first | refine rsa hG [] [0, 1, 2, 6, 7, 8] fun K hK => ?_ | refine rna hG [] [0, 1, 2, 6, 7, 8] fun K hK => ?_
    repeat first | ((with_reducible refine shN ?_); refine sL ?_) | ((with_reducible refine shG ?_); refine sG ?_)
    refine Eq.mpr evalL_nil (hK _ ?_)
    clear hK K
    simp only [evU, St.keep, List.map_cons, look, reduceIte, Nat.reduceEqDiff]
    try show AWP _ _ _ _ _
    repeat refine AWP.nest ?_
    have hxs := And.intro @cz @cy2
    first | refine rsa hG [] [0, 1, 2, 6, 7, 8] fun K hK => ?_ | refine rna hG [] [0, 1, 2, 6, 7, 8] fun K hK => ?_
    repeat first | ((with_reducible refine shN ?_); refine sL ?_) | ((with_reducible refine shG ?_); refine sG ?_)
    refine Eq.mpr evalL_nil (hK _ ?_)
    clear hK K hxs
    simp only [evU, St.keep, List.map_cons, look, reduceIte, Nat.reduceEqDiff]
    try show AWP _ _ _ _ _
    exact ⟨S.length - (y + 2 * z), by omega, y + 2 * z, by omega, rfl, rfl⟩
  simp only [evC, Int.not_lt] at hc
  refine AWP.skip ?_
  show AWP _ _ _ _ _
  have hx20 : x + 20 ≤ S.length := by omega
  clear hc
  repeat refine AWP.nest ?_
  first | refine AWP.seq (AWP.block ?_) | refine AWP.block ?_
  have f1 := fI x (x + 20) (by omega)
  have c20 : ((x + 20 : Nat) : Int) + 20 = ((x + 20 + 20 : Nat) : Int) := by omega
  repeat refine AWP.nest ?_
  have hxs := @f1
  first | refine rsa hG [] [0, 1, 2, 6, 8] fun K hK => ?_ | refine rna hG [] [0, 1, 2, 6, 8] fun K hK => ?_
  repeat first | ((with_reducible refine shN ?_); refine sL ?_) | ((with_reducible refine shG ?_); refine sG ?_)
  refine Eq.mpr evalL_nil (hK _ ?_)
  clear hK K hxs
  simp only [evU, St.keep, List.map_cons, look, reduceIte, Nat.reduceEqDiff]
  try show AWP _ _ _ _ _
  repeat refine AWP.nest ?_
  first | refine rsa hG [] [0, 1, 2, 6, 7, 8] fun K hK => ?_ | refine rna hG [] [0, 1, 2, 6, 7, 8] fun K hK => ?_
  repeat first | ((with_reducible refine shN ?_); refine sL ?_) | ((with_reducible refine shG ?_); refine sG ?_)
  refine Eq.mpr evalL_nil (hK _ ?_)
  clear hK K
  simp only [evU, St.keep, List.map_cons, look, reduceIte, Nat.reduceEqDiff]
  try show AWP _ _ _ _ _
  repeat refine AWP.nest ?_
  have hxs := @c20
  first | refine rsa hG [] [0, 1, 2, 6, 7, 8] fun K hK => ?_ | refine rna hG [] [0, 1, 2, 6, 7, 8] fun K hK => ?_
  repeat first | ((with_reducible refine shN ?_); refine sL ?_) | ((with_reducible refine shG ?_); refine sG ?_)
  refine Eq.mpr evalL_nil (hK _ ?_)
  clear hK K hxs
  simp only [evU, St.keep, List.map_cons, look, reduceIte, Nat.reduceEqDiff]
  try show AWP _ _ _ _ _
  exact ⟨S.length - (x + 20), by omega, x + 20, by omega, rfl, rfl⟩
def e128 : List AV → Option Ob → Option Res := fun args i => match args, i with
  | [.own 0 0, .d true (.v (.int .i64 n)), .fn 112 []], some (.row 106 2 0 false xs) => some ⟨xs = tbs (toTbs xs) ∧ n = (toTbs xs).length ∧ ((toTbs xs).length < 20 ∨ ((toTbs xs).length ≤ 1000 ∧ Asc ltT tb0 (toTbs xs) 0 (toTbs xs).length)), .tup [], some (.row 106 2 0 false (tbs (srtT (toTbs xs))))⟩
  | _, _ => none
theorem srtT_asc' {l : List Tb} (h : Asc ltT tb0 l 0 l.length) : srtT l = l := by
  unfold srtT
  rcases Nat.eq_zero_or_pos l.length with h0 | h0
  · rw [h0]; rfl
  · exact insS_asc h (by omega)
def F127 : FT := F126.upd 128 e128
theorem F127_okH (F126_ok : FOK Try.prog F126) : FOK Try.prog F127 := FOK.upd F126_ok Try.func128 (by kernel_rfl) rfl fun args i R h => by
  unfold e128 at h
  split at h
  · rename_i n xs
    cases h
    refine Spec.pre fun h => ?_
    obtain ⟨h1, rfl, h2⟩ := h
    rcases h2 with h2 | ⟨h2, h3⟩
    · have := s128s (toTbs xs) h2
      rw [← h1] at this
      exact this
    · have := s128u F126_ok (toTbs xs) h2 h3
      rw [srtT_asc' h3]
      rw [← h1] at this ⊢
      exact this
  · cases h

theorem s111 (F127_ok : FOK Try.prog F127) (S : List Tb) (hS : S.length < 20 ∨ (S.length ≤ 1000 ∧ Asc ltT tb0 S 0 S.length)) : Spec Try.prog 111 [.own 0 0, .fn 112 []] (some (.row 106 2 0 false (tbs S))) ⟨True, .tup [], some (.row 106 2 0 false (tbs (srtT S)))⟩ := by
  have hf128 : F127 128 = e128 := rfl
  have hG := (Gf_ok F127_ok)
  have hfs := And.intro @hf128 (And.intro @e128.eq_1 (And.intro @evP @evTb))
  have hxs := @Nat.add_zero
  refine spec_of_awp (Gf_ok F127_ok) Try.func111 rfl (Nat.le_of_ble_eq_true rfl) fun E hps hN _ => ?_
  simp only [begin, List.zipIdx_cons, List.zipIdx_nil, List.map_cons, List.map_nil, Option.toList, Nat.zero_add, Nat.reduceAdd]
  repeat refine AWP.nest ?_
  first | refine rsa hG [] [] fun K hK => ?_ | refine rna hG [] [] fun K hK => ?_
  repeat first | ((with_reducible refine shN ?_); refine sL ?_) | ((with_reducible refine shG ?_); refine sG ?_)
  refine Eq.mpr evalL_nil (hK _ ?_)
  clear hK K
  refine ⟨.inr rfl, ⟨⟨_, rfl, _, rfl, .nil⟩, fun ob hob => ?_⟩⟩
  cases hob
  rfl
def e111 : List AV → Option Ob → Option Res := fun args i => match args, i with
  | [.own 0 0, .fn 112 []], some (.row 106 2 0 false xs) => some ⟨xs = tbs (toTbs xs) ∧ ((toTbs xs).length < 20 ∨ ((toTbs xs).length ≤ 1000 ∧ Asc ltT tb0 (toTbs xs) 0 (toTbs xs).length)), .tup [], some (.row 106 2 0 false (tbs (srtT (toTbs xs))))⟩
  | _, _ => none
def F128 : FT := F127.upd 111 e111
theorem F128_okH (F126_ok : FOK Try.prog F126) : FOK Try.prog F128 := FOK.upd (F127_okH F126_ok) Try.func111 (by kernel_rfl) rfl fun args i R h => by
  unfold e111 at h
  split at h
  · rename_i xs
    cases h
    refine Spec.pre fun h => ?_
    have := s111 (F127_okH F126_ok) (toTbs xs) h.2
    rw [← h.1] at this
    exact this
  · cases h
end Go.AM

