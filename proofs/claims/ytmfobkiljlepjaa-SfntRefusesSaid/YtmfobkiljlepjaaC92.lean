/- AM: merging what is sorted; the sort. -/
import Derived.Test.YtmfobkiljlepjaaC99
set_option maxRecDepth 100000
set_option maxHeartbeats 8000000
set_option linter.unusedSimpArgs false
set_option linter.unusedVariables false
namespace Go.AM
open Go Go.Proofs



theorem s131 (k : Nat) (ih : FOK Try.prog (FK k)) (S : List Tb) (hS : S.length ≤ 1000000) (hasc : Asc ltT tb0 S 0 S.length) (a m b : Nat) (h1 : a < m) (h2 : m < b) (h3 : b ≤ S.length) (h4 : b - a ≤ k + 1) :
    Spec Try.prog 131 [.own 0 0, .d true (.v (.int .i64 (a : Int))), .d true (.v (.int .i64 (m : Int))), .d true (.v (.int .i64 (b : Int))), .fn 112 []] (some (.row 106 2 0 false (tbs S))) ⟨True, .tup [], some (.row 106 2 0 false (tbs S))⟩ := by
  have hcmp : ∀ i j, i < j → j < S.length → ¬ (cmpB (S.getD j tb0).1 (S.getD i tb0).1 < 0) := fun i j hij hj => of_decide_eq_false (hasc i j (Nat.zero_le _) hij hj)
  have hf112 : (FK k) 112 = e112 := rfl
  have hf131 : (FK k) 131 = e131 k := rfl
  have hG := (Gf_ok ih)
  have hfs := And.intro @hf112 (And.intro @e112.eq_1 (And.intro @hf131 (And.intro @e131.eq_1 (And.intro @evP @evTb))))
  have hxs := @Nat.add_zero
  refine spec_of_awp (Gf_ok ih) Try.func131 rfl (Nat.le_of_ble_eq_true rfl) fun E hps hN _ => ?_
  simp only [begin, List.zipIdx_cons, List.zipIdx_nil, List.map_cons, List.map_nil, Option.toList, Nat.zero_add, Nat.reduceAdd]
  have hyl : (tbs S).length = S.length := tbs_length
  repeat refine AWP.nest ?_
  first | refine rsa hG [] [0, 1, 2, 3, 4, 28] fun K hK => ?_ | refine rna hG [] [0, 1, 2, 3, 4, 28] fun K hK => ?_
  repeat first | ((with_reducible refine shN ?_); refine sL ?_) | ((with_reducible refine shG ?_); refine sG ?_)
  refine Eq.mpr evalL_nil (hK _ ?_)
  clear hK K
  simp only [evU, St.keep, List.map_cons, look, reduceIte, Nat.reduceEqDiff]
  try show AWP _ _ _ _ _
  repeat refine AWP.nest ?_
  first | refine AWP.seq (AWP.cond (b := _) rfl (fun hc => ?_) (fun hc => ?_)) | refine AWP.cond (b := _) rfl (fun hc => ?_) (fun hc => ?_)
  all_goals try simp only [evC] at hc
  · repeat refine AWP.nest ?_
    first | refine rsa hG [] [0, 1, 2, 3, 4, 10] fun K hK => ?_ | refine rna hG [] [0, 1, 2, 3, 4, 10] fun K hK => ?_
    repeat first | ((with_reducible refine shN ?_); refine sL ?_) | ((with_reducible refine shG ?_); refine sG ?_)
    refine Eq.mpr evalL_nil (hK _ ?_)
    clear hK K
    simp only [evU, St.keep, List.map_cons, look, reduceIte, Nat.reduceEqDiff]
    try show AWP _ _ _ _ _
    repeat refine AWP.nest ?_
    first | refine rsa hG [] [0, 1, 2, 3, 4, 10, 11] fun K hK => ?_ | refine rna hG [] [0, 1, 2, 3, 4, 10, 11] fun K hK => ?_
    repeat first | ((with_reducible refine shN ?_); refine sL ?_) | ((with_reducible refine shG ?_); refine sG ?_)
    refine Eq.mpr evalL_nil (hK _ ?_)
    clear hK K
    simp only [evU, St.keep, List.map_cons, look, reduceIte, Nat.reduceEqDiff]
    try show AWP _ _ _ _ _
    repeat refine AWP.nest ?_
    first | refine AWP.seq (AWP.block ?_) | refine AWP.block ?_
    refine AWP.loop (fun q st => ∃ (j : Nat), m ≤ j ∧ j ≤ b ∧ q = j ∧ st = ⟨[(0, .own 0 0), (1, .d true (.v (.int .i64 (a : Int)))), (2, .d true (.v (.int .i64 (m : Int)))), (3, .d true (.v (.int .i64 (b : Int)))), (4, .fn 112 []), (10, .d true (.v (.int .i64 (m : Int)))), (11, .d true (.v (.int .i64 (j : Int))))], [some (.row 106 2 0 false (tbs S))]⟩) (b) ?_ ?_
    · exact ⟨b, by omega, by omega, rfl, rfl⟩
    rintro q st ⟨j, hj1, hj2, hq, rfl⟩
    repeat refine AWP.nest ?_
    first | refine rsa hG [] [0, 1, 2, 3, 4, 10, 11, 33] fun K hK => ?_ | refine rna hG [] [0, 1, 2, 3, 4, 10, 11, 33] fun K hK => ?_
    repeat first | ((with_reducible refine shN ?_); refine sL ?_) | ((with_reducible refine shG ?_); refine sG ?_)
    refine Eq.mpr evalL_nil (hK _ ?_)
    clear hK K
    simp only [evU, St.keep, List.map_cons, look, reduceIte, Nat.reduceEqDiff]
    try show AWP _ _ _ _ _
    first | refine AWP.seq (AWP.cond (b := _) rfl (fun hc => ?_) (fun hc => ?_)) | refine AWP.cond (b := _) rfl (fun hc => ?_) (fun hc => ?_)
    rotate_left
    · refine AWP.exit ?_
      show AWP _ _ _ _ _
      simp only [evC, Int.not_lt] at hc
      repeat refine AWP.nest ?_
      first | refine rsa hG [] [0, 10, 13] fun K hK => ?_ | refine rna hG [] [0, 10, 13] fun K hK => ?_
      repeat first | ((with_reducible refine shN ?_); refine sL ?_) | ((with_reducible refine shG ?_); refine sG ?_)
      refine Eq.mpr evalL_nil (hK _ ?_)
      clear hK K
      simp only [evU, St.keep, List.map_cons, look, reduceIte, Nat.reduceEqDiff]
      try show AWP _ _ _ _ _
      repeat refine AWP.nest ?_
      first | refine AWP.seq (AWP.block ?_) | refine AWP.block ?_
      refine AWP.loop (fun q st => q = 0 ∧ st = ⟨[(0, .own 0 0), (10, .d true (.v (.int .i64 (m : Int)))), (13, .d true (.v (.int .i64 (a : Int))))], [some (.row 106 2 0 false (tbs S))]⟩) (0) ?_ ?_
      · exact ⟨rfl, rfl⟩
      rintro q st ⟨_, rfl⟩
      repeat refine AWP.nest ?_
      first | refine rsa hG [] [0, 10, 13, 58] fun K hK => ?_ | refine rna hG [] [0, 10, 13, 58] fun K hK => ?_
      repeat first | ((with_reducible refine shN ?_); refine sL ?_) | ((with_reducible refine shG ?_); refine sG ?_)
      refine Eq.mpr evalL_nil (hK _ ?_)
      clear hK K
      simp only [evU, St.keep, List.map_cons, look, reduceIte, Nat.reduceEqDiff]
      try show AWP _ _ _ _ _
      first | refine AWP.seq (AWP.cond (b := _) rfl (fun hc => ?_) (fun hc => ?_)) | refine AWP.cond (b := _) rfl (fun hc => ?_) (fun hc => ?_)
      rotate_left
      · refine AWP.exit ?_
        show AWP _ _ _ _ _
        simp only [evC, Int.not_lt] at hc
        refine AWP.ret ?_
        refine ⟨.inl rfl, ⟨⟨_, rfl, _, rfl, .nil⟩, fun ob hob => ?_⟩⟩
        cases hob
        rfl
      simp only [evC, Int.not_lt] at hc
      refine AWP.skip ?_
      show AWP _ _ _ _ _
      exfalso
      omega
    simp only [evC, Int.not_lt] at hc
    refine AWP.skip ?_
    show AWP _ _ _ _ _
    have hjm : m < j := by omega
    clear hc
    repeat refine AWP.nest ?_
    first | refine AWP.seq (AWP.block ?_) | refine AWP.block ?_
    have hh := half_i m j (by omega) (by omega)
    obtain ⟨h, hhe⟩ : ∃ h, (m + j) / 2 = h := ⟨_, rfl⟩
    rw [hhe] at hh
    repeat refine AWP.nest ?_
    have hxs := @hh
    first | refine rsa hG [] [0, 1, 2, 3, 4, 10, 11, 12] fun K hK => ?_ | refine rna hG [] [0, 1, 2, 3, 4, 10, 11, 12] fun K hK => ?_
    repeat first | ((with_reducible refine shN ?_); refine sL ?_) | ((with_reducible refine shG ?_); refine sG ?_)
    refine Eq.mpr evalL_nil (hK _ ?_)
    clear hK K hxs
    simp only [evU, St.keep, List.map_cons, look, reduceIte, Nat.reduceEqDiff]
    try show AWP _ _ _ _ _
    clear hh
    have at0 : ∀ z, (tbs S).getD (h) z = .agg [.v (.string (S.getD (h) tb0).1), .sl 1 (ints .u8 (S.getD (h) tb0).2)] := fun z => tbs_at (by omega)
    have at1 : ∀ z, (tbs S).getD (a) z = .agg [.v (.string (S.getD (a) tb0).1), .sl 1 (ints .u8 (S.getD (a) tb0).2)] := fun z => tbs_at (by omega)
    have p0 : ints .u8 (S.getD (h) tb0).2 = ints .u8 (toInts (ints .u8 (S.getD (h) tb0).2)) := by rw [toInts_ints]
    have p1 : ints .u8 (S.getD (a) tb0).2 = ints .u8 (toInts (ints .u8 (S.getD (a) tb0).2)) := by rw [toInts_ints]
    repeat refine AWP.nest ?_
    first | refine AWP.rd (Gf_ok ih) [] [0, 1, 2, 3, 4, 10, 11, 12, 50] Try.mixed (by rw [hN]; decide) fun K hK => ?_ | refine AWP.dn (Gf_ok ih) [] [0, 1, 2, 3, 4, 10, 11, 12, 50] Try.mixed (by rw [hN]; decide) fun K hK => ?_
    repeat
      first | apply eD | (apply eDG; (case ht => exact rfl); (case hef => exact rfl))
      case e => (simp only [evB, evG, evGR, Q.evalR, boolOf, opQ, opMove, opPick, opBinK, opBin, opMakeMap, opLookup, opMapUpdate, keyA, keyI, keyEq, opUn, opConvS, convSB, convBS, lazy_app, lazyO_app, opConv, opExtract, opNil, opAlloc, opBox, opBuild, opBuildSlice, opMakeSlice, opLoad, opStore, opSlice, opFieldAddr, opField, opIndexAddr, opIndex, opLen, opMinMax, opAppend, opAppendZ, opCall, opCallF, callK_none, callK_some, opCallS, callS_none, opCopy, opMakeFunc, Q.opnd, Q.opndW, Q.eval, Q.ret, Q.elems, Q.cells, Q.parts, Q.args, Q.src, Q.optInt, intOf?, placeOf, fillA, setAll, mkAgg, datas, loadSel, ofCells, pickV, binI, binS, look, Value.oneCell', normD, smallNil, KD.known, KD.agg, T, TI.z, Dat.wd, Dat.cells, Dat.nagg, AV.ren, renL, AV.renT, AV.hi, AV.hi1, Ob.isRow, Ob.inn, Ob.out, Ob.gam, Ob.data, Ob.alike, loL, Gf, Mu, KE, Dat.flat, Dat.isV, List.contains, List.elem, Option.isSome, Nat.reduceAdd, Nat.reduceSub, Nat.reduceMul, Nat.reduceEqDiff, Nat.reduceLeDiff, Nat.reduceBEq, reduceIte, reduceCtorEq, Int.reduceLT, Int.reduceLE, Int.reduceNeg, Int.reduceEq, Int.reduceToNat, Int.reducePow, Nat.reducePow, Nat.reduceLT, IntKind.bits, hf112, e112.eq_1, hf131, e131.eq_1, evP, evTb, at0, at1, hyl]; (try simp (disch := omega) only [evA]); exact rfl)
      case s => ((try simp only [evU]); exact rfl)
      all_goals try (case hw => (first | exact wrs_nil | exact rfl))
      all_goals try (case hf => exact rfl)
      case hp => (first | exact True.intro | ((intros; and_intros <;> first | exact True.intro | omega | exact p0 | exact p1 | (simp only [toInts_ints]; done) | (simp; done))) | (intro hg; (intros; and_intros <;> first | exact True.intro | omega | exact p0 | exact p1 | (simp only [toInts_ints]; done) | (simp; done))) | (intro hg; simp at hg; (intros; and_intros <;> first | exact True.intro | omega | exact p0 | exact p1 | (simp only [toInts_ints]; done) | (simp; done))))
    refine evalD_done (by kernel_rfl) ?_
    refine hK _ ?_
    clear hK K
    simp only [evU, St.keep, List.map_cons, look, reduceIte, Nat.reduceEqDiff]
    try show AWP _ _ _ _ _
    clear p0 p1 at0 at1
    repeat refine AWP.nest ?_
    first | refine AWP.seq (AWP.cond (b := _) rfl (fun hc => ?_) (fun hc => ?_)) | refine AWP.cond (b := _) rfl (fun hc => ?_) (fun hc => ?_)
    all_goals try simp only [evC] at hc
    · exact absurd hc (hcmp a h (by omega) (by omega))
    repeat refine AWP.nest ?_
    first | refine rsa hG [] [0, 1, 2, 3, 4, 10, 11] fun K hK => ?_ | refine rna hG [] [0, 1, 2, 3, 4, 10, 11] fun K hK => ?_
    repeat first | ((with_reducible refine shN ?_); refine sL ?_) | ((with_reducible refine shG ?_); refine sG ?_)
    refine Eq.mpr evalL_nil (hK _ ?_)
    clear hK K
    simp only [evU, St.keep, List.map_cons, look, reduceIte, Nat.reduceEqDiff]
    try show AWP _ _ _ _ _
    exact ⟨h, by omega, h, by omega, by omega, rfl, rfl⟩
  refine AWP.skip ?_
  show AWP _ _ _ _ _
  clear hc
  repeat refine AWP.nest ?_
  first | refine rsa hG [] [0, 1, 2, 3, 4, 80] fun K hK => ?_ | refine rna hG [] [0, 1, 2, 3, 4, 80] fun K hK => ?_
  repeat first | ((with_reducible refine shN ?_); refine sL ?_) | ((with_reducible refine shG ?_); refine sG ?_)
  refine Eq.mpr evalL_nil (hK _ ?_)
  clear hK K
  simp only [evU, St.keep, List.map_cons, look, reduceIte, Nat.reduceEqDiff]
  try show AWP _ _ _ _ _
  repeat refine AWP.nest ?_
  first | refine AWP.seq (AWP.cond (b := _) rfl (fun hc => ?_) (fun hc => ?_)) | refine AWP.cond (b := _) rfl (fun hc => ?_) (fun hc => ?_)
  all_goals try simp only [evC] at hc
  · repeat refine AWP.nest ?_
    first | refine rsa hG [] [0, 1, 2, 3, 4, 14] fun K hK => ?_ | refine rna hG [] [0, 1, 2, 3, 4, 14] fun K hK => ?_
    repeat first | ((with_reducible refine shN ?_); refine sL ?_) | ((with_reducible refine shG ?_); refine sG ?_)
    refine Eq.mpr evalL_nil (hK _ ?_)
    clear hK K
    simp only [evU, St.keep, List.map_cons, look, reduceIte, Nat.reduceEqDiff]
    try show AWP _ _ _ _ _
    repeat refine AWP.nest ?_
    first | refine rsa hG [] [0, 1, 2, 3, 4, 14, 15] fun K hK => ?_ | refine rna hG [] [0, 1, 2, 3, 4, 14, 15] fun K hK => ?_
    repeat first | ((with_reducible refine shN ?_); refine sL ?_) | ((with_reducible refine shG ?_); refine sG ?_)
    refine Eq.mpr evalL_nil (hK _ ?_)
    clear hK K
    simp only [evU, St.keep, List.map_cons, look, reduceIte, Nat.reduceEqDiff]
    try show AWP _ _ _ _ _
    repeat refine AWP.nest ?_
    first | refine AWP.seq (AWP.block ?_) | refine AWP.block ?_
    refine AWP.loop (fun q st => ∃ (i : Nat), a ≤ i ∧ i ≤ m ∧ q = m - i ∧ st = ⟨[(0, .own 0 0), (1, .d true (.v (.int .i64 (a : Int)))), (2, .d true (.v (.int .i64 (m : Int)))), (3, .d true (.v (.int .i64 (b : Int)))), (4, .fn 112 []), (14, .d true (.v (.int .i64 (i : Int)))), (15, .d true (.v (.int .i64 (m : Int))))], [some (.row 106 2 0 false (tbs S))]⟩) (m - a) ?_ ?_
    · exact ⟨a, by omega, by omega, rfl, rfl⟩
    rintro q st ⟨i, hi1, hi2, hq, rfl⟩
    repeat refine AWP.nest ?_
    first | refine rsa hG [] [0, 1, 2, 3, 4, 14, 15, 85] fun K hK => ?_ | refine rna hG [] [0, 1, 2, 3, 4, 14, 15, 85] fun K hK => ?_
    repeat first | ((with_reducible refine shN ?_); refine sL ?_) | ((with_reducible refine shG ?_); refine sG ?_)
    refine Eq.mpr evalL_nil (hK _ ?_)
    clear hK K
    simp only [evU, St.keep, List.map_cons, look, reduceIte, Nat.reduceEqDiff]
    try show AWP _ _ _ _ _
    first | refine AWP.seq (AWP.cond (b := _) rfl (fun hc => ?_) (fun hc => ?_)) | refine AWP.cond (b := _) rfl (fun hc => ?_) (fun hc => ?_)
    rotate_left
    · refine AWP.exit ?_
      show AWP _ _ _ _ _
      simp only [evC, Int.not_lt] at hc
      obtain rfl : i = m := by omega
      repeat refine AWP.nest ?_
      first | refine rsa hG [] [0, 14, 17] fun K hK => ?_ | refine rna hG [] [0, 14, 17] fun K hK => ?_
      repeat first | ((with_reducible refine shN ?_); refine sL ?_) | ((with_reducible refine shG ?_); refine sG ?_)
      refine Eq.mpr evalL_nil (hK _ ?_)
      clear hK K
      simp only [evU, St.keep, List.map_cons, look, reduceIte, Nat.reduceEqDiff]
      try show AWP _ _ _ _ _
      repeat refine AWP.nest ?_
      first | refine AWP.seq (AWP.block ?_) | refine AWP.block ?_
      refine AWP.loop (fun q st => q = 0 ∧ st = ⟨[(0, .own 0 0), (14, .d true (.v (.int .i64 (i : Int)))), (17, .d true (.v (.int .i64 (i : Int))))], [some (.row 106 2 0 false (tbs S))]⟩) (0) ?_ ?_
      · exact ⟨rfl, rfl⟩
      rintro q st ⟨_, rfl⟩
      repeat refine AWP.nest ?_
      first | refine rsa hG [] [0, 14, 17, 110] fun K hK => ?_ | refine rna hG [] [0, 14, 17, 110] fun K hK => ?_
      repeat first | ((with_reducible refine shN ?_); refine sL ?_) | ((with_reducible refine shG ?_); refine sG ?_)
      refine Eq.mpr evalL_nil (hK _ ?_)
      clear hK K
      simp only [evU, St.keep, List.map_cons, look, reduceIte, Nat.reduceEqDiff]
      try show AWP _ _ _ _ _
      first | refine AWP.seq (AWP.cond (b := _) rfl (fun hc => ?_) (fun hc => ?_)) | refine AWP.cond (b := _) rfl (fun hc => ?_) (fun hc => ?_)
      rotate_left
      · refine AWP.exit ?_
        show AWP _ _ _ _ _
        simp only [evC, Int.not_lt] at hc
        refine AWP.ret ?_
        refine ⟨.inl rfl, ⟨⟨_, rfl, _, rfl, .nil⟩, fun ob hob => ?_⟩⟩
        cases hob
        rfl
      simp only [evC, Int.not_lt] at hc
      refine AWP.skip ?_
      show AWP _ _ _ _ _
      exfalso
      omega
    simp only [evC, Int.not_lt] at hc
    refine AWP.skip ?_
    show AWP _ _ _ _ _
    have him : i < m := by omega
    clear hc
    repeat refine AWP.nest ?_
    first | refine AWP.seq (AWP.block ?_) | refine AWP.block ?_
    have hh := half_i i m (by omega) (by omega)
    obtain ⟨h, hhe⟩ : ∃ h, (i + m) / 2 = h := ⟨_, rfl⟩
    rw [hhe] at hh
    repeat refine AWP.nest ?_
    have hxs := @hh
    first | refine rsa hG [] [0, 1, 2, 3, 4, 14, 15, 16] fun K hK => ?_ | refine rna hG [] [0, 1, 2, 3, 4, 14, 15, 16] fun K hK => ?_
    repeat first | ((with_reducible refine shN ?_); refine sL ?_) | ((with_reducible refine shG ?_); refine sG ?_)
    refine Eq.mpr evalL_nil (hK _ ?_)
    clear hK K hxs
    simp only [evU, St.keep, List.map_cons, look, reduceIte, Nat.reduceEqDiff]
    try show AWP _ _ _ _ _
    clear hh
    have at0 : ∀ z, (tbs S).getD (m) z = .agg [.v (.string (S.getD (m) tb0).1), .sl 1 (ints .u8 (S.getD (m) tb0).2)] := fun z => tbs_at (by omega)
    have at1 : ∀ z, (tbs S).getD (h) z = .agg [.v (.string (S.getD (h) tb0).1), .sl 1 (ints .u8 (S.getD (h) tb0).2)] := fun z => tbs_at (by omega)
    have p0 : ints .u8 (S.getD (m) tb0).2 = ints .u8 (toInts (ints .u8 (S.getD (m) tb0).2)) := by rw [toInts_ints]
    have p1 : ints .u8 (S.getD (h) tb0).2 = ints .u8 (toInts (ints .u8 (S.getD (h) tb0).2)) := by rw [toInts_ints]
    repeat refine AWP.nest ?_
    first | refine AWP.rd (Gf_ok ih) [] [0, 1, 2, 3, 4, 14, 15, 16, 103] Try.mixed (by rw [hN]; decide) fun K hK => ?_ | refine AWP.dn (Gf_ok ih) [] [0, 1, 2, 3, 4, 14, 15, 16, 103] Try.mixed (by rw [hN]; decide) fun K hK => ?_
    repeat
      first | apply eD | (apply eDG; (case ht => exact rfl); (case hef => exact rfl))
      case e => (simp only [evB, evG, evGR, Q.evalR, boolOf, opQ, opMove, opPick, opBinK, opBin, opMakeMap, opLookup, opMapUpdate, keyA, keyI, keyEq, opUn, opConvS, convSB, convBS, lazy_app, lazyO_app, opConv, opExtract, opNil, opAlloc, opBox, opBuild, opBuildSlice, opMakeSlice, opLoad, opStore, opSlice, opFieldAddr, opField, opIndexAddr, opIndex, opLen, opMinMax, opAppend, opAppendZ, opCall, opCallF, callK_none, callK_some, opCallS, callS_none, opCopy, opMakeFunc, Q.opnd, Q.opndW, Q.eval, Q.ret, Q.elems, Q.cells, Q.parts, Q.args, Q.src, Q.optInt, intOf?, placeOf, fillA, setAll, mkAgg, datas, loadSel, ofCells, pickV, binI, binS, look, Value.oneCell', normD, smallNil, KD.known, KD.agg, T, TI.z, Dat.wd, Dat.cells, Dat.nagg, AV.ren, renL, AV.renT, AV.hi, AV.hi1, Ob.isRow, Ob.inn, Ob.out, Ob.gam, Ob.data, Ob.alike, loL, Gf, Mu, KE, Dat.flat, Dat.isV, List.contains, List.elem, Option.isSome, Nat.reduceAdd, Nat.reduceSub, Nat.reduceMul, Nat.reduceEqDiff, Nat.reduceLeDiff, Nat.reduceBEq, reduceIte, reduceCtorEq, Int.reduceLT, Int.reduceLE, Int.reduceNeg, Int.reduceEq, Int.reduceToNat, Int.reducePow, Nat.reducePow, Nat.reduceLT, IntKind.bits, hf112, e112.eq_1, hf131, e131.eq_1, evP, evTb, at0, at1, hyl]; (try simp (disch := omega) only [evA]); exact rfl)
      case s => ((try simp only [evU]); exact rfl)
      all_goals try (case hw => (first | exact wrs_nil | exact rfl))
      all_goals try (case hf => exact rfl)
      case hp => (first | exact True.intro | ((intros; and_intros <;> first | exact True.intro | omega | exact p0 | exact p1 | (simp only [toInts_ints]; done) | (simp; done))) | (intro hg; (intros; and_intros <;> first | exact True.intro | omega | exact p0 | exact p1 | (simp only [toInts_ints]; done) | (simp; done))) | (intro hg; simp at hg; (intros; and_intros <;> first | exact True.intro | omega | exact p0 | exact p1 | (simp only [toInts_ints]; done) | (simp; done))))
    refine evalD_done (by kernel_rfl) ?_
    refine hK _ ?_
    clear hK K
    simp only [evU, St.keep, List.map_cons, look, reduceIte, Nat.reduceEqDiff]
    try show AWP _ _ _ _ _
    clear p0 p1 at0 at1
    have c1 : (h : Int) + 1 = ((h + 1 : Nat) : Int) := by omega
    repeat refine AWP.nest ?_
    first | refine AWP.seq (AWP.cond (b := _) rfl (fun hc => ?_) (fun hc => ?_)) | refine AWP.cond (b := _) rfl (fun hc => ?_) (fun hc => ?_)
    all_goals try simp only [evC] at hc
    · repeat refine AWP.nest ?_
      have hxs := @c1
      first | refine rsa hG [] [0, 1, 2, 3, 4, 14, 15] fun K hK => ?_ | refine rna hG [] [0, 1, 2, 3, 4, 14, 15] fun K hK => ?_
      repeat first | ((with_reducible refine shN ?_); refine sL ?_) | ((with_reducible refine shG ?_); refine sG ?_)
      refine Eq.mpr evalL_nil (hK _ ?_)
      clear hK K hxs
      simp only [evU, St.keep, List.map_cons, look, reduceIte, Nat.reduceEqDiff]
      try show AWP _ _ _ _ _
      exact ⟨m - (h + 1), by omega, h + 1, by omega, by omega, rfl, rfl⟩
    have hq := hcmp h m (by omega) (by omega)
    rw [decide_eq_false hq] at hc
    cases hc
  refine AWP.skip ?_
  show AWP _ _ _ _ _
  clear hc
  have hh := half_i a b (by omega) (by omega)
  obtain ⟨M, hM⟩ : ∃ h, (a + b) / 2 = h := ⟨_, rfl⟩
  rw [hM] at hh
  repeat refine AWP.nest ?_
  have hxs := @hh
  first | refine rsa hG [] [0, 1, 2, 3, 4, 18] fun K hK => ?_ | refine rna hG [] [0, 1, 2, 3, 4, 18] fun K hK => ?_
  repeat first | ((with_reducible refine shN ?_); refine sL ?_) | ((with_reducible refine shG ?_); refine sG ?_)
  refine Eq.mpr evalL_nil (hK _ ?_)
  clear hK K hxs
  simp only [evU, St.keep, List.map_cons, look, reduceIte, Nat.reduceEqDiff]
  try show AWP _ _ _ _ _
  clear hh
  have cn : (M : Int) + (m : Int) = ((M + m : Nat) : Int) := by omega
  repeat refine AWP.nest ?_
  have hxs := @cn
  first | refine rsa hG [] [0, 1, 2, 3, 4, 18, 19] fun K hK => ?_ | refine rna hG [] [0, 1, 2, 3, 4, 18, 19] fun K hK => ?_
  repeat first | ((with_reducible refine shN ?_); refine sL ?_) | ((with_reducible refine shG ?_); refine sG ?_)
  refine Eq.mpr evalL_nil (hK _ ?_)
  clear hK K hxs
  simp only [evU, St.keep, List.map_cons, look, reduceIte, Nat.reduceEqDiff]
  try show AWP _ _ _ _ _
  repeat refine AWP.nest ?_
  first | refine rsa hG [] [0, 1, 2, 3, 4, 18, 19, 20, 21] fun K hK => ?_ | refine rna hG [] [0, 1, 2, 3, 4, 18, 19, 20, 21] fun K hK => ?_
  repeat first | ((with_reducible refine shN ?_); refine sL ?_) | ((with_reducible refine shG ?_); refine sG ?_)
  refine Eq.mpr evalL_nil (hK _ ?_)
  clear hK K
  simp only [evU, St.keep, List.map_cons, look, reduceIte, Nat.reduceEqDiff]
  try show AWP _ _ _ _ _
  repeat refine AWP.nest ?_
  first | refine rsa hG [] [0, 1, 2, 3, 4, 18, 19, 20, 21, 140] fun K hK => ?_ | refine rna hG [] [0, 1, 2, 3, 4, 18, 19, 20, 21, 140] fun K hK => ?_
  repeat first | ((with_reducible refine shN ?_); refine sL ?_) | ((with_reducible refine shG ?_); refine sG ?_)
  refine Eq.mpr evalL_nil (hK _ ?_)
  clear hK K
  simp only [evU, St.keep, List.map_cons, look, reduceIte, Nat.reduceEqDiff]
  try show AWP _ _ _ _ _
  obtain ⟨p, hp⟩ : ∃ p, p + 1 = M + m := ⟨M + m - 1, by omega⟩
  have cp : ((M + m : Nat) : Int) - 1 = (p : Int) := by omega
  repeat refine AWP.nest ?_
  first | refine AWP.seq (AWP.cond (b := _) rfl (fun hc => ?_) (fun hc => ?_)) | refine AWP.cond (b := _) rfl (fun hc => ?_) (fun hc => ?_)
  all_goals try simp only [evC] at hc
  · have cs : ((M + m : Nat) : Int) - (b : Int) = ((M + m - b : Nat) : Int) := by omega
    repeat refine AWP.nest ?_
    have hxs := @cs
    first | refine rsa hG [] [0, 1, 2, 3, 4, 18, 19, 20, 21] fun K hK => ?_ | refine rna hG [] [0, 1, 2, 3, 4, 18, 19, 20, 21] fun K hK => ?_
    repeat first | ((with_reducible refine shN ?_); refine sL ?_) | ((with_reducible refine shG ?_); refine sG ?_)
    refine Eq.mpr evalL_nil (hK _ ?_)
    clear hK K hxs
    simp only [evU, St.keep, List.map_cons, look, reduceIte, Nat.reduceEqDiff]
    try show AWP _ _ _ _ _
    repeat refine AWP.nest ?_
    first | refine rsa hG [] [0, 1, 2, 3, 4, 18, 19, 20, 21] fun K hK => ?_ | refine rna hG [] [0, 1, 2, 3, 4, 18, 19, 20, 21] fun K hK => ?_
    repeat first | ((with_reducible refine shN ?_); refine sL ?_) | ((with_reducible refine shG ?_); refine sG ?_)
    refine Eq.mpr evalL_nil (hK _ ?_)
    clear hK K
    simp only [evU, St.keep, List.map_cons, look, reduceIte, Nat.reduceEqDiff]
    try show AWP _ _ _ _ _
    repeat refine AWP.nest ?_
    have hxs := @cp
    first | refine rsa hG [] [0, 1, 2, 3, 4, 18, 19, 20, 21, 22] fun K hK => ?_ | refine rna hG [] [0, 1, 2, 3, 4, 18, 19, 20, 21, 22] fun K hK => ?_
    repeat first | ((with_reducible refine shN ?_); refine sL ?_) | ((with_reducible refine shG ?_); refine sG ?_)
    refine Eq.mpr evalL_nil (hK _ ?_)
    clear hK K hxs
    simp only [evU, St.keep, List.map_cons, look, reduceIte, Nat.reduceEqDiff]
    try show AWP _ _ _ _ _
    repeat refine AWP.nest ?_
    first | refine AWP.seq (AWP.block ?_) | refine AWP.block ?_
    refine AWP.loop (fun q st => ∃ (s : Nat), (M + m - b) ≤ s ∧ s ≤ M ∧ q = M - s ∧ st = ⟨[(0, .own 0 0), (1, .d true (.v (.int .i64 (a : Int)))), (2, .d true (.v (.int .i64 (m : Int)))), (3, .d true (.v (.int .i64 (b : Int)))), (4, .fn 112 []), (18, .d true (.v (.int .i64 (M : Int)))), (19, .d true (.v (.int .i64 ((M + m : Nat) : Int)))), (20, .d true (.v (.int .i64 (s : Int)))), (21, .d true (.v (.int .i64 (M : Int)))), (22, .d true (.v (.int .i64 (p : Int))))], [some (.row 106 2 0 false (tbs S))]⟩) (M - (M + m - b)) ?_ ?_
    · exact ⟨(M + m - b), by omega, by omega, rfl, rfl⟩
    rintro q st ⟨s, hs1, hs2, hq, rfl⟩
    repeat refine AWP.nest ?_
    first | refine rsa hG [] [0, 1, 2, 3, 4, 18, 19, 20, 21, 22, 151] fun K hK => ?_ | refine rna hG [] [0, 1, 2, 3, 4, 18, 19, 20, 21, 22, 151] fun K hK => ?_
    repeat first | ((with_reducible refine shN ?_); refine sL ?_) | ((with_reducible refine shG ?_); refine sG ?_)
    refine Eq.mpr evalL_nil (hK _ ?_)
    clear hK K
    simp only [evU, St.keep, List.map_cons, look, reduceIte, Nat.reduceEqDiff]
    try show AWP _ _ _ _ _
    first | refine AWP.seq (AWP.cond (b := _) rfl (fun hc => ?_) (fun hc => ?_)) | refine AWP.cond (b := _) rfl (fun hc => ?_) (fun hc => ?_)
    rotate_left
    · refine AWP.exit ?_
      show AWP _ _ _ _ _
      simp only [evC, Int.not_lt] at hc
      obtain rfl : M = s := by omega
      have ce : ((M + m : Nat) : Int) - (M : Int) = (m : Int) := by omega
      repeat refine AWP.nest ?_
      have hxs := @ce
      first | refine rsa hG [] [0, 1, 2, 3, 4, 18, 19, 20, 24] fun K hK => ?_ | refine rna hG [] [0, 1, 2, 3, 4, 18, 19, 20, 24] fun K hK => ?_
      repeat first | ((with_reducible refine shN ?_); refine sL ?_) | ((with_reducible refine shG ?_); refine sG ?_)
      refine Eq.mpr evalL_nil (hK _ ?_)
      clear hK K hxs
      simp only [evU, St.keep, List.map_cons, look, reduceIte, Nat.reduceEqDiff]
      try show AWP _ _ _ _ _
      repeat refine AWP.nest ?_
      first | refine rsa hG [] [0, 1, 2, 3, 4, 18, 19, 20, 24, 185] fun K hK => ?_ | refine rna hG [] [0, 1, 2, 3, 4, 18, 19, 20, 24, 185] fun K hK => ?_
      repeat first | ((with_reducible refine shN ?_); refine sL ?_) | ((with_reducible refine shG ?_); refine sG ?_)
      refine Eq.mpr evalL_nil (hK _ ?_)
      clear hK K
      simp only [evU, St.keep, List.map_cons, look, reduceIte, Nat.reduceEqDiff]
      try show AWP _ _ _ _ _
      repeat refine AWP.nest ?_
      first | refine AWP.seq (AWP.cond (b := _) rfl (fun hc => ?_) (fun hc => ?_)) | refine AWP.cond (b := _) rfl (fun hc => ?_) (fun hc => ?_)
      all_goals try simp only [evC] at hc
      · exfalso
        omega
      refine AWP.skip ?_
      show AWP _ _ _ _ _
      clear hc
      repeat refine AWP.nest ?_
      first | refine rsa hG [] [0, 1, 2, 3, 4, 18, 19, 20, 24, 199] fun K hK => ?_ | refine rna hG [] [0, 1, 2, 3, 4, 18, 19, 20, 24, 199] fun K hK => ?_
      repeat first | ((with_reducible refine shN ?_); refine sL ?_) | ((with_reducible refine shG ?_); refine sG ?_)
      refine Eq.mpr evalL_nil (hK _ ?_)
      clear hK K
      simp only [evU, St.keep, List.map_cons, look, reduceIte, Nat.reduceEqDiff]
      try show AWP _ _ _ _ _
      repeat refine AWP.nest ?_
      first | refine AWP.seq (AWP.cond (b := _) rfl (fun hc => ?_) (fun hc => ?_)) | refine AWP.cond (b := _) rfl (fun hc => ?_) (fun hc => ?_)
      all_goals try simp only [evC] at hc
      · exfalso
        omega
      refine AWP.skip ?_
      show AWP _ _ _ _ _
      clear hc
      repeat refine AWP.nest ?_
      first | refine rsa hG [] [0, 1, 2, 3, 4, 18, 19, 20, 24, 213] fun K hK => ?_ | refine rna hG [] [0, 1, 2, 3, 4, 18, 19, 20, 24, 213] fun K hK => ?_
      repeat first | ((with_reducible refine shN ?_); refine sL ?_) | ((with_reducible refine shG ?_); refine sG ?_)
      refine Eq.mpr evalL_nil (hK _ ?_)
      clear hK K
      simp only [evU, St.keep, List.map_cons, look, reduceIte, Nat.reduceEqDiff]
      try show AWP _ _ _ _ _
      repeat refine AWP.nest ?_
      first | refine AWP.seq (AWP.cond (b := _) rfl (fun hc => ?_) (fun hc => ?_)) | refine AWP.cond (b := _) rfl (fun hc => ?_) (fun hc => ?_)
      all_goals try simp only [evC] at hc
      · have hba : (b : Int) - (M : Int) ≤ k := by omega
        repeat refine AWP.nest ?_
        first | refine AWP.rs (Gf_ok ih) [] [0] (by rw [hN]; decide) fun K hK => ?_ | refine AWP.rn (Gf_ok ih) [] [0] (by rw [hN]; decide) fun K hK => ?_
        repeat
          first | apply eL | (apply eG; (case ht => exact rfl); (case hef => exact rfl))
          case e => (simp only [evB, evG, evGR, Q.evalR, boolOf, opQ, opMove, opPick, opBinK, opBin, opMakeMap, opLookup, opMapUpdate, keyA, keyI, keyEq, opUn, opConvS, convSB, convBS, lazy_app, lazyO_app, opConv, opExtract, opNil, opAlloc, opBox, opBuild, opBuildSlice, opMakeSlice, opLoad, opStore, opSlice, opFieldAddr, opField, opIndexAddr, opIndex, opLen, opMinMax, opAppend, opAppendZ, opCall, opCallF, callK_none, callK_some, opCallS, callS_none, opCopy, opMakeFunc, Q.opnd, Q.opndW, Q.eval, Q.ret, Q.elems, Q.cells, Q.parts, Q.args, Q.src, Q.optInt, intOf?, placeOf, fillA, setAll, mkAgg, datas, loadSel, ofCells, pickV, binI, binS, look, Value.oneCell', normD, smallNil, KD.known, KD.agg, T, TI.z, Dat.wd, Dat.cells, Dat.nagg, AV.ren, renL, AV.renT, AV.hi, AV.hi1, Ob.isRow, Ob.inn, Ob.out, Ob.gam, Ob.data, Ob.alike, loL, Gf, Mu, KE, Dat.flat, Dat.isV, List.contains, List.elem, Option.isSome, Nat.reduceAdd, Nat.reduceSub, Nat.reduceMul, Nat.reduceEqDiff, Nat.reduceLeDiff, Nat.reduceBEq, reduceIte, reduceCtorEq, Int.reduceLT, Int.reduceLE, Int.reduceNeg, Int.reduceEq, Int.reduceToNat, Int.reducePow, Nat.reducePow, Nat.reduceLT, IntKind.bits, hf112, e112.eq_1, hf131, e131.eq_1, evP, evTb]; (try simp (disch := omega) only [evA]); exact rfl)
          case s => ((try simp only [evU]); exact rfl)
          case hp => (first | exact True.intro | ((intros; and_intros <;> first | exact True.intro | rfl | exact hasc | exact hS | omega)) | (intro hg; (intros; and_intros <;> first | exact True.intro | rfl | exact hasc | exact hS | omega)) | (intro hg; simp at hg; (intros; and_intros <;> first | exact True.intro | rfl | exact hasc | exact hS | omega)))
        rw [evalL_nil]
        refine hK _ ?_
        clear hK K
        simp only [evU, St.keep, List.map_cons, look, reduceIte, Nat.reduceEqDiff]
        try show AWP _ _ _ _ _
        refine ⟨(by first | exact .inr rfl | exact .inr True.intro), ⟨⟨_, rfl, _, rfl, .nil⟩, fun ob hob => ?_⟩⟩
        cases hob
        rfl
      exfalso
      omega
    simp only [evC, Int.not_lt] at hc
    refine AWP.skip ?_
    show AWP _ _ _ _ _
    have hsr : s < M := by omega
    clear hc
    repeat refine AWP.nest ?_
    first | refine AWP.seq (AWP.block ?_) | refine AWP.block ?_
    have hh := half_i s M (by omega) (by omega)
    obtain ⟨h, hhe⟩ : ∃ h, (s + M) / 2 = h := ⟨_, rfl⟩
    rw [hhe] at hh
    repeat refine AWP.nest ?_
    have hxs := @hh
    first | refine rsa hG [] [0, 1, 2, 3, 4, 18, 19, 20, 21, 22, 23] fun K hK => ?_ | refine rna hG [] [0, 1, 2, 3, 4, 18, 19, 20, 21, 22, 23] fun K hK => ?_
    repeat first | ((with_reducible refine shN ?_); refine sL ?_) | ((with_reducible refine shG ?_); refine sG ?_)
    refine Eq.mpr evalL_nil (hK _ ?_)
    clear hK K hxs
    simp only [evU, St.keep, List.map_cons, look, reduceIte, Nat.reduceEqDiff]
    try show AWP _ _ _ _ _
    clear hh
    have cd : (p : Int) - (h : Int) = ((p - h : Nat) : Int) := by omega
    have at0 : ∀ z, (tbs S).getD (p - h) z = .agg [.v (.string (S.getD (p - h) tb0).1), .sl 1 (ints .u8 (S.getD (p - h) tb0).2)] := fun z => tbs_at (by omega)
    have at1 : ∀ z, (tbs S).getD (h) z = .agg [.v (.string (S.getD (h) tb0).1), .sl 1 (ints .u8 (S.getD (h) tb0).2)] := fun z => tbs_at (by omega)
    have p0 : ints .u8 (S.getD (p - h) tb0).2 = ints .u8 (toInts (ints .u8 (S.getD (p - h) tb0).2)) := by rw [toInts_ints]
    have p1 : ints .u8 (S.getD (h) tb0).2 = ints .u8 (toInts (ints .u8 (S.getD (h) tb0).2)) := by rw [toInts_ints]
    repeat refine AWP.nest ?_
    first | refine AWP.rd (Gf_ok ih) [] [0, 1, 2, 3, 4, 18, 19, 20, 21, 22, 23, 171] Try.mixed (by rw [hN]; decide) fun K hK => ?_ | refine AWP.dn (Gf_ok ih) [] [0, 1, 2, 3, 4, 18, 19, 20, 21, 22, 23, 171] Try.mixed (by rw [hN]; decide) fun K hK => ?_
    repeat
      first | apply eD | (apply eDG; (case ht => exact rfl); (case hef => exact rfl))
      case e => (simp only [evB, evG, evGR, Q.evalR, boolOf, opQ, opMove, opPick, opBinK, opBin, opMakeMap, opLookup, opMapUpdate, keyA, keyI, keyEq, opUn, opConvS, convSB, convBS, lazy_app, lazyO_app, opConv, opExtract, opNil, opAlloc, opBox, opBuild, opBuildSlice, opMakeSlice, opLoad, opStore, opSlice, opFieldAddr, opField, opIndexAddr, opIndex, opLen, opMinMax, opAppend, opAppendZ, opCall, opCallF, callK_none, callK_some, opCallS, callS_none, opCopy, opMakeFunc, Q.opnd, Q.opndW, Q.eval, Q.ret, Q.elems, Q.cells, Q.parts, Q.args, Q.src, Q.optInt, intOf?, placeOf, fillA, setAll, mkAgg, datas, loadSel, ofCells, pickV, binI, binS, look, Value.oneCell', normD, smallNil, KD.known, KD.agg, T, TI.z, Dat.wd, Dat.cells, Dat.nagg, AV.ren, renL, AV.renT, AV.hi, AV.hi1, Ob.isRow, Ob.inn, Ob.out, Ob.gam, Ob.data, Ob.alike, loL, Gf, Mu, KE, Dat.flat, Dat.isV, List.contains, List.elem, Option.isSome, Nat.reduceAdd, Nat.reduceSub, Nat.reduceMul, Nat.reduceEqDiff, Nat.reduceLeDiff, Nat.reduceBEq, reduceIte, reduceCtorEq, Int.reduceLT, Int.reduceLE, Int.reduceNeg, Int.reduceEq, Int.reduceToNat, Int.reducePow, Nat.reducePow, Nat.reduceLT, IntKind.bits, hf112, e112.eq_1, hf131, e131.eq_1, evP, evTb, at0, at1, hyl, cd]; (try simp (disch := omega) only [evA]); exact rfl)
      case s => ((try simp only [evU]); exact rfl)
      all_goals try (case hw => (first | exact wrs_nil | exact rfl))
      all_goals try (case hf => exact rfl)
      case hp => (first | exact True.intro | ((intros; and_intros <;> first | exact True.intro | omega | exact p0 | exact p1 | (simp only [toInts_ints]; done) | (simp; done))) | (intro hg; (intros; and_intros <;> first | exact True.intro | omega | exact p0 | exact p1 | (simp only [toInts_ints]; done) | (simp; done))) | (intro hg; simp at hg; (intros; and_intros <;> first | exact True.intro | omega | exact p0 | exact p1 | (simp only [toInts_ints]; done) | (simp; done))))
    refine evalD_done (by kernel_rfl) ?_
    refine hK _ ?_
    clear hK K
    simp only [evU, St.keep, List.map_cons, look, reduceIte, Nat.reduceEqDiff]
    try show AWP _ _ _ _ _
    clear p0 p1 at0 at1
    have c1 : (h : Int) + 1 = ((h + 1 : Nat) : Int) := by omega
    repeat refine AWP.nest ?_
    first | refine AWP.seq (AWP.cond (b := _) rfl (fun hc => ?_) (fun hc => ?_)) | refine AWP.cond (b := _) rfl (fun hc => ?_) (fun hc => ?_)
    all_goals try simp only [evC] at hc
    · repeat refine AWP.nest ?_
      have hxs := @c1
      first | refine rsa hG [] [0, 1, 2, 3, 4, 18, 19, 20, 21, 22] fun K hK => ?_ | refine rna hG [] [0, 1, 2, 3, 4, 18, 19, 20, 21, 22] fun K hK => ?_
      repeat first | ((with_reducible refine shN ?_); refine sL ?_) | ((with_reducible refine shG ?_); refine sG ?_)
      refine Eq.mpr evalL_nil (hK _ ?_)
      clear hK K hxs
      simp only [evU, St.keep, List.map_cons, look, reduceIte, Nat.reduceEqDiff]
      try show AWP _ _ _ _ _
      exact ⟨M - (h + 1), by omega, h + 1, by omega, by omega, rfl, rfl⟩
    have hq := hcmp h (p - h) (by omega) (by omega)
    rw [decide_eq_false hq] at hc
    cases hc
  repeat refine AWP.nest ?_
  first | refine rsa hG [] [0, 1, 2, 3, 4, 18, 19, 20, 21] fun K hK => ?_ | refine rna hG [] [0, 1, 2, 3, 4, 18, 19, 20, 21] fun K hK => ?_
  repeat first | ((with_reducible refine shN ?_); refine sL ?_) | ((with_reducible refine shG ?_); refine sG ?_)
  refine Eq.mpr evalL_nil (hK _ ?_)
  clear hK K
  simp only [evU, St.keep, List.map_cons, look, reduceIte, Nat.reduceEqDiff]
  try show AWP _ _ _ _ _
  repeat refine AWP.nest ?_
  first | refine rsa hG [] [0, 1, 2, 3, 4, 18, 19, 20, 21] fun K hK => ?_ | refine rna hG [] [0, 1, 2, 3, 4, 18, 19, 20, 21] fun K hK => ?_
  repeat first | ((with_reducible refine shN ?_); refine sL ?_) | ((with_reducible refine shG ?_); refine sG ?_)
  refine Eq.mpr evalL_nil (hK _ ?_)
  clear hK K
  simp only [evU, St.keep, List.map_cons, look, reduceIte, Nat.reduceEqDiff]
  try show AWP _ _ _ _ _
  repeat refine AWP.nest ?_
  have hxs := @cp
  first | refine rsa hG [] [0, 1, 2, 3, 4, 18, 19, 20, 21, 22] fun K hK => ?_ | refine rna hG [] [0, 1, 2, 3, 4, 18, 19, 20, 21, 22] fun K hK => ?_
  repeat first | ((with_reducible refine shN ?_); refine sL ?_) | ((with_reducible refine shG ?_); refine sG ?_)
  refine Eq.mpr evalL_nil (hK _ ?_)
  clear hK K hxs
  simp only [evU, St.keep, List.map_cons, look, reduceIte, Nat.reduceEqDiff]
  try show AWP _ _ _ _ _
  repeat refine AWP.nest ?_
  first | refine AWP.seq (AWP.block ?_) | refine AWP.block ?_
  refine AWP.loop (fun q st => ∃ (s : Nat), a ≤ s ∧ s ≤ m ∧ q = m - s ∧ st = ⟨[(0, .own 0 0), (1, .d true (.v (.int .i64 (a : Int)))), (2, .d true (.v (.int .i64 (m : Int)))), (3, .d true (.v (.int .i64 (b : Int)))), (4, .fn 112 []), (18, .d true (.v (.int .i64 (M : Int)))), (19, .d true (.v (.int .i64 ((M + m : Nat) : Int)))), (20, .d true (.v (.int .i64 (s : Int)))), (21, .d true (.v (.int .i64 (m : Int)))), (22, .d true (.v (.int .i64 (p : Int))))], [some (.row 106 2 0 false (tbs S))]⟩) (m - a) ?_ ?_
  · exact ⟨a, by omega, by omega, rfl, rfl⟩
  rintro q st ⟨s, hs1, hs2, hq, rfl⟩
  repeat refine AWP.nest ?_
  first | refine rsa hG [] [0, 1, 2, 3, 4, 18, 19, 20, 21, 22, 151] fun K hK => ?_ | refine rna hG [] [0, 1, 2, 3, 4, 18, 19, 20, 21, 22, 151] fun K hK => ?_
  repeat first | ((with_reducible refine shN ?_); refine sL ?_) | ((with_reducible refine shG ?_); refine sG ?_)
  refine Eq.mpr evalL_nil (hK _ ?_)
  clear hK K
  simp only [evU, St.keep, List.map_cons, look, reduceIte, Nat.reduceEqDiff]
  try show AWP _ _ _ _ _
  first | refine AWP.seq (AWP.cond (b := _) rfl (fun hc => ?_) (fun hc => ?_)) | refine AWP.cond (b := _) rfl (fun hc => ?_) (fun hc => ?_)
  rotate_left
  · refine AWP.exit ?_
    show AWP _ _ _ _ _
    simp only [evC, Int.not_lt] at hc
    obtain rfl : m = s := by omega
    have ce : ((M + m : Nat) : Int) - (m : Int) = (M : Int) := by omega
    repeat refine AWP.nest ?_
    have hxs := @ce
    first | refine rsa hG [] [0, 1, 2, 3, 4, 18, 19, 20, 24] fun K hK => ?_ | refine rna hG [] [0, 1, 2, 3, 4, 18, 19, 20, 24] fun K hK => ?_
    repeat first | ((with_reducible refine shN ?_); refine sL ?_) | ((with_reducible refine shG ?_); refine sG ?_)
    refine Eq.mpr evalL_nil (hK _ ?_)
    clear hK K hxs
    simp only [evU, St.keep, List.map_cons, look, reduceIte, Nat.reduceEqDiff]
    try show AWP _ _ _ _ _
    repeat refine AWP.nest ?_
    first | refine rsa hG [] [0, 1, 2, 3, 4, 18, 19, 20, 24, 185] fun K hK => ?_ | refine rna hG [] [0, 1, 2, 3, 4, 18, 19, 20, 24, 185] fun K hK => ?_
    repeat first | ((with_reducible refine shN ?_); refine sL ?_) | ((with_reducible refine shG ?_); refine sG ?_)
    refine Eq.mpr evalL_nil (hK _ ?_)
    clear hK K
    simp only [evU, St.keep, List.map_cons, look, reduceIte, Nat.reduceEqDiff]
    try show AWP _ _ _ _ _
    repeat refine AWP.nest ?_
    first | refine AWP.seq (AWP.cond (b := _) rfl (fun hc => ?_) (fun hc => ?_)) | refine AWP.cond (b := _) rfl (fun hc => ?_) (fun hc => ?_)
    all_goals try simp only [evC] at hc
    · exfalso
      omega
    refine AWP.skip ?_
    show AWP _ _ _ _ _
    clear hc
    repeat refine AWP.nest ?_
    first | refine rsa hG [] [0, 1, 2, 3, 4, 18, 19, 20, 24, 199] fun K hK => ?_ | refine rna hG [] [0, 1, 2, 3, 4, 18, 19, 20, 24, 199] fun K hK => ?_
    repeat first | ((with_reducible refine shN ?_); refine sL ?_) | ((with_reducible refine shG ?_); refine sG ?_)
    refine Eq.mpr evalL_nil (hK _ ?_)
    clear hK K
    simp only [evU, St.keep, List.map_cons, look, reduceIte, Nat.reduceEqDiff]
    try show AWP _ _ _ _ _
    repeat refine AWP.nest ?_
    first | refine AWP.seq (AWP.cond (b := _) rfl (fun hc => ?_) (fun hc => ?_)) | refine AWP.cond (b := _) rfl (fun hc => ?_) (fun hc => ?_)
    all_goals try simp only [evC] at hc
    · have hba : (M : Int) - (a : Int) ≤ k := by omega
      repeat refine AWP.nest ?_
      first | refine AWP.rs (Gf_ok ih) [] [0, 1, 2, 3, 4, 18, 19, 20, 24] (by rw [hN]; decide) fun K hK => ?_ | refine AWP.rn (Gf_ok ih) [] [0, 1, 2, 3, 4, 18, 19, 20, 24] (by rw [hN]; decide) fun K hK => ?_
      repeat
        first | apply eL | (apply eG; (case ht => exact rfl); (case hef => exact rfl))
        case e => (simp only [evB, evG, evGR, Q.evalR, boolOf, opQ, opMove, opPick, opBinK, opBin, opMakeMap, opLookup, opMapUpdate, keyA, keyI, keyEq, opUn, opConvS, convSB, convBS, lazy_app, lazyO_app, opConv, opExtract, opNil, opAlloc, opBox, opBuild, opBuildSlice, opMakeSlice, opLoad, opStore, opSlice, opFieldAddr, opField, opIndexAddr, opIndex, opLen, opMinMax, opAppend, opAppendZ, opCall, opCallF, callK_none, callK_some, opCallS, callS_none, opCopy, opMakeFunc, Q.opnd, Q.opndW, Q.eval, Q.ret, Q.elems, Q.cells, Q.parts, Q.args, Q.src, Q.optInt, intOf?, placeOf, fillA, setAll, mkAgg, datas, loadSel, ofCells, pickV, binI, binS, look, Value.oneCell', normD, smallNil, KD.known, KD.agg, T, TI.z, Dat.wd, Dat.cells, Dat.nagg, AV.ren, renL, AV.renT, AV.hi, AV.hi1, Ob.isRow, Ob.inn, Ob.out, Ob.gam, Ob.data, Ob.alike, loL, Gf, Mu, KE, Dat.flat, Dat.isV, List.contains, List.elem, Option.isSome, Nat.reduceAdd, Nat.reduceSub, Nat.reduceMul, Nat.reduceEqDiff, Nat.reduceLeDiff, Nat.reduceBEq, reduceIte, reduceCtorEq, Int.reduceLT, Int.reduceLE, Int.reduceNeg, Int.reduceEq, Int.reduceToNat, Int.reducePow, Nat.reducePow, Nat.reduceLT, IntKind.bits, hf112, e112.eq_1, hf131, e131.eq_1, evP, evTb]; (try simp (disch := omega) only [evA]); exact rfl)
        case s => ((try simp only [evU]); exact rfl)
        case hp => (first | exact True.intro | ((intros; and_intros <;> first | exact True.intro | rfl | exact hasc | exact hS | omega)) | (intro hg; (intros; and_intros <;> first | exact True.intro | rfl | exact hasc | exact hS | omega)) | (intro hg; simp at hg; (intros; and_intros <;> first | exact True.intro | rfl | exact hasc | exact hS | omega)))
      rw [evalL_nil]
      refine hK _ ?_
      clear hK K
      simp only [evU, St.keep, List.map_cons, look, reduceIte, Nat.reduceEqDiff]
      try show AWP _ _ _ _ _
      repeat refine AWP.nest ?_
      first | refine rsa hG [] [0, 1, 2, 3, 4, 18, 19, 20, 24, 213] fun K hK => ?_ | refine rna hG [] [0, 1, 2, 3, 4, 18, 19, 20, 24, 213] fun K hK => ?_
      repeat first | ((with_reducible refine shN ?_); refine sL ?_) | ((with_reducible refine shG ?_); refine sG ?_)
      refine Eq.mpr evalL_nil (hK _ ?_)
      clear hK K
      simp only [evU, St.keep, List.map_cons, look, reduceIte, Nat.reduceEqDiff]
      try show AWP _ _ _ _ _
      clear hc
      repeat refine AWP.nest ?_
      first | refine AWP.seq (AWP.cond (b := _) rfl (fun hc => ?_) (fun hc => ?_)) | refine AWP.cond (b := _) rfl (fun hc => ?_) (fun hc => ?_)
      all_goals try simp only [evC] at hc
      · exfalso
        omega
      refine AWP.skip ?_
      refine ⟨(by first | exact .inr rfl | exact .inr True.intro), ⟨⟨_, rfl, _, rfl, .nil⟩, fun ob hob => ?_⟩⟩
      cases hob
      rfl
    refine AWP.skip ?_
    show AWP _ _ _ _ _
    clear hc
    repeat refine AWP.nest ?_
    first | refine rsa hG [] [0, 1, 2, 3, 4, 18, 19, 20, 24, 213] fun K hK => ?_ | refine rna hG [] [0, 1, 2, 3, 4, 18, 19, 20, 24, 213] fun K hK => ?_
    repeat first | ((with_reducible refine shN ?_); refine sL ?_) | ((with_reducible refine shG ?_); refine sG ?_)
    refine Eq.mpr evalL_nil (hK _ ?_)
    clear hK K
    simp only [evU, St.keep, List.map_cons, look, reduceIte, Nat.reduceEqDiff]
    try show AWP _ _ _ _ _
    repeat refine AWP.nest ?_
    first | refine AWP.seq (AWP.cond (b := _) rfl (fun hc => ?_) (fun hc => ?_)) | refine AWP.cond (b := _) rfl (fun hc => ?_) (fun hc => ?_)
    all_goals try simp only [evC] at hc
    · exfalso
      omega
    refine AWP.skip ?_
    refine ⟨(by first | exact .inr rfl | exact .inr True.intro), ⟨⟨_, rfl, _, rfl, .nil⟩, fun ob hob => ?_⟩⟩
    cases hob
    rfl
  simp only [evC, Int.not_lt] at hc
  refine AWP.skip ?_
  show AWP _ _ _ _ _
  have hsr : s < m := by omega
  clear hc
  repeat refine AWP.nest ?_
  first | refine AWP.seq (AWP.block ?_) | refine AWP.block ?_
  have hh := half_i s m (by omega) (by omega)
  obtain ⟨h, hhe⟩ : ∃ h, (s + m) / 2 = h := ⟨_, rfl⟩
  rw [hhe] at hh
  repeat refine AWP.nest ?_
  have hxs := @hh
  first | refine rsa hG [] [0, 1, 2, 3, 4, 18, 19, 20, 21, 22, 23] fun K hK => ?_ | refine rna hG [] [0, 1, 2, 3, 4, 18, 19, 20, 21, 22, 23] fun K hK => ?_
  repeat first | ((with_reducible refine shN ?_); refine sL ?_) | ((with_reducible refine shG ?_); refine sG ?_)
  refine Eq.mpr evalL_nil (hK _ ?_)
  clear hK K hxs
  simp only [evU, St.keep, List.map_cons, look, reduceIte, Nat.reduceEqDiff]
  try show AWP _ _ _ _ _
  clear hh
  have cd : (p : Int) - (h : Int) = ((p - h : Nat) : Int) := by omega
  have at0 : ∀ z, (tbs S).getD (p - h) z = .agg [.v (.string (S.getD (p - h) tb0).1), .sl 1 (ints .u8 (S.getD (p - h) tb0).2)] := fun z => tbs_at (by omega)
  have at1 : ∀ z, (tbs S).getD (h) z = .agg [.v (.string (S.getD (h) tb0).1), .sl 1 (ints .u8 (S.getD (h) tb0).2)] := fun z => tbs_at (by omega)
  have p0 : ints .u8 (S.getD (p - h) tb0).2 = ints .u8 (toInts (ints .u8 (S.getD (p - h) tb0).2)) := by rw [toInts_ints]
  have p1 : ints .u8 (S.getD (h) tb0).2 = ints .u8 (toInts (ints .u8 (S.getD (h) tb0).2)) := by rw [toInts_ints]
  repeat refine AWP.nest ?_
  first | refine AWP.rd (Gf_ok ih) [] [0, 1, 2, 3, 4, 18, 19, 20, 21, 22, 23, 171] Try.mixed (by rw [hN]; decide) fun K hK => ?_ | refine AWP.dn (Gf_ok ih) [] [0, 1, 2, 3, 4, 18, 19, 20, 21, 22, 23, 171] Try.mixed (by rw [hN]; decide) fun K hK => ?_
  repeat
    first | apply eD | (apply eDG; (case ht => exact rfl); (case hef => exact rfl))
    case e => (simp only [evB, evG, evGR, Q.evalR, boolOf, opQ, opMove, opPick, opBinK, opBin, opMakeMap, opLookup, opMapUpdate, keyA, keyI, keyEq, opUn, opConvS, convSB, convBS, lazy_app, lazyO_app, opConv, opExtract, opNil, opAlloc, opBox, opBuild, opBuildSlice, opMakeSlice, opLoad, opStore, opSlice, opFieldAddr, opField, opIndexAddr, opIndex, opLen, opMinMax, opAppend, opAppendZ, opCall, opCallF, callK_none, callK_some, opCallS, callS_none, opCopy, opMakeFunc, Q.opnd, Q.opndW, Q.eval, Q.ret, Q.elems, Q.cells, Q.parts, Q.args, Q.src, Q.optInt, intOf?, placeOf, fillA, setAll, mkAgg, datas, loadSel, ofCells, pickV, binI, binS, look, Value.oneCell', normD, smallNil, KD.known, KD.agg, T, TI.z, Dat.wd, Dat.cells, Dat.nagg, AV.ren, renL, AV.renT, AV.hi, AV.hi1, Ob.isRow, Ob.inn, Ob.out, Ob.gam, Ob.data, Ob.alike, loL, Gf, Mu, KE, Dat.flat, Dat.isV, List.contains, List.elem, Option.isSome, Nat.reduceAdd, Nat.reduceSub, Nat.reduceMul, Nat.reduceEqDiff, Nat.reduceLeDiff, Nat.reduceBEq, reduceIte, reduceCtorEq, Int.reduceLT, Int.reduceLE, Int.reduceNeg, Int.reduceEq, Int.reduceToNat, Int.reducePow, Nat.reducePow, Nat.reduceLT, IntKind.bits, hf112, e112.eq_1, hf131, e131.eq_1, evP, evTb, at0, at1, hyl, cd]; (try simp (disch := omega) only [evA]); exact rfl)
    case s => ((try simp only [evU]); exact rfl)
    all_goals try (case hw => (first | exact wrs_nil | exact rfl))
    all_goals try (case hf => exact rfl)
    case hp => (first | exact True.intro | ((intros; and_intros <;> first | exact True.intro | omega | exact p0 | exact p1 | (simp only [toInts_ints]; done) | (simp; done))) | (intro hg; (intros; and_intros <;> first | exact True.intro | omega | exact p0 | exact p1 | (simp only [toInts_ints]; done) | (simp; done))) | (intro hg; simp at hg; (intros; and_intros <;> first | exact True.intro | omega | exact p0 | exact p1 | (simp only [toInts_ints]; done) | (simp; done))))
  refine evalD_done (by kernel_rfl) ?_
  refine hK _ ?_
  clear hK K
  simp only [evU, St.keep, List.map_cons, look, reduceIte, Nat.reduceEqDiff]
  try show AWP _ _ _ _ _
  clear p0 p1 at0 at1
  have c1 : (h : Int) + 1 = ((h + 1 : Nat) : Int) := by omega
  repeat refine AWP.nest ?_
  first | refine AWP.seq (AWP.cond (b := _) rfl (fun hc => ?_) (fun hc => ?_)) | refine AWP.cond (b := _) rfl (fun hc => ?_) (fun hc => ?_)
  all_goals try simp only [evC] at hc
  · repeat refine AWP.nest ?_
    have hxs := @c1
    first | refine rsa hG [] [0, 1, 2, 3, 4, 18, 19, 20, 21, 22] fun K hK => ?_ | refine rna hG [] [0, 1, 2, 3, 4, 18, 19, 20, 21, 22] fun K hK => ?_
    repeat first | ((with_reducible refine shN ?_); refine sL ?_) | ((with_reducible refine shG ?_); refine sG ?_)
    refine Eq.mpr evalL_nil (hK _ ?_)
    clear hK K hxs
    simp only [evU, St.keep, List.map_cons, look, reduceIte, Nat.reduceEqDiff]
    try show AWP _ _ _ _ _
    exact ⟨m - (h + 1), by omega, h + 1, by omega, by omega, rfl, rfl⟩
  have hq := hcmp h (p - h) (by omega) (by omega)
  rw [decide_eq_false hq] at hc
  cases hc
theorem FK_ok : ∀ k, FOK Try.prog (FK k)
  | 0 => FOK.upd F125_ok Try.func131 (by kernel_rfl) rfl fun args i R h => by
    unfold e131 at h
    split at h
    · cases h
      refine Spec.pre fun h => ?_
      obtain ⟨_, _, _, h1, h2, h3, h4, h5⟩ := h
      exfalso
      omega
    · cases h
  | k + 1 => FOK.upd F125_ok Try.func131 (by kernel_rfl) rfl fun args i R h => by
    unfold e131 at h
    split at h
    · rename_i a m b xs
      cases h
      refine Spec.pre fun h => ?_
      obtain ⟨h0, hu, hl, h1, h2, h3, h4, h5⟩ := h
      have := s131 k (FK_ok k) (toTbs xs) hl hu a.toNat m.toNat b.toNat (by omega) (by omega) (by omega) (by omega)
      rw [← h0, Int.toNat_of_nonneg h1, Int.toNat_of_nonneg (by omega), Int.toNat_of_nonneg (by omega)] at this
      exact h0 ▸ this
    · cases h
theorem F126_ok : FOK Try.prog F126 := FK_ok 1000000
end Go.AM

