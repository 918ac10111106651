/- AM: SegOffsets. -/
import Derived.Test.YtmfobkiljlepjaaC37
import Derived.Test.YtmfobkiljlepjaaG10
set_option maxRecDepth 100000
set_option maxHeartbeats 8000000
set_option linter.unusedSimpArgs false
set_option linter.unusedVariables false
namespace Go.AM
open Go Go.Proofs



theorem s16 (s : Int) (gs : List Int) (d c : Int) (hs0 : 0 ≤ s) (hs1 : s < 65536) (hg : W16 gs) (hd0 : 0 ≤ d) (hd1 : d < 65536) (hc0 : 0 ≤ c) (hc1 : c < 65536) : Spec Try.prog 16 [.d true (.v (.int .u16 s)), .d false (.sl 1 (ints .u16 gs)), .d true (.v (.int .u16 d)), .d true (.v (.int .u16 c))] none ⟨True, .d true (.v (.bool true)), none⟩ := by
  have hf32 : F65 32 = e32 := rfl
  have hf49 : F65 49 = e49 := rfl
  have hf52 : F65 52 = e52 := rfl
  have hf56 : F65 56 = e56 := rfl
  have hf59 : F65 59 = e59 := rfl
  have hf60 : F65 60 = e60 := rfl
  refine spec_of_awp (Gf_ok F65_ok) Try.func16 rfl (Nat.le_of_ble_eq_true rfl) fun E hps hN _ => ?_
  simp only [begin, List.zipIdx_cons, List.zipIdx_nil, List.map_cons, List.map_nil, Option.toList, Nat.zero_add, Nat.reduceAdd]
  refine AWP.len 1 rfl fun hlen => ?_
  rw [ints_length] at hlen
  repeat refine AWP.nest ?_
  first | refine AWP.rs (Gf_ok F65_ok) [] [0, 1, 2, 3] (by rw [hN]; decide) fun K hK => ?_ | refine AWP.rn (Gf_ok F65_ok) [] [0, 1, 2, 3] (by rw [hN]; decide) fun K hK => ?_
  repeat
    first | apply eL | (apply eG; (case ht => exact rfl); (case hef => exact rfl))
    case e => (simp only [evB, evG, evGR, Q.evalR, boolOf, opQ, opMove, opPick, opBin, opUn, opConv, opExtract, opNil, opAlloc, opBox, opBuild, opBuildSlice, opMakeSlice, opLoad, opStore, opSlice, opFieldAddr, opField, opIndexAddr, opIndex, opLen, opMinMax, opAppend, opAppendZ, opCall, opCallF, Q.opnd, Q.opndW, Q.eval, Q.ret, Q.elems, Q.cells, Q.parts, Q.args, Q.src, Q.optInt, intOf?, placeOf, fillA, setAll, mkAgg, datas, loadSel, ofCells, pickV, binI, binS, look, Value.oneCell', normD, smallNil, KD.known, KD.agg, T, TI.z, Dat.wd, Dat.cells, Dat.nagg, AV.ren, renL, AV.renT, AV.hi, AV.hi1, Ob.isRow, Ob.inn, Ob.out, Ob.gam, Ob.data, Ob.alike, loL, Gf, Mu, Dat.flat, Dat.isV, List.contains, List.elem, Option.isSome, Nat.reduceAdd, Nat.reduceSub, Nat.reduceMul, Nat.reduceEqDiff, Nat.reduceLeDiff, Nat.reduceBEq, reduceIte, reduceCtorEq, Int.reduceLT, Int.reduceLE, Int.reduceNeg, Int.reduceEq, Int.reduceToNat, Int.reducePow, Nat.reducePow, Nat.reduceLT, IntKind.bits, hf32, e32, hf49, e49, hf52, e52, hf56, e56, hf59, e59, hf60, e60, evP, evS, toPrs_prs, toSgs_sgs, toInts_ints]; (try simp (disch := omega) only [evA]); exact rfl)
    case s => ((try simp only [evU]); exact rfl)
    case hp => (first | exact True.intro | ((and_intros <;> first | exact True.intro | omega | assumption | (intro hq; first | omega | (rw [hq]; rfl) | (simp; done) | (simp [hq]; done) | (intro hq2; first | (rw [hq, hq2]; rfl) | (simp [hq, hq2]; done) | (simp_all; done))) | (simp; done) | (simp_all; done))) | (intro hg; (and_intros <;> first | exact True.intro | omega | assumption | (intro hq; first | omega | (rw [hq]; rfl) | (simp; done) | (simp [hq]; done) | (intro hq2; first | (rw [hq, hq2]; rfl) | (simp [hq, hq2]; done) | (simp_all; done))) | (simp; done) | (simp_all; done))) | (intro hg; simp at hg; (and_intros <;> first | exact True.intro | omega | assumption | (intro hq; first | omega | (rw [hq]; rfl) | (simp; done) | (simp [hq]; done) | (intro hq2; first | (rw [hq, hq2]; rfl) | (simp [hq, hq2]; done) | (simp_all; done))) | (simp; done) | (simp_all; done))))
  rw [evalL_nil]
  refine hK _ ?_
  clear hK K
  simp only [evU, St.keep, List.map_cons, look, reduceIte, Nat.reduceEqDiff]
  try show AWP _ _ _ _ _
  repeat refine AWP.nest ?_
  first | refine AWP.rs (Gf_ok F65_ok) [] [0, 1, 2, 3, 20] (by rw [hN]; decide) fun K hK => ?_ | refine AWP.rn (Gf_ok F65_ok) [] [0, 1, 2, 3, 20] (by rw [hN]; decide) fun K hK => ?_
  repeat
    first | apply eL | (apply eG; (case ht => exact rfl); (case hef => exact rfl))
    case e => (simp only [evB, evG, evGR, Q.evalR, boolOf, opQ, opMove, opPick, opBin, opUn, opConv, opExtract, opNil, opAlloc, opBox, opBuild, opBuildSlice, opMakeSlice, opLoad, opStore, opSlice, opFieldAddr, opField, opIndexAddr, opIndex, opLen, opMinMax, opAppend, opAppendZ, opCall, opCallF, Q.opnd, Q.opndW, Q.eval, Q.ret, Q.elems, Q.cells, Q.parts, Q.args, Q.src, Q.optInt, intOf?, placeOf, fillA, setAll, mkAgg, datas, loadSel, ofCells, pickV, binI, binS, look, Value.oneCell', normD, smallNil, KD.known, KD.agg, T, TI.z, Dat.wd, Dat.cells, Dat.nagg, AV.ren, renL, AV.renT, AV.hi, AV.hi1, Ob.isRow, Ob.inn, Ob.out, Ob.gam, Ob.data, Ob.alike, loL, Gf, Mu, Dat.flat, Dat.isV, List.contains, List.elem, Option.isSome, Nat.reduceAdd, Nat.reduceSub, Nat.reduceMul, Nat.reduceEqDiff, Nat.reduceLeDiff, Nat.reduceBEq, reduceIte, reduceCtorEq, Int.reduceLT, Int.reduceLE, Int.reduceNeg, Int.reduceEq, Int.reduceToNat, Int.reducePow, Nat.reducePow, Nat.reduceLT, IntKind.bits, hf32, e32, hf49, e49, hf52, e52, hf56, e56, hf59, e59, hf60, e60, evP, evS, toPrs_prs, toSgs_sgs, toInts_ints]; (try simp (disch := omega) only [evA]); exact rfl)
    case s => ((try simp only [evU]); exact rfl)
    case hp => (first | exact True.intro | ((and_intros <;> first | exact True.intro | omega | assumption | (intro hq; first | omega | (rw [hq]; rfl) | (simp; done) | (simp [hq]; done) | (intro hq2; first | (rw [hq, hq2]; rfl) | (simp [hq, hq2]; done) | (simp_all; done))) | (simp; done) | (simp_all; done))) | (intro hg; (and_intros <;> first | exact True.intro | omega | assumption | (intro hq; first | omega | (rw [hq]; rfl) | (simp; done) | (simp [hq]; done) | (intro hq2; first | (rw [hq, hq2]; rfl) | (simp [hq, hq2]; done) | (simp_all; done))) | (simp; done) | (simp_all; done))) | (intro hg; simp at hg; (and_intros <;> first | exact True.intro | omega | assumption | (intro hq; first | omega | (rw [hq]; rfl) | (simp; done) | (simp [hq]; done) | (intro hq2; first | (rw [hq, hq2]; rfl) | (simp [hq, hq2]; done) | (simp_all; done))) | (simp; done) | (simp_all; done))))
  rw [evalL_nil]
  refine hK _ ?_
  clear hK K
  simp only [evU, St.keep, List.map_cons, look, reduceIte, Nat.reduceEqDiff]
  try show AWP _ _ _ _ _
  repeat refine AWP.nest ?_
  first | refine AWP.seq (AWP.cond (b := _) rfl (fun hc => ?_) (fun hc => ?_)) | refine AWP.cond (b := _) rfl (fun hc => ?_) (fun hc => ?_)
  all_goals try simp only [evC] at hc
  · cases hc
  refine AWP.skip ?_
  show AWP _ _ _ _ _
  clear hc
  repeat refine AWP.nest ?_
  first | refine AWP.rs (Gf_ok F65_ok) [] [0, 1, 2, 3] (by rw [hN]; decide) fun K hK => ?_ | refine AWP.rn (Gf_ok F65_ok) [] [0, 1, 2, 3] (by rw [hN]; decide) fun K hK => ?_
  repeat
    first | apply eL | (apply eG; (case ht => exact rfl); (case hef => exact rfl))
    case e => (simp only [evB, evG, evGR, Q.evalR, boolOf, opQ, opMove, opPick, opBin, opUn, opConv, opExtract, opNil, opAlloc, opBox, opBuild, opBuildSlice, opMakeSlice, opLoad, opStore, opSlice, opFieldAddr, opField, opIndexAddr, opIndex, opLen, opMinMax, opAppend, opAppendZ, opCall, opCallF, Q.opnd, Q.opndW, Q.eval, Q.ret, Q.elems, Q.cells, Q.parts, Q.args, Q.src, Q.optInt, intOf?, placeOf, fillA, setAll, mkAgg, datas, loadSel, ofCells, pickV, binI, binS, look, Value.oneCell', normD, smallNil, KD.known, KD.agg, T, TI.z, Dat.wd, Dat.cells, Dat.nagg, AV.ren, renL, AV.renT, AV.hi, AV.hi1, Ob.isRow, Ob.inn, Ob.out, Ob.gam, Ob.data, Ob.alike, loL, Gf, Mu, Dat.flat, Dat.isV, List.contains, List.elem, Option.isSome, Nat.reduceAdd, Nat.reduceSub, Nat.reduceMul, Nat.reduceEqDiff, Nat.reduceLeDiff, Nat.reduceBEq, reduceIte, reduceCtorEq, Int.reduceLT, Int.reduceLE, Int.reduceNeg, Int.reduceEq, Int.reduceToNat, Int.reducePow, Nat.reducePow, Nat.reduceLT, IntKind.bits, hf32, e32, hf49, e49, hf52, e52, hf56, e56, hf59, e59, hf60, e60, evP, evS, toPrs_prs, toSgs_sgs, toInts_ints]; (try simp (disch := omega) only [evA]); exact rfl)
    case s => ((try simp only [evU]); exact rfl)
    case hp => (first | exact True.intro | ((and_intros <;> first | exact True.intro | omega | assumption | (intro hq; first | omega | (rw [hq]; rfl) | (simp; done) | (simp [hq]; done) | (intro hq2; first | (rw [hq, hq2]; rfl) | (simp [hq, hq2]; done) | (simp_all; done))) | (simp; done) | (simp_all; done))) | (intro hg; (and_intros <;> first | exact True.intro | omega | assumption | (intro hq; first | omega | (rw [hq]; rfl) | (simp; done) | (simp [hq]; done) | (intro hq2; first | (rw [hq, hq2]; rfl) | (simp [hq, hq2]; done) | (simp_all; done))) | (simp; done) | (simp_all; done))) | (intro hg; simp at hg; (and_intros <;> first | exact True.intro | omega | assumption | (intro hq; first | omega | (rw [hq]; rfl) | (simp; done) | (simp [hq]; done) | (intro hq2; first | (rw [hq, hq2]; rfl) | (simp [hq, hq2]; done) | (simp_all; done))) | (simp; done) | (simp_all; done))))
  rw [evalL_nil]
  refine hK _ ?_
  clear hK K
  simp only [evU, St.keep, List.map_cons, look, reduceIte, Nat.reduceEqDiff]
  try show AWP _ _ _ _ _
  have hs2 : 0 ≤ s % 60000 ∧ s % 60000 < 60000 := by omega
  generalize s % 60000 = s at hs2 ⊢
  clear hs0 hs1
  repeat refine AWP.nest ?_
  first | refine AWP.rs (Gf_ok F65_ok) [] [0, 1, 2, 3, 9] (by rw [hN]; decide) fun K hK => ?_ | refine AWP.rn (Gf_ok F65_ok) [] [0, 1, 2, 3, 9] (by rw [hN]; decide) fun K hK => ?_
  repeat
    first | apply eL | (apply eG; (case ht => exact rfl); (case hef => exact rfl))
    case e => (simp only [evB, evG, evGR, Q.evalR, boolOf, opQ, opMove, opPick, opBin, opUn, opConv, opExtract, opNil, opAlloc, opBox, opBuild, opBuildSlice, opMakeSlice, opLoad, opStore, opSlice, opFieldAddr, opField, opIndexAddr, opIndex, opLen, opMinMax, opAppend, opAppendZ, opCall, opCallF, Q.opnd, Q.opndW, Q.eval, Q.ret, Q.elems, Q.cells, Q.parts, Q.args, Q.src, Q.optInt, intOf?, placeOf, fillA, setAll, mkAgg, datas, loadSel, ofCells, pickV, binI, binS, look, Value.oneCell', normD, smallNil, KD.known, KD.agg, T, TI.z, Dat.wd, Dat.cells, Dat.nagg, AV.ren, renL, AV.renT, AV.hi, AV.hi1, Ob.isRow, Ob.inn, Ob.out, Ob.gam, Ob.data, Ob.alike, loL, Gf, Mu, Dat.flat, Dat.isV, List.contains, List.elem, Option.isSome, Nat.reduceAdd, Nat.reduceSub, Nat.reduceMul, Nat.reduceEqDiff, Nat.reduceLeDiff, Nat.reduceBEq, reduceIte, reduceCtorEq, Int.reduceLT, Int.reduceLE, Int.reduceNeg, Int.reduceEq, Int.reduceToNat, Int.reducePow, Nat.reducePow, Nat.reduceLT, IntKind.bits, hf32, e32, hf49, e49, hf52, e52, hf56, e56, hf59, e59, hf60, e60, evP, evS, toPrs_prs, toSgs_sgs, toInts_ints]; (try simp (disch := omega) only [evA]); exact rfl)
    case s => ((try simp only [evU]); exact rfl)
    case hp => (first | exact True.intro | ((and_intros <;> first | exact True.intro | omega | assumption | (intro hq; first | omega | (rw [hq]; rfl) | (simp; done) | (simp [hq]; done) | (intro hq2; first | (rw [hq, hq2]; rfl) | (simp [hq, hq2]; done) | (simp_all; done))) | (simp; done) | (simp_all; done))) | (intro hg; (and_intros <;> first | exact True.intro | omega | assumption | (intro hq; first | omega | (rw [hq]; rfl) | (simp; done) | (simp [hq]; done) | (intro hq2; first | (rw [hq, hq2]; rfl) | (simp [hq, hq2]; done) | (simp_all; done))) | (simp; done) | (simp_all; done))) | (intro hg; simp at hg; (and_intros <;> first | exact True.intro | omega | assumption | (intro hq; first | omega | (rw [hq]; rfl) | (simp; done) | (simp [hq]; done) | (intro hq2; first | (rw [hq, hq2]; rfl) | (simp [hq, hq2]; done) | (simp_all; done))) | (simp; done) | (simp_all; done))))
  rw [evalL_nil]
  refine hK _ ?_
  clear hK K
  simp only [evU, St.keep, List.map_cons, look, reduceIte, Nat.reduceEqDiff]
  try show AWP _ _ _ _ _
  obtain ⟨n, hn⟩ : ∃ n : Nat, minI (gs.length : Int) 20 = n := ⟨(minI (gs.length : Int) 20).toNat, by unfold minI; split <;> omega⟩
  rw [hn]
  have hn20 : n ≤ 20 ∧ n ≤ gs.length ∧ (0 < gs.length → 0 < n) := by
    unfold minI at hn
    split at hn <;> omega
  clear hn
  repeat refine AWP.nest ?_
  first | refine AWP.rs (Gf_ok F65_ok) [] [0, 1, 2, 3, 9, 27] (by rw [hN]; decide) fun K hK => ?_ | refine AWP.rn (Gf_ok F65_ok) [] [0, 1, 2, 3, 9, 27] (by rw [hN]; decide) fun K hK => ?_
  repeat
    first | apply eL | (apply eG; (case ht => exact rfl); (case hef => exact rfl))
    case e => (simp only [evB, evG, evGR, Q.evalR, boolOf, opQ, opMove, opPick, opBin, opUn, opConv, opExtract, opNil, opAlloc, opBox, opBuild, opBuildSlice, opMakeSlice, opLoad, opStore, opSlice, opFieldAddr, opField, opIndexAddr, opIndex, opLen, opMinMax, opAppend, opAppendZ, opCall, opCallF, Q.opnd, Q.opndW, Q.eval, Q.ret, Q.elems, Q.cells, Q.parts, Q.args, Q.src, Q.optInt, intOf?, placeOf, fillA, setAll, mkAgg, datas, loadSel, ofCells, pickV, binI, binS, look, Value.oneCell', normD, smallNil, KD.known, KD.agg, T, TI.z, Dat.wd, Dat.cells, Dat.nagg, AV.ren, renL, AV.renT, AV.hi, AV.hi1, Ob.isRow, Ob.inn, Ob.out, Ob.gam, Ob.data, Ob.alike, loL, Gf, Mu, Dat.flat, Dat.isV, List.contains, List.elem, Option.isSome, Nat.reduceAdd, Nat.reduceSub, Nat.reduceMul, Nat.reduceEqDiff, Nat.reduceLeDiff, Nat.reduceBEq, reduceIte, reduceCtorEq, Int.reduceLT, Int.reduceLE, Int.reduceNeg, Int.reduceEq, Int.reduceToNat, Int.reducePow, Nat.reducePow, Nat.reduceLT, IntKind.bits, hf32, e32, hf49, e49, hf52, e52, hf56, e56, hf59, e59, hf60, e60, evP, evS, toPrs_prs, toSgs_sgs, toInts_ints]; (try simp (disch := omega) only [evA]); exact rfl)
    case s => ((try simp only [evU]); exact rfl)
    case hp => (first | exact True.intro | ((and_intros <;> first | exact True.intro | omega | assumption | (intro hq; first | omega | (rw [hq]; rfl) | (simp; done) | (simp [hq]; done) | (intro hq2; first | (rw [hq, hq2]; rfl) | (simp [hq, hq2]; done) | (simp_all; done))) | (simp; done) | (simp_all; done))) | (intro hg; (and_intros <;> first | exact True.intro | omega | assumption | (intro hq; first | omega | (rw [hq]; rfl) | (simp; done) | (simp [hq]; done) | (intro hq2; first | (rw [hq, hq2]; rfl) | (simp [hq, hq2]; done) | (simp_all; done))) | (simp; done) | (simp_all; done))) | (intro hg; simp at hg; (and_intros <;> first | exact True.intro | omega | assumption | (intro hq; first | omega | (rw [hq]; rfl) | (simp; done) | (simp [hq]; done) | (intro hq2; first | (rw [hq, hq2]; rfl) | (simp [hq, hq2]; done) | (simp_all; done))) | (simp; done) | (simp_all; done))))
  rw [evalL_nil]
  refine hK _ ?_
  clear hK K
  simp only [evU, St.keep, List.map_cons, look, reduceIte, Nat.reduceEqDiff]
  try show AWP _ _ _ _ _
  repeat refine AWP.nest ?_
  first | refine AWP.seq (AWP.cond (b := _) rfl (fun hc => ?_) (fun hc => ?_)) | refine AWP.cond (b := _) rfl (fun hc => ?_) (fun hc => ?_)
  all_goals try simp only [evC] at hc
  · repeat refine AWP.nest ?_
    first | refine AWP.rs (Gf_ok F65_ok) [] [8] (by rw [hN]; decide) fun K hK => ?_ | refine AWP.rn (Gf_ok F65_ok) [] [8] (by rw [hN]; decide) fun K hK => ?_
    repeat
      first | apply eL | (apply eG; (case ht => exact rfl); (case hef => exact rfl))
      case e => (simp only [evB, evG, evGR, Q.evalR, boolOf, opQ, opMove, opPick, opBin, opUn, opConv, opExtract, opNil, opAlloc, opBox, opBuild, opBuildSlice, opMakeSlice, opLoad, opStore, opSlice, opFieldAddr, opField, opIndexAddr, opIndex, opLen, opMinMax, opAppend, opAppendZ, opCall, opCallF, Q.opnd, Q.opndW, Q.eval, Q.ret, Q.elems, Q.cells, Q.parts, Q.args, Q.src, Q.optInt, intOf?, placeOf, fillA, setAll, mkAgg, datas, loadSel, ofCells, pickV, binI, binS, look, Value.oneCell', normD, smallNil, KD.known, KD.agg, T, TI.z, Dat.wd, Dat.cells, Dat.nagg, AV.ren, renL, AV.renT, AV.hi, AV.hi1, Ob.isRow, Ob.inn, Ob.out, Ob.gam, Ob.data, Ob.alike, loL, Gf, Mu, Dat.flat, Dat.isV, List.contains, List.elem, Option.isSome, Nat.reduceAdd, Nat.reduceSub, Nat.reduceMul, Nat.reduceEqDiff, Nat.reduceLeDiff, Nat.reduceBEq, reduceIte, reduceCtorEq, Int.reduceLT, Int.reduceLE, Int.reduceNeg, Int.reduceEq, Int.reduceToNat, Int.reducePow, Nat.reducePow, Nat.reduceLT, IntKind.bits, hf32, e32, hf49, e49, hf52, e52, hf56, e56, hf59, e59, hf60, e60, evP, evS, toPrs_prs, toSgs_sgs, toInts_ints]; (try simp (disch := omega) only [evA]); exact rfl)
      case s => ((try simp only [evU]); exact rfl)
      case hp => (first | exact True.intro | ((and_intros <;> first | exact True.intro | omega | assumption | (intro hq; first | omega | (rw [hq]; rfl) | (simp; done) | (simp [hq]; done) | (intro hq2; first | (rw [hq, hq2]; rfl) | (simp [hq, hq2]; done) | (simp_all; done))) | (simp; done) | (simp_all; done))) | (intro hg; (and_intros <;> first | exact True.intro | omega | assumption | (intro hq; first | omega | (rw [hq]; rfl) | (simp; done) | (simp [hq]; done) | (intro hq2; first | (rw [hq, hq2]; rfl) | (simp [hq, hq2]; done) | (simp_all; done))) | (simp; done) | (simp_all; done))) | (intro hg; simp at hg; (and_intros <;> first | exact True.intro | omega | assumption | (intro hq; first | omega | (rw [hq]; rfl) | (simp; done) | (simp [hq]; done) | (intro hq2; first | (rw [hq, hq2]; rfl) | (simp [hq, hq2]; done) | (simp_all; done))) | (simp; done) | (simp_all; done))))
    rw [evalL_nil]
    refine hK _ ?_
    clear hK K
    simp only [evU, St.keep, List.map_cons, look, reduceIte, Nat.reduceEqDiff]
    try show AWP _ _ _ _ _
    refine AWP.ret ?_
    refine ⟨.inl rfl, ⟨⟨_, rfl, ?_⟩, fun ob hob => by cases hob⟩⟩
    simp only [look, reduceIte, Nat.reduceEqDiff]
    exact sub1_of rfl
  refine AWP.skip ?_
  show AWP _ _ _ _ _
  have hn0 : 0 < n := by omega
  clear hc
  repeat refine AWP.nest ?_
  first | refine AWP.rs (Gf_ok F65_ok) [] [0, 1, 2, 3, 9, 10] (by rw [hN]; decide) fun K hK => ?_ | refine AWP.rn (Gf_ok F65_ok) [] [0, 1, 2, 3, 9, 10] (by rw [hN]; decide) fun K hK => ?_
  repeat
    first | apply eL | (apply eG; (case ht => exact rfl); (case hef => exact rfl))
    case e => (simp only [evB, evG, evGR, Q.evalR, boolOf, opQ, opMove, opPick, opBin, opUn, opConv, opExtract, opNil, opAlloc, opBox, opBuild, opBuildSlice, opMakeSlice, opLoad, opStore, opSlice, opFieldAddr, opField, opIndexAddr, opIndex, opLen, opMinMax, opAppend, opAppendZ, opCall, opCallF, Q.opnd, Q.opndW, Q.eval, Q.ret, Q.elems, Q.cells, Q.parts, Q.args, Q.src, Q.optInt, intOf?, placeOf, fillA, setAll, mkAgg, datas, loadSel, ofCells, pickV, binI, binS, look, Value.oneCell', normD, smallNil, KD.known, KD.agg, T, TI.z, Dat.wd, Dat.cells, Dat.nagg, AV.ren, renL, AV.renT, AV.hi, AV.hi1, Ob.isRow, Ob.inn, Ob.out, Ob.gam, Ob.data, Ob.alike, loL, Gf, Mu, Dat.flat, Dat.isV, List.contains, List.elem, Option.isSome, Nat.reduceAdd, Nat.reduceSub, Nat.reduceMul, Nat.reduceEqDiff, Nat.reduceLeDiff, Nat.reduceBEq, reduceIte, reduceCtorEq, Int.reduceLT, Int.reduceLE, Int.reduceNeg, Int.reduceEq, Int.reduceToNat, Int.reducePow, Nat.reducePow, Nat.reduceLT, IntKind.bits, hf32, e32, hf49, e49, hf52, e52, hf56, e56, hf59, e59, hf60, e60, evP, evS, toPrs_prs, toSgs_sgs, toInts_ints]; (try simp (disch := omega) only [evA]); exact rfl)
    case s => ((try simp only [evU]); exact rfl)
    case hp => (first | exact True.intro | ((and_intros <;> first | exact True.intro | omega | assumption | (intro hq; first | omega | (rw [hq]; rfl) | (simp; done) | (simp [hq]; done) | (intro hq2; first | (rw [hq, hq2]; rfl) | (simp [hq, hq2]; done) | (simp_all; done))) | (simp; done) | (simp_all; done))) | (intro hg; (and_intros <;> first | exact True.intro | omega | assumption | (intro hq; first | omega | (rw [hq]; rfl) | (simp; done) | (simp [hq]; done) | (intro hq2; first | (rw [hq, hq2]; rfl) | (simp [hq, hq2]; done) | (simp_all; done))) | (simp; done) | (simp_all; done))) | (intro hg; simp at hg; (and_intros <;> first | exact True.intro | omega | assumption | (intro hq; first | omega | (rw [hq]; rfl) | (simp; done) | (simp [hq]; done) | (intro hq2; first | (rw [hq, hq2]; rfl) | (simp [hq, hq2]; done) | (simp_all; done))) | (simp; done) | (simp_all; done))))
  rw [evalL_nil]
  refine hK _ ?_
  clear hK K
  simp only [evU, St.keep, List.map_cons, look, reduceIte, Nat.reduceEqDiff]
  try show AWP _ _ _ _ _
  have hsr : srch 2 = [0, 4, 0, 1, 0, 0] := by decide
  have hge : ((s + (n : Int) - 1) : Int) ≤ 60020 := by omega
  repeat refine AWP.nest ?_
  first | refine AWP.rs (Gf_ok F65_ok) [] [0, 1, 2, 3, 9, 10, 11] (by rw [hN]; decide) fun K hK => ?_ | refine AWP.rn (Gf_ok F65_ok) [] [0, 1, 2, 3, 9, 10, 11] (by rw [hN]; decide) fun K hK => ?_
  repeat
    first | apply eL | (apply eG; (case ht => exact rfl); (case hef => exact rfl))
    case e => (simp (maxSteps := 3000000) only [evB, evG, evGR, Q.evalR, boolOf, opQ, opMove, opPick, opBin, opUn, opConv, opExtract, opNil, opAlloc, opBox, opBuild, opBuildSlice, opMakeSlice, opLoad, opStore, opSlice, opFieldAddr, opField, opIndexAddr, opIndex, opLen, opMinMax, opAppend, opAppendZ, opCall, opCallF, Q.opnd, Q.opndW, Q.eval, Q.ret, Q.elems, Q.cells, Q.parts, Q.args, Q.src, Q.optInt, intOf?, placeOf, fillA, setAll, mkAgg, datas, loadSel, ofCells, pickV, binI, binS, look, Value.oneCell', normD, smallNil, KD.known, KD.agg, T, TI.z, Dat.wd, Dat.cells, Dat.nagg, AV.ren, renL, AV.renT, AV.hi, AV.hi1, Ob.isRow, Ob.inn, Ob.out, Ob.gam, Ob.data, Ob.alike, loL, Gf, Mu, Dat.flat, Dat.isV, List.contains, List.elem, Option.isSome, Nat.reduceAdd, Nat.reduceSub, Nat.reduceMul, Nat.reduceEqDiff, Nat.reduceLeDiff, Nat.reduceBEq, reduceIte, reduceCtorEq, Int.reduceLT, Int.reduceLE, Int.reduceNeg, Int.reduceEq, Int.reduceToNat, Int.reducePow, Nat.reducePow, Nat.reduceLT, IntKind.bits, hf32, e32, hf49, e49, hf52, e52, hf56, e56, hf59, e59, hf60, e60, evP, evS, toPrs_prs, toSgs_sgs, toInts_ints, Int.reduceDiv, Int.reduceMod, hsr]; (try simp (disch := omega) only [evA]); exact rfl)
    case s => ((try simp only [evU]); exact rfl)
    case hp => (first | exact True.intro | ((and_intros <;> first | exact True.intro | omega | assumption | (intro hq; first | omega | (rw [hq]; rfl) | (simp; done) | (simp [hq]; done) | (intro hq2; first | (rw [hq, hq2]; rfl) | (simp [hq, hq2]; done) | (simp_all; done))) | (simp; done) | (simp_all; done))) | (intro hg; (and_intros <;> first | exact True.intro | omega | assumption | (intro hq; first | omega | (rw [hq]; rfl) | (simp; done) | (simp [hq]; done) | (intro hq2; first | (rw [hq, hq2]; rfl) | (simp [hq, hq2]; done) | (simp_all; done))) | (simp; done) | (simp_all; done))) | (intro hg; simp at hg; (and_intros <;> first | exact True.intro | omega | assumption | (intro hq; first | omega | (rw [hq]; rfl) | (simp; done) | (simp [hq]; done) | (intro hq2; first | (rw [hq, hq2]; rfl) | (simp [hq, hq2]; done) | (simp_all; done))) | (simp; done) | (simp_all; done))))
  rw [evalL_nil]
  refine hK _ ?_
  clear hK K
  simp only [evU, St.keep, List.map_cons, look, reduceIte, Nat.reduceEqDiff]
  try show AWP _ _ _ _ _
  refine AWP.tell 11 rfl (sub1_of (b := .d true (.sl 1 (ints .u8 (enc2 (wO0 n s (s + (n : Int) - 1) d))))) rfl) ?_
  refine AWP.keep [0, 1, 2, 3, 9, 10, 11] ?_
  simp only [St.keep, List.map_cons, List.map_nil, look, reduceIte, Nat.reduceEqDiff]
  clear hsr hge
  obtain ⟨G, hG⟩ : ∃ G, gs.take n = G := ⟨_, rfl⟩
  have hGl : G.length = n := by rw [← hG, List.length_take]; omega
  have hGw : W16 G := fun x hx => hg x (List.mem_of_mem_take (by rw [hG]; exact hx))
  repeat refine AWP.nest ?_
  first | refine AWP.rs (Gf_ok F65_ok) [] [0, 1, 2, 3, 9, 10, 11, 59, 60, 61] (by rw [hN]; decide) fun K hK => ?_ | refine AWP.rn (Gf_ok F65_ok) [] [0, 1, 2, 3, 9, 10, 11, 59, 60, 61] (by rw [hN]; decide) fun K hK => ?_
  repeat
    first | apply eL | (apply eG; (case ht => exact rfl); (case hef => exact rfl))
    case e => (simp only [evB, evG, evGR, Q.evalR, boolOf, opQ, opMove, opPick, opBin, opUn, opConv, opExtract, opNil, opAlloc, opBox, opBuild, opBuildSlice, opMakeSlice, opLoad, opStore, opSlice, opFieldAddr, opField, opIndexAddr, opIndex, opLen, opMinMax, opAppend, opAppendZ, opCall, opCallF, Q.opnd, Q.opndW, Q.eval, Q.ret, Q.elems, Q.cells, Q.parts, Q.args, Q.src, Q.optInt, intOf?, placeOf, fillA, setAll, mkAgg, datas, loadSel, ofCells, pickV, binI, binS, look, Value.oneCell', normD, smallNil, KD.known, KD.agg, T, TI.z, Dat.wd, Dat.cells, Dat.nagg, AV.ren, renL, AV.renT, AV.hi, AV.hi1, Ob.isRow, Ob.inn, Ob.out, Ob.gam, Ob.data, Ob.alike, loL, Gf, Mu, Dat.flat, Dat.isV, List.contains, List.elem, Option.isSome, Nat.reduceAdd, Nat.reduceSub, Nat.reduceMul, Nat.reduceEqDiff, Nat.reduceLeDiff, Nat.reduceBEq, reduceIte, reduceCtorEq, Int.reduceLT, Int.reduceLE, Int.reduceNeg, Int.reduceEq, Int.reduceToNat, Int.reducePow, Nat.reducePow, Nat.reduceLT, IntKind.bits, hf32, e32, hf49, e49, hf52, e52, hf56, e56, hf59, e59, hf60, e60, evP, evS, toPrs_prs, toSgs_sgs, toInts_ints, Int.toNat_natCast, Nat.sub_zero, hG, hGl]; (try simp (disch := omega) only [evA]); exact rfl)
    case s => ((try simp only [evU]); exact rfl)
    case hp => (first | exact True.intro | ((and_intros <;> first | exact True.intro | omega | assumption | (intro hq; first | omega | (rw [hq]; rfl) | (simp; done) | (simp [hq]; done) | (intro hq2; first | (rw [hq, hq2]; rfl) | (simp [hq, hq2]; done) | (simp_all; done))) | (simp; done) | (simp_all; done))) | (intro hg; (and_intros <;> first | exact True.intro | omega | assumption | (intro hq; first | omega | (rw [hq]; rfl) | (simp; done) | (simp [hq]; done) | (intro hq2; first | (rw [hq, hq2]; rfl) | (simp [hq, hq2]; done) | (simp_all; done))) | (simp; done) | (simp_all; done))) | (intro hg; simp at hg; (and_intros <;> first | exact True.intro | omega | assumption | (intro hq; first | omega | (rw [hq]; rfl) | (simp; done) | (simp [hq]; done) | (intro hq2; first | (rw [hq, hq2]; rfl) | (simp [hq, hq2]; done) | (simp_all; done))) | (simp; done) | (simp_all; done))))
  rw [evalL_nil]
  refine hK _ ?_
  clear hK K
  simp only [evU, St.keep, List.map_cons, look, reduceIte, Nat.reduceEqDiff]
  try show AWP _ _ _ _ _
  repeat refine AWP.nest ?_
  first | refine AWP.seq (AWP.block ?_) | refine AWP.block ?_
  refine AWP.loop (fun k st => ∃ (j : Nat), j ≤ n ∧ k = n - j ∧ st = ⟨[(0, .d true (.v (.int .u16 s))), (1, .d false (.sl 1 (ints .u16 gs))), (2, .d true (.v (.int .u16 d))), (3, .d true (.v (.int .u16 c))), (9, .d true (.v (.int .i64 (n : Int)))), (10, .d true (.v (.int .i64 (s + (n : Int) - 1)))), (11, .d true (.sl 1 (ints .u8 (enc2 (wO0 n s (s + (n : Int) - 1) d ++ G.take j))))), (59, .d false (.sl 1 (ints .u16 G))), (60, .d true (.v (.int .i64 (n : Int)))), (61, .d true (.v (.int .i64 (j : Int))))], []⟩) (n) ?_ ?_
  · exact ⟨0, Nat.zero_le _, rfl, by rw [List.take_zero, List.append_nil]; rfl⟩
  rintro k st ⟨j, hj, hk, rfl⟩
  repeat refine AWP.nest ?_
  first | refine AWP.rs (Gf_ok F65_ok) [] [0, 1, 2, 3, 9, 10, 11, 59, 60, 61, 62] (by rw [hN]; decide) fun K hK => ?_ | refine AWP.rn (Gf_ok F65_ok) [] [0, 1, 2, 3, 9, 10, 11, 59, 60, 61, 62] (by rw [hN]; decide) fun K hK => ?_
  repeat
    first | apply eL | (apply eG; (case ht => exact rfl); (case hef => exact rfl))
    case e => (simp only [evB, evG, evGR, Q.evalR, boolOf, opQ, opMove, opPick, opBin, opUn, opConv, opExtract, opNil, opAlloc, opBox, opBuild, opBuildSlice, opMakeSlice, opLoad, opStore, opSlice, opFieldAddr, opField, opIndexAddr, opIndex, opLen, opMinMax, opAppend, opAppendZ, opCall, opCallF, Q.opnd, Q.opndW, Q.eval, Q.ret, Q.elems, Q.cells, Q.parts, Q.args, Q.src, Q.optInt, intOf?, placeOf, fillA, setAll, mkAgg, datas, loadSel, ofCells, pickV, binI, binS, look, Value.oneCell', normD, smallNil, KD.known, KD.agg, T, TI.z, Dat.wd, Dat.cells, Dat.nagg, AV.ren, renL, AV.renT, AV.hi, AV.hi1, Ob.isRow, Ob.inn, Ob.out, Ob.gam, Ob.data, Ob.alike, loL, Gf, Mu, Dat.flat, Dat.isV, List.contains, List.elem, Option.isSome, Nat.reduceAdd, Nat.reduceSub, Nat.reduceMul, Nat.reduceEqDiff, Nat.reduceLeDiff, Nat.reduceBEq, reduceIte, reduceCtorEq, Int.reduceLT, Int.reduceLE, Int.reduceNeg, Int.reduceEq, Int.reduceToNat, Int.reducePow, Nat.reducePow, Nat.reduceLT, IntKind.bits, hf32, e32, hf49, e49, hf52, e52, hf56, e56, hf59, e59, hf60, e60, evP, evS, toPrs_prs, toSgs_sgs, toInts_ints]; (try simp (disch := omega) only [evA]); exact rfl)
    case s => ((try simp only [evU]); exact rfl)
    case hp => (first | exact True.intro | ((and_intros <;> first | exact True.intro | omega | assumption | (intro hq; first | omega | (rw [hq]; rfl) | (simp; done) | (simp [hq]; done) | (intro hq2; first | (rw [hq, hq2]; rfl) | (simp [hq, hq2]; done) | (simp_all; done))) | (simp; done) | (simp_all; done))) | (intro hg; (and_intros <;> first | exact True.intro | omega | assumption | (intro hq; first | omega | (rw [hq]; rfl) | (simp; done) | (simp [hq]; done) | (intro hq2; first | (rw [hq, hq2]; rfl) | (simp [hq, hq2]; done) | (simp_all; done))) | (simp; done) | (simp_all; done))) | (intro hg; simp at hg; (and_intros <;> first | exact True.intro | omega | assumption | (intro hq; first | omega | (rw [hq]; rfl) | (simp; done) | (simp [hq]; done) | (intro hq2; first | (rw [hq, hq2]; rfl) | (simp [hq, hq2]; done) | (simp_all; done))) | (simp; done) | (simp_all; done))))
  rw [evalL_nil]
  refine hK _ ?_
  clear hK K
  simp only [evU, St.keep, List.map_cons, look, reduceIte, Nat.reduceEqDiff]
  try show AWP _ _ _ _ _
  first | refine AWP.seq (AWP.cond (b := _) rfl (fun hc => ?_) (fun hc => ?_)) | refine AWP.cond (b := _) rfl (fun hc => ?_) (fun hc => ?_)
  rotate_left
  · refine AWP.exit ?_
    show AWP _ _ _ _ _
    simp only [evC, Int.not_lt] at hc
    obtain rfl : j = n := by omega
    clear hk hc hj
    rw [List.take_of_length_le (show G.length ≤ j by omega)]
    obtain ⟨Tb, M, eT, hM, hTb, hTl, h3, h4, h5, hmap, hgl⟩ := offs_right (n := j) (s := s) (d := d) (gs := G) hGl hn0 hn20.1 hs2.1 hs2.2 rfl hd0 hd1 hGw
    have hlook := fun x => offs_look (s := s) (e := s + (j : Int) - 1) (d := d) (T := Tb) (c := x) hs2.1 (by omega) (by omega)
    rw [← hM] at hlook
    rw [eT]
    have e3 : (if rightS Tb = true then (0 : Int) else 2) = 0 := by rw [h3]; rfl
    clear hM eT
    have ⟨m1, m2, m3⟩ := hmap
    repeat refine AWP.nest ?_
    first | refine AWP.rs (Gf_ok F65_ok) [] [0, 1, 2, 3, 9, 10, 14, 15] (by rw [hN]; decide) fun K hK => ?_ | refine AWP.rn (Gf_ok F65_ok) [] [0, 1, 2, 3, 9, 10, 14, 15] (by rw [hN]; decide) fun K hK => ?_
    repeat
      first | apply eL | (apply eG; (case ht => exact rfl); (case hef => exact rfl))
      case e => (simp only [evB, evG, evGR, Q.evalR, boolOf, opQ, opMove, opPick, opBin, opUn, opConv, opExtract, opNil, opAlloc, opBox, opBuild, opBuildSlice, opMakeSlice, opLoad, opStore, opSlice, opFieldAddr, opField, opIndexAddr, opIndex, opLen, opMinMax, opAppend, opAppendZ, opCall, opCallF, Q.opnd, Q.opndW, Q.eval, Q.ret, Q.elems, Q.cells, Q.parts, Q.args, Q.src, Q.optInt, intOf?, placeOf, fillA, setAll, mkAgg, datas, loadSel, ofCells, pickV, binI, binS, look, Value.oneCell', normD, smallNil, KD.known, KD.agg, T, TI.z, Dat.wd, Dat.cells, Dat.nagg, AV.ren, renL, AV.renT, AV.hi, AV.hi1, Ob.isRow, Ob.inn, Ob.out, Ob.gam, Ob.data, Ob.alike, loL, Gf, Mu, Dat.flat, Dat.isV, List.contains, List.elem, Option.isSome, Nat.reduceAdd, Nat.reduceSub, Nat.reduceMul, Nat.reduceEqDiff, Nat.reduceLeDiff, Nat.reduceBEq, reduceIte, reduceCtorEq, Int.reduceLT, Int.reduceLE, Int.reduceNeg, Int.reduceEq, Int.reduceToNat, Int.reducePow, Nat.reducePow, Nat.reduceLT, IntKind.bits, hf32, e32, hf49, e49, hf52, e52, hf56, e56, hf59, e59, hf60, e60, evP, evS, toPrs_prs, toSgs_sgs, toInts_ints, h4, h5, e3]; (try simp (disch := omega) only [evA]); exact rfl)
      case s => ((try simp only [evU]); exact rfl)
      case hp => (first | exact True.intro | ((and_intros <;> first | exact True.intro | omega | assumption | (intro hq; first | omega | (rw [hq]; rfl) | (simp; done) | (simp [hq]; done) | (intro hq2; first | (rw [hq, hq2]; rfl) | (simp [hq, hq2]; done) | (simp_all; done))) | (simp; done) | (simp_all; done))) | (intro hg; (and_intros <;> first | exact True.intro | omega | assumption | (intro hq; first | omega | (rw [hq]; rfl) | (simp; done) | (simp [hq]; done) | (intro hq2; first | (rw [hq, hq2]; rfl) | (simp [hq, hq2]; done) | (simp_all; done))) | (simp; done) | (simp_all; done))) | (intro hg; simp at hg; (and_intros <;> first | exact True.intro | omega | assumption | (intro hq; first | omega | (rw [hq]; rfl) | (simp; done) | (simp [hq]; done) | (intro hq2; first | (rw [hq, hq2]; rfl) | (simp [hq, hq2]; done) | (simp_all; done))) | (simp; done) | (simp_all; done))))
    rw [evalL_nil]
    refine hK _ ?_
    clear hK K
    simp only [evU, St.keep, List.map_cons, look, reduceIte, Nat.reduceEqDiff]
    try show AWP _ _ _ _ _
    repeat refine AWP.nest ?_
    first | refine AWP.rs (Gf_ok F65_ok) [] [0, 1, 2, 3, 9, 10, 14, 78] (by rw [hN]; decide) fun K hK => ?_ | refine AWP.rn (Gf_ok F65_ok) [] [0, 1, 2, 3, 9, 10, 14, 78] (by rw [hN]; decide) fun K hK => ?_
    repeat
      first | apply eL | (apply eG; (case ht => exact rfl); (case hef => exact rfl))
      case e => (simp only [evB, evG, evGR, Q.evalR, boolOf, opQ, opMove, opPick, opBin, opUn, opConv, opExtract, opNil, opAlloc, opBox, opBuild, opBuildSlice, opMakeSlice, opLoad, opStore, opSlice, opFieldAddr, opField, opIndexAddr, opIndex, opLen, opMinMax, opAppend, opAppendZ, opCall, opCallF, Q.opnd, Q.opndW, Q.eval, Q.ret, Q.elems, Q.cells, Q.parts, Q.args, Q.src, Q.optInt, intOf?, placeOf, fillA, setAll, mkAgg, datas, loadSel, ofCells, pickV, binI, binS, look, Value.oneCell', normD, smallNil, KD.known, KD.agg, T, TI.z, Dat.wd, Dat.cells, Dat.nagg, AV.ren, renL, AV.renT, AV.hi, AV.hi1, Ob.isRow, Ob.inn, Ob.out, Ob.gam, Ob.data, Ob.alike, loL, Gf, Mu, Dat.flat, Dat.isV, List.contains, List.elem, Option.isSome, Nat.reduceAdd, Nat.reduceSub, Nat.reduceMul, Nat.reduceEqDiff, Nat.reduceLeDiff, Nat.reduceBEq, reduceIte, reduceCtorEq, Int.reduceLT, Int.reduceLE, Int.reduceNeg, Int.reduceEq, Int.reduceToNat, Int.reducePow, Nat.reducePow, Nat.reduceLT, IntKind.bits, hf32, e32, hf49, e49, hf52, e52, hf56, e56, hf59, e59, hf60, e60, evP, evS, toPrs_prs, toSgs_sgs, toInts_ints]; (try simp (disch := omega) only [evA]); exact rfl)
      case s => ((try simp only [evU]); exact rfl)
      case hp => (first | exact True.intro | ((and_intros <;> first | exact True.intro | omega | assumption | (intro hq; first | omega | (rw [hq]; rfl) | (simp; done) | (simp [hq]; done) | (intro hq2; first | (rw [hq, hq2]; rfl) | (simp [hq, hq2]; done) | (simp_all; done))) | (simp; done) | (simp_all; done))) | (intro hg; (and_intros <;> first | exact True.intro | omega | assumption | (intro hq; first | omega | (rw [hq]; rfl) | (simp; done) | (simp [hq]; done) | (intro hq2; first | (rw [hq, hq2]; rfl) | (simp [hq, hq2]; done) | (simp_all; done))) | (simp; done) | (simp_all; done))) | (intro hg; simp at hg; (and_intros <;> first | exact True.intro | omega | assumption | (intro hq; first | omega | (rw [hq]; rfl) | (simp; done) | (simp [hq]; done) | (intro hq2; first | (rw [hq, hq2]; rfl) | (simp [hq, hq2]; done) | (simp_all; done))) | (simp; done) | (simp_all; done))))
    rw [evalL_nil]
    refine hK _ ?_
    clear hK K
    simp only [evU, St.keep, List.map_cons, look, reduceIte, Nat.reduceEqDiff]
    try show AWP _ _ _ _ _
    repeat refine AWP.nest ?_
    first | refine AWP.seq (AWP.cond (b := _) rfl (fun hc => ?_) (fun hc => ?_)) | refine AWP.cond (b := _) rfl (fun hc => ?_) (fun hc => ?_)
    all_goals try simp only [evC] at hc
    · exact absurd rfl hc
    refine AWP.skip ?_
    show AWP _ _ _ _ _
    clear hc
    repeat refine AWP.nest ?_
    first | refine AWP.rs (Gf_ok F65_ok) [] [0, 2, 3, 10, 14, 81, 82, 83] (by rw [hN]; decide) fun K hK => ?_ | refine AWP.rn (Gf_ok F65_ok) [] [0, 2, 3, 10, 14, 81, 82, 83] (by rw [hN]; decide) fun K hK => ?_
    repeat
      first | apply eL | (apply eG; (case ht => exact rfl); (case hef => exact rfl))
      case e => (simp only [evB, evG, evGR, Q.evalR, boolOf, opQ, opMove, opPick, opBin, opUn, opConv, opExtract, opNil, opAlloc, opBox, opBuild, opBuildSlice, opMakeSlice, opLoad, opStore, opSlice, opFieldAddr, opField, opIndexAddr, opIndex, opLen, opMinMax, opAppend, opAppendZ, opCall, opCallF, Q.opnd, Q.opndW, Q.eval, Q.ret, Q.elems, Q.cells, Q.parts, Q.args, Q.src, Q.optInt, intOf?, placeOf, fillA, setAll, mkAgg, datas, loadSel, ofCells, pickV, binI, binS, look, Value.oneCell', normD, smallNil, KD.known, KD.agg, T, TI.z, Dat.wd, Dat.cells, Dat.nagg, AV.ren, renL, AV.renT, AV.hi, AV.hi1, Ob.isRow, Ob.inn, Ob.out, Ob.gam, Ob.data, Ob.alike, loL, Gf, Mu, Dat.flat, Dat.isV, List.contains, List.elem, Option.isSome, Nat.reduceAdd, Nat.reduceSub, Nat.reduceMul, Nat.reduceEqDiff, Nat.reduceLeDiff, Nat.reduceBEq, reduceIte, reduceCtorEq, Int.reduceLT, Int.reduceLE, Int.reduceNeg, Int.reduceEq, Int.reduceToNat, Int.reducePow, Nat.reducePow, Nat.reduceLT, IntKind.bits, hf32, e32, hf49, e49, hf52, e52, hf56, e56, hf59, e59, hf60, e60, evP, evS, toPrs_prs, toSgs_sgs, toInts_ints, Int.toNat_natCast, Nat.sub_zero, hG, hGl]; (try simp (disch := omega) only [evA]); exact rfl)
      case s => ((try simp only [evU]); exact rfl)
      case hp => (first | exact True.intro | ((and_intros <;> first | exact True.intro | omega | assumption | (intro hq; first | omega | (rw [hq]; rfl) | (simp; done) | (simp [hq]; done) | (intro hq2; first | (rw [hq, hq2]; rfl) | (simp [hq, hq2]; done) | (simp_all; done))) | (simp; done) | (simp_all; done))) | (intro hg; (and_intros <;> first | exact True.intro | omega | assumption | (intro hq; first | omega | (rw [hq]; rfl) | (simp; done) | (simp [hq]; done) | (intro hq2; first | (rw [hq, hq2]; rfl) | (simp [hq, hq2]; done) | (simp_all; done))) | (simp; done) | (simp_all; done))) | (intro hg; simp at hg; (and_intros <;> first | exact True.intro | omega | assumption | (intro hq; first | omega | (rw [hq]; rfl) | (simp; done) | (simp [hq]; done) | (intro hq2; first | (rw [hq, hq2]; rfl) | (simp [hq, hq2]; done) | (simp_all; done))) | (simp; done) | (simp_all; done))))
    rw [evalL_nil]
    refine hK _ ?_
    clear hK K
    simp only [evU, St.keep, List.map_cons, look, reduceIte, Nat.reduceEqDiff]
    try show AWP _ _ _ _ _
    repeat refine AWP.nest ?_
    first | refine AWP.seq (AWP.block ?_) | refine AWP.block ?_
    refine AWP.loop (fun k st => ∃ (i : Nat), i ≤ j ∧ k = j - i ∧ st = ⟨[(0, .d true (.v (.int .u16 s))), (2, .d true (.v (.int .u16 d))), (3, .d true (.v (.int .u16 c))), (10, .d true (.v (.int .i64 (s + (j : Int) - 1)))), (14, .ptr 0 0), (81, .d false (.sl 1 (ints .u16 G))), (82, .d true (.v (.int .i64 (j : Int)))), (83, .d true (.v (.int .i64 (i : Int))))], [some (.cells 69 [.d true (.sl 4 (sgs M)), .d true (.sl 1 (ints .u8 Tb))])]⟩) (j) ?_ ?_
    · exact ⟨0, Nat.zero_le _, rfl, rfl⟩
    rintro k st ⟨i, hi, hk, rfl⟩
    repeat refine AWP.nest ?_
    first | refine AWP.rs (Gf_ok F65_ok) [] [0, 2, 3, 10, 14, 81, 82, 83, 84] (by rw [hN]; decide) fun K hK => ?_ | refine AWP.rn (Gf_ok F65_ok) [] [0, 2, 3, 10, 14, 81, 82, 83, 84] (by rw [hN]; decide) fun K hK => ?_
    repeat
      first | apply eL | (apply eG; (case ht => exact rfl); (case hef => exact rfl))
      case e => (simp only [evB, evG, evGR, Q.evalR, boolOf, opQ, opMove, opPick, opBin, opUn, opConv, opExtract, opNil, opAlloc, opBox, opBuild, opBuildSlice, opMakeSlice, opLoad, opStore, opSlice, opFieldAddr, opField, opIndexAddr, opIndex, opLen, opMinMax, opAppend, opAppendZ, opCall, opCallF, Q.opnd, Q.opndW, Q.eval, Q.ret, Q.elems, Q.cells, Q.parts, Q.args, Q.src, Q.optInt, intOf?, placeOf, fillA, setAll, mkAgg, datas, loadSel, ofCells, pickV, binI, binS, look, Value.oneCell', normD, smallNil, KD.known, KD.agg, T, TI.z, Dat.wd, Dat.cells, Dat.nagg, AV.ren, renL, AV.renT, AV.hi, AV.hi1, Ob.isRow, Ob.inn, Ob.out, Ob.gam, Ob.data, Ob.alike, loL, Gf, Mu, Dat.flat, Dat.isV, List.contains, List.elem, Option.isSome, Nat.reduceAdd, Nat.reduceSub, Nat.reduceMul, Nat.reduceEqDiff, Nat.reduceLeDiff, Nat.reduceBEq, reduceIte, reduceCtorEq, Int.reduceLT, Int.reduceLE, Int.reduceNeg, Int.reduceEq, Int.reduceToNat, Int.reducePow, Nat.reducePow, Nat.reduceLT, IntKind.bits, hf32, e32, hf49, e49, hf52, e52, hf56, e56, hf59, e59, hf60, e60, evP, evS, toPrs_prs, toSgs_sgs, toInts_ints]; (try simp (disch := omega) only [evA]); exact rfl)
      case s => ((try simp only [evU]); exact rfl)
      case hp => (first | exact True.intro | ((and_intros <;> first | exact True.intro | omega | assumption | (intro hq; first | omega | (rw [hq]; rfl) | (simp; done) | (simp [hq]; done) | (intro hq2; first | (rw [hq, hq2]; rfl) | (simp [hq, hq2]; done) | (simp_all; done))) | (simp; done) | (simp_all; done))) | (intro hg; (and_intros <;> first | exact True.intro | omega | assumption | (intro hq; first | omega | (rw [hq]; rfl) | (simp; done) | (simp [hq]; done) | (intro hq2; first | (rw [hq, hq2]; rfl) | (simp [hq, hq2]; done) | (simp_all; done))) | (simp; done) | (simp_all; done))) | (intro hg; simp at hg; (and_intros <;> first | exact True.intro | omega | assumption | (intro hq; first | omega | (rw [hq]; rfl) | (simp; done) | (simp [hq]; done) | (intro hq2; first | (rw [hq, hq2]; rfl) | (simp [hq, hq2]; done) | (simp_all; done))) | (simp; done) | (simp_all; done))))
    rw [evalL_nil]
    refine hK _ ?_
    clear hK K
    simp only [evU, St.keep, List.map_cons, look, reduceIte, Nat.reduceEqDiff]
    try show AWP _ _ _ _ _
    first | refine AWP.seq (AWP.cond (b := _) rfl (fun hc => ?_) (fun hc => ?_)) | refine AWP.cond (b := _) rfl (fun hc => ?_) (fun hc => ?_)
    rotate_left
    · refine AWP.exit ?_
      show AWP _ _ _ _ _
      simp only [evC, Int.not_lt] at hc
      have hl1 := hlook c
      by_cases hin : s ≤ c ∧ c ≤ s + (j : Int) - 1
      · clear hl1
        repeat refine AWP.nest ?_
        first | refine AWP.rs (Gf_ok F65_ok) [] [8] (by rw [hN]; decide) fun K hK => ?_ | refine AWP.rn (Gf_ok F65_ok) [] [8] (by rw [hN]; decide) fun K hK => ?_
        repeat
          first | apply eL | (apply eG; (case ht => exact rfl); (case hef => exact rfl))
          case e => (simp only [evB, evG, evGR, Q.evalR, boolOf, opQ, opMove, opPick, opBin, opUn, opConv, opExtract, opNil, opAlloc, opBox, opBuild, opBuildSlice, opMakeSlice, opLoad, opStore, opSlice, opFieldAddr, opField, opIndexAddr, opIndex, opLen, opMinMax, opAppend, opAppendZ, opCall, opCallF, Q.opnd, Q.opndW, Q.eval, Q.ret, Q.elems, Q.cells, Q.parts, Q.args, Q.src, Q.optInt, intOf?, placeOf, fillA, setAll, mkAgg, datas, loadSel, ofCells, pickV, binI, binS, look, Value.oneCell', normD, smallNil, KD.known, KD.agg, T, TI.z, Dat.wd, Dat.cells, Dat.nagg, AV.ren, renL, AV.renT, AV.hi, AV.hi1, Ob.isRow, Ob.inn, Ob.out, Ob.gam, Ob.data, Ob.alike, loL, Gf, Mu, Dat.flat, Dat.isV, List.contains, List.elem, Option.isSome, Nat.reduceAdd, Nat.reduceSub, Nat.reduceMul, Nat.reduceEqDiff, Nat.reduceLeDiff, Nat.reduceBEq, reduceIte, reduceCtorEq, Int.reduceLT, Int.reduceLE, Int.reduceNeg, Int.reduceEq, Int.reduceToNat, Int.reducePow, Nat.reducePow, Nat.reduceLT, IntKind.bits, hf32, e32, hf49, e49, hf52, e52, hf56, e56, hf59, e59, hf60, e60, evP, evS, toPrs_prs, toSgs_sgs, toInts_ints]; (try simp (disch := omega) only [evA]); exact rfl)
          case s => ((try simp only [evU]); exact rfl)
          case hp => (first | exact True.intro | ((and_intros <;> first | exact True.intro | omega | assumption | (intro hq; first | omega | (rw [hq]; rfl) | (simp; done) | (simp [hq]; done) | (intro hq2; first | (rw [hq, hq2]; rfl) | (simp [hq, hq2]; done) | (simp_all; done))) | (simp; done) | (simp_all; done))) | (intro hg; (and_intros <;> first | exact True.intro | omega | assumption | (intro hq; first | omega | (rw [hq]; rfl) | (simp; done) | (simp [hq]; done) | (intro hq2; first | (rw [hq, hq2]; rfl) | (simp [hq, hq2]; done) | (simp_all; done))) | (simp; done) | (simp_all; done))) | (intro hg; simp at hg; (and_intros <;> first | exact True.intro | omega | assumption | (intro hq; first | omega | (rw [hq]; rfl) | (simp; done) | (simp [hq]; done) | (intro hq2; first | (rw [hq, hq2]; rfl) | (simp [hq, hq2]; done) | (simp_all; done))) | (simp; done) | (simp_all; done))))
        rw [evalL_nil]
        refine hK _ ?_
        clear hK K
        simp only [evU, St.keep, List.map_cons, look, reduceIte, Nat.reduceEqDiff]
        try show AWP _ _ _ _ _
        refine AWP.ret ?_
        refine ⟨.inl rfl, ⟨⟨_, rfl, ?_⟩, fun ob hob => by cases hob⟩⟩
        simp only [look, reduceIte, Nat.reduceEqDiff]
        refine sub1_of ?_
        simp [hin.1, hin.2]
      · rw [if_neg hin] at hl1
        repeat refine AWP.nest ?_
        first | refine AWP.rs (Gf_ok F65_ok) [] [8] (by rw [hN]; decide) fun K hK => ?_ | refine AWP.rn (Gf_ok F65_ok) [] [8] (by rw [hN]; decide) fun K hK => ?_
        repeat
          first | apply eL | (apply eG; (case ht => exact rfl); (case hef => exact rfl))
          case e => (simp only [evB, evG, evGR, Q.evalR, boolOf, opQ, opMove, opPick, opBin, opUn, opConv, opExtract, opNil, opAlloc, opBox, opBuild, opBuildSlice, opMakeSlice, opLoad, opStore, opSlice, opFieldAddr, opField, opIndexAddr, opIndex, opLen, opMinMax, opAppend, opAppendZ, opCall, opCallF, Q.opnd, Q.opndW, Q.eval, Q.ret, Q.elems, Q.cells, Q.parts, Q.args, Q.src, Q.optInt, intOf?, placeOf, fillA, setAll, mkAgg, datas, loadSel, ofCells, pickV, binI, binS, look, Value.oneCell', normD, smallNil, KD.known, KD.agg, T, TI.z, Dat.wd, Dat.cells, Dat.nagg, AV.ren, renL, AV.renT, AV.hi, AV.hi1, Ob.isRow, Ob.inn, Ob.out, Ob.gam, Ob.data, Ob.alike, loL, Gf, Mu, Dat.flat, Dat.isV, List.contains, List.elem, Option.isSome, Nat.reduceAdd, Nat.reduceSub, Nat.reduceMul, Nat.reduceEqDiff, Nat.reduceLeDiff, Nat.reduceBEq, reduceIte, reduceCtorEq, Int.reduceLT, Int.reduceLE, Int.reduceNeg, Int.reduceEq, Int.reduceToNat, Int.reducePow, Nat.reducePow, Nat.reduceLT, IntKind.bits, hf32, e32, hf49, e49, hf52, e52, hf56, e56, hf59, e59, hf60, e60, evP, evS, toPrs_prs, toSgs_sgs, toInts_ints, hl1]; (try simp (disch := omega) only [evA]); exact rfl)
          case s => ((try simp only [evU]); exact rfl)
          case hp => (first | exact True.intro | ((and_intros <;> first | exact True.intro | omega | assumption | (intro hq; first | omega | (rw [hq]; rfl) | (simp; done) | (simp [hq]; done) | (intro hq2; first | (rw [hq, hq2]; rfl) | (simp [hq, hq2]; done) | (simp_all; done))) | (simp; done) | (simp_all; done))) | (intro hg; (and_intros <;> first | exact True.intro | omega | assumption | (intro hq; first | omega | (rw [hq]; rfl) | (simp; done) | (simp [hq]; done) | (intro hq2; first | (rw [hq, hq2]; rfl) | (simp [hq, hq2]; done) | (simp_all; done))) | (simp; done) | (simp_all; done))) | (intro hg; simp at hg; (and_intros <;> first | exact True.intro | omega | assumption | (intro hq; first | omega | (rw [hq]; rfl) | (simp; done) | (simp [hq]; done) | (intro hq2; first | (rw [hq, hq2]; rfl) | (simp [hq, hq2]; done) | (simp_all; done))) | (simp; done) | (simp_all; done))))
        rw [evalL_nil]
        refine hK _ ?_
        clear hK K
        simp only [evU, St.keep, List.map_cons, look, reduceIte, Nat.reduceEqDiff]
        try show AWP _ _ _ _ _
        refine AWP.ret ?_
        refine ⟨.inl rfl, ⟨⟨_, rfl, ?_⟩, fun ob hob => by cases hob⟩⟩
        simp only [look, reduceIte, Nat.reduceEqDiff]
        refine sub1_of ?_
        simp
    simp only [evC, Int.not_lt] at hc
    refine AWP.skip ?_
    show AWP _ _ _ _ _
    have hi' := hc
    clear hc
    have hgi := hGw.getD i
    have hl1 := hlook (s + (i : Int))
    rw [if_pos (by omega), show s + (i : Int) - s = i by omega, hgl i hi'] at hl1
    repeat refine AWP.nest ?_
    first | refine AWP.seq (AWP.block ?_) | refine AWP.block ?_
    repeat refine AWP.nest ?_
    first | refine AWP.rs (Gf_ok F65_ok) [] [0, 2, 3, 10, 14, 16, 17, 81, 82, 83] (by rw [hN]; decide) fun K hK => ?_ | refine AWP.rn (Gf_ok F65_ok) [] [0, 2, 3, 10, 14, 16, 17, 81, 82, 83] (by rw [hN]; decide) fun K hK => ?_
    repeat
      first | apply eL | (apply eG; (case ht => exact rfl); (case hef => exact rfl))
      case e => (simp only [evB, evG, evGR, Q.evalR, boolOf, opQ, opMove, opPick, opBin, opUn, opConv, opExtract, opNil, opAlloc, opBox, opBuild, opBuildSlice, opMakeSlice, opLoad, opStore, opSlice, opFieldAddr, opField, opIndexAddr, opIndex, opLen, opMinMax, opAppend, opAppendZ, opCall, opCallF, Q.opnd, Q.opndW, Q.eval, Q.ret, Q.elems, Q.cells, Q.parts, Q.args, Q.src, Q.optInt, intOf?, placeOf, fillA, setAll, mkAgg, datas, loadSel, ofCells, pickV, binI, binS, look, Value.oneCell', normD, smallNil, KD.known, KD.agg, T, TI.z, Dat.wd, Dat.cells, Dat.nagg, AV.ren, renL, AV.renT, AV.hi, AV.hi1, Ob.isRow, Ob.inn, Ob.out, Ob.gam, Ob.data, Ob.alike, loL, Gf, Mu, Dat.flat, Dat.isV, List.contains, List.elem, Option.isSome, Nat.reduceAdd, Nat.reduceSub, Nat.reduceMul, Nat.reduceEqDiff, Nat.reduceLeDiff, Nat.reduceBEq, reduceIte, reduceCtorEq, Int.reduceLT, Int.reduceLE, Int.reduceNeg, Int.reduceEq, Int.reduceToNat, Int.reducePow, Nat.reducePow, Nat.reduceLT, IntKind.bits, hf32, e32, hf49, e49, hf52, e52, hf56, e56, hf59, e59, hf60, e60, evP, evS, toPrs_prs, toSgs_sgs, toInts_ints]; (try simp (disch := omega) only [evA]); exact rfl)
      case s => ((try simp only [evU]); exact rfl)
      case hp => (first | exact True.intro | ((and_intros <;> first | exact True.intro | omega | assumption | (intro hq; first | omega | (rw [hq]; rfl) | (simp; done) | (simp [hq]; done) | (intro hq2; first | (rw [hq, hq2]; rfl) | (simp [hq, hq2]; done) | (simp_all; done))) | (simp; done) | (simp_all; done))) | (intro hg; (and_intros <;> first | exact True.intro | omega | assumption | (intro hq; first | omega | (rw [hq]; rfl) | (simp; done) | (simp [hq]; done) | (intro hq2; first | (rw [hq, hq2]; rfl) | (simp [hq, hq2]; done) | (simp_all; done))) | (simp; done) | (simp_all; done))) | (intro hg; simp at hg; (and_intros <;> first | exact True.intro | omega | assumption | (intro hq; first | omega | (rw [hq]; rfl) | (simp; done) | (simp [hq]; done) | (intro hq2; first | (rw [hq, hq2]; rfl) | (simp [hq, hq2]; done) | (simp_all; done))) | (simp; done) | (simp_all; done))))
    rw [evalL_nil]
    refine hK _ ?_
    clear hK K
    simp only [evU, St.keep, List.map_cons, look, reduceIte, Nat.reduceEqDiff]
    try show AWP _ _ _ _ _
    generalize G.getD i 0 = g at hgi hl1 ⊢
    repeat refine AWP.nest ?_
    first | refine AWP.rs (Gf_ok F65_ok) [] [0, 2, 3, 10, 14, 16, 17, 18, 81, 82, 83] (by rw [hN]; decide) fun K hK => ?_ | refine AWP.rn (Gf_ok F65_ok) [] [0, 2, 3, 10, 14, 16, 17, 18, 81, 82, 83] (by rw [hN]; decide) fun K hK => ?_
    repeat
      first | apply eL | (apply eG; (case ht => exact rfl); (case hef => exact rfl))
      case e => (simp only [evB, evG, evGR, Q.evalR, boolOf, opQ, opMove, opPick, opBin, opUn, opConv, opExtract, opNil, opAlloc, opBox, opBuild, opBuildSlice, opMakeSlice, opLoad, opStore, opSlice, opFieldAddr, opField, opIndexAddr, opIndex, opLen, opMinMax, opAppend, opAppendZ, opCall, opCallF, Q.opnd, Q.opndW, Q.eval, Q.ret, Q.elems, Q.cells, Q.parts, Q.args, Q.src, Q.optInt, intOf?, placeOf, fillA, setAll, mkAgg, datas, loadSel, ofCells, pickV, binI, binS, look, Value.oneCell', normD, smallNil, KD.known, KD.agg, T, TI.z, Dat.wd, Dat.cells, Dat.nagg, AV.ren, renL, AV.renT, AV.hi, AV.hi1, Ob.isRow, Ob.inn, Ob.out, Ob.gam, Ob.data, Ob.alike, loL, Gf, Mu, Dat.flat, Dat.isV, List.contains, List.elem, Option.isSome, Nat.reduceAdd, Nat.reduceSub, Nat.reduceMul, Nat.reduceEqDiff, Nat.reduceLeDiff, Nat.reduceBEq, reduceIte, reduceCtorEq, Int.reduceLT, Int.reduceLE, Int.reduceNeg, Int.reduceEq, Int.reduceToNat, Int.reducePow, Nat.reducePow, Nat.reduceLT, IntKind.bits, hf32, e32, hf49, e49, hf52, e52, hf56, e56, hf59, e59, hf60, e60, evP, evS, toPrs_prs, toSgs_sgs, toInts_ints]; (try simp (disch := omega) only [evA]); exact rfl)
      case s => ((try simp only [evU]); exact rfl)
      case hp => (first | exact True.intro | ((and_intros <;> first | exact True.intro | omega | assumption | (intro hq; first | omega | (rw [hq]; rfl) | (simp; done) | (simp [hq]; done) | (intro hq2; first | (rw [hq, hq2]; rfl) | (simp [hq, hq2]; done) | (simp_all; done))) | (simp; done) | (simp_all; done))) | (intro hg; (and_intros <;> first | exact True.intro | omega | assumption | (intro hq; first | omega | (rw [hq]; rfl) | (simp; done) | (simp [hq]; done) | (intro hq2; first | (rw [hq, hq2]; rfl) | (simp [hq, hq2]; done) | (simp_all; done))) | (simp; done) | (simp_all; done))) | (intro hg; simp at hg; (and_intros <;> first | exact True.intro | omega | assumption | (intro hq; first | omega | (rw [hq]; rfl) | (simp; done) | (simp [hq]; done) | (intro hq2; first | (rw [hq, hq2]; rfl) | (simp [hq, hq2]; done) | (simp_all; done))) | (simp; done) | (simp_all; done))))
    rw [evalL_nil]
    refine hK _ ?_
    clear hK K
    simp only [evU, St.keep, List.map_cons, look, reduceIte, Nat.reduceEqDiff]
    try show AWP _ _ _ _ _
    repeat refine AWP.nest ?_
    first | refine AWP.rs (Gf_ok F65_ok) [] [0, 2, 3, 10, 14, 16, 18, 81, 82, 83, 92] (by rw [hN]; decide) fun K hK => ?_ | refine AWP.rn (Gf_ok F65_ok) [] [0, 2, 3, 10, 14, 16, 18, 81, 82, 83, 92] (by rw [hN]; decide) fun K hK => ?_
    repeat
      first | apply eL | (apply eG; (case ht => exact rfl); (case hef => exact rfl))
      case e => (simp only [evB, evG, evGR, Q.evalR, boolOf, opQ, opMove, opPick, opBin, opUn, opConv, opExtract, opNil, opAlloc, opBox, opBuild, opBuildSlice, opMakeSlice, opLoad, opStore, opSlice, opFieldAddr, opField, opIndexAddr, opIndex, opLen, opMinMax, opAppend, opAppendZ, opCall, opCallF, Q.opnd, Q.opndW, Q.eval, Q.ret, Q.elems, Q.cells, Q.parts, Q.args, Q.src, Q.optInt, intOf?, placeOf, fillA, setAll, mkAgg, datas, loadSel, ofCells, pickV, binI, binS, look, Value.oneCell', normD, smallNil, KD.known, KD.agg, T, TI.z, Dat.wd, Dat.cells, Dat.nagg, AV.ren, renL, AV.renT, AV.hi, AV.hi1, Ob.isRow, Ob.inn, Ob.out, Ob.gam, Ob.data, Ob.alike, loL, Gf, Mu, Dat.flat, Dat.isV, List.contains, List.elem, Option.isSome, Nat.reduceAdd, Nat.reduceSub, Nat.reduceMul, Nat.reduceEqDiff, Nat.reduceLeDiff, Nat.reduceBEq, reduceIte, reduceCtorEq, Int.reduceLT, Int.reduceLE, Int.reduceNeg, Int.reduceEq, Int.reduceToNat, Int.reducePow, Nat.reducePow, Nat.reduceLT, IntKind.bits, hf32, e32, hf49, e49, hf52, e52, hf56, e56, hf59, e59, hf60, e60, evP, evS, toPrs_prs, toSgs_sgs, toInts_ints]; (try simp (disch := omega) only [evA]); exact rfl)
      case s => ((try simp only [evU]); exact rfl)
      case hp => (first | exact True.intro | ((and_intros <;> first | exact True.intro | omega | assumption | (intro hq; first | omega | (rw [hq]; rfl) | (simp; done) | (simp [hq]; done) | (intro hq2; first | (rw [hq, hq2]; rfl) | (simp [hq, hq2]; done) | (simp_all; done))) | (simp; done) | (simp_all; done))) | (intro hg; (and_intros <;> first | exact True.intro | omega | assumption | (intro hq; first | omega | (rw [hq]; rfl) | (simp; done) | (simp [hq]; done) | (intro hq2; first | (rw [hq, hq2]; rfl) | (simp [hq, hq2]; done) | (simp_all; done))) | (simp; done) | (simp_all; done))) | (intro hg; simp at hg; (and_intros <;> first | exact True.intro | omega | assumption | (intro hq; first | omega | (rw [hq]; rfl) | (simp; done) | (simp [hq]; done) | (intro hq2; first | (rw [hq, hq2]; rfl) | (simp [hq, hq2]; done) | (simp_all; done))) | (simp; done) | (simp_all; done))))
    rw [evalL_nil]
    refine hK _ ?_
    clear hK K
    simp only [evU, St.keep, List.map_cons, look, reduceIte, Nat.reduceEqDiff]
    try show AWP _ _ _ _ _
    repeat refine AWP.nest ?_
    first | refine AWP.seq (AWP.cond (b := _) rfl (fun hc => ?_) (fun hc => ?_)) | refine AWP.cond (b := _) rfl (fun hc => ?_) (fun hc => ?_)
    all_goals try simp only [evC] at hc
    · rw [if_pos hc] at hl1
      repeat refine AWP.nest ?_
      first | refine AWP.rs (Gf_ok F65_ok) [] [0, 2, 3, 10, 14, 16, 18, 81, 82, 83] (by rw [hN]; decide) fun K hK => ?_ | refine AWP.rn (Gf_ok F65_ok) [] [0, 2, 3, 10, 14, 16, 18, 81, 82, 83] (by rw [hN]; decide) fun K hK => ?_
      repeat
        first | apply eL | (apply eG; (case ht => exact rfl); (case hef => exact rfl))
        case e => (simp only [evB, evG, evGR, Q.evalR, boolOf, opQ, opMove, opPick, opBin, opUn, opConv, opExtract, opNil, opAlloc, opBox, opBuild, opBuildSlice, opMakeSlice, opLoad, opStore, opSlice, opFieldAddr, opField, opIndexAddr, opIndex, opLen, opMinMax, opAppend, opAppendZ, opCall, opCallF, Q.opnd, Q.opndW, Q.eval, Q.ret, Q.elems, Q.cells, Q.parts, Q.args, Q.src, Q.optInt, intOf?, placeOf, fillA, setAll, mkAgg, datas, loadSel, ofCells, pickV, binI, binS, look, Value.oneCell', normD, smallNil, KD.known, KD.agg, T, TI.z, Dat.wd, Dat.cells, Dat.nagg, AV.ren, renL, AV.renT, AV.hi, AV.hi1, Ob.isRow, Ob.inn, Ob.out, Ob.gam, Ob.data, Ob.alike, loL, Gf, Mu, Dat.flat, Dat.isV, List.contains, List.elem, Option.isSome, Nat.reduceAdd, Nat.reduceSub, Nat.reduceMul, Nat.reduceEqDiff, Nat.reduceLeDiff, Nat.reduceBEq, reduceIte, reduceCtorEq, Int.reduceLT, Int.reduceLE, Int.reduceNeg, Int.reduceEq, Int.reduceToNat, Int.reducePow, Nat.reducePow, Nat.reduceLT, IntKind.bits, hf32, e32, hf49, e49, hf52, e52, hf56, e56, hf59, e59, hf60, e60, evP, evS, toPrs_prs, toSgs_sgs, toInts_ints]; (try simp (disch := omega) only [evA]); exact rfl)
        case s => ((try simp only [evU]); exact rfl)
        case hp => (first | exact True.intro | ((and_intros <;> first | exact True.intro | omega | assumption | (intro hq; first | omega | (rw [hq]; rfl) | (simp; done) | (simp [hq]; done) | (intro hq2; first | (rw [hq, hq2]; rfl) | (simp [hq, hq2]; done) | (simp_all; done))) | (simp; done) | (simp_all; done))) | (intro hg; (and_intros <;> first | exact True.intro | omega | assumption | (intro hq; first | omega | (rw [hq]; rfl) | (simp; done) | (simp [hq]; done) | (intro hq2; first | (rw [hq, hq2]; rfl) | (simp [hq, hq2]; done) | (simp_all; done))) | (simp; done) | (simp_all; done))) | (intro hg; simp at hg; (and_intros <;> first | exact True.intro | omega | assumption | (intro hq; first | omega | (rw [hq]; rfl) | (simp; done) | (simp [hq]; done) | (intro hq2; first | (rw [hq, hq2]; rfl) | (simp [hq, hq2]; done) | (simp_all; done))) | (simp; done) | (simp_all; done))))
      rw [evalL_nil]
      refine hK _ ?_
      clear hK K
      simp only [evU, St.keep, List.map_cons, look, reduceIte, Nat.reduceEqDiff]
      try show AWP _ _ _ _ _
      repeat refine AWP.nest ?_
      first | refine AWP.rs (Gf_ok F65_ok) [] [0, 2, 3, 10, 14, 81, 82, 83, 101] (by rw [hN]; decide) fun K hK => ?_ | refine AWP.rn (Gf_ok F65_ok) [] [0, 2, 3, 10, 14, 81, 82, 83, 101] (by rw [hN]; decide) fun K hK => ?_
      repeat
        first | apply eL | (apply eG; (case ht => exact rfl); (case hef => exact rfl))
        case e => (simp only [evB, evG, evGR, Q.evalR, boolOf, opQ, opMove, opPick, opBin, opUn, opConv, opExtract, opNil, opAlloc, opBox, opBuild, opBuildSlice, opMakeSlice, opLoad, opStore, opSlice, opFieldAddr, opField, opIndexAddr, opIndex, opLen, opMinMax, opAppend, opAppendZ, opCall, opCallF, Q.opnd, Q.opndW, Q.eval, Q.ret, Q.elems, Q.cells, Q.parts, Q.args, Q.src, Q.optInt, intOf?, placeOf, fillA, setAll, mkAgg, datas, loadSel, ofCells, pickV, binI, binS, look, Value.oneCell', normD, smallNil, KD.known, KD.agg, T, TI.z, Dat.wd, Dat.cells, Dat.nagg, AV.ren, renL, AV.renT, AV.hi, AV.hi1, Ob.isRow, Ob.inn, Ob.out, Ob.gam, Ob.data, Ob.alike, loL, Gf, Mu, Dat.flat, Dat.isV, List.contains, List.elem, Option.isSome, Nat.reduceAdd, Nat.reduceSub, Nat.reduceMul, Nat.reduceEqDiff, Nat.reduceLeDiff, Nat.reduceBEq, reduceIte, reduceCtorEq, Int.reduceLT, Int.reduceLE, Int.reduceNeg, Int.reduceEq, Int.reduceToNat, Int.reducePow, Nat.reducePow, Nat.reduceLT, IntKind.bits, hf32, e32, hf49, e49, hf52, e52, hf56, e56, hf59, e59, hf60, e60, evP, evS, toPrs_prs, toSgs_sgs, toInts_ints, hl1]; (try simp (disch := omega) only [evA]); exact rfl)
        case s => ((try simp only [evU]); exact rfl)
        case hp => (first | exact True.intro | ((and_intros <;> first | exact True.intro | omega | assumption | (intro hq; first | omega | (rw [hq]; rfl) | (simp; done) | (simp [hq]; done) | (intro hq2; first | (rw [hq, hq2]; rfl) | (simp [hq, hq2]; done) | (simp_all; done))) | (simp; done) | (simp_all; done))) | (intro hg; (and_intros <;> first | exact True.intro | omega | assumption | (intro hq; first | omega | (rw [hq]; rfl) | (simp; done) | (simp [hq]; done) | (intro hq2; first | (rw [hq, hq2]; rfl) | (simp [hq, hq2]; done) | (simp_all; done))) | (simp; done) | (simp_all; done))) | (intro hg; simp at hg; (and_intros <;> first | exact True.intro | omega | assumption | (intro hq; first | omega | (rw [hq]; rfl) | (simp; done) | (simp [hq]; done) | (intro hq2; first | (rw [hq, hq2]; rfl) | (simp [hq, hq2]; done) | (simp_all; done))) | (simp; done) | (simp_all; done))))
      rw [evalL_nil]
      refine hK _ ?_
      clear hK K
      simp only [evU, St.keep, List.map_cons, look, reduceIte, Nat.reduceEqDiff]
      try show AWP _ _ _ _ _
      have hc0 := hc
      clear hc
      repeat refine AWP.nest ?_
      first | refine AWP.seq (AWP.cond (b := _) rfl (fun hc => ?_) (fun hc => ?_)) | refine AWP.cond (b := _) rfl (fun hc => ?_) (fun hc => ?_)
      all_goals try simp only [evC] at hc
      · exact absurd rfl hc
      refine AWP.skip ?_
      show AWP _ _ _ _ _
      repeat refine AWP.nest ?_
      first | refine AWP.rs (Gf_ok F65_ok) [] [0, 2, 3, 10, 14, 81, 82, 83] (by rw [hN]; decide) fun K hK => ?_ | refine AWP.rn (Gf_ok F65_ok) [] [0, 2, 3, 10, 14, 81, 82, 83] (by rw [hN]; decide) fun K hK => ?_
      repeat
        first | apply eL | (apply eG; (case ht => exact rfl); (case hef => exact rfl))
        case e => (simp only [evB, evG, evGR, Q.evalR, boolOf, opQ, opMove, opPick, opBin, opUn, opConv, opExtract, opNil, opAlloc, opBox, opBuild, opBuildSlice, opMakeSlice, opLoad, opStore, opSlice, opFieldAddr, opField, opIndexAddr, opIndex, opLen, opMinMax, opAppend, opAppendZ, opCall, opCallF, Q.opnd, Q.opndW, Q.eval, Q.ret, Q.elems, Q.cells, Q.parts, Q.args, Q.src, Q.optInt, intOf?, placeOf, fillA, setAll, mkAgg, datas, loadSel, ofCells, pickV, binI, binS, look, Value.oneCell', normD, smallNil, KD.known, KD.agg, T, TI.z, Dat.wd, Dat.cells, Dat.nagg, AV.ren, renL, AV.renT, AV.hi, AV.hi1, Ob.isRow, Ob.inn, Ob.out, Ob.gam, Ob.data, Ob.alike, loL, Gf, Mu, Dat.flat, Dat.isV, List.contains, List.elem, Option.isSome, Nat.reduceAdd, Nat.reduceSub, Nat.reduceMul, Nat.reduceEqDiff, Nat.reduceLeDiff, Nat.reduceBEq, reduceIte, reduceCtorEq, Int.reduceLT, Int.reduceLE, Int.reduceNeg, Int.reduceEq, Int.reduceToNat, Int.reducePow, Nat.reducePow, Nat.reduceLT, IntKind.bits, hf32, e32, hf49, e49, hf52, e52, hf56, e56, hf59, e59, hf60, e60, evP, evS, toPrs_prs, toSgs_sgs, toInts_ints]; (try simp (disch := omega) only [evA]); exact rfl)
        case s => ((try simp only [evU]); exact rfl)
        case hp => (first | exact True.intro | ((and_intros <;> first | exact True.intro | omega | assumption | (intro hq; first | omega | (rw [hq]; rfl) | (simp; done) | (simp [hq]; done) | (intro hq2; first | (rw [hq, hq2]; rfl) | (simp [hq, hq2]; done) | (simp_all; done))) | (simp; done) | (simp_all; done))) | (intro hg; (and_intros <;> first | exact True.intro | omega | assumption | (intro hq; first | omega | (rw [hq]; rfl) | (simp; done) | (simp [hq]; done) | (intro hq2; first | (rw [hq, hq2]; rfl) | (simp [hq, hq2]; done) | (simp_all; done))) | (simp; done) | (simp_all; done))) | (intro hg; simp at hg; (and_intros <;> first | exact True.intro | omega | assumption | (intro hq; first | omega | (rw [hq]; rfl) | (simp; done) | (simp [hq]; done) | (intro hq2; first | (rw [hq, hq2]; rfl) | (simp [hq, hq2]; done) | (simp_all; done))) | (simp; done) | (simp_all; done))))
      rw [evalL_nil]
      refine hK _ ?_
      clear hK K
      simp only [evU, St.keep, List.map_cons, look, reduceIte, Nat.reduceEqDiff]
      try show AWP _ _ _ _ _
      exact ⟨j - (i + 1), by omega, i + 1, by omega, rfl, rfl⟩
    refine AWP.skip ?_
    show AWP _ _ _ _ _
    rw [if_neg hc] at hl1
    clear hc
    repeat refine AWP.nest ?_
    first | refine AWP.rs (Gf_ok F65_ok) [] [0, 2, 3, 10, 14, 81, 82, 83, 101] (by rw [hN]; decide) fun K hK => ?_ | refine AWP.rn (Gf_ok F65_ok) [] [0, 2, 3, 10, 14, 81, 82, 83, 101] (by rw [hN]; decide) fun K hK => ?_
    repeat
      first | apply eL | (apply eG; (case ht => exact rfl); (case hef => exact rfl))
      case e => (simp only [evB, evG, evGR, Q.evalR, boolOf, opQ, opMove, opPick, opBin, opUn, opConv, opExtract, opNil, opAlloc, opBox, opBuild, opBuildSlice, opMakeSlice, opLoad, opStore, opSlice, opFieldAddr, opField, opIndexAddr, opIndex, opLen, opMinMax, opAppend, opAppendZ, opCall, opCallF, Q.opnd, Q.opndW, Q.eval, Q.ret, Q.elems, Q.cells, Q.parts, Q.args, Q.src, Q.optInt, intOf?, placeOf, fillA, setAll, mkAgg, datas, loadSel, ofCells, pickV, binI, binS, look, Value.oneCell', normD, smallNil, KD.known, KD.agg, T, TI.z, Dat.wd, Dat.cells, Dat.nagg, AV.ren, renL, AV.renT, AV.hi, AV.hi1, Ob.isRow, Ob.inn, Ob.out, Ob.gam, Ob.data, Ob.alike, loL, Gf, Mu, Dat.flat, Dat.isV, List.contains, List.elem, Option.isSome, Nat.reduceAdd, Nat.reduceSub, Nat.reduceMul, Nat.reduceEqDiff, Nat.reduceLeDiff, Nat.reduceBEq, reduceIte, reduceCtorEq, Int.reduceLT, Int.reduceLE, Int.reduceNeg, Int.reduceEq, Int.reduceToNat, Int.reducePow, Nat.reducePow, Nat.reduceLT, IntKind.bits, hf32, e32, hf49, e49, hf52, e52, hf56, e56, hf59, e59, hf60, e60, evP, evS, toPrs_prs, toSgs_sgs, toInts_ints, hl1]; (try simp (disch := omega) only [evA]); exact rfl)
      case s => ((try simp only [evU]); exact rfl)
      case hp => (first | exact True.intro | ((and_intros <;> first | exact True.intro | omega | assumption | (intro hq; first | omega | (rw [hq]; rfl) | (simp; done) | (simp [hq]; done) | (intro hq2; first | (rw [hq, hq2]; rfl) | (simp [hq, hq2]; done) | (simp_all; done))) | (simp; done) | (simp_all; done))) | (intro hg; (and_intros <;> first | exact True.intro | omega | assumption | (intro hq; first | omega | (rw [hq]; rfl) | (simp; done) | (simp [hq]; done) | (intro hq2; first | (rw [hq, hq2]; rfl) | (simp [hq, hq2]; done) | (simp_all; done))) | (simp; done) | (simp_all; done))) | (intro hg; simp at hg; (and_intros <;> first | exact True.intro | omega | assumption | (intro hq; first | omega | (rw [hq]; rfl) | (simp; done) | (simp [hq]; done) | (intro hq2; first | (rw [hq, hq2]; rfl) | (simp [hq, hq2]; done) | (simp_all; done))) | (simp; done) | (simp_all; done))))
    rw [evalL_nil]
    refine hK _ ?_
    clear hK K
    simp only [evU, St.keep, List.map_cons, look, reduceIte, Nat.reduceEqDiff]
    try show AWP _ _ _ _ _
    repeat refine AWP.nest ?_
    first | refine AWP.seq (AWP.cond (b := _) rfl (fun hc => ?_) (fun hc => ?_)) | refine AWP.cond (b := _) rfl (fun hc => ?_) (fun hc => ?_)
    all_goals try simp only [evC] at hc
    · exact absurd rfl hc
    refine AWP.skip ?_
    show AWP _ _ _ _ _
    repeat refine AWP.nest ?_
    first | refine AWP.rs (Gf_ok F65_ok) [] [0, 2, 3, 10, 14, 81, 82, 83] (by rw [hN]; decide) fun K hK => ?_ | refine AWP.rn (Gf_ok F65_ok) [] [0, 2, 3, 10, 14, 81, 82, 83] (by rw [hN]; decide) fun K hK => ?_
    repeat
      first | apply eL | (apply eG; (case ht => exact rfl); (case hef => exact rfl))
      case e => (simp only [evB, evG, evGR, Q.evalR, boolOf, opQ, opMove, opPick, opBin, opUn, opConv, opExtract, opNil, opAlloc, opBox, opBuild, opBuildSlice, opMakeSlice, opLoad, opStore, opSlice, opFieldAddr, opField, opIndexAddr, opIndex, opLen, opMinMax, opAppend, opAppendZ, opCall, opCallF, Q.opnd, Q.opndW, Q.eval, Q.ret, Q.elems, Q.cells, Q.parts, Q.args, Q.src, Q.optInt, intOf?, placeOf, fillA, setAll, mkAgg, datas, loadSel, ofCells, pickV, binI, binS, look, Value.oneCell', normD, smallNil, KD.known, KD.agg, T, TI.z, Dat.wd, Dat.cells, Dat.nagg, AV.ren, renL, AV.renT, AV.hi, AV.hi1, Ob.isRow, Ob.inn, Ob.out, Ob.gam, Ob.data, Ob.alike, loL, Gf, Mu, Dat.flat, Dat.isV, List.contains, List.elem, Option.isSome, Nat.reduceAdd, Nat.reduceSub, Nat.reduceMul, Nat.reduceEqDiff, Nat.reduceLeDiff, Nat.reduceBEq, reduceIte, reduceCtorEq, Int.reduceLT, Int.reduceLE, Int.reduceNeg, Int.reduceEq, Int.reduceToNat, Int.reducePow, Nat.reducePow, Nat.reduceLT, IntKind.bits, hf32, e32, hf49, e49, hf52, e52, hf56, e56, hf59, e59, hf60, e60, evP, evS, toPrs_prs, toSgs_sgs, toInts_ints]; (try simp (disch := omega) only [evA]); exact rfl)
      case s => ((try simp only [evU]); exact rfl)
      case hp => (first | exact True.intro | ((and_intros <;> first | exact True.intro | omega | assumption | (intro hq; first | omega | (rw [hq]; rfl) | (simp; done) | (simp [hq]; done) | (intro hq2; first | (rw [hq, hq2]; rfl) | (simp [hq, hq2]; done) | (simp_all; done))) | (simp; done) | (simp_all; done))) | (intro hg; (and_intros <;> first | exact True.intro | omega | assumption | (intro hq; first | omega | (rw [hq]; rfl) | (simp; done) | (simp [hq]; done) | (intro hq2; first | (rw [hq, hq2]; rfl) | (simp [hq, hq2]; done) | (simp_all; done))) | (simp; done) | (simp_all; done))) | (intro hg; simp at hg; (and_intros <;> first | exact True.intro | omega | assumption | (intro hq; first | omega | (rw [hq]; rfl) | (simp; done) | (simp [hq]; done) | (intro hq2; first | (rw [hq, hq2]; rfl) | (simp [hq, hq2]; done) | (simp_all; done))) | (simp; done) | (simp_all; done))))
    rw [evalL_nil]
    refine hK _ ?_
    clear hK K
    simp only [evU, St.keep, List.map_cons, look, reduceIte, Nat.reduceEqDiff]
    try show AWP _ _ _ _ _
    exact ⟨j - (i + 1), by omega, i + 1, by omega, rfl, rfl⟩
  simp only [evC, Int.not_lt] at hc
  refine AWP.skip ?_
  show AWP _ _ _ _ _
  have hj' := hc
  clear hc
  have hgj := hGw.getD j
  have hPb := enc2_byt (wO0 n s (s + (n : Int) - 1) d ++ G.take j)
  have hPl := enc2_len (wO0 n s (s + (n : Int) - 1) d ++ G.take j)
  have hPl2 : (enc2 (wO0 n s (s + (n : Int) - 1) d ++ G.take j)).length ≤ 1000 := by
    rw [hPl, List.length_append, List.length_take]
    show 2 * (16 + _) ≤ _
    omega
  have esn : enc2 (wO0 n s (s + (n : Int) - 1) d ++ G.take (j + 1)) = enc2 (wO0 n s (s + (n : Int) - 1) d ++ G.take j) ++ [G.getD j 0 / 256 % 256, G.getD j 0 % 256] := by
    rw [take_snoc' 0 (show j < G.length by omega), ← List.append_assoc, enc2_append]
    rfl
  repeat refine AWP.nest ?_
  first | refine AWP.seq (AWP.block ?_) | refine AWP.block ?_
  repeat refine AWP.nest ?_
  first | refine AWP.rs (Gf_ok F65_ok) [] [0, 1, 2, 3, 9, 10, 11, 13, 59, 60, 61] (by rw [hN]; decide) fun K hK => ?_ | refine AWP.rn (Gf_ok F65_ok) [] [0, 1, 2, 3, 9, 10, 11, 13, 59, 60, 61] (by rw [hN]; decide) fun K hK => ?_
  repeat
    first | apply eL | (apply eG; (case ht => exact rfl); (case hef => exact rfl))
    case e => (simp only [evB, evG, evGR, Q.evalR, boolOf, opQ, opMove, opPick, opBin, opUn, opConv, opExtract, opNil, opAlloc, opBox, opBuild, opBuildSlice, opMakeSlice, opLoad, opStore, opSlice, opFieldAddr, opField, opIndexAddr, opIndex, opLen, opMinMax, opAppend, opAppendZ, opCall, opCallF, Q.opnd, Q.opndW, Q.eval, Q.ret, Q.elems, Q.cells, Q.parts, Q.args, Q.src, Q.optInt, intOf?, placeOf, fillA, setAll, mkAgg, datas, loadSel, ofCells, pickV, binI, binS, look, Value.oneCell', normD, smallNil, KD.known, KD.agg, T, TI.z, Dat.wd, Dat.cells, Dat.nagg, AV.ren, renL, AV.renT, AV.hi, AV.hi1, Ob.isRow, Ob.inn, Ob.out, Ob.gam, Ob.data, Ob.alike, loL, Gf, Mu, Dat.flat, Dat.isV, List.contains, List.elem, Option.isSome, Nat.reduceAdd, Nat.reduceSub, Nat.reduceMul, Nat.reduceEqDiff, Nat.reduceLeDiff, Nat.reduceBEq, reduceIte, reduceCtorEq, Int.reduceLT, Int.reduceLE, Int.reduceNeg, Int.reduceEq, Int.reduceToNat, Int.reducePow, Nat.reducePow, Nat.reduceLT, IntKind.bits, hf32, e32, hf49, e49, hf52, e52, hf56, e56, hf59, e59, hf60, e60, evP, evS, toPrs_prs, toSgs_sgs, toInts_ints]; (try simp (disch := omega) only [evA]); exact rfl)
    case s => ((try simp only [evU]); exact rfl)
    case hp => (first | exact True.intro | ((and_intros <;> first | exact True.intro | omega | assumption | (intro hq; first | omega | (rw [hq]; rfl) | (simp; done) | (simp [hq]; done) | (intro hq2; first | (rw [hq, hq2]; rfl) | (simp [hq, hq2]; done) | (simp_all; done))) | (simp; done) | (simp_all; done))) | (intro hg; (and_intros <;> first | exact True.intro | omega | assumption | (intro hq; first | omega | (rw [hq]; rfl) | (simp; done) | (simp [hq]; done) | (intro hq2; first | (rw [hq, hq2]; rfl) | (simp [hq, hq2]; done) | (simp_all; done))) | (simp; done) | (simp_all; done))) | (intro hg; simp at hg; (and_intros <;> first | exact True.intro | omega | assumption | (intro hq; first | omega | (rw [hq]; rfl) | (simp; done) | (simp [hq]; done) | (intro hq2; first | (rw [hq, hq2]; rfl) | (simp [hq, hq2]; done) | (simp_all; done))) | (simp; done) | (simp_all; done))))
  rw [evalL_nil]
  refine hK _ ?_
  clear hK K
  simp only [evU, St.keep, List.map_cons, look, reduceIte, Nat.reduceEqDiff]
  try show AWP _ _ _ _ _
  generalize enc2 (wO0 n s (s + (n : Int) - 1) d ++ G.take j) = P at hPb hPl hPl2 esn ⊢
  repeat refine AWP.nest ?_
  first | refine AWP.rs (Gf_ok F65_ok) [] [0, 1, 2, 3, 9, 10, 11, 59, 60, 61] (by rw [hN]; decide) fun K hK => ?_ | refine AWP.rn (Gf_ok F65_ok) [] [0, 1, 2, 3, 9, 10, 11, 59, 60, 61] (by rw [hN]; decide) fun K hK => ?_
  repeat
    first | apply eL | (apply eG; (case ht => exact rfl); (case hef => exact rfl))
    case e => (simp only [evB, evG, evGR, Q.evalR, boolOf, opQ, opMove, opPick, opBin, opUn, opConv, opExtract, opNil, opAlloc, opBox, opBuild, opBuildSlice, opMakeSlice, opLoad, opStore, opSlice, opFieldAddr, opField, opIndexAddr, opIndex, opLen, opMinMax, opAppend, opAppendZ, opCall, opCallF, Q.opnd, Q.opndW, Q.eval, Q.ret, Q.elems, Q.cells, Q.parts, Q.args, Q.src, Q.optInt, intOf?, placeOf, fillA, setAll, mkAgg, datas, loadSel, ofCells, pickV, binI, binS, look, Value.oneCell', normD, smallNil, KD.known, KD.agg, T, TI.z, Dat.wd, Dat.cells, Dat.nagg, AV.ren, renL, AV.renT, AV.hi, AV.hi1, Ob.isRow, Ob.inn, Ob.out, Ob.gam, Ob.data, Ob.alike, loL, Gf, Mu, Dat.flat, Dat.isV, List.contains, List.elem, Option.isSome, Nat.reduceAdd, Nat.reduceSub, Nat.reduceMul, Nat.reduceEqDiff, Nat.reduceLeDiff, Nat.reduceBEq, reduceIte, reduceCtorEq, Int.reduceLT, Int.reduceLE, Int.reduceNeg, Int.reduceEq, Int.reduceToNat, Int.reducePow, Nat.reducePow, Nat.reduceLT, IntKind.bits, hf32, e32, hf49, e49, hf52, e52, hf56, e56, hf59, e59, hf60, e60, evP, evS, toPrs_prs, toSgs_sgs, toInts_ints]; (try simp (disch := omega) only [evA]); exact rfl)
    case s => ((try simp only [evU]); exact rfl)
    case hp => (first | exact True.intro | ((and_intros <;> first | exact True.intro | omega | assumption | (intro hq; first | omega | (rw [hq]; rfl) | (simp; done) | (simp [hq]; done) | (intro hq2; first | (rw [hq, hq2]; rfl) | (simp [hq, hq2]; done) | (simp_all; done))) | (simp; done) | (simp_all; done))) | (intro hg; (and_intros <;> first | exact True.intro | omega | assumption | (intro hq; first | omega | (rw [hq]; rfl) | (simp; done) | (simp [hq]; done) | (intro hq2; first | (rw [hq, hq2]; rfl) | (simp [hq, hq2]; done) | (simp_all; done))) | (simp; done) | (simp_all; done))) | (intro hg; simp at hg; (and_intros <;> first | exact True.intro | omega | assumption | (intro hq; first | omega | (rw [hq]; rfl) | (simp; done) | (simp [hq]; done) | (intro hq2; first | (rw [hq, hq2]; rfl) | (simp [hq, hq2]; done) | (simp_all; done))) | (simp; done) | (simp_all; done))))
  rw [evalL_nil]
  refine hK _ ?_
  clear hK K
  simp only [evU, St.keep, List.map_cons, look, reduceIte, Nat.reduceEqDiff]
  try show AWP _ _ _ _ _
  repeat refine AWP.nest ?_
  first | refine AWP.rs (Gf_ok F65_ok) [] [0, 1, 2, 3, 9, 10, 11, 59, 60, 61] (by rw [hN]; decide) fun K hK => ?_ | refine AWP.rn (Gf_ok F65_ok) [] [0, 1, 2, 3, 9, 10, 11, 59, 60, 61] (by rw [hN]; decide) fun K hK => ?_
  repeat
    first | apply eL | (apply eG; (case ht => exact rfl); (case hef => exact rfl))
    case e => (simp only [evB, evG, evGR, Q.evalR, boolOf, opQ, opMove, opPick, opBin, opUn, opConv, opExtract, opNil, opAlloc, opBox, opBuild, opBuildSlice, opMakeSlice, opLoad, opStore, opSlice, opFieldAddr, opField, opIndexAddr, opIndex, opLen, opMinMax, opAppend, opAppendZ, opCall, opCallF, Q.opnd, Q.opndW, Q.eval, Q.ret, Q.elems, Q.cells, Q.parts, Q.args, Q.src, Q.optInt, intOf?, placeOf, fillA, setAll, mkAgg, datas, loadSel, ofCells, pickV, binI, binS, look, Value.oneCell', normD, smallNil, KD.known, KD.agg, T, TI.z, Dat.wd, Dat.cells, Dat.nagg, AV.ren, renL, AV.renT, AV.hi, AV.hi1, Ob.isRow, Ob.inn, Ob.out, Ob.gam, Ob.data, Ob.alike, loL, Gf, Mu, Dat.flat, Dat.isV, List.contains, List.elem, Option.isSome, Nat.reduceAdd, Nat.reduceSub, Nat.reduceMul, Nat.reduceEqDiff, Nat.reduceLeDiff, Nat.reduceBEq, reduceIte, reduceCtorEq, Int.reduceLT, Int.reduceLE, Int.reduceNeg, Int.reduceEq, Int.reduceToNat, Int.reducePow, Nat.reducePow, Nat.reduceLT, IntKind.bits, hf32, e32, hf49, e49, hf52, e52, hf56, e56, hf59, e59, hf60, e60, evP, evS, toPrs_prs, toSgs_sgs, toInts_ints]; (try simp (disch := omega) only [evA]); exact rfl)
    case s => ((try simp only [evU]); exact rfl)
    case hp => (first | exact True.intro | ((and_intros <;> first | exact True.intro | omega | assumption | (intro hq; first | omega | (rw [hq]; rfl) | (simp; done) | (simp [hq]; done) | (intro hq2; first | (rw [hq, hq2]; rfl) | (simp [hq, hq2]; done) | (simp_all; done))) | (simp; done) | (simp_all; done))) | (intro hg; (and_intros <;> first | exact True.intro | omega | assumption | (intro hq; first | omega | (rw [hq]; rfl) | (simp; done) | (simp [hq]; done) | (intro hq2; first | (rw [hq, hq2]; rfl) | (simp [hq, hq2]; done) | (simp_all; done))) | (simp; done) | (simp_all; done))) | (intro hg; simp at hg; (and_intros <;> first | exact True.intro | omega | assumption | (intro hq; first | omega | (rw [hq]; rfl) | (simp; done) | (simp [hq]; done) | (intro hq2; first | (rw [hq, hq2]; rfl) | (simp [hq, hq2]; done) | (simp_all; done))) | (simp; done) | (simp_all; done))))
  rw [evalL_nil]
  refine hK _ ?_
  clear hK K
  simp only [evU, St.keep, List.map_cons, look, reduceIte, Nat.reduceEqDiff]
  try show AWP _ _ _ _ _
  refine ⟨n - (j + 1), by omega, j + 1, by omega, rfl, ?_⟩
  rw [esn]
  rfl
theorem law16 (x : Dat) (h : (AT.int .u16).holds x) (y : Dat) (h2 : (AT.sl 53 (.int .u16)).holds y) (z : Dat) (h3 : (AT.int .u16).holds z) (u : Dat) (h4 : (AT.int .u16).holds u) : Spec Try.prog 16 [.d x.flat x, .d y.flat y, .d z.flat z, .d u.flat u] none ⟨True, .d true (.v (.bool true)), none⟩ := by
  obtain ⟨s, rfl, hs⟩ := h
  obtain ⟨ys, rfl, hy⟩ := h2
  obtain ⟨m, rfl, hm⟩ := ints_of hy
  obtain ⟨d, rfl, hd⟩ := h3
  obtain ⟨c, rfl, hc⟩ := h4
  have := bounds_u16 hs
  have := bounds_u16 hd
  have := bounds_u16 hc
  exact s16 s m d c (by omega) (by omega) (fun n hn => by have := bounds_u16 (hm n hn); omega) (by omega) (by omega) (by omega) (by omega)
end Go.AM

