/- AM: SegParses. -/
import Derived.Test.YtmfobkiljlepjaaC37
import Derived.Test.YtmfobkiljlepjaaG8
set_option maxRecDepth 100000
set_option maxHeartbeats 8000000
set_option linter.unusedSimpArgs false
set_option linter.unusedVariables false
namespace Go.AM
open Go Go.Proofs

theorem sgs_nil : sgs [] = [] := rfl


theorem s14 (l : List Int) (hb : Byt l) (cs : List Int) (hw : WI32 cs) : Spec Try.prog 14 [.d false (.sl 1 (ints .u8 l)), .d false (.sl 1 (ints .i32 cs))] none ⟨True, .d true (.v (.bool true)), none⟩ := by
  have hf31 : F65 31 = e31 := rfl
  have hf49 : F65 49 = e49 := rfl
  have hf52 : F65 52 = e52 := rfl
  have hf54 : F65 54 = e54 := rfl
  have hf56 : F65 56 = e56 := rfl
  have hf57 : F65 57 = e57 := rfl
  have hf58 : F65 58 = e58 := rfl
  refine spec_of_awp (Gf_ok F65_ok) Try.func14 rfl (Nat.le_of_ble_eq_true rfl) fun E hps hN _ => ?_
  simp only [begin, List.zipIdx_cons, List.zipIdx_nil, List.map_cons, List.map_nil, Option.toList, Nat.zero_add, Nat.reduceAdd]
  refine AWP.len 1 rfl fun hlen => ?_
  rw [ints_length] at hlen
  repeat refine AWP.nest ?_
  first | refine AWP.rs (Gf_ok F65_ok) [] [0, 1] (by rw [hN]; decide) fun K hK => ?_ | refine AWP.rn (Gf_ok F65_ok) [] [0, 1] (by rw [hN]; decide) fun K hK => ?_
  repeat
    first | apply eL | (apply eG; (case ht => exact rfl); (case hef => exact rfl))
    case e => (simp only [evB, evG, evGR, Q.evalR, boolOf, opQ, opMove, opPick, opBin, opUn, opConv, opExtract, opNil, opAlloc, opBox, opBuild, opBuildSlice, opMakeSlice, opLoad, opStore, opSlice, opFieldAddr, opField, opIndexAddr, opIndex, opLen, opMinMax, opAppend, opAppendZ, opCall, opCallF, Q.opnd, Q.opndW, Q.eval, Q.ret, Q.elems, Q.cells, Q.parts, Q.args, Q.src, Q.optInt, intOf?, placeOf, fillA, setAll, mkAgg, datas, loadSel, ofCells, pickV, binI, binS, look, Value.oneCell', normD, smallNil, KD.known, KD.agg, T, TI.z, Dat.wd, Dat.cells, Dat.nagg, AV.ren, renL, AV.renT, AV.hi, AV.hi1, Ob.isRow, Ob.inn, Ob.out, Ob.gam, Ob.data, Ob.alike, loL, Gf, Mu, Dat.flat, Dat.isV, List.contains, List.elem, Option.isSome, Nat.reduceAdd, Nat.reduceSub, Nat.reduceMul, Nat.reduceEqDiff, Nat.reduceLeDiff, Nat.reduceBEq, reduceIte, reduceCtorEq, Int.reduceLT, Int.reduceLE, Int.reduceNeg, Int.reduceEq, Int.reduceToNat, Int.reducePow, Nat.reducePow, Nat.reduceLT, IntKind.bits, hf31, e31, hf49, e49, hf52, e52, hf54, e54, hf56, e56, hf57, e57, hf58, e58, evP, evS, toPrs_prs, toSgs_sgs, toInts_ints, Int.toNat_natCast]; (try simp (disch := omega) only [evA]); exact rfl)
    case s => ((try simp only [evU]); exact rfl)
    case hp => (first | exact True.intro | ((and_intros <;> first | exact True.intro | omega | assumption | (intro hq; first | omega | (rw [hq]; rfl) | (simp; done) | (simp [hq]; done) | (intro hq2; first | (rw [hq, hq2]; rfl) | (simp [hq, hq2]; done) | (simp_all; done))) | (simp; done) | (simp_all; done))) | (intro hg; (and_intros <;> first | exact True.intro | omega | assumption | (intro hq; first | omega | (rw [hq]; rfl) | (simp; done) | (simp [hq]; done) | (intro hq2; first | (rw [hq, hq2]; rfl) | (simp [hq, hq2]; done) | (simp_all; done))) | (simp; done) | (simp_all; done))) | (intro hg; simp at hg; (and_intros <;> first | exact True.intro | omega | assumption | (intro hq; first | omega | (rw [hq]; rfl) | (simp; done) | (simp [hq]; done) | (intro hq2; first | (rw [hq, hq2]; rfl) | (simp [hq, hq2]; done) | (simp_all; done))) | (simp; done) | (simp_all; done))))
  rw [evalL_nil]
  refine hK _ ?_
  clear hK K
  simp only [evU, St.keep, List.map_cons, look, reduceIte, Nat.reduceEqDiff]
  try show AWP _ _ _ _ _
  repeat refine AWP.nest ?_
  first | refine AWP.rs (Gf_ok F65_ok) [] [0, 1, 13] (by rw [hN]; decide) fun K hK => ?_ | refine AWP.rn (Gf_ok F65_ok) [] [0, 1, 13] (by rw [hN]; decide) fun K hK => ?_
  repeat
    first | apply eL | (apply eG; (case ht => exact rfl); (case hef => exact rfl))
    case e => (simp only [evB, evG, evGR, Q.evalR, boolOf, opQ, opMove, opPick, opBin, opUn, opConv, opExtract, opNil, opAlloc, opBox, opBuild, opBuildSlice, opMakeSlice, opLoad, opStore, opSlice, opFieldAddr, opField, opIndexAddr, opIndex, opLen, opMinMax, opAppend, opAppendZ, opCall, opCallF, Q.opnd, Q.opndW, Q.eval, Q.ret, Q.elems, Q.cells, Q.parts, Q.args, Q.src, Q.optInt, intOf?, placeOf, fillA, setAll, mkAgg, datas, loadSel, ofCells, pickV, binI, binS, look, Value.oneCell', normD, smallNil, KD.known, KD.agg, T, TI.z, Dat.wd, Dat.cells, Dat.nagg, AV.ren, renL, AV.renT, AV.hi, AV.hi1, Ob.isRow, Ob.inn, Ob.out, Ob.gam, Ob.data, Ob.alike, loL, Gf, Mu, Dat.flat, Dat.isV, List.contains, List.elem, Option.isSome, Nat.reduceAdd, Nat.reduceSub, Nat.reduceMul, Nat.reduceEqDiff, Nat.reduceLeDiff, Nat.reduceBEq, reduceIte, reduceCtorEq, Int.reduceLT, Int.reduceLE, Int.reduceNeg, Int.reduceEq, Int.reduceToNat, Int.reducePow, Nat.reducePow, Nat.reduceLT, IntKind.bits, hf31, e31, hf49, e49, hf52, e52, hf54, e54, hf56, e56, hf57, e57, hf58, e58, evP, evS, toPrs_prs, toSgs_sgs, toInts_ints, Int.toNat_natCast]; (try simp (disch := omega) only [evA]); exact rfl)
    case s => ((try simp only [evU]); exact rfl)
    case hp => (first | exact True.intro | ((and_intros <;> first | exact True.intro | omega | assumption | (intro hq; first | omega | (rw [hq]; rfl) | (simp; done) | (simp [hq]; done) | (intro hq2; first | (rw [hq, hq2]; rfl) | (simp [hq, hq2]; done) | (simp_all; done))) | (simp; done) | (simp_all; done))) | (intro hg; (and_intros <;> first | exact True.intro | omega | assumption | (intro hq; first | omega | (rw [hq]; rfl) | (simp; done) | (simp [hq]; done) | (intro hq2; first | (rw [hq, hq2]; rfl) | (simp [hq, hq2]; done) | (simp_all; done))) | (simp; done) | (simp_all; done))) | (intro hg; simp at hg; (and_intros <;> first | exact True.intro | omega | assumption | (intro hq; first | omega | (rw [hq]; rfl) | (simp; done) | (simp [hq]; done) | (intro hq2; first | (rw [hq, hq2]; rfl) | (simp [hq, hq2]; done) | (simp_all; done))) | (simp; done) | (simp_all; done))))
  rw [evalL_nil]
  refine hK _ ?_
  clear hK K
  simp only [evU, St.keep, List.map_cons, look, reduceIte, Nat.reduceEqDiff]
  try show AWP _ _ _ _ _
  repeat refine AWP.nest ?_
  first | refine AWP.seq (AWP.cond (b := _) rfl (fun hc => ?_) (fun hc => ?_)) | refine AWP.cond (b := _) rfl (fun hc => ?_) (fun hc => ?_)
  all_goals try simp only [evC] at hc
  · cases hc
  refine AWP.skip ?_
  show AWP _ _ _ _ _
  clear hc
  repeat refine AWP.nest ?_
  first | refine AWP.rs (Gf_ok F65_ok) [] [0, 1] (by rw [hN]; decide) fun K hK => ?_ | refine AWP.rn (Gf_ok F65_ok) [] [0, 1] (by rw [hN]; decide) fun K hK => ?_
  repeat
    first | apply eL | (apply eG; (case ht => exact rfl); (case hef => exact rfl))
    case e => (simp only [evB, evG, evGR, Q.evalR, boolOf, opQ, opMove, opPick, opBin, opUn, opConv, opExtract, opNil, opAlloc, opBox, opBuild, opBuildSlice, opMakeSlice, opLoad, opStore, opSlice, opFieldAddr, opField, opIndexAddr, opIndex, opLen, opMinMax, opAppend, opAppendZ, opCall, opCallF, Q.opnd, Q.opndW, Q.eval, Q.ret, Q.elems, Q.cells, Q.parts, Q.args, Q.src, Q.optInt, intOf?, placeOf, fillA, setAll, mkAgg, datas, loadSel, ofCells, pickV, binI, binS, look, Value.oneCell', normD, smallNil, KD.known, KD.agg, T, TI.z, Dat.wd, Dat.cells, Dat.nagg, AV.ren, renL, AV.renT, AV.hi, AV.hi1, Ob.isRow, Ob.inn, Ob.out, Ob.gam, Ob.data, Ob.alike, loL, Gf, Mu, Dat.flat, Dat.isV, List.contains, List.elem, Option.isSome, Nat.reduceAdd, Nat.reduceSub, Nat.reduceMul, Nat.reduceEqDiff, Nat.reduceLeDiff, Nat.reduceBEq, reduceIte, reduceCtorEq, Int.reduceLT, Int.reduceLE, Int.reduceNeg, Int.reduceEq, Int.reduceToNat, Int.reducePow, Nat.reducePow, Nat.reduceLT, IntKind.bits, hf31, e31, hf49, e49, hf52, e52, hf54, e54, hf56, e56, hf57, e57, hf58, e58, evP, evS, toPrs_prs, toSgs_sgs, toInts_ints, Int.toNat_natCast, toInts_ints, Int.reduceToNat]; (try simp (disch := omega) only [evA]); exact rfl)
    case s => ((try simp only [evU]); exact rfl)
    case hp => (first | exact True.intro | ((and_intros <;> first | exact True.intro | omega | assumption | (intro hq; first | omega | (rw [hq]; rfl) | (simp; done) | (simp [hq]; done) | (intro hq2; first | (rw [hq, hq2]; rfl) | (simp [hq, hq2]; done) | (simp_all; done))) | (simp; done) | (simp_all; done))) | (intro hg; (and_intros <;> first | exact True.intro | omega | assumption | (intro hq; first | omega | (rw [hq]; rfl) | (simp; done) | (simp [hq]; done) | (intro hq2; first | (rw [hq, hq2]; rfl) | (simp [hq, hq2]; done) | (simp_all; done))) | (simp; done) | (simp_all; done))) | (intro hg; simp at hg; (and_intros <;> first | exact True.intro | omega | assumption | (intro hq; first | omega | (rw [hq]; rfl) | (simp; done) | (simp [hq]; done) | (intro hq2; first | (rw [hq, hq2]; rfl) | (simp [hq, hq2]; done) | (simp_all; done))) | (simp; done) | (simp_all; done))))
  rw [evalL_nil]
  refine hK _ ?_
  clear hK K
  simp only [evU, St.keep, List.map_cons, look, reduceIte, Nat.reduceEqDiff]
  try show AWP _ _ _ _ _
  have hq : Byt (l.take 300) := hb.take _
  have hql : (l.take 300).length ≤ 300 := by simp only [List.length_take]; omega
  generalize l.take 300 = q at hq hql ⊢
  repeat refine AWP.nest ?_
  first | refine AWP.rs (Gf_ok F65_ok) [] [0, 1, 5, 6] (by rw [hN]; decide) fun K hK => ?_ | refine AWP.rn (Gf_ok F65_ok) [] [0, 1, 5, 6] (by rw [hN]; decide) fun K hK => ?_
  repeat
    first | apply eL | (apply eG; (case ht => exact rfl); (case hef => exact rfl))
    case e => (simp only [evB, evG, evGR, Q.evalR, boolOf, opQ, opMove, opPick, opBin, opUn, opConv, opExtract, opNil, opAlloc, opBox, opBuild, opBuildSlice, opMakeSlice, opLoad, opStore, opSlice, opFieldAddr, opField, opIndexAddr, opIndex, opLen, opMinMax, opAppend, opAppendZ, opCall, opCallF, Q.opnd, Q.opndW, Q.eval, Q.ret, Q.elems, Q.cells, Q.parts, Q.args, Q.src, Q.optInt, intOf?, placeOf, fillA, setAll, mkAgg, datas, loadSel, ofCells, pickV, binI, binS, look, Value.oneCell', normD, smallNil, KD.known, KD.agg, T, TI.z, Dat.wd, Dat.cells, Dat.nagg, AV.ren, renL, AV.renT, AV.hi, AV.hi1, Ob.isRow, Ob.inn, Ob.out, Ob.gam, Ob.data, Ob.alike, loL, Gf, Mu, Dat.flat, Dat.isV, List.contains, List.elem, Option.isSome, Nat.reduceAdd, Nat.reduceSub, Nat.reduceMul, Nat.reduceEqDiff, Nat.reduceLeDiff, Nat.reduceBEq, reduceIte, reduceCtorEq, Int.reduceLT, Int.reduceLE, Int.reduceNeg, Int.reduceEq, Int.reduceToNat, Int.reducePow, Nat.reducePow, Nat.reduceLT, IntKind.bits, hf31, e31, hf49, e49, hf52, e52, hf54, e54, hf56, e56, hf57, e57, hf58, e58, evP, evS, toPrs_prs, toSgs_sgs, toInts_ints, Int.toNat_natCast, toInts_ints]; (try simp (disch := omega) only [evA]); exact rfl)
    case s => ((try simp only [evU]); exact rfl)
    case hp => (first | exact True.intro | ((and_intros <;> first | exact True.intro | omega | assumption | (intro hq; first | omega | (rw [hq]; rfl) | (simp; done) | (simp [hq]; done) | (intro hq2; first | (rw [hq, hq2]; rfl) | (simp [hq, hq2]; done) | (simp_all; done))) | (simp; done) | (simp_all; done))) | (intro hg; (and_intros <;> first | exact True.intro | omega | assumption | (intro hq; first | omega | (rw [hq]; rfl) | (simp; done) | (simp [hq]; done) | (intro hq2; first | (rw [hq, hq2]; rfl) | (simp [hq, hq2]; done) | (simp_all; done))) | (simp; done) | (simp_all; done))) | (intro hg; simp at hg; (and_intros <;> first | exact True.intro | omega | assumption | (intro hq; first | omega | (rw [hq]; rfl) | (simp; done) | (simp [hq]; done) | (intro hq2; first | (rw [hq, hq2]; rfl) | (simp [hq, hq2]; done) | (simp_all; done))) | (simp; done) | (simp_all; done))))
  rw [evalL_nil]
  refine hK _ ?_
  clear hK K
  simp only [evU, St.keep, List.map_cons, look, reduceIte, Nat.reduceEqDiff]
  try show AWP _ _ _ _ _
  repeat refine AWP.nest ?_
  first | refine AWP.rs (Gf_ok F65_ok) [] [0, 1, 5, 6, 7, 8] (by rw [hN]; decide) fun K hK => ?_ | refine AWP.rn (Gf_ok F65_ok) [] [0, 1, 5, 6, 7, 8] (by rw [hN]; decide) fun K hK => ?_
  repeat
    first | apply eL | (apply eG; (case ht => exact rfl); (case hef => exact rfl))
    case e => (simp only [evB, evG, evGR, Q.evalR, boolOf, opQ, opMove, opPick, opBin, opUn, opConv, opExtract, opNil, opAlloc, opBox, opBuild, opBuildSlice, opMakeSlice, opLoad, opStore, opSlice, opFieldAddr, opField, opIndexAddr, opIndex, opLen, opMinMax, opAppend, opAppendZ, opCall, opCallF, Q.opnd, Q.opndW, Q.eval, Q.ret, Q.elems, Q.cells, Q.parts, Q.args, Q.src, Q.optInt, intOf?, placeOf, fillA, setAll, mkAgg, datas, loadSel, ofCells, pickV, binI, binS, look, Value.oneCell', normD, smallNil, KD.known, KD.agg, T, TI.z, Dat.wd, Dat.cells, Dat.nagg, AV.ren, renL, AV.renT, AV.hi, AV.hi1, Ob.isRow, Ob.inn, Ob.out, Ob.gam, Ob.data, Ob.alike, loL, Gf, Mu, Dat.flat, Dat.isV, List.contains, List.elem, Option.isSome, Nat.reduceAdd, Nat.reduceSub, Nat.reduceMul, Nat.reduceEqDiff, Nat.reduceLeDiff, Nat.reduceBEq, reduceIte, reduceCtorEq, Int.reduceLT, Int.reduceLE, Int.reduceNeg, Int.reduceEq, Int.reduceToNat, Int.reducePow, Nat.reducePow, Nat.reduceLT, IntKind.bits, hf31, e31, hf49, e49, hf52, e52, hf54, e54, hf56, e56, hf57, e57, hf58, e58, evP, evS, toPrs_prs, toSgs_sgs, toInts_ints, Int.toNat_natCast, toInts_ints]; (try simp (disch := omega) only [evA]); exact rfl)
    case s => ((try simp only [evU]); exact rfl)
    case hp => (first | exact True.intro | ((and_intros <;> first | exact True.intro | omega | assumption | (intro hq; first | omega | (rw [hq]; rfl) | (simp; done) | (simp [hq]; done) | (intro hq2; first | (rw [hq, hq2]; rfl) | (simp [hq, hq2]; done) | (simp_all; done))) | (simp; done) | (simp_all; done))) | (intro hg; (and_intros <;> first | exact True.intro | omega | assumption | (intro hq; first | omega | (rw [hq]; rfl) | (simp; done) | (simp [hq]; done) | (intro hq2; first | (rw [hq, hq2]; rfl) | (simp [hq, hq2]; done) | (simp_all; done))) | (simp; done) | (simp_all; done))) | (intro hg; simp at hg; (and_intros <;> first | exact True.intro | omega | assumption | (intro hq; first | omega | (rw [hq]; rfl) | (simp; done) | (simp [hq]; done) | (intro hq2; first | (rw [hq, hq2]; rfl) | (simp [hq, hq2]; done) | (simp_all; done))) | (simp; done) | (simp_all; done))))
  rw [evalL_nil]
  refine hK _ ?_
  clear hK K
  simp only [evU, St.keep, List.map_cons, look, reduceIte, Nat.reduceEqDiff]
  try show AWP _ _ _ _ _
  repeat refine AWP.nest ?_
  first | refine AWP.rs (Gf_ok F65_ok) [] [0, 1, 5, 6, 7, 27] (by rw [hN]; decide) fun K hK => ?_ | refine AWP.rn (Gf_ok F65_ok) [] [0, 1, 5, 6, 7, 27] (by rw [hN]; decide) fun K hK => ?_
  repeat
    first | apply eL | (apply eG; (case ht => exact rfl); (case hef => exact rfl))
    case e => (simp only [evB, evG, evGR, Q.evalR, boolOf, opQ, opMove, opPick, opBin, opUn, opConv, opExtract, opNil, opAlloc, opBox, opBuild, opBuildSlice, opMakeSlice, opLoad, opStore, opSlice, opFieldAddr, opField, opIndexAddr, opIndex, opLen, opMinMax, opAppend, opAppendZ, opCall, opCallF, Q.opnd, Q.opndW, Q.eval, Q.ret, Q.elems, Q.cells, Q.parts, Q.args, Q.src, Q.optInt, intOf?, placeOf, fillA, setAll, mkAgg, datas, loadSel, ofCells, pickV, binI, binS, look, Value.oneCell', normD, smallNil, KD.known, KD.agg, T, TI.z, Dat.wd, Dat.cells, Dat.nagg, AV.ren, renL, AV.renT, AV.hi, AV.hi1, Ob.isRow, Ob.inn, Ob.out, Ob.gam, Ob.data, Ob.alike, loL, Gf, Mu, Dat.flat, Dat.isV, List.contains, List.elem, Option.isSome, Nat.reduceAdd, Nat.reduceSub, Nat.reduceMul, Nat.reduceEqDiff, Nat.reduceLeDiff, Nat.reduceBEq, reduceIte, reduceCtorEq, Int.reduceLT, Int.reduceLE, Int.reduceNeg, Int.reduceEq, Int.reduceToNat, Int.reducePow, Nat.reducePow, Nat.reduceLT, IntKind.bits, hf31, e31, hf49, e49, hf52, e52, hf54, e54, hf56, e56, hf57, e57, hf58, e58, evP, evS, toPrs_prs, toSgs_sgs, toInts_ints, Int.toNat_natCast]; (try simp (disch := omega) only [evA]); exact rfl)
    case s => ((try simp only [evU]); exact rfl)
    case hp => (first | exact True.intro | ((and_intros <;> first | exact True.intro | omega | assumption | (intro hq; first | omega | (rw [hq]; rfl) | (simp; done) | (simp [hq]; done) | (intro hq2; first | (rw [hq, hq2]; rfl) | (simp [hq, hq2]; done) | (simp_all; done))) | (simp; done) | (simp_all; done))) | (intro hg; (and_intros <;> first | exact True.intro | omega | assumption | (intro hq; first | omega | (rw [hq]; rfl) | (simp; done) | (simp [hq]; done) | (intro hq2; first | (rw [hq, hq2]; rfl) | (simp [hq, hq2]; done) | (simp_all; done))) | (simp; done) | (simp_all; done))) | (intro hg; simp at hg; (and_intros <;> first | exact True.intro | omega | assumption | (intro hq; first | omega | (rw [hq]; rfl) | (simp; done) | (simp [hq]; done) | (intro hq2; first | (rw [hq, hq2]; rfl) | (simp [hq, hq2]; done) | (simp_all; done))) | (simp; done) | (simp_all; done))))
  rw [evalL_nil]
  refine hK _ ?_
  clear hK K
  simp only [evU, St.keep, List.map_cons, look, reduceIte, Nat.reduceEqDiff]
  try show AWP _ _ _ _ _
  repeat refine AWP.nest ?_
  first | refine AWP.seq (AWP.cond (b := _) rfl (fun hc => ?_) (fun hc => ?_)) | refine AWP.cond (b := _) rfl (fun hc => ?_) (fun hc => ?_)
  all_goals try simp only [evC] at hc
  · have eR : rightS q = false := by simpa using hc
    have eS : segP q = [] := by unfold segP; rw [eR]; rfl
    have eQ : datP q = [] := by unfold datP; rw [eR]; rfl
    have eI : (if rightS q = true then (0 : Int) else 2) = 2 := by rw [eR]; rfl
    have eL0 := lookS_nil [] 65
    have hm := mapS_nil
    have ⟨m1, m2, m3⟩ := hm
    rw [eS, eQ, eI]
    repeat refine AWP.nest ?_
    first | refine AWP.rs (Gf_ok F65_ok) [] [4] (by rw [hN]; decide) fun K hK => ?_ | refine AWP.rn (Gf_ok F65_ok) [] [4] (by rw [hN]; decide) fun K hK => ?_
    repeat
      first | apply eL | (apply eG; (case ht => exact rfl); (case hef => exact rfl))
      case e => (simp only [evB, evG, evGR, Q.evalR, boolOf, opQ, opMove, opPick, opBin, opUn, opConv, opExtract, opNil, opAlloc, opBox, opBuild, opBuildSlice, opMakeSlice, opLoad, opStore, opSlice, opFieldAddr, opField, opIndexAddr, opIndex, opLen, opMinMax, opAppend, opAppendZ, opCall, opCallF, Q.opnd, Q.opndW, Q.eval, Q.ret, Q.elems, Q.cells, Q.parts, Q.args, Q.src, Q.optInt, intOf?, placeOf, fillA, setAll, mkAgg, datas, loadSel, ofCells, pickV, binI, binS, look, Value.oneCell', normD, smallNil, KD.known, KD.agg, T, TI.z, Dat.wd, Dat.cells, Dat.nagg, AV.ren, renL, AV.renT, AV.hi, AV.hi1, Ob.isRow, Ob.inn, Ob.out, Ob.gam, Ob.data, Ob.alike, loL, Gf, Mu, Dat.flat, Dat.isV, List.contains, List.elem, Option.isSome, Nat.reduceAdd, Nat.reduceSub, Nat.reduceMul, Nat.reduceEqDiff, Nat.reduceLeDiff, Nat.reduceBEq, reduceIte, reduceCtorEq, Int.reduceLT, Int.reduceLE, Int.reduceNeg, Int.reduceEq, Int.reduceToNat, Int.reducePow, Nat.reducePow, Nat.reduceLT, IntKind.bits, hf31, e31, hf49, e49, hf52, e52, hf54, e54, hf56, e56, hf57, e57, hf58, e58, evP, evS, toPrs_prs, toSgs_sgs, toInts_ints, Int.toNat_natCast, eL0]; (try simp (disch := omega) only [evA]); exact rfl)
      case s => ((try simp only [evU]); exact rfl)
      case hp => (first | exact True.intro | ((and_intros <;> first | exact True.intro | omega | assumption | (intro hq; first | omega | (rw [hq]; rfl) | (simp; done) | (simp [hq]; done) | (intro hq2; first | (rw [hq, hq2]; rfl) | (simp [hq, hq2]; done) | (simp_all; done))) | (simp; done) | (simp_all; done))) | (intro hg; (and_intros <;> first | exact True.intro | omega | assumption | (intro hq; first | omega | (rw [hq]; rfl) | (simp; done) | (simp [hq]; done) | (intro hq2; first | (rw [hq, hq2]; rfl) | (simp [hq, hq2]; done) | (simp_all; done))) | (simp; done) | (simp_all; done))) | (intro hg; simp at hg; (and_intros <;> first | exact True.intro | omega | assumption | (intro hq; first | omega | (rw [hq]; rfl) | (simp; done) | (simp [hq]; done) | (intro hq2; first | (rw [hq, hq2]; rfl) | (simp [hq, hq2]; done) | (simp_all; done))) | (simp; done) | (simp_all; done))))
    rw [evalL_nil]
    refine hK _ ?_
    clear hK K
    simp only [evU, St.keep, List.map_cons, look, reduceIte, Nat.reduceEqDiff]
    try show AWP _ _ _ _ _
    refine AWP.ret ?_
    refine ⟨.inl rfl, ⟨⟨_, rfl, ?_⟩, fun ob hob => by cases hob⟩⟩
    simp only [look, reduceIte, Nat.reduceEqDiff]
    refine sub1_of ?_
    simp
  refine AWP.skip ?_
  show AWP _ _ _ _ _
  have eR : rightS q = true := by simpa using hc
  clear hc
  obtain ⟨hm, hsl, hlk⟩ := right_mapS hq eR
  have eI : (if rightS q = true then (0 : Int) else 2) = 0 := by rw [eR]; rfl
  have eN : (if rightS q = true then (nS q : Int) else 0) = nS q := by rw [eR]; rfl
  have hnl : nS q ≤ 32767 := (hdS_num hq (rightS_iff.1 eR).1).2.1
  have hbd : ∀ c, 0 ≤ lookS (segsR q (nS q)) q c ∧ lookS (segsR q (nS q)) q c ≤ 65535 := fun c => by rw [← hlk]; exact lookS_bd hm c
  rw [eI, eN]
  have hsl' : ((segP q).length : Int) = nS q := by omega
  clear hsl eI eN eR
  have hdb : Byt (datP q) := hm.2.1
  generalize segP q = S at hm hlk hsl' ⊢
  generalize datP q = D at hm hlk hdb ⊢
  have ⟨m1, m2, m3⟩ := hm
  have hwc : ∀ i, -2147483648 ≤ cs.getD i 0 ∧ cs.getD i 0 ≤ 2147483647 := fun i => hw.getD i
  repeat refine AWP.nest ?_
  first | refine AWP.rs (Gf_ok F65_ok) [] [0, 1, 5, 7, 47] (by rw [hN]; decide) fun K hK => ?_ | refine AWP.rn (Gf_ok F65_ok) [] [0, 1, 5, 7, 47] (by rw [hN]; decide) fun K hK => ?_
  repeat
    first | apply eL | (apply eG; (case ht => exact rfl); (case hef => exact rfl))
    case e => (simp only [evB, evG, evGR, Q.evalR, boolOf, opQ, opMove, opPick, opBin, opUn, opConv, opExtract, opNil, opAlloc, opBox, opBuild, opBuildSlice, opMakeSlice, opLoad, opStore, opSlice, opFieldAddr, opField, opIndexAddr, opIndex, opLen, opMinMax, opAppend, opAppendZ, opCall, opCallF, Q.opnd, Q.opndW, Q.eval, Q.ret, Q.elems, Q.cells, Q.parts, Q.args, Q.src, Q.optInt, intOf?, placeOf, fillA, setAll, mkAgg, datas, loadSel, ofCells, pickV, binI, binS, look, Value.oneCell', normD, smallNil, KD.known, KD.agg, T, TI.z, Dat.wd, Dat.cells, Dat.nagg, AV.ren, renL, AV.renT, AV.hi, AV.hi1, Ob.isRow, Ob.inn, Ob.out, Ob.gam, Ob.data, Ob.alike, loL, Gf, Mu, Dat.flat, Dat.isV, List.contains, List.elem, Option.isSome, Nat.reduceAdd, Nat.reduceSub, Nat.reduceMul, Nat.reduceEqDiff, Nat.reduceLeDiff, Nat.reduceBEq, reduceIte, reduceCtorEq, Int.reduceLT, Int.reduceLE, Int.reduceNeg, Int.reduceEq, Int.reduceToNat, Int.reducePow, Nat.reducePow, Nat.reduceLT, IntKind.bits, hf31, e31, hf49, e49, hf52, e52, hf54, e54, hf56, e56, hf57, e57, hf58, e58, evP, evS, toPrs_prs, toSgs_sgs, toInts_ints, Int.toNat_natCast, hsl']; (try simp (disch := omega) only [evA]); exact rfl)
    case s => ((try simp only [evU]); exact rfl)
    case hp => (first | exact True.intro | ((and_intros <;> first | exact True.intro | omega | assumption | (intro hq; first | omega | (rw [hq]; rfl) | (simp; done) | (simp [hq]; done) | (intro hq2; first | (rw [hq, hq2]; rfl) | (simp [hq, hq2]; done) | (simp_all; done))) | (simp; done) | (simp_all; done))) | (intro hg; (and_intros <;> first | exact True.intro | omega | assumption | (intro hq; first | omega | (rw [hq]; rfl) | (simp; done) | (simp [hq]; done) | (intro hq2; first | (rw [hq, hq2]; rfl) | (simp [hq, hq2]; done) | (simp_all; done))) | (simp; done) | (simp_all; done))) | (intro hg; simp at hg; (and_intros <;> first | exact True.intro | omega | assumption | (intro hq; first | omega | (rw [hq]; rfl) | (simp; done) | (simp [hq]; done) | (intro hq2; first | (rw [hq, hq2]; rfl) | (simp [hq, hq2]; done) | (simp_all; done))) | (simp; done) | (simp_all; done))))
  rw [evalL_nil]
  refine hK _ ?_
  clear hK K
  simp only [evU, St.keep, List.map_cons, look, reduceIte, Nat.reduceEqDiff]
  try show AWP _ _ _ _ _
  repeat refine AWP.nest ?_
  first | refine AWP.seq (AWP.cond (b := _) rfl (fun hc => ?_) (fun hc => ?_)) | refine AWP.cond (b := _) rfl (fun hc => ?_) (fun hc => ?_)
  all_goals try simp only [evC] at hc
  · exfalso
    simp at hc
  refine AWP.skip ?_
  show AWP _ _ _ _ _
  clear hc
  repeat refine AWP.nest ?_
  first | refine AWP.rs (Gf_ok F65_ok) [] [0, 5, 7, 48, 49, 50] (by rw [hN]; decide) fun K hK => ?_ | refine AWP.rn (Gf_ok F65_ok) [] [0, 5, 7, 48, 49, 50] (by rw [hN]; decide) fun K hK => ?_
  repeat
    first | apply eL | (apply eG; (case ht => exact rfl); (case hef => exact rfl))
    case e => (simp only [evB, evG, evGR, Q.evalR, boolOf, opQ, opMove, opPick, opBin, opUn, opConv, opExtract, opNil, opAlloc, opBox, opBuild, opBuildSlice, opMakeSlice, opLoad, opStore, opSlice, opFieldAddr, opField, opIndexAddr, opIndex, opLen, opMinMax, opAppend, opAppendZ, opCall, opCallF, Q.opnd, Q.opndW, Q.eval, Q.ret, Q.elems, Q.cells, Q.parts, Q.args, Q.src, Q.optInt, intOf?, placeOf, fillA, setAll, mkAgg, datas, loadSel, ofCells, pickV, binI, binS, look, Value.oneCell', normD, smallNil, KD.known, KD.agg, T, TI.z, Dat.wd, Dat.cells, Dat.nagg, AV.ren, renL, AV.renT, AV.hi, AV.hi1, Ob.isRow, Ob.inn, Ob.out, Ob.gam, Ob.data, Ob.alike, loL, Gf, Mu, Dat.flat, Dat.isV, List.contains, List.elem, Option.isSome, Nat.reduceAdd, Nat.reduceSub, Nat.reduceMul, Nat.reduceEqDiff, Nat.reduceLeDiff, Nat.reduceBEq, reduceIte, reduceCtorEq, Int.reduceLT, Int.reduceLE, Int.reduceNeg, Int.reduceEq, Int.reduceToNat, Int.reducePow, Nat.reducePow, Nat.reduceLT, IntKind.bits, hf31, e31, hf49, e49, hf52, e52, hf54, e54, hf56, e56, hf57, e57, hf58, e58, evP, evS, toPrs_prs, toSgs_sgs, toInts_ints, Int.toNat_natCast]; (try simp (disch := omega) only [evA]); exact rfl)
    case s => ((try simp only [evU]); exact rfl)
    case hp => (first | exact True.intro | ((and_intros <;> first | exact True.intro | omega | assumption | (intro hq; first | omega | (rw [hq]; rfl) | (simp; done) | (simp [hq]; done) | (intro hq2; first | (rw [hq, hq2]; rfl) | (simp [hq, hq2]; done) | (simp_all; done))) | (simp; done) | (simp_all; done))) | (intro hg; (and_intros <;> first | exact True.intro | omega | assumption | (intro hq; first | omega | (rw [hq]; rfl) | (simp; done) | (simp [hq]; done) | (intro hq2; first | (rw [hq, hq2]; rfl) | (simp [hq, hq2]; done) | (simp_all; done))) | (simp; done) | (simp_all; done))) | (intro hg; simp at hg; (and_intros <;> first | exact True.intro | omega | assumption | (intro hq; first | omega | (rw [hq]; rfl) | (simp; done) | (simp [hq]; done) | (intro hq2; first | (rw [hq, hq2]; rfl) | (simp [hq, hq2]; done) | (simp_all; done))) | (simp; done) | (simp_all; done))))
  rw [evalL_nil]
  refine hK _ ?_
  clear hK K
  simp only [evU, St.keep, List.map_cons, look, reduceIte, Nat.reduceEqDiff]
  try show AWP _ _ _ _ _
  repeat refine AWP.nest ?_
  first | refine AWP.seq (AWP.block ?_) | refine AWP.block ?_
  refine AWP.loop (fun k st => ∃ (i : Nat), i ≤ cs.length ∧ k = cs.length - i ∧ st = ⟨[(0, .d true (.sl 1 (ints .u8 q))), (5, .ptr 0 0), (7, .d true (.v (.int .i64 (nS q : Int)))), (48, .d false (.sl 1 (ints .i32 cs))), (49, .d true (.v (.int .i64 (cs.length : Int)))), (50, .d true (.v (.int .i64 (i : Int))))], [some (.cells 69 [.d true (.sl 4 (sgs S)), .d true (.sl 1 (ints .u8 D))])]⟩) (cs.length) ?_ ?_
  · exact ⟨0, Nat.zero_le _, rfl, rfl⟩
  rintro k st ⟨i, hi, hk, rfl⟩
  repeat refine AWP.nest ?_
  first | refine AWP.rs (Gf_ok F65_ok) [] [0, 5, 7, 48, 49, 50, 51] (by rw [hN]; decide) fun K hK => ?_ | refine AWP.rn (Gf_ok F65_ok) [] [0, 5, 7, 48, 49, 50, 51] (by rw [hN]; decide) fun K hK => ?_
  repeat
    first | apply eL | (apply eG; (case ht => exact rfl); (case hef => exact rfl))
    case e => (simp only [evB, evG, evGR, Q.evalR, boolOf, opQ, opMove, opPick, opBin, opUn, opConv, opExtract, opNil, opAlloc, opBox, opBuild, opBuildSlice, opMakeSlice, opLoad, opStore, opSlice, opFieldAddr, opField, opIndexAddr, opIndex, opLen, opMinMax, opAppend, opAppendZ, opCall, opCallF, Q.opnd, Q.opndW, Q.eval, Q.ret, Q.elems, Q.cells, Q.parts, Q.args, Q.src, Q.optInt, intOf?, placeOf, fillA, setAll, mkAgg, datas, loadSel, ofCells, pickV, binI, binS, look, Value.oneCell', normD, smallNil, KD.known, KD.agg, T, TI.z, Dat.wd, Dat.cells, Dat.nagg, AV.ren, renL, AV.renT, AV.hi, AV.hi1, Ob.isRow, Ob.inn, Ob.out, Ob.gam, Ob.data, Ob.alike, loL, Gf, Mu, Dat.flat, Dat.isV, List.contains, List.elem, Option.isSome, Nat.reduceAdd, Nat.reduceSub, Nat.reduceMul, Nat.reduceEqDiff, Nat.reduceLeDiff, Nat.reduceBEq, reduceIte, reduceCtorEq, Int.reduceLT, Int.reduceLE, Int.reduceNeg, Int.reduceEq, Int.reduceToNat, Int.reducePow, Nat.reducePow, Nat.reduceLT, IntKind.bits, hf31, e31, hf49, e49, hf52, e52, hf54, e54, hf56, e56, hf57, e57, hf58, e58, evP, evS, toPrs_prs, toSgs_sgs, toInts_ints, Int.toNat_natCast]; (try simp (disch := omega) only [evA]); exact rfl)
    case s => ((try simp only [evU]); exact rfl)
    case hp => (first | exact True.intro | ((and_intros <;> first | exact True.intro | omega | assumption | (intro hq; first | omega | (rw [hq]; rfl) | (simp; done) | (simp [hq]; done) | (intro hq2; first | (rw [hq, hq2]; rfl) | (simp [hq, hq2]; done) | (simp_all; done))) | (simp; done) | (simp_all; done))) | (intro hg; (and_intros <;> first | exact True.intro | omega | assumption | (intro hq; first | omega | (rw [hq]; rfl) | (simp; done) | (simp [hq]; done) | (intro hq2; first | (rw [hq, hq2]; rfl) | (simp [hq, hq2]; done) | (simp_all; done))) | (simp; done) | (simp_all; done))) | (intro hg; simp at hg; (and_intros <;> first | exact True.intro | omega | assumption | (intro hq; first | omega | (rw [hq]; rfl) | (simp; done) | (simp [hq]; done) | (intro hq2; first | (rw [hq, hq2]; rfl) | (simp [hq, hq2]; done) | (simp_all; done))) | (simp; done) | (simp_all; done))))
  rw [evalL_nil]
  refine hK _ ?_
  clear hK K
  simp only [evU, St.keep, List.map_cons, look, reduceIte, Nat.reduceEqDiff]
  try show AWP _ _ _ _ _
  first | refine AWP.seq (AWP.cond (b := _) rfl (fun hc => ?_) (fun hc => ?_)) | refine AWP.cond (b := _) rfl (fun hc => ?_) (fun hc => ?_)
  rotate_left
  · refine AWP.exit ?_
    show AWP _ _ _ _ _
    simp only [evC, Int.not_lt] at hc
    clear hc hk hi
    repeat refine AWP.nest ?_
    first | refine AWP.rs (Gf_ok F65_ok) [] [0, 5, 7, 70] (by rw [hN]; decide) fun K hK => ?_ | refine AWP.rn (Gf_ok F65_ok) [] [0, 5, 7, 70] (by rw [hN]; decide) fun K hK => ?_
    repeat
      first | apply eL | (apply eG; (case ht => exact rfl); (case hef => exact rfl))
      case e => (simp only [evB, evG, evGR, Q.evalR, boolOf, opQ, opMove, opPick, opBin, opUn, opConv, opExtract, opNil, opAlloc, opBox, opBuild, opBuildSlice, opMakeSlice, opLoad, opStore, opSlice, opFieldAddr, opField, opIndexAddr, opIndex, opLen, opMinMax, opAppend, opAppendZ, opCall, opCallF, Q.opnd, Q.opndW, Q.eval, Q.ret, Q.elems, Q.cells, Q.parts, Q.args, Q.src, Q.optInt, intOf?, placeOf, fillA, setAll, mkAgg, datas, loadSel, ofCells, pickV, binI, binS, look, Value.oneCell', normD, smallNil, KD.known, KD.agg, T, TI.z, Dat.wd, Dat.cells, Dat.nagg, AV.ren, renL, AV.renT, AV.hi, AV.hi1, Ob.isRow, Ob.inn, Ob.out, Ob.gam, Ob.data, Ob.alike, loL, Gf, Mu, Dat.flat, Dat.isV, List.contains, List.elem, Option.isSome, Nat.reduceAdd, Nat.reduceSub, Nat.reduceMul, Nat.reduceEqDiff, Nat.reduceLeDiff, Nat.reduceBEq, reduceIte, reduceCtorEq, Int.reduceLT, Int.reduceLE, Int.reduceNeg, Int.reduceEq, Int.reduceToNat, Int.reducePow, Nat.reducePow, Nat.reduceLT, IntKind.bits, hf31, e31, hf49, e49, hf52, e52, hf54, e54, hf56, e56, hf57, e57, hf58, e58, evP, evS, toPrs_prs, toSgs_sgs, toInts_ints, Int.toNat_natCast]; (try simp (disch := omega) only [evA]); exact rfl)
      case s => ((try simp only [evU]); exact rfl)
      case hp => (first | exact True.intro | ((and_intros <;> first | exact True.intro | omega | assumption | (intro hq; first | omega | (rw [hq]; rfl) | (simp; done) | (simp [hq]; done) | (intro hq2; first | (rw [hq, hq2]; rfl) | (simp [hq, hq2]; done) | (simp_all; done))) | (simp; done) | (simp_all; done))) | (intro hg; (and_intros <;> first | exact True.intro | omega | assumption | (intro hq; first | omega | (rw [hq]; rfl) | (simp; done) | (simp [hq]; done) | (intro hq2; first | (rw [hq, hq2]; rfl) | (simp [hq, hq2]; done) | (simp_all; done))) | (simp; done) | (simp_all; done))) | (intro hg; simp at hg; (and_intros <;> first | exact True.intro | omega | assumption | (intro hq; first | omega | (rw [hq]; rfl) | (simp; done) | (simp [hq]; done) | (intro hq2; first | (rw [hq, hq2]; rfl) | (simp [hq, hq2]; done) | (simp_all; done))) | (simp; done) | (simp_all; done))))
    rw [evalL_nil]
    refine hK _ ?_
    clear hK K
    simp only [evU, St.keep, List.map_cons, look, reduceIte, Nat.reduceEqDiff]
    try show AWP _ _ _ _ _
    repeat refine AWP.nest ?_
    first | refine AWP.seq (AWP.block ?_) | refine AWP.block ?_
    refine AWP.loop (fun k st => ∃ (c : Nat), c ≤ 600 ∧ k = 600 - c ∧ st = ⟨[(0, .d true (.sl 1 (ints .u8 q))), (5, .ptr 0 0), (7, .d true (.v (.int .i64 (nS q : Int)))), (70, .d true (.v (.int .i32 (c : Int))))], [some (.cells 69 [.d true (.sl 4 (sgs S)), .d true (.sl 1 (ints .u8 D))])]⟩) (600) ?_ ?_
    · exact ⟨0, by omega, rfl, rfl⟩
    rintro k st ⟨c, hc3, hk, rfl⟩
    repeat refine AWP.nest ?_
    first | refine AWP.rs (Gf_ok F65_ok) [] [0, 5, 7, 70, 71] (by rw [hN]; decide) fun K hK => ?_ | refine AWP.rn (Gf_ok F65_ok) [] [0, 5, 7, 70, 71] (by rw [hN]; decide) fun K hK => ?_
    repeat
      first | apply eL | (apply eG; (case ht => exact rfl); (case hef => exact rfl))
      case e => (simp only [evB, evG, evGR, Q.evalR, boolOf, opQ, opMove, opPick, opBin, opUn, opConv, opExtract, opNil, opAlloc, opBox, opBuild, opBuildSlice, opMakeSlice, opLoad, opStore, opSlice, opFieldAddr, opField, opIndexAddr, opIndex, opLen, opMinMax, opAppend, opAppendZ, opCall, opCallF, Q.opnd, Q.opndW, Q.eval, Q.ret, Q.elems, Q.cells, Q.parts, Q.args, Q.src, Q.optInt, intOf?, placeOf, fillA, setAll, mkAgg, datas, loadSel, ofCells, pickV, binI, binS, look, Value.oneCell', normD, smallNil, KD.known, KD.agg, T, TI.z, Dat.wd, Dat.cells, Dat.nagg, AV.ren, renL, AV.renT, AV.hi, AV.hi1, Ob.isRow, Ob.inn, Ob.out, Ob.gam, Ob.data, Ob.alike, loL, Gf, Mu, Dat.flat, Dat.isV, List.contains, List.elem, Option.isSome, Nat.reduceAdd, Nat.reduceSub, Nat.reduceMul, Nat.reduceEqDiff, Nat.reduceLeDiff, Nat.reduceBEq, reduceIte, reduceCtorEq, Int.reduceLT, Int.reduceLE, Int.reduceNeg, Int.reduceEq, Int.reduceToNat, Int.reducePow, Nat.reducePow, Nat.reduceLT, IntKind.bits, hf31, e31, hf49, e49, hf52, e52, hf54, e54, hf56, e56, hf57, e57, hf58, e58, evP, evS, toPrs_prs, toSgs_sgs, toInts_ints, Int.toNat_natCast]; (try simp (disch := omega) only [evA]); exact rfl)
      case s => ((try simp only [evU]); exact rfl)
      case hp => (first | exact True.intro | ((and_intros <;> first | exact True.intro | omega | assumption | (intro hq; first | omega | (rw [hq]; rfl) | (simp; done) | (simp [hq]; done) | (intro hq2; first | (rw [hq, hq2]; rfl) | (simp [hq, hq2]; done) | (simp_all; done))) | (simp; done) | (simp_all; done))) | (intro hg; (and_intros <;> first | exact True.intro | omega | assumption | (intro hq; first | omega | (rw [hq]; rfl) | (simp; done) | (simp [hq]; done) | (intro hq2; first | (rw [hq, hq2]; rfl) | (simp [hq, hq2]; done) | (simp_all; done))) | (simp; done) | (simp_all; done))) | (intro hg; simp at hg; (and_intros <;> first | exact True.intro | omega | assumption | (intro hq; first | omega | (rw [hq]; rfl) | (simp; done) | (simp [hq]; done) | (intro hq2; first | (rw [hq, hq2]; rfl) | (simp [hq, hq2]; done) | (simp_all; done))) | (simp; done) | (simp_all; done))))
    rw [evalL_nil]
    refine hK _ ?_
    clear hK K
    simp only [evU, St.keep, List.map_cons, look, reduceIte, Nat.reduceEqDiff]
    try show AWP _ _ _ _ _
    first | refine AWP.seq (AWP.cond (b := _) rfl (fun hc => ?_) (fun hc => ?_)) | refine AWP.cond (b := _) rfl (fun hc => ?_) (fun hc => ?_)
    rotate_left
    · refine AWP.exit ?_
      show AWP _ _ _ _ _
      simp only [evC, Int.not_lt] at hc
      repeat refine AWP.nest ?_
      first | refine AWP.rs (Gf_ok F65_ok) [] [4] (by rw [hN]; decide) fun K hK => ?_ | refine AWP.rn (Gf_ok F65_ok) [] [4] (by rw [hN]; decide) fun K hK => ?_
      repeat
        first | apply eL | (apply eG; (case ht => exact rfl); (case hef => exact rfl))
        case e => (simp only [evB, evG, evGR, Q.evalR, boolOf, opQ, opMove, opPick, opBin, opUn, opConv, opExtract, opNil, opAlloc, opBox, opBuild, opBuildSlice, opMakeSlice, opLoad, opStore, opSlice, opFieldAddr, opField, opIndexAddr, opIndex, opLen, opMinMax, opAppend, opAppendZ, opCall, opCallF, Q.opnd, Q.opndW, Q.eval, Q.ret, Q.elems, Q.cells, Q.parts, Q.args, Q.src, Q.optInt, intOf?, placeOf, fillA, setAll, mkAgg, datas, loadSel, ofCells, pickV, binI, binS, look, Value.oneCell', normD, smallNil, KD.known, KD.agg, T, TI.z, Dat.wd, Dat.cells, Dat.nagg, AV.ren, renL, AV.renT, AV.hi, AV.hi1, Ob.isRow, Ob.inn, Ob.out, Ob.gam, Ob.data, Ob.alike, loL, Gf, Mu, Dat.flat, Dat.isV, List.contains, List.elem, Option.isSome, Nat.reduceAdd, Nat.reduceSub, Nat.reduceMul, Nat.reduceEqDiff, Nat.reduceLeDiff, Nat.reduceBEq, reduceIte, reduceCtorEq, Int.reduceLT, Int.reduceLE, Int.reduceNeg, Int.reduceEq, Int.reduceToNat, Int.reducePow, Nat.reducePow, Nat.reduceLT, IntKind.bits, hf31, e31, hf49, e49, hf52, e52, hf54, e54, hf56, e56, hf57, e57, hf58, e58, evP, evS, toPrs_prs, toSgs_sgs, toInts_ints, Int.toNat_natCast]; (try simp (disch := omega) only [evA]); exact rfl)
        case s => ((try simp only [evU]); exact rfl)
        case hp => (first | exact True.intro | ((and_intros <;> first | exact True.intro | omega | assumption | (intro hq; first | omega | (rw [hq]; rfl) | (simp; done) | (simp [hq]; done) | (intro hq2; first | (rw [hq, hq2]; rfl) | (simp [hq, hq2]; done) | (simp_all; done))) | (simp; done) | (simp_all; done))) | (intro hg; (and_intros <;> first | exact True.intro | omega | assumption | (intro hq; first | omega | (rw [hq]; rfl) | (simp; done) | (simp [hq]; done) | (intro hq2; first | (rw [hq, hq2]; rfl) | (simp [hq, hq2]; done) | (simp_all; done))) | (simp; done) | (simp_all; done))) | (intro hg; simp at hg; (and_intros <;> first | exact True.intro | omega | assumption | (intro hq; first | omega | (rw [hq]; rfl) | (simp; done) | (simp [hq]; done) | (intro hq2; first | (rw [hq, hq2]; rfl) | (simp [hq, hq2]; done) | (simp_all; done))) | (simp; done) | (simp_all; done))))
      rw [evalL_nil]
      refine hK _ ?_
      clear hK K
      simp only [evU, St.keep, List.map_cons, look, reduceIte, Nat.reduceEqDiff]
      try show AWP _ _ _ _ _
      refine AWP.ret ?_
      refine ⟨.inl rfl, ⟨⟨_, rfl, ?_⟩, fun ob hob => by cases hob⟩⟩
      simp only [look, reduceIte, Nat.reduceEqDiff]
      exact sub1_of rfl
    simp only [evC, Int.not_lt] at hc
    refine AWP.skip ?_
    show AWP _ _ _ _ _
    have hc' := hc
    clear hc
    repeat refine AWP.nest ?_
    first | refine AWP.seq (AWP.block ?_) | refine AWP.block ?_
    repeat refine AWP.nest ?_
    first | refine AWP.rs (Gf_ok F65_ok) [] [0, 5, 7, 11, 70] (by rw [hN]; decide) fun K hK => ?_ | refine AWP.rn (Gf_ok F65_ok) [] [0, 5, 7, 11, 70] (by rw [hN]; decide) fun K hK => ?_
    repeat
      first | apply eL | (apply eG; (case ht => exact rfl); (case hef => exact rfl))
      case e => (simp only [evB, evG, evGR, Q.evalR, boolOf, opQ, opMove, opPick, opBin, opUn, opConv, opExtract, opNil, opAlloc, opBox, opBuild, opBuildSlice, opMakeSlice, opLoad, opStore, opSlice, opFieldAddr, opField, opIndexAddr, opIndex, opLen, opMinMax, opAppend, opAppendZ, opCall, opCallF, Q.opnd, Q.opndW, Q.eval, Q.ret, Q.elems, Q.cells, Q.parts, Q.args, Q.src, Q.optInt, intOf?, placeOf, fillA, setAll, mkAgg, datas, loadSel, ofCells, pickV, binI, binS, look, Value.oneCell', normD, smallNil, KD.known, KD.agg, T, TI.z, Dat.wd, Dat.cells, Dat.nagg, AV.ren, renL, AV.renT, AV.hi, AV.hi1, Ob.isRow, Ob.inn, Ob.out, Ob.gam, Ob.data, Ob.alike, loL, Gf, Mu, Dat.flat, Dat.isV, List.contains, List.elem, Option.isSome, Nat.reduceAdd, Nat.reduceSub, Nat.reduceMul, Nat.reduceEqDiff, Nat.reduceLeDiff, Nat.reduceBEq, reduceIte, reduceCtorEq, Int.reduceLT, Int.reduceLE, Int.reduceNeg, Int.reduceEq, Int.reduceToNat, Int.reducePow, Nat.reducePow, Nat.reduceLT, IntKind.bits, hf31, e31, hf49, e49, hf52, e52, hf54, e54, hf56, e56, hf57, e57, hf58, e58, evP, evS, toPrs_prs, toSgs_sgs, toInts_ints, Int.toNat_natCast]; (try simp (disch := omega) only [evA]); exact rfl)
      case s => ((try simp only [evU]); exact rfl)
      case hp => (first | exact True.intro | ((and_intros <;> first | exact True.intro | omega | assumption | (intro hq; first | omega | (rw [hq]; rfl) | (simp; done) | (simp [hq]; done) | (intro hq2; first | (rw [hq, hq2]; rfl) | (simp [hq, hq2]; done) | (simp_all; done))) | (simp; done) | (simp_all; done))) | (intro hg; (and_intros <;> first | exact True.intro | omega | assumption | (intro hq; first | omega | (rw [hq]; rfl) | (simp; done) | (simp [hq]; done) | (intro hq2; first | (rw [hq, hq2]; rfl) | (simp [hq, hq2]; done) | (simp_all; done))) | (simp; done) | (simp_all; done))) | (intro hg; simp at hg; (and_intros <;> first | exact True.intro | omega | assumption | (intro hq; first | omega | (rw [hq]; rfl) | (simp; done) | (simp [hq]; done) | (intro hq2; first | (rw [hq, hq2]; rfl) | (simp [hq, hq2]; done) | (simp_all; done))) | (simp; done) | (simp_all; done))))
    rw [evalL_nil]
    refine hK _ ?_
    clear hK K
    simp only [evU, St.keep, List.map_cons, look, reduceIte, Nat.reduceEqDiff]
    try show AWP _ _ _ _ _
    have b1 := hbd c
    repeat refine AWP.nest ?_
    first | refine AWP.rs (Gf_ok F65_ok) [] [0, 5, 7, 70, 82] (by rw [hN]; decide) fun K hK => ?_ | refine AWP.rn (Gf_ok F65_ok) [] [0, 5, 7, 70, 82] (by rw [hN]; decide) fun K hK => ?_
    repeat
      first | apply eL | (apply eG; (case ht => exact rfl); (case hef => exact rfl))
      case e => (simp only [evB, evG, evGR, Q.evalR, boolOf, opQ, opMove, opPick, opBin, opUn, opConv, opExtract, opNil, opAlloc, opBox, opBuild, opBuildSlice, opMakeSlice, opLoad, opStore, opSlice, opFieldAddr, opField, opIndexAddr, opIndex, opLen, opMinMax, opAppend, opAppendZ, opCall, opCallF, Q.opnd, Q.opndW, Q.eval, Q.ret, Q.elems, Q.cells, Q.parts, Q.args, Q.src, Q.optInt, intOf?, placeOf, fillA, setAll, mkAgg, datas, loadSel, ofCells, pickV, binI, binS, look, Value.oneCell', normD, smallNil, KD.known, KD.agg, T, TI.z, Dat.wd, Dat.cells, Dat.nagg, AV.ren, renL, AV.renT, AV.hi, AV.hi1, Ob.isRow, Ob.inn, Ob.out, Ob.gam, Ob.data, Ob.alike, loL, Gf, Mu, Dat.flat, Dat.isV, List.contains, List.elem, Option.isSome, Nat.reduceAdd, Nat.reduceSub, Nat.reduceMul, Nat.reduceEqDiff, Nat.reduceLeDiff, Nat.reduceBEq, reduceIte, reduceCtorEq, Int.reduceLT, Int.reduceLE, Int.reduceNeg, Int.reduceEq, Int.reduceToNat, Int.reducePow, Nat.reducePow, Nat.reduceLT, IntKind.bits, hf31, e31, hf49, e49, hf52, e52, hf54, e54, hf56, e56, hf57, e57, hf58, e58, evP, evS, toPrs_prs, toSgs_sgs, toInts_ints, Int.toNat_natCast, hlk, toInts_ints]; (try simp (disch := omega) only [evA]); exact rfl)
      case s => ((try simp only [evU]); exact rfl)
      case hp => (first | exact True.intro | ((and_intros <;> first | exact True.intro | omega | assumption | (intro hq; first | omega | (rw [hq]; rfl) | (simp; done) | (simp [hq]; done) | (intro hq2; first | (rw [hq, hq2]; rfl) | (simp [hq, hq2]; done) | (simp_all; done))) | (simp; done) | (simp_all; done))) | (intro hg; (and_intros <;> first | exact True.intro | omega | assumption | (intro hq; first | omega | (rw [hq]; rfl) | (simp; done) | (simp [hq]; done) | (intro hq2; first | (rw [hq, hq2]; rfl) | (simp [hq, hq2]; done) | (simp_all; done))) | (simp; done) | (simp_all; done))) | (intro hg; simp at hg; (and_intros <;> first | exact True.intro | omega | assumption | (intro hq; first | omega | (rw [hq]; rfl) | (simp; done) | (simp [hq]; done) | (intro hq2; first | (rw [hq, hq2]; rfl) | (simp [hq, hq2]; done) | (simp_all; done))) | (simp; done) | (simp_all; done))))
    rw [evalL_nil]
    refine hK _ ?_
    clear hK K
    simp only [evU, St.keep, List.map_cons, look, reduceIte, Nat.reduceEqDiff]
    try show AWP _ _ _ _ _
    repeat refine AWP.nest ?_
    first | refine AWP.seq (AWP.cond (b := _) rfl (fun hc => ?_) (fun hc => ?_)) | refine AWP.cond (b := _) rfl (fun hc => ?_) (fun hc => ?_)
    all_goals try simp only [evC] at hc
    · exact absurd rfl hc
    refine AWP.skip ?_
    show AWP _ _ _ _ _
    clear hc
    repeat refine AWP.nest ?_
    first | refine AWP.rs (Gf_ok F65_ok) [] [0, 5, 7, 70] (by rw [hN]; decide) fun K hK => ?_ | refine AWP.rn (Gf_ok F65_ok) [] [0, 5, 7, 70] (by rw [hN]; decide) fun K hK => ?_
    repeat
      first | apply eL | (apply eG; (case ht => exact rfl); (case hef => exact rfl))
      case e => (simp only [evB, evG, evGR, Q.evalR, boolOf, opQ, opMove, opPick, opBin, opUn, opConv, opExtract, opNil, opAlloc, opBox, opBuild, opBuildSlice, opMakeSlice, opLoad, opStore, opSlice, opFieldAddr, opField, opIndexAddr, opIndex, opLen, opMinMax, opAppend, opAppendZ, opCall, opCallF, Q.opnd, Q.opndW, Q.eval, Q.ret, Q.elems, Q.cells, Q.parts, Q.args, Q.src, Q.optInt, intOf?, placeOf, fillA, setAll, mkAgg, datas, loadSel, ofCells, pickV, binI, binS, look, Value.oneCell', normD, smallNil, KD.known, KD.agg, T, TI.z, Dat.wd, Dat.cells, Dat.nagg, AV.ren, renL, AV.renT, AV.hi, AV.hi1, Ob.isRow, Ob.inn, Ob.out, Ob.gam, Ob.data, Ob.alike, loL, Gf, Mu, Dat.flat, Dat.isV, List.contains, List.elem, Option.isSome, Nat.reduceAdd, Nat.reduceSub, Nat.reduceMul, Nat.reduceEqDiff, Nat.reduceLeDiff, Nat.reduceBEq, reduceIte, reduceCtorEq, Int.reduceLT, Int.reduceLE, Int.reduceNeg, Int.reduceEq, Int.reduceToNat, Int.reducePow, Nat.reducePow, Nat.reduceLT, IntKind.bits, hf31, e31, hf49, e49, hf52, e52, hf54, e54, hf56, e56, hf57, e57, hf58, e58, evP, evS, toPrs_prs, toSgs_sgs, toInts_ints, Int.toNat_natCast]; (try simp (disch := omega) only [evA]); exact rfl)
      case s => ((try simp only [evU]); exact rfl)
      case hp => (first | exact True.intro | ((and_intros <;> first | exact True.intro | omega | assumption | (intro hq; first | omega | (rw [hq]; rfl) | (simp; done) | (simp [hq]; done) | (intro hq2; first | (rw [hq, hq2]; rfl) | (simp [hq, hq2]; done) | (simp_all; done))) | (simp; done) | (simp_all; done))) | (intro hg; (and_intros <;> first | exact True.intro | omega | assumption | (intro hq; first | omega | (rw [hq]; rfl) | (simp; done) | (simp [hq]; done) | (intro hq2; first | (rw [hq, hq2]; rfl) | (simp [hq, hq2]; done) | (simp_all; done))) | (simp; done) | (simp_all; done))) | (intro hg; simp at hg; (and_intros <;> first | exact True.intro | omega | assumption | (intro hq; first | omega | (rw [hq]; rfl) | (simp; done) | (simp [hq]; done) | (intro hq2; first | (rw [hq, hq2]; rfl) | (simp [hq, hq2]; done) | (simp_all; done))) | (simp; done) | (simp_all; done))))
    rw [evalL_nil]
    refine hK _ ?_
    clear hK K
    simp only [evU, St.keep, List.map_cons, look, reduceIte, Nat.reduceEqDiff]
    try show AWP _ _ _ _ _
    exact ⟨600 - (c + 1), by omega, c + 1, by omega, rfl, rfl⟩
  simp only [evC, Int.not_lt] at hc
  refine AWP.skip ?_
  show AWP _ _ _ _ _
  have hi' := hc
  clear hc
  have hci := hwc i
  have b1 := hbd (cs.getD i 0)
  repeat refine AWP.nest ?_
  first | refine AWP.seq (AWP.block ?_) | refine AWP.block ?_
  repeat refine AWP.nest ?_
  first | refine AWP.rs (Gf_ok F65_ok) [] [0, 5, 7, 9, 10, 48, 49, 50] (by rw [hN]; decide) fun K hK => ?_ | refine AWP.rn (Gf_ok F65_ok) [] [0, 5, 7, 9, 10, 48, 49, 50] (by rw [hN]; decide) fun K hK => ?_
  repeat
    first | apply eL | (apply eG; (case ht => exact rfl); (case hef => exact rfl))
    case e => (simp only [evB, evG, evGR, Q.evalR, boolOf, opQ, opMove, opPick, opBin, opUn, opConv, opExtract, opNil, opAlloc, opBox, opBuild, opBuildSlice, opMakeSlice, opLoad, opStore, opSlice, opFieldAddr, opField, opIndexAddr, opIndex, opLen, opMinMax, opAppend, opAppendZ, opCall, opCallF, Q.opnd, Q.opndW, Q.eval, Q.ret, Q.elems, Q.cells, Q.parts, Q.args, Q.src, Q.optInt, intOf?, placeOf, fillA, setAll, mkAgg, datas, loadSel, ofCells, pickV, binI, binS, look, Value.oneCell', normD, smallNil, KD.known, KD.agg, T, TI.z, Dat.wd, Dat.cells, Dat.nagg, AV.ren, renL, AV.renT, AV.hi, AV.hi1, Ob.isRow, Ob.inn, Ob.out, Ob.gam, Ob.data, Ob.alike, loL, Gf, Mu, Dat.flat, Dat.isV, List.contains, List.elem, Option.isSome, Nat.reduceAdd, Nat.reduceSub, Nat.reduceMul, Nat.reduceEqDiff, Nat.reduceLeDiff, Nat.reduceBEq, reduceIte, reduceCtorEq, Int.reduceLT, Int.reduceLE, Int.reduceNeg, Int.reduceEq, Int.reduceToNat, Int.reducePow, Nat.reducePow, Nat.reduceLT, IntKind.bits, hf31, e31, hf49, e49, hf52, e52, hf54, e54, hf56, e56, hf57, e57, hf58, e58, evP, evS, toPrs_prs, toSgs_sgs, toInts_ints, Int.toNat_natCast]; (try simp (disch := omega) only [evA]); exact rfl)
    case s => ((try simp only [evU]); exact rfl)
    case hp => (first | exact True.intro | ((and_intros <;> first | exact True.intro | omega | assumption | (intro hq; first | omega | (rw [hq]; rfl) | (simp; done) | (simp [hq]; done) | (intro hq2; first | (rw [hq, hq2]; rfl) | (simp [hq, hq2]; done) | (simp_all; done))) | (simp; done) | (simp_all; done))) | (intro hg; (and_intros <;> first | exact True.intro | omega | assumption | (intro hq; first | omega | (rw [hq]; rfl) | (simp; done) | (simp [hq]; done) | (intro hq2; first | (rw [hq, hq2]; rfl) | (simp [hq, hq2]; done) | (simp_all; done))) | (simp; done) | (simp_all; done))) | (intro hg; simp at hg; (and_intros <;> first | exact True.intro | omega | assumption | (intro hq; first | omega | (rw [hq]; rfl) | (simp; done) | (simp [hq]; done) | (intro hq2; first | (rw [hq, hq2]; rfl) | (simp [hq, hq2]; done) | (simp_all; done))) | (simp; done) | (simp_all; done))))
  rw [evalL_nil]
  refine hK _ ?_
  clear hK K
  simp only [evU, St.keep, List.map_cons, look, reduceIte, Nat.reduceEqDiff]
  try show AWP _ _ _ _ _
  repeat refine AWP.nest ?_
  first | refine AWP.rs (Gf_ok F65_ok) [] [0, 5, 7, 48, 49, 50, 68] (by rw [hN]; decide) fun K hK => ?_ | refine AWP.rn (Gf_ok F65_ok) [] [0, 5, 7, 48, 49, 50, 68] (by rw [hN]; decide) fun K hK => ?_
  repeat
    first | apply eL | (apply eG; (case ht => exact rfl); (case hef => exact rfl))
    case e => (simp only [evB, evG, evGR, Q.evalR, boolOf, opQ, opMove, opPick, opBin, opUn, opConv, opExtract, opNil, opAlloc, opBox, opBuild, opBuildSlice, opMakeSlice, opLoad, opStore, opSlice, opFieldAddr, opField, opIndexAddr, opIndex, opLen, opMinMax, opAppend, opAppendZ, opCall, opCallF, Q.opnd, Q.opndW, Q.eval, Q.ret, Q.elems, Q.cells, Q.parts, Q.args, Q.src, Q.optInt, intOf?, placeOf, fillA, setAll, mkAgg, datas, loadSel, ofCells, pickV, binI, binS, look, Value.oneCell', normD, smallNil, KD.known, KD.agg, T, TI.z, Dat.wd, Dat.cells, Dat.nagg, AV.ren, renL, AV.renT, AV.hi, AV.hi1, Ob.isRow, Ob.inn, Ob.out, Ob.gam, Ob.data, Ob.alike, loL, Gf, Mu, Dat.flat, Dat.isV, List.contains, List.elem, Option.isSome, Nat.reduceAdd, Nat.reduceSub, Nat.reduceMul, Nat.reduceEqDiff, Nat.reduceLeDiff, Nat.reduceBEq, reduceIte, reduceCtorEq, Int.reduceLT, Int.reduceLE, Int.reduceNeg, Int.reduceEq, Int.reduceToNat, Int.reducePow, Nat.reducePow, Nat.reduceLT, IntKind.bits, hf31, e31, hf49, e49, hf52, e52, hf54, e54, hf56, e56, hf57, e57, hf58, e58, evP, evS, toPrs_prs, toSgs_sgs, toInts_ints, Int.toNat_natCast, hlk, toInts_ints]; (try simp (disch := omega) only [evA]); exact rfl)
    case s => ((try simp only [evU]); exact rfl)
    case hp => (first | exact True.intro | ((and_intros <;> first | exact True.intro | omega | assumption | (intro hq; first | omega | (rw [hq]; rfl) | (simp; done) | (simp [hq]; done) | (intro hq2; first | (rw [hq, hq2]; rfl) | (simp [hq, hq2]; done) | (simp_all; done))) | (simp; done) | (simp_all; done))) | (intro hg; (and_intros <;> first | exact True.intro | omega | assumption | (intro hq; first | omega | (rw [hq]; rfl) | (simp; done) | (simp [hq]; done) | (intro hq2; first | (rw [hq, hq2]; rfl) | (simp [hq, hq2]; done) | (simp_all; done))) | (simp; done) | (simp_all; done))) | (intro hg; simp at hg; (and_intros <;> first | exact True.intro | omega | assumption | (intro hq; first | omega | (rw [hq]; rfl) | (simp; done) | (simp [hq]; done) | (intro hq2; first | (rw [hq, hq2]; rfl) | (simp [hq, hq2]; done) | (simp_all; done))) | (simp; done) | (simp_all; done))))
  rw [evalL_nil]
  refine hK _ ?_
  clear hK K
  simp only [evU, St.keep, List.map_cons, look, reduceIte, Nat.reduceEqDiff]
  try show AWP _ _ _ _ _
  repeat refine AWP.nest ?_
  first | refine AWP.seq (AWP.cond (b := _) rfl (fun hc => ?_) (fun hc => ?_)) | refine AWP.cond (b := _) rfl (fun hc => ?_) (fun hc => ?_)
  all_goals try simp only [evC] at hc
  · exfalso
    simp at hc
  refine AWP.skip ?_
  show AWP _ _ _ _ _
  clear hc
  repeat refine AWP.nest ?_
  first | refine AWP.rs (Gf_ok F65_ok) [] [0, 5, 7, 48, 49, 50] (by rw [hN]; decide) fun K hK => ?_ | refine AWP.rn (Gf_ok F65_ok) [] [0, 5, 7, 48, 49, 50] (by rw [hN]; decide) fun K hK => ?_
  repeat
    first | apply eL | (apply eG; (case ht => exact rfl); (case hef => exact rfl))
    case e => (simp only [evB, evG, evGR, Q.evalR, boolOf, opQ, opMove, opPick, opBin, opUn, opConv, opExtract, opNil, opAlloc, opBox, opBuild, opBuildSlice, opMakeSlice, opLoad, opStore, opSlice, opFieldAddr, opField, opIndexAddr, opIndex, opLen, opMinMax, opAppend, opAppendZ, opCall, opCallF, Q.opnd, Q.opndW, Q.eval, Q.ret, Q.elems, Q.cells, Q.parts, Q.args, Q.src, Q.optInt, intOf?, placeOf, fillA, setAll, mkAgg, datas, loadSel, ofCells, pickV, binI, binS, look, Value.oneCell', normD, smallNil, KD.known, KD.agg, T, TI.z, Dat.wd, Dat.cells, Dat.nagg, AV.ren, renL, AV.renT, AV.hi, AV.hi1, Ob.isRow, Ob.inn, Ob.out, Ob.gam, Ob.data, Ob.alike, loL, Gf, Mu, Dat.flat, Dat.isV, List.contains, List.elem, Option.isSome, Nat.reduceAdd, Nat.reduceSub, Nat.reduceMul, Nat.reduceEqDiff, Nat.reduceLeDiff, Nat.reduceBEq, reduceIte, reduceCtorEq, Int.reduceLT, Int.reduceLE, Int.reduceNeg, Int.reduceEq, Int.reduceToNat, Int.reducePow, Nat.reducePow, Nat.reduceLT, IntKind.bits, hf31, e31, hf49, e49, hf52, e52, hf54, e54, hf56, e56, hf57, e57, hf58, e58, evP, evS, toPrs_prs, toSgs_sgs, toInts_ints, Int.toNat_natCast]; (try simp (disch := omega) only [evA]); exact rfl)
    case s => ((try simp only [evU]); exact rfl)
    case hp => (first | exact True.intro | ((and_intros <;> first | exact True.intro | omega | assumption | (intro hq; first | omega | (rw [hq]; rfl) | (simp; done) | (simp [hq]; done) | (intro hq2; first | (rw [hq, hq2]; rfl) | (simp [hq, hq2]; done) | (simp_all; done))) | (simp; done) | (simp_all; done))) | (intro hg; (and_intros <;> first | exact True.intro | omega | assumption | (intro hq; first | omega | (rw [hq]; rfl) | (simp; done) | (simp [hq]; done) | (intro hq2; first | (rw [hq, hq2]; rfl) | (simp [hq, hq2]; done) | (simp_all; done))) | (simp; done) | (simp_all; done))) | (intro hg; simp at hg; (and_intros <;> first | exact True.intro | omega | assumption | (intro hq; first | omega | (rw [hq]; rfl) | (simp; done) | (simp [hq]; done) | (intro hq2; first | (rw [hq, hq2]; rfl) | (simp [hq, hq2]; done) | (simp_all; done))) | (simp; done) | (simp_all; done))))
  rw [evalL_nil]
  refine hK _ ?_
  clear hK K
  simp only [evU, St.keep, List.map_cons, look, reduceIte, Nat.reduceEqDiff]
  try show AWP _ _ _ _ _
  exact ⟨cs.length - (i + 1), by omega, i + 1, by omega, rfl, rfl⟩
theorem law14 (x : Dat) (h : (AT.sl 5 (.int .u8)).holds x) (y : Dat) (h2 : (AT.sl 21 (.int .i32)).holds y) : Spec Try.prog 14 [.d x.flat x, .d y.flat y] none ⟨True, .d true (.v (.bool true)), none⟩ := by
  obtain ⟨l, rfl, hl⟩ := bytes_of h
  obtain ⟨ys, rfl, hy⟩ := h2
  obtain ⟨m, rfl, hm⟩ := ints_of hy
  exact s14 l hl m (fun n hn => by have := bounds_i32 (hm n hn); omega)
end Go.AM

