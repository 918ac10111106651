/- AM: the laws of seg: awake. -/
import Derived.Test.YtmfobkiljlepjaaC36
import Derived.Test.YtmfobkiljlepjaaG7
set_option maxRecDepth 100000
set_option maxHeartbeats 8000000
set_option linter.unusedSimpArgs false
set_option linter.unusedVariables false
namespace Go.AM
open Go Go.Proofs

theorem prs_cons0 {a b : Int} {l : List (Int × Int)} : Dat.agg [.v (.int .i32 a), .v (.int .u16 b)] :: prs l = prs ((a, b) :: l) := rfl


theorem s49 : Spec Try.prog 49 [] none ⟨True, .d true (.v (.bool true)), none⟩ := by
  have hf51 : F64 51 = e51 := rfl
  have hf52 : F64 52 = e52 := rfl
  have hf54 : F64 54 = e54 := rfl
  have hf56 : F64 56 = e56 := rfl
  refine spec_of_awp (Gf_ok F64_ok) Try.func49 rfl (Nat.le_of_ble_eq_true rfl) fun E hps hN _ => ?_
  simp only [begin, List.zipIdx_cons, List.zipIdx_nil, List.map_cons, List.map_nil, Option.toList, Nat.zero_add, Nat.reduceAdd]
  have hp3 : PrOK [(65, 3), (66, 4)] := mem_pr (by decide)
  obtain ⟨M, B, eB, hM, hBb, hMl, hBl, h3, h4, h5, hmap, hlk⟩ := built_factsS (r := [(65, 3), (66, 4)]) rfl hp3 (by decide)
  have hM2 : M.length = 2 := by rw [hMl]; rfl
  have hl66 : lookS M B 66 = 4 := by rw [hlk]; rfl
  have e3 : (if rightS B = true then (0 : Int) else 2) = 0 := by rw [h3]; rfl
  clear hM hMl hlk
  repeat refine AWP.nest ?_
  first | refine AWP.rs (Gf_ok F64_ok) [] [] (by rw [hN]; decide) fun K hK => ?_ | refine AWP.rn (Gf_ok F64_ok) [] [] (by rw [hN]; decide) fun K hK => ?_
  repeat
    first | apply eL | (apply eG; (case ht => exact rfl); (case hef => exact rfl))
    case e => (simp only [evB, evG, evGR, Q.evalR, boolOf, opQ, opMove, opPick, opBin, opUn, opConv, opExtract, opNil, opAlloc, opBox, opBuild, opBuildSlice, opMakeSlice, opLoad, opStore, opSlice, opFieldAddr, opField, opIndexAddr, opIndex, opLen, opMinMax, opAppend, opAppendZ, opCall, opCallF, Q.opnd, Q.opndW, Q.eval, Q.ret, Q.elems, Q.cells, Q.parts, Q.args, Q.src, Q.optInt, intOf?, placeOf, fillA, setAll, mkAgg, datas, loadSel, ofCells, pickV, binI, binS, look, Value.oneCell', normD, smallNil, KD.known, KD.agg, T, TI.z, Dat.wd, Dat.cells, Dat.nagg, AV.ren, renL, AV.renT, AV.hi, AV.hi1, Ob.isRow, Ob.inn, Ob.out, Ob.gam, Ob.data, Ob.alike, loL, Gf, Mu, Dat.flat, Dat.isV, List.contains, List.elem, Option.isSome, Nat.reduceAdd, Nat.reduceSub, Nat.reduceMul, Nat.reduceEqDiff, Nat.reduceLeDiff, Nat.reduceBEq, reduceIte, reduceCtorEq, Int.reduceLT, Int.reduceLE, Int.reduceNeg, Int.reduceEq, Int.reduceToNat, Int.reducePow, Nat.reducePow, Nat.reduceLT, IntKind.bits, hf51, e51, hf52, e52, hf54, e54, hf56, e56, evP, evS, toPrs_prs, toSgs_sgs, toInts_ints, prs_cons0]; (try simp (disch := omega) only [evA]); exact rfl)
    case s => ((try simp only [evU]); exact rfl)
    case hp => (first | exact True.intro | ((and_intros <;> first | exact True.intro | omega | assumption | (intro hq; first | omega | (rw [hq]; rfl) | (simp; done) | (simp [hq]; done) | (intro hq2; first | (rw [hq, hq2]; rfl) | (simp [hq, hq2]; done) | (simp_all; done))) | (simp; done) | (simp_all; done))) | (intro hg; (and_intros <;> first | exact True.intro | omega | assumption | (intro hq; first | omega | (rw [hq]; rfl) | (simp; done) | (simp [hq]; done) | (intro hq2; first | (rw [hq, hq2]; rfl) | (simp [hq, hq2]; done) | (simp_all; done))) | (simp; done) | (simp_all; done))) | (intro hg; simp at hg; (and_intros <;> first | exact True.intro | omega | assumption | (intro hq; first | omega | (rw [hq]; rfl) | (simp; done) | (simp [hq]; done) | (intro hq2; first | (rw [hq, hq2]; rfl) | (simp [hq, hq2]; done) | (simp_all; done))) | (simp; done) | (simp_all; done))))
  rw [evalL_nil]
  refine hK _ ?_
  clear hK K
  simp only [evU, St.keep, List.map_cons, look, reduceIte, Nat.reduceEqDiff]
  try show AWP _ _ _ _ _
  repeat refine AWP.nest ?_
  first | refine AWP.rs (Gf_ok F64_ok) [] [1, 2] (by rw [hN]; decide) fun K hK => ?_ | refine AWP.rn (Gf_ok F64_ok) [] [1, 2] (by rw [hN]; decide) fun K hK => ?_
  repeat
    first | apply eL | (apply eG; (case ht => exact rfl); (case hef => exact rfl))
    case e => (simp only [evB, evG, evGR, Q.evalR, boolOf, opQ, opMove, opPick, opBin, opUn, opConv, opExtract, opNil, opAlloc, opBox, opBuild, opBuildSlice, opMakeSlice, opLoad, opStore, opSlice, opFieldAddr, opField, opIndexAddr, opIndex, opLen, opMinMax, opAppend, opAppendZ, opCall, opCallF, Q.opnd, Q.opndW, Q.eval, Q.ret, Q.elems, Q.cells, Q.parts, Q.args, Q.src, Q.optInt, intOf?, placeOf, fillA, setAll, mkAgg, datas, loadSel, ofCells, pickV, binI, binS, look, Value.oneCell', normD, smallNil, KD.known, KD.agg, T, TI.z, Dat.wd, Dat.cells, Dat.nagg, AV.ren, renL, AV.renT, AV.hi, AV.hi1, Ob.isRow, Ob.inn, Ob.out, Ob.gam, Ob.data, Ob.alike, loL, Gf, Mu, Dat.flat, Dat.isV, List.contains, List.elem, Option.isSome, Nat.reduceAdd, Nat.reduceSub, Nat.reduceMul, Nat.reduceEqDiff, Nat.reduceLeDiff, Nat.reduceBEq, reduceIte, reduceCtorEq, Int.reduceLT, Int.reduceLE, Int.reduceNeg, Int.reduceEq, Int.reduceToNat, Int.reducePow, Nat.reducePow, Nat.reduceLT, IntKind.bits, hf51, e51, hf52, e52, hf54, e54, hf56, e56, evP, evS, toPrs_prs, toSgs_sgs, toInts_ints, prs_cons0, eB, h4, h5, e3]; (try simp (disch := omega) only [evA]); exact rfl)
    case s => ((try simp only [evU]); exact rfl)
    case hp => (first | exact True.intro | ((and_intros <;> first | exact True.intro | omega | assumption | (intro hq; first | omega | (rw [hq]; rfl) | (simp; done) | (simp [hq]; done) | (intro hq2; first | (rw [hq, hq2]; rfl) | (simp [hq, hq2]; done) | (simp_all; done))) | (simp; done) | (simp_all; done))) | (intro hg; (and_intros <;> first | exact True.intro | omega | assumption | (intro hq; first | omega | (rw [hq]; rfl) | (simp; done) | (simp [hq]; done) | (intro hq2; first | (rw [hq, hq2]; rfl) | (simp [hq, hq2]; done) | (simp_all; done))) | (simp; done) | (simp_all; done))) | (intro hg; simp at hg; (and_intros <;> first | exact True.intro | omega | assumption | (intro hq; first | omega | (rw [hq]; rfl) | (simp; done) | (simp [hq]; done) | (intro hq2; first | (rw [hq, hq2]; rfl) | (simp [hq, hq2]; done) | (simp_all; done))) | (simp; done) | (simp_all; done))))
  rw [evalL_nil]
  refine hK _ ?_
  clear hK K
  simp only [evU, St.keep, List.map_cons, look, reduceIte, Nat.reduceEqDiff]
  try show AWP _ _ _ _ _
  repeat refine AWP.nest ?_
  first | refine AWP.rs (Gf_ok F64_ok) [] [0] (by rw [hN]; decide) fun K hK => ?_ | refine AWP.rn (Gf_ok F64_ok) [] [0] (by rw [hN]; decide) fun K hK => ?_
  repeat
    first | apply eL | (apply eG; (case ht => exact rfl); (case hef => exact rfl))
    case e => (simp only [evB, evG, evGR, Q.evalR, boolOf, opQ, opMove, opPick, opBin, opUn, opConv, opExtract, opNil, opAlloc, opBox, opBuild, opBuildSlice, opMakeSlice, opLoad, opStore, opSlice, opFieldAddr, opField, opIndexAddr, opIndex, opLen, opMinMax, opAppend, opAppendZ, opCall, opCallF, Q.opnd, Q.opndW, Q.eval, Q.ret, Q.elems, Q.cells, Q.parts, Q.args, Q.src, Q.optInt, intOf?, placeOf, fillA, setAll, mkAgg, datas, loadSel, ofCells, pickV, binI, binS, look, Value.oneCell', normD, smallNil, KD.known, KD.agg, T, TI.z, Dat.wd, Dat.cells, Dat.nagg, AV.ren, renL, AV.renT, AV.hi, AV.hi1, Ob.isRow, Ob.inn, Ob.out, Ob.gam, Ob.data, Ob.alike, loL, Gf, Mu, Dat.flat, Dat.isV, List.contains, List.elem, Option.isSome, Nat.reduceAdd, Nat.reduceSub, Nat.reduceMul, Nat.reduceEqDiff, Nat.reduceLeDiff, Nat.reduceBEq, reduceIte, reduceCtorEq, Int.reduceLT, Int.reduceLE, Int.reduceNeg, Int.reduceEq, Int.reduceToNat, Int.reducePow, Nat.reducePow, Nat.reduceLT, IntKind.bits, hf51, e51, hf52, e52, hf54, e54, hf56, e56, evP, evS, toPrs_prs, toSgs_sgs, toInts_ints, prs_cons0, hl66, hM2]; (try simp (disch := omega) only [evA]); exact rfl)
    case s => ((try simp only [evU]); exact rfl)
    case hp => (first | exact True.intro | ((and_intros <;> first | exact True.intro | omega | assumption | (intro hq; first | omega | (rw [hq]; rfl) | (simp; done) | (simp [hq]; done) | (intro hq2; first | (rw [hq, hq2]; rfl) | (simp [hq, hq2]; done) | (simp_all; done))) | (simp; done) | (simp_all; done))) | (intro hg; (and_intros <;> first | exact True.intro | omega | assumption | (intro hq; first | omega | (rw [hq]; rfl) | (simp; done) | (simp [hq]; done) | (intro hq2; first | (rw [hq, hq2]; rfl) | (simp [hq, hq2]; done) | (simp_all; done))) | (simp; done) | (simp_all; done))) | (intro hg; simp at hg; (and_intros <;> first | exact True.intro | omega | assumption | (intro hq; first | omega | (rw [hq]; rfl) | (simp; done) | (simp [hq]; done) | (intro hq2; first | (rw [hq, hq2]; rfl) | (simp [hq, hq2]; done) | (simp_all; done))) | (simp; done) | (simp_all; done))))
  rw [evalL_nil]
  refine hK _ ?_
  clear hK K
  simp only [evU, St.keep, List.map_cons, look, reduceIte, Nat.reduceEqDiff]
  try show AWP _ _ _ _ _
  refine AWP.ret ?_
  refine ⟨.inl rfl, ⟨⟨_, rfl, ?_⟩, fun ob hob => by cases hob⟩⟩
  simp only [look, reduceIte, Nat.reduceEqDiff]
  refine sub1_of ?_
  simp
def e49 : List AV → Option Ob → Option Res := fun args i => match args, i with
  | [], none => some ⟨True, .d true (.v (.bool true)), none⟩
  | _, _ => none
def F65 : FT := F64.upd 49 e49
theorem F65_ok : FOK Try.prog F65 := FOK.upd F64_ok Try.func49 (by kernel_rfl) rfl fun args i R h => by
  unfold e49 at h
  split at h
  · cases h; exact s49
  · cases h
end Go.AM

