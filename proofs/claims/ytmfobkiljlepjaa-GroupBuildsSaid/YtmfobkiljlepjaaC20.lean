/- AM: the laws of group: awake. -/
import Derived.Test.YtmfobkiljlepjaaG2
set_option maxRecDepth 100000
set_option maxHeartbeats 8000000
set_option linter.unusedSimpArgs false
set_option linter.unusedVariables false
namespace Go.AM
open Go Go.Proofs

theorem prs_cons {a b : Int} {l : List (Int × Int)} : Dat.agg [.v (.int .i32 a), .v (.int .u16 b)] :: prs l = prs ((a, b) :: l) := rfl

theorem s40 : Spec Try.prog 40 [] none ⟨True, .d true (.v (.bool true)), none⟩ := by
  have hf42 : F36 42 = e42 := rfl
  have hf43 : F36 43 = e43 := rfl
  have hf45 : F36 45 = e45 := rfl
  have hf46 : F36 46 = e46 := rfl
  refine spec_of_awp (Gf_ok F36_ok) Try.func40 rfl (Nat.le_of_ble_eq_true rfl) fun E hps hN _ => ?_
  simp only [begin, List.zipIdx_cons, List.zipIdx_nil, List.map_cons, List.map_nil, Option.toList, Nat.zero_add, Nat.reduceAdd]
  have hp3 : PrOK [(65, 3), (66, 4), (128512, 5)] := fun i => by
    match i with
    | 0 => simp [cd, gl]
    | 1 => simp [cd, gl]
    | 2 => simp [cd, gl]
    | n + 3 => simp [cd, gl]
  have hb3 := buildG_byt hp3 (by simp)
  have hr3 := build_read (l := [(65, 3), (66, 4), (128512, 5)]) rfl hp3 (by simp)
  have hg3 := good_map (good_runs (l := [(65, 3), (66, 4), (128512, 5)]) rfl hp3 (by simp))
  have er : runsTo [(65, 3), (66, 4), (128512, 5)] [((65 : Int), (3 : Int)), (66, 4), (128512, 5)].length = [(65, 66, 3), (128512, 128512, 5)] := rfl
  rw [er] at hr3 hg3
  obtain ⟨h1, h2⟩ := hb3
  obtain ⟨h3, h4⟩ := hr3
  have h5 : lookG [(65, 66, 3), (128512, 128512, 5)] 128512 = 5 := rfl
  repeat refine AWP.nest ?_
  first | refine AWP.rs (Gf_ok F36_ok) [] [] (by rw [hN]; decide) fun K hK => ?_ | refine AWP.rn (Gf_ok F36_ok) [] [] (by rw [hN]; decide) fun K hK => ?_
  repeat
    first | apply eL | (apply eG; (case ht => exact rfl); (case hef => exact rfl))
    case e => (simp only [evB, evG, evGR, Q.evalR, boolOf, opQ, opMove, opPick, opBin, opUn, opConv, opExtract, opNil, opAlloc, opBox, opBuild, opBuildSlice, opMakeSlice, opLoad, opStore, opSlice, opFieldAddr, opField, opIndexAddr, opIndex, opLen, opMinMax, opAppend, opAppendZ, opCall, opCallF, Q.opnd, Q.opndW, Q.eval, Q.ret, Q.elems, Q.cells, Q.parts, Q.args, Q.src, Q.optInt, intOf?, placeOf, fillA, setAll, mkAgg, datas, loadSel, ofCells, pickV, binI, binS, look, Value.oneCell', normD, smallNil, KD.known, KD.agg, T, TI.z, Dat.wd, Dat.cells, Dat.nagg, AV.ren, renL, AV.renT, AV.hi, AV.hi1, Ob.isRow, Ob.inn, Ob.out, Ob.gam, Ob.data, Ob.alike, loL, Gf, Mu, Dat.flat, Dat.isV, List.contains, List.elem, Option.isSome, Nat.reduceAdd, Nat.reduceSub, Nat.reduceMul, Nat.reduceEqDiff, Nat.reduceLeDiff, Nat.reduceBEq, reduceIte, reduceCtorEq, Int.reduceLT, Int.reduceLE, Int.reduceNeg, Int.reduceEq, Int.reduceToNat, Int.reducePow, Nat.reducePow, Nat.reduceLT, IntKind.bits, hf42, e42, hf43, e43, hf45, e45, hf46, e46, evP, toPrs_prs, toSps_sps, prs_cons]; (try simp (disch := omega) only [evA]); exact rfl)
    case s => ((try simp only [evU]); exact rfl)
    case hp => (first | exact True.intro | ((repeat' first | assumption | refine And.intro ?_ ?_ | intro hq) <;> first | exact True.intro | assumption | omega | (rw [hq]; rfl) | (simp; done) | (simp_all; done)) | (intro hg; simp at hg; (repeat' refine And.intro ?_ ?_) <;> first | exact True.intro | assumption | omega | exact fun h => h | (simp; done)))
  rw [evalL_nil]
  refine hK _ ?_
  clear hK K
  simp only [evU, St.keep, List.map_cons, look, reduceIte, Nat.reduceEqDiff]
  try show AWP _ _ _ _ _
  repeat refine AWP.nest ?_
  first | refine AWP.rs (Gf_ok F36_ok) [] [1, 2] (by rw [hN]; decide) fun K hK => ?_ | refine AWP.rn (Gf_ok F36_ok) [] [1, 2] (by rw [hN]; decide) fun K hK => ?_
  repeat
    first | apply eL | (apply eG; (case ht => exact rfl); (case hef => exact rfl))
    case e => (simp only [evB, evG, evGR, Q.evalR, boolOf, opQ, opMove, opPick, opBin, opUn, opConv, opExtract, opNil, opAlloc, opBox, opBuild, opBuildSlice, opMakeSlice, opLoad, opStore, opSlice, opFieldAddr, opField, opIndexAddr, opIndex, opLen, opMinMax, opAppend, opAppendZ, opCall, opCallF, Q.opnd, Q.opndW, Q.eval, Q.ret, Q.elems, Q.cells, Q.parts, Q.args, Q.src, Q.optInt, intOf?, placeOf, fillA, setAll, mkAgg, datas, loadSel, ofCells, pickV, binI, binS, look, Value.oneCell', normD, smallNil, KD.known, KD.agg, T, TI.z, Dat.wd, Dat.cells, Dat.nagg, AV.ren, renL, AV.renT, AV.hi, AV.hi1, Ob.isRow, Ob.inn, Ob.out, Ob.gam, Ob.data, Ob.alike, loL, Gf, Mu, Dat.flat, Dat.isV, List.contains, List.elem, Option.isSome, Nat.reduceAdd, Nat.reduceSub, Nat.reduceMul, Nat.reduceEqDiff, Nat.reduceLeDiff, Nat.reduceBEq, reduceIte, reduceCtorEq, Int.reduceLT, Int.reduceLE, Int.reduceNeg, Int.reduceEq, Int.reduceToNat, Int.reducePow, Nat.reducePow, Nat.reduceLT, IntKind.bits, hf42, e42, hf43, e43, hf45, e45, hf46, e46, evP, toPrs_prs, toSps_sps, prs_cons, h3, h4, toInts_ints]; (try simp (disch := omega) only [evA]); exact rfl)
    case s => ((try simp only [evU]); exact rfl)
    case hp => (first | exact True.intro | ((repeat' first | assumption | refine And.intro ?_ ?_ | intro hq) <;> first | exact True.intro | assumption | omega | (rw [hq]; rfl) | (simp; done) | (simp_all; done)) | (intro hg; simp at hg; (repeat' refine And.intro ?_ ?_) <;> first | exact True.intro | assumption | omega | exact fun h => h | (simp; done)))
  rw [evalL_nil]
  refine hK _ ?_
  clear hK K
  simp only [evU, St.keep, List.map_cons, look, reduceIte, Nat.reduceEqDiff]
  try show AWP _ _ _ _ _
  repeat refine AWP.nest ?_
  first | refine AWP.rs (Gf_ok F36_ok) [] [0] (by rw [hN]; decide) fun K hK => ?_ | refine AWP.rn (Gf_ok F36_ok) [] [0] (by rw [hN]; decide) fun K hK => ?_
  repeat
    first | apply eL | (apply eG; (case ht => exact rfl); (case hef => exact rfl))
    case e => (simp only [evB, evG, evGR, Q.evalR, boolOf, opQ, opMove, opPick, opBin, opUn, opConv, opExtract, opNil, opAlloc, opBox, opBuild, opBuildSlice, opMakeSlice, opLoad, opStore, opSlice, opFieldAddr, opField, opIndexAddr, opIndex, opLen, opMinMax, opAppend, opAppendZ, opCall, opCallF, Q.opnd, Q.opndW, Q.eval, Q.ret, Q.elems, Q.cells, Q.parts, Q.args, Q.src, Q.optInt, intOf?, placeOf, fillA, setAll, mkAgg, datas, loadSel, ofCells, pickV, binI, binS, look, Value.oneCell', normD, smallNil, KD.known, KD.agg, T, TI.z, Dat.wd, Dat.cells, Dat.nagg, AV.ren, renL, AV.renT, AV.hi, AV.hi1, Ob.isRow, Ob.inn, Ob.out, Ob.gam, Ob.data, Ob.alike, loL, Gf, Mu, Dat.flat, Dat.isV, List.contains, List.elem, Option.isSome, Nat.reduceAdd, Nat.reduceSub, Nat.reduceMul, Nat.reduceEqDiff, Nat.reduceLeDiff, Nat.reduceBEq, reduceIte, reduceCtorEq, Int.reduceLT, Int.reduceLE, Int.reduceNeg, Int.reduceEq, Int.reduceToNat, Int.reducePow, Nat.reducePow, Nat.reduceLT, IntKind.bits, hf42, e42, hf43, e43, hf45, e45, hf46, e46, evP, toPrs_prs, toSps_sps, prs_cons, h5]; (try simp (disch := omega) only [evA]); exact rfl)
    case s => ((try simp only [evU]); exact rfl)
    case hp => (first | exact True.intro | ((repeat' first | assumption | refine And.intro ?_ ?_ | intro hq) <;> first | exact True.intro | assumption | omega | (rw [hq]; rfl) | (simp; done) | (simp_all; done)) | (intro hg; simp at hg; (repeat' refine And.intro ?_ ?_) <;> first | exact True.intro | assumption | omega | exact fun h => h | (simp; done)))
  rw [evalL_nil]
  refine hK _ ?_
  clear hK K
  simp only [evU, St.keep, List.map_cons, look, reduceIte, Nat.reduceEqDiff]
  try show AWP _ _ _ _ _
  refine AWP.ret ?_
  refine ⟨.inl rfl, ⟨⟨_, rfl, ?_⟩, fun ob hob => by cases hob⟩⟩
  simp only [look, reduceIte, Nat.reduceEqDiff]
  exact sub1_of rfl
def e40 : List AV → Option Ob → Option Res := fun args i => match args, i with
  | [], none => some ⟨True, .d true (.v (.bool true)), none⟩
  | _, _ => none
def F37 : FT := F36.upd 40 e40
theorem F37_ok : FOK Try.prog F37 := FOK.upd F36_ok Try.func40 (by kernel_rfl) rfl fun args i R h => by
  unfold e40 at h
  split at h
  · cases h; exact s40
  · cases h
end Go.AM

