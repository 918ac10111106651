/- AM: SegRuns. -/
import Derived.Test.YtmfobkiljlepjaaC37
import Derived.Test.YtmfobkiljlepjaaG9
set_option maxRecDepth 100000
set_option maxHeartbeats 8000000
set_option linter.unusedSimpArgs false
set_option linter.unusedVariables false
namespace Go.AM
open Go Go.Proofs



theorem s18 (s g n : Int) (gap : Bool) (hs0 : 0 ≤ s) (hs1 : s < 65536) (hg0 : 0 ≤ g) (hg1 : g < 65536) (hn0 : 0 ≤ n) (hn1 : n < 256) : Spec Try.prog 18 [.d true (.v (.int .u16 s)), .d true (.v (.int .u16 g)), .d true (.v (.int .u8 n)), .d true (.v (.bool gap))] none ⟨True, .d true (.v (.bool true)), none⟩ := by
  have hf49 : F65 49 = e49 := rfl
  have hf51 : F65 51 = e51 := rfl
  have hf52 : F65 52 = e52 := rfl
  have hf54 : F65 54 = e54 := rfl
  have hf56 : F65 56 = e56 := rfl
  refine spec_of_awp (Gf_ok F65_ok) Try.func18 rfl (Nat.le_of_ble_eq_true rfl) fun E hps hN _ => ?_
  simp only [begin, List.zipIdx_cons, List.zipIdx_nil, List.map_cons, List.map_nil, Option.toList, Nat.zero_add, Nat.reduceAdd]
  repeat refine AWP.nest ?_
  first | refine AWP.rs (Gf_ok F65_ok) [] [0, 1, 2, 3] (by rw [hN]; decide) fun K hK => ?_ | refine AWP.rn (Gf_ok F65_ok) [] [0, 1, 2, 3] (by rw [hN]; decide) fun K hK => ?_
  repeat
    first | apply eL | (apply eG; (case ht => exact rfl); (case hef => exact rfl))
    case e => (simp only [evB, evG, evGR, Q.evalR, boolOf, opQ, opMove, opPick, opBin, opUn, opConv, opExtract, opNil, opAlloc, opBox, opBuild, opBuildSlice, opMakeSlice, opLoad, opStore, opSlice, opFieldAddr, opField, opIndexAddr, opIndex, opLen, opMinMax, opAppend, opAppendZ, opCall, opCallF, Q.opnd, Q.opndW, Q.eval, Q.ret, Q.elems, Q.cells, Q.parts, Q.args, Q.src, Q.optInt, intOf?, placeOf, fillA, setAll, mkAgg, datas, loadSel, ofCells, pickV, binI, binS, look, Value.oneCell', normD, smallNil, KD.known, KD.agg, T, TI.z, Dat.wd, Dat.cells, Dat.nagg, AV.ren, renL, AV.renT, AV.hi, AV.hi1, Ob.isRow, Ob.inn, Ob.out, Ob.gam, Ob.data, Ob.alike, loL, Gf, Mu, Dat.flat, Dat.isV, List.contains, List.elem, Option.isSome, Nat.reduceAdd, Nat.reduceSub, Nat.reduceMul, Nat.reduceEqDiff, Nat.reduceLeDiff, Nat.reduceBEq, reduceIte, reduceCtorEq, Int.reduceLT, Int.reduceLE, Int.reduceNeg, Int.reduceEq, Int.reduceToNat, Int.reducePow, Nat.reducePow, Nat.reduceLT, IntKind.bits, hf49, e49, hf51, e51, hf52, e52, hf54, e54, hf56, e56, evP, evS, toPrs_prs, toSgs_sgs, toInts_ints]; (try simp (disch := omega) only [evA]); exact rfl)
    case s => ((try simp only [evU]); exact rfl)
    case hp => (first | exact True.intro | ((and_intros <;> first | exact True.intro | omega | assumption | (intro hq; first | omega | (rw [hq]; rfl) | (simp; done) | (simp [hq]; done) | (intro hq2; first | (rw [hq, hq2]; rfl) | (simp [hq, hq2]; done) | (simp_all; done))) | (simp; done) | (simp_all; done))) | (intro hg; (and_intros <;> first | exact True.intro | omega | assumption | (intro hq; first | omega | (rw [hq]; rfl) | (simp; done) | (simp [hq]; done) | (intro hq2; first | (rw [hq, hq2]; rfl) | (simp [hq, hq2]; done) | (simp_all; done))) | (simp; done) | (simp_all; done))) | (intro hg; simp at hg; (and_intros <;> first | exact True.intro | omega | assumption | (intro hq; first | omega | (rw [hq]; rfl) | (simp; done) | (simp [hq]; done) | (intro hq2; first | (rw [hq, hq2]; rfl) | (simp [hq, hq2]; done) | (simp_all; done))) | (simp; done) | (simp_all; done))))
  rw [evalL_nil]
  refine hK _ ?_
  clear hK K
  simp only [evU, St.keep, List.map_cons, look, reduceIte, Nat.reduceEqDiff]
  try show AWP _ _ _ _ _
  repeat refine AWP.nest ?_
  first | refine AWP.rs (Gf_ok F65_ok) [] [0, 1, 2, 3, 17] (by rw [hN]; decide) fun K hK => ?_ | refine AWP.rn (Gf_ok F65_ok) [] [0, 1, 2, 3, 17] (by rw [hN]; decide) fun K hK => ?_
  repeat
    first | apply eL | (apply eG; (case ht => exact rfl); (case hef => exact rfl))
    case e => (simp only [evB, evG, evGR, Q.evalR, boolOf, opQ, opMove, opPick, opBin, opUn, opConv, opExtract, opNil, opAlloc, opBox, opBuild, opBuildSlice, opMakeSlice, opLoad, opStore, opSlice, opFieldAddr, opField, opIndexAddr, opIndex, opLen, opMinMax, opAppend, opAppendZ, opCall, opCallF, Q.opnd, Q.opndW, Q.eval, Q.ret, Q.elems, Q.cells, Q.parts, Q.args, Q.src, Q.optInt, intOf?, placeOf, fillA, setAll, mkAgg, datas, loadSel, ofCells, pickV, binI, binS, look, Value.oneCell', normD, smallNil, KD.known, KD.agg, T, TI.z, Dat.wd, Dat.cells, Dat.nagg, AV.ren, renL, AV.renT, AV.hi, AV.hi1, Ob.isRow, Ob.inn, Ob.out, Ob.gam, Ob.data, Ob.alike, loL, Gf, Mu, Dat.flat, Dat.isV, List.contains, List.elem, Option.isSome, Nat.reduceAdd, Nat.reduceSub, Nat.reduceMul, Nat.reduceEqDiff, Nat.reduceLeDiff, Nat.reduceBEq, reduceIte, reduceCtorEq, Int.reduceLT, Int.reduceLE, Int.reduceNeg, Int.reduceEq, Int.reduceToNat, Int.reducePow, Nat.reducePow, Nat.reduceLT, IntKind.bits, hf49, e49, hf51, e51, hf52, e52, hf54, e54, hf56, e56, evP, evS, toPrs_prs, toSgs_sgs, toInts_ints]; (try simp (disch := omega) only [evA]); exact rfl)
    case s => ((try simp only [evU]); exact rfl)
    case hp => (first | exact True.intro | ((and_intros <;> first | exact True.intro | omega | assumption | (intro hq; first | omega | (rw [hq]; rfl) | (simp; done) | (simp [hq]; done) | (intro hq2; first | (rw [hq, hq2]; rfl) | (simp [hq, hq2]; done) | (simp_all; done))) | (simp; done) | (simp_all; done))) | (intro hg; (and_intros <;> first | exact True.intro | omega | assumption | (intro hq; first | omega | (rw [hq]; rfl) | (simp; done) | (simp [hq]; done) | (intro hq2; first | (rw [hq, hq2]; rfl) | (simp [hq, hq2]; done) | (simp_all; done))) | (simp; done) | (simp_all; done))) | (intro hg; simp at hg; (and_intros <;> first | exact True.intro | omega | assumption | (intro hq; first | omega | (rw [hq]; rfl) | (simp; done) | (simp [hq]; done) | (intro hq2; first | (rw [hq, hq2]; rfl) | (simp [hq, hq2]; done) | (simp_all; done))) | (simp; done) | (simp_all; done))))
  rw [evalL_nil]
  refine hK _ ?_
  clear hK K
  simp only [evU, St.keep, List.map_cons, look, reduceIte, Nat.reduceEqDiff]
  try show AWP _ _ _ _ _
  repeat refine AWP.nest ?_
  first | refine AWP.seq (AWP.cond (b := _) rfl (fun hc => ?_) (fun hc => ?_)) | refine AWP.cond (b := _) rfl (fun hc => ?_) (fun hc => ?_)
  all_goals try simp only [evC] at hc
  · cases hc
  refine AWP.skip ?_
  show AWP _ _ _ _ _
  clear hc
  repeat refine AWP.nest ?_
  first | refine AWP.rs (Gf_ok F65_ok) [] [1, 3, 9, 10] (by rw [hN]; decide) fun K hK => ?_ | refine AWP.rn (Gf_ok F65_ok) [] [1, 3, 9, 10] (by rw [hN]; decide) fun K hK => ?_
  repeat
    first | apply eL | (apply eG; (case ht => exact rfl); (case hef => exact rfl))
    case e => (simp only [evB, evG, evGR, Q.evalR, boolOf, opQ, opMove, opPick, opBin, opUn, opConv, opExtract, opNil, opAlloc, opBox, opBuild, opBuildSlice, opMakeSlice, opLoad, opStore, opSlice, opFieldAddr, opField, opIndexAddr, opIndex, opLen, opMinMax, opAppend, opAppendZ, opCall, opCallF, Q.opnd, Q.opndW, Q.eval, Q.ret, Q.elems, Q.cells, Q.parts, Q.args, Q.src, Q.optInt, intOf?, placeOf, fillA, setAll, mkAgg, datas, loadSel, ofCells, pickV, binI, binS, look, Value.oneCell', normD, smallNil, KD.known, KD.agg, T, TI.z, Dat.wd, Dat.cells, Dat.nagg, AV.ren, renL, AV.renT, AV.hi, AV.hi1, Ob.isRow, Ob.inn, Ob.out, Ob.gam, Ob.data, Ob.alike, loL, Gf, Mu, Dat.flat, Dat.isV, List.contains, List.elem, Option.isSome, Nat.reduceAdd, Nat.reduceSub, Nat.reduceMul, Nat.reduceEqDiff, Nat.reduceLeDiff, Nat.reduceBEq, reduceIte, reduceCtorEq, Int.reduceLT, Int.reduceLE, Int.reduceNeg, Int.reduceEq, Int.reduceToNat, Int.reducePow, Nat.reducePow, Nat.reduceLT, IntKind.bits, hf49, e49, hf51, e51, hf52, e52, hf54, e54, hf56, e56, evP, evS, toPrs_prs, toSgs_sgs, toInts_ints]; (try simp (disch := omega) only [evA]); exact rfl)
    case s => ((try simp only [evU]); exact rfl)
    case hp => (first | exact True.intro | ((and_intros <;> first | exact True.intro | omega | assumption | (intro hq; first | omega | (rw [hq]; rfl) | (simp; done) | (simp [hq]; done) | (intro hq2; first | (rw [hq, hq2]; rfl) | (simp [hq, hq2]; done) | (simp_all; done))) | (simp; done) | (simp_all; done))) | (intro hg; (and_intros <;> first | exact True.intro | omega | assumption | (intro hq; first | omega | (rw [hq]; rfl) | (simp; done) | (simp [hq]; done) | (intro hq2; first | (rw [hq, hq2]; rfl) | (simp [hq, hq2]; done) | (simp_all; done))) | (simp; done) | (simp_all; done))) | (intro hg; simp at hg; (and_intros <;> first | exact True.intro | omega | assumption | (intro hq; first | omega | (rw [hq]; rfl) | (simp; done) | (simp [hq]; done) | (intro hq2; first | (rw [hq, hq2]; rfl) | (simp [hq, hq2]; done) | (simp_all; done))) | (simp; done) | (simp_all; done))))
  rw [evalL_nil]
  refine hK _ ?_
  clear hK K
  simp only [evU, St.keep, List.map_cons, look, reduceIte, Nat.reduceEqDiff]
  try show AWP _ _ _ _ _
  obtain ⟨k, hk⟩ : ∃ k : Nat, 1 + n % 60 = k := ⟨(1 + n % 60).toNat, by omega⟩
  rw [hk]
  have hk1 : 1 ≤ k ∧ k ≤ 60 := by omega
  have ha : 0 ≤ s % 60000 ∧ s % 60000 < 60000 := by omega
  clear hk hn0 hn1 hs0 hs1
  generalize s % 60000 = a at ha ⊢
  repeat refine AWP.nest ?_
  first | refine AWP.rs (Gf_ok F65_ok) [] [1, 3, 9, 10, 11] (by rw [hN]; decide) fun K hK => ?_ | refine AWP.rn (Gf_ok F65_ok) [] [1, 3, 9, 10, 11] (by rw [hN]; decide) fun K hK => ?_
  repeat
    first | apply eL | (apply eG; (case ht => exact rfl); (case hef => exact rfl))
    case e => (simp only [evB, evG, evGR, Q.evalR, boolOf, opQ, opMove, opPick, opBin, opUn, opConv, opExtract, opNil, opAlloc, opBox, opBuild, opBuildSlice, opMakeSlice, opLoad, opStore, opSlice, opFieldAddr, opField, opIndexAddr, opIndex, opLen, opMinMax, opAppend, opAppendZ, opCall, opCallF, Q.opnd, Q.opndW, Q.eval, Q.ret, Q.elems, Q.cells, Q.parts, Q.args, Q.src, Q.optInt, intOf?, placeOf, fillA, setAll, mkAgg, datas, loadSel, ofCells, pickV, binI, binS, look, Value.oneCell', normD, smallNil, KD.known, KD.agg, T, TI.z, Dat.wd, Dat.cells, Dat.nagg, AV.ren, renL, AV.renT, AV.hi, AV.hi1, Ob.isRow, Ob.inn, Ob.out, Ob.gam, Ob.data, Ob.alike, loL, Gf, Mu, Dat.flat, Dat.isV, List.contains, List.elem, Option.isSome, Nat.reduceAdd, Nat.reduceSub, Nat.reduceMul, Nat.reduceEqDiff, Nat.reduceLeDiff, Nat.reduceBEq, reduceIte, reduceCtorEq, Int.reduceLT, Int.reduceLE, Int.reduceNeg, Int.reduceEq, Int.reduceToNat, Int.reducePow, Nat.reducePow, Nat.reduceLT, IntKind.bits, hf49, e49, hf51, e51, hf52, e52, hf54, e54, hf56, e56, evP, evS, toPrs_prs, toSgs_sgs, toInts_ints]; (try simp (disch := omega) only [evA]); exact rfl)
    case s => ((try simp only [evU]); exact rfl)
    case hp => (first | exact True.intro | ((and_intros <;> first | exact True.intro | omega | assumption | (intro hq; first | omega | (rw [hq]; rfl) | (simp; done) | (simp [hq]; done) | (intro hq2; first | (rw [hq, hq2]; rfl) | (simp [hq, hq2]; done) | (simp_all; done))) | (simp; done) | (simp_all; done))) | (intro hg; (and_intros <;> first | exact True.intro | omega | assumption | (intro hq; first | omega | (rw [hq]; rfl) | (simp; done) | (simp [hq]; done) | (intro hq2; first | (rw [hq, hq2]; rfl) | (simp [hq, hq2]; done) | (simp_all; done))) | (simp; done) | (simp_all; done))) | (intro hg; simp at hg; (and_intros <;> first | exact True.intro | omega | assumption | (intro hq; first | omega | (rw [hq]; rfl) | (simp; done) | (simp [hq]; done) | (intro hq2; first | (rw [hq, hq2]; rfl) | (simp [hq, hq2]; done) | (simp_all; done))) | (simp; done) | (simp_all; done))))
  rw [evalL_nil]
  refine hK _ ?_
  clear hK K
  simp only [evU, St.keep, List.map_cons, look, reduceIte, Nat.reduceEqDiff]
  try show AWP _ _ _ _ _
  repeat refine AWP.nest ?_
  first | refine AWP.rs (Gf_ok F65_ok) [] [1, 3, 9, 10, 11, 25, 26] (by rw [hN]; decide) fun K hK => ?_ | refine AWP.rn (Gf_ok F65_ok) [] [1, 3, 9, 10, 11, 25, 26] (by rw [hN]; decide) fun K hK => ?_
  repeat
    first | apply eL | (apply eG; (case ht => exact rfl); (case hef => exact rfl))
    case e => (simp only [evB, evG, evGR, Q.evalR, boolOf, opQ, opMove, opPick, opBin, opUn, opConv, opExtract, opNil, opAlloc, opBox, opBuild, opBuildSlice, opMakeSlice, opLoad, opStore, opSlice, opFieldAddr, opField, opIndexAddr, opIndex, opLen, opMinMax, opAppend, opAppendZ, opCall, opCallF, Q.opnd, Q.opndW, Q.eval, Q.ret, Q.elems, Q.cells, Q.parts, Q.args, Q.src, Q.optInt, intOf?, placeOf, fillA, setAll, mkAgg, datas, loadSel, ofCells, pickV, binI, binS, look, Value.oneCell', normD, smallNil, KD.known, KD.agg, T, TI.z, Dat.wd, Dat.cells, Dat.nagg, AV.ren, renL, AV.renT, AV.hi, AV.hi1, Ob.isRow, Ob.inn, Ob.out, Ob.gam, Ob.data, Ob.alike, loL, Gf, Mu, Dat.flat, Dat.isV, List.contains, List.elem, Option.isSome, Nat.reduceAdd, Nat.reduceSub, Nat.reduceMul, Nat.reduceEqDiff, Nat.reduceLeDiff, Nat.reduceBEq, reduceIte, reduceCtorEq, Int.reduceLT, Int.reduceLE, Int.reduceNeg, Int.reduceEq, Int.reduceToNat, Int.reducePow, Nat.reducePow, Nat.reduceLT, IntKind.bits, hf49, e49, hf51, e51, hf52, e52, hf54, e54, hf56, e56, evP, evS, toPrs_prs, toSgs_sgs, toInts_ints]; (try simp (disch := omega) only [evA]); exact rfl)
    case s => ((try simp only [evU]); exact rfl)
    case hp => (first | exact True.intro | ((and_intros <;> first | exact True.intro | omega | assumption | (intro hq; first | omega | (rw [hq]; rfl) | (simp; done) | (simp [hq]; done) | (intro hq2; first | (rw [hq, hq2]; rfl) | (simp [hq, hq2]; done) | (simp_all; done))) | (simp; done) | (simp_all; done))) | (intro hg; (and_intros <;> first | exact True.intro | omega | assumption | (intro hq; first | omega | (rw [hq]; rfl) | (simp; done) | (simp [hq]; done) | (intro hq2; first | (rw [hq, hq2]; rfl) | (simp [hq, hq2]; done) | (simp_all; done))) | (simp; done) | (simp_all; done))) | (intro hg; simp at hg; (and_intros <;> first | exact True.intro | omega | assumption | (intro hq; first | omega | (rw [hq]; rfl) | (simp; done) | (simp [hq]; done) | (intro hq2; first | (rw [hq, hq2]; rfl) | (simp [hq, hq2]; done) | (simp_all; done))) | (simp; done) | (simp_all; done))))
  rw [evalL_nil]
  refine hK _ ?_
  clear hK K
  simp only [evU, St.keep, List.map_cons, look, reduceIte, Nat.reduceEqDiff]
  try show AWP _ _ _ _ _
  refine AWP.adopt 11 55 2 (by decide) rfl ?_
  refine AWP.keep [1, 3, 9, 10, 11, 25, 26] ?_
  simp only [St.adopt, St.keep, List.map_cons, List.map_nil, look, reduceIte, Nat.reduceEqDiff, List.length_nil, List.nil_append]
  repeat refine AWP.nest ?_
  first | refine AWP.seq (AWP.block ?_) | refine AWP.block ?_
  refine AWP.loop (fun m st => ∃ (i : Nat), i ≤ k ∧ m = k - i ∧ st = ⟨[(1, .d true (.v (.int .u16 g))), (3, .d true (.v (.bool gap))), (9, .d true (.v (.int .i32 a))), (10, .d true (.v (.int .i64 (k : Int)))), (11, .own 0 i), (25, .d true (.v (.int .i64 (k : Int)))), (26, .d true (.v (.int .i64 (i : Int))))], [some (.row 55 2 i true (prs (seqW a g i)))]⟩) (k) ?_ ?_
  · exact ⟨0, Nat.zero_le _, rfl, rfl⟩
  rintro m st ⟨i, hi, hm, rfl⟩
  have hil := seqW_len a g i
  repeat refine AWP.nest ?_
  first | refine AWP.rs (Gf_ok F65_ok) [] [1, 3, 9, 10, 11, 25, 26, 27] (by rw [hN]; decide) fun K hK => ?_ | refine AWP.rn (Gf_ok F65_ok) [] [1, 3, 9, 10, 11, 25, 26, 27] (by rw [hN]; decide) fun K hK => ?_
  repeat
    first | apply eL | (apply eG; (case ht => exact rfl); (case hef => exact rfl))
    case e => (simp only [evB, evG, evGR, Q.evalR, boolOf, opQ, opMove, opPick, opBin, opUn, opConv, opExtract, opNil, opAlloc, opBox, opBuild, opBuildSlice, opMakeSlice, opLoad, opStore, opSlice, opFieldAddr, opField, opIndexAddr, opIndex, opLen, opMinMax, opAppend, opAppendZ, opCall, opCallF, Q.opnd, Q.opndW, Q.eval, Q.ret, Q.elems, Q.cells, Q.parts, Q.args, Q.src, Q.optInt, intOf?, placeOf, fillA, setAll, mkAgg, datas, loadSel, ofCells, pickV, binI, binS, look, Value.oneCell', normD, smallNil, KD.known, KD.agg, T, TI.z, Dat.wd, Dat.cells, Dat.nagg, AV.ren, renL, AV.renT, AV.hi, AV.hi1, Ob.isRow, Ob.inn, Ob.out, Ob.gam, Ob.data, Ob.alike, loL, Gf, Mu, Dat.flat, Dat.isV, List.contains, List.elem, Option.isSome, Nat.reduceAdd, Nat.reduceSub, Nat.reduceMul, Nat.reduceEqDiff, Nat.reduceLeDiff, Nat.reduceBEq, reduceIte, reduceCtorEq, Int.reduceLT, Int.reduceLE, Int.reduceNeg, Int.reduceEq, Int.reduceToNat, Int.reducePow, Nat.reducePow, Nat.reduceLT, IntKind.bits, hf49, e49, hf51, e51, hf52, e52, hf54, e54, hf56, e56, evP, evS, toPrs_prs, toSgs_sgs, toInts_ints]; (try simp (disch := omega) only [evA]); exact rfl)
    case s => ((try simp only [evU]); exact rfl)
    case hp => (first | exact True.intro | ((and_intros <;> first | exact True.intro | omega | assumption | (intro hq; first | omega | (rw [hq]; rfl) | (simp; done) | (simp [hq]; done) | (intro hq2; first | (rw [hq, hq2]; rfl) | (simp [hq, hq2]; done) | (simp_all; done))) | (simp; done) | (simp_all; done))) | (intro hg; (and_intros <;> first | exact True.intro | omega | assumption | (intro hq; first | omega | (rw [hq]; rfl) | (simp; done) | (simp [hq]; done) | (intro hq2; first | (rw [hq, hq2]; rfl) | (simp [hq, hq2]; done) | (simp_all; done))) | (simp; done) | (simp_all; done))) | (intro hg; simp at hg; (and_intros <;> first | exact True.intro | omega | assumption | (intro hq; first | omega | (rw [hq]; rfl) | (simp; done) | (simp [hq]; done) | (intro hq2; first | (rw [hq, hq2]; rfl) | (simp [hq, hq2]; done) | (simp_all; done))) | (simp; done) | (simp_all; done))))
  rw [evalL_nil]
  refine hK _ ?_
  clear hK K
  simp only [evU, St.keep, List.map_cons, look, reduceIte, Nat.reduceEqDiff]
  try show AWP _ _ _ _ _
  first | refine AWP.seq (AWP.cond (b := _) rfl (fun hc => ?_) (fun hc => ?_)) | refine AWP.cond (b := _) rfl (fun hc => ?_) (fun hc => ?_)
  rotate_left
  · refine AWP.exit ?_
    show AWP _ _ _ _ _
    simp only [evC, Int.not_lt] at hc
    obtain rfl : i = k := by omega
    clear hm hi hc
    repeat refine AWP.nest ?_
    first | refine AWP.rs (Gf_ok F65_ok) [] [1, 3, 9, 10, 11, 13] (by rw [hN]; decide) fun K hK => ?_ | refine AWP.rn (Gf_ok F65_ok) [] [1, 3, 9, 10, 11, 13] (by rw [hN]; decide) fun K hK => ?_
    repeat
      first | apply eL | (apply eG; (case ht => exact rfl); (case hef => exact rfl))
      case e => (simp only [evB, evG, evGR, Q.evalR, boolOf, opQ, opMove, opPick, opBin, opUn, opConv, opExtract, opNil, opAlloc, opBox, opBuild, opBuildSlice, opMakeSlice, opLoad, opStore, opSlice, opFieldAddr, opField, opIndexAddr, opIndex, opLen, opMinMax, opAppend, opAppendZ, opCall, opCallF, Q.opnd, Q.opndW, Q.eval, Q.ret, Q.elems, Q.cells, Q.parts, Q.args, Q.src, Q.optInt, intOf?, placeOf, fillA, setAll, mkAgg, datas, loadSel, ofCells, pickV, binI, binS, look, Value.oneCell', normD, smallNil, KD.known, KD.agg, T, TI.z, Dat.wd, Dat.cells, Dat.nagg, AV.ren, renL, AV.renT, AV.hi, AV.hi1, Ob.isRow, Ob.inn, Ob.out, Ob.gam, Ob.data, Ob.alike, loL, Gf, Mu, Dat.flat, Dat.isV, List.contains, List.elem, Option.isSome, Nat.reduceAdd, Nat.reduceSub, Nat.reduceMul, Nat.reduceEqDiff, Nat.reduceLeDiff, Nat.reduceBEq, reduceIte, reduceCtorEq, Int.reduceLT, Int.reduceLE, Int.reduceNeg, Int.reduceEq, Int.reduceToNat, Int.reducePow, Nat.reducePow, Nat.reduceLT, IntKind.bits, hf49, e49, hf51, e51, hf52, e52, hf54, e54, hf56, e56, evP, evS, toPrs_prs, toSgs_sgs, toInts_ints]; (try simp (disch := omega) only [evA]); exact rfl)
      case s => ((try simp only [evU]); exact rfl)
      case hp => (first | exact True.intro | ((and_intros <;> first | exact True.intro | omega | assumption | (intro hq; first | omega | (rw [hq]; rfl) | (simp; done) | (simp [hq]; done) | (intro hq2; first | (rw [hq, hq2]; rfl) | (simp [hq, hq2]; done) | (simp_all; done))) | (simp; done) | (simp_all; done))) | (intro hg; (and_intros <;> first | exact True.intro | omega | assumption | (intro hq; first | omega | (rw [hq]; rfl) | (simp; done) | (simp [hq]; done) | (intro hq2; first | (rw [hq, hq2]; rfl) | (simp [hq, hq2]; done) | (simp_all; done))) | (simp; done) | (simp_all; done))) | (intro hg; simp at hg; (and_intros <;> first | exact True.intro | omega | assumption | (intro hq; first | omega | (rw [hq]; rfl) | (simp; done) | (simp [hq]; done) | (intro hq2; first | (rw [hq, hq2]; rfl) | (simp [hq, hq2]; done) | (simp_all; done))) | (simp; done) | (simp_all; done))))
    rw [evalL_nil]
    refine hK _ ?_
    clear hK K
    simp only [evU, St.keep, List.map_cons, look, reduceIte, Nat.reduceEqDiff]
    try show AWP _ _ _ _ _
    repeat refine AWP.nest ?_
    first | refine AWP.rs (Gf_ok F65_ok) [] [1, 9, 10, 11, 13, 42] (by rw [hN]; decide) fun K hK => ?_ | refine AWP.rn (Gf_ok F65_ok) [] [1, 9, 10, 11, 13, 42] (by rw [hN]; decide) fun K hK => ?_
    repeat
      first | apply eL | (apply eG; (case ht => exact rfl); (case hef => exact rfl))
      case e => (simp only [evB, evG, evGR, Q.evalR, boolOf, opQ, opMove, opPick, opBin, opUn, opConv, opExtract, opNil, opAlloc, opBox, opBuild, opBuildSlice, opMakeSlice, opLoad, opStore, opSlice, opFieldAddr, opField, opIndexAddr, opIndex, opLen, opMinMax, opAppend, opAppendZ, opCall, opCallF, Q.opnd, Q.opndW, Q.eval, Q.ret, Q.elems, Q.cells, Q.parts, Q.args, Q.src, Q.optInt, intOf?, placeOf, fillA, setAll, mkAgg, datas, loadSel, ofCells, pickV, binI, binS, look, Value.oneCell', normD, smallNil, KD.known, KD.agg, T, TI.z, Dat.wd, Dat.cells, Dat.nagg, AV.ren, renL, AV.renT, AV.hi, AV.hi1, Ob.isRow, Ob.inn, Ob.out, Ob.gam, Ob.data, Ob.alike, loL, Gf, Mu, Dat.flat, Dat.isV, List.contains, List.elem, Option.isSome, Nat.reduceAdd, Nat.reduceSub, Nat.reduceMul, Nat.reduceEqDiff, Nat.reduceLeDiff, Nat.reduceBEq, reduceIte, reduceCtorEq, Int.reduceLT, Int.reduceLE, Int.reduceNeg, Int.reduceEq, Int.reduceToNat, Int.reducePow, Nat.reducePow, Nat.reduceLT, IntKind.bits, hf49, e49, hf51, e51, hf52, e52, hf54, e54, hf56, e56, evP, evS, toPrs_prs, toSgs_sgs, toInts_ints]; (try simp (disch := omega) only [evA]); exact rfl)
      case s => ((try simp only [evU]); exact rfl)
      case hp => (first | exact True.intro | ((and_intros <;> first | exact True.intro | omega | assumption | (intro hq; first | omega | (rw [hq]; rfl) | (simp; done) | (simp [hq]; done) | (intro hq2; first | (rw [hq, hq2]; rfl) | (simp [hq, hq2]; done) | (simp_all; done))) | (simp; done) | (simp_all; done))) | (intro hg; (and_intros <;> first | exact True.intro | omega | assumption | (intro hq; first | omega | (rw [hq]; rfl) | (simp; done) | (simp [hq]; done) | (intro hq2; first | (rw [hq, hq2]; rfl) | (simp [hq, hq2]; done) | (simp_all; done))) | (simp; done) | (simp_all; done))) | (intro hg; simp at hg; (and_intros <;> first | exact True.intro | omega | assumption | (intro hq; first | omega | (rw [hq]; rfl) | (simp; done) | (simp [hq]; done) | (intro hq2; first | (rw [hq, hq2]; rfl) | (simp [hq, hq2]; done) | (simp_all; done))) | (simp; done) | (simp_all; done))))
    rw [evalL_nil]
    refine hK _ ?_
    clear hK K
    simp only [evU, St.keep, List.map_cons, look, reduceIte, Nat.reduceEqDiff]
    try show AWP _ _ _ _ _
    repeat refine AWP.nest ?_
    first | refine AWP.seq (AWP.cond (b := _) rfl (fun hc => ?_) (fun hc => ?_)) | refine AWP.cond (b := _) rfl (fun hc => ?_) (fun hc => ?_)
    all_goals try simp only [evC] at hc
    · have hr := gapW_rises (a := a) (g := g) (x := g) (k := i) (by omega) (by omega) (by omega)
      have hp := (seqW_pr (a := a) (g := g) (x := g) (k := i) (by omega) (by omega) (by omega) (by omega)).2
      have hlen : (seqW a g i ++ [(a + (i : Int) + 1, g)]).length = i + 1 := by rw [List.length_append, hil]; rfl
      obtain ⟨M, B, eB, hM, hBb, hMl, hBl, h3, h4, h5, hmap, hlk⟩ := built_factsS hr hp (by rw [hlen]; omega)
      have q1 : lookS M B a = g := by rw [hlk, if_neg (by omega), lk_seqW, if_pos (by omega)]; omega
      have q2 : lookS M B (a + (i : Int) - 1) = (g + ((i : Int) - 1)) % 65536 := by rw [hlk, if_neg (by omega), lk_seqW, if_pos (by omega)]; omega
      have q3 : lookS M B (a + (i : Int)) = 0 := by
        rw [hlk, if_neg (by omega), lk_seqW, if_neg (by omega)]
        exact lk_miss0 (by simp only; omega)
      have hMn : M.length = 3 := by rw [hMl, hlen, runsW_gap (by omega) hg0 hg1]
      have hBn : B.length = 40 := by omega
      have e3 : (if rightS B = true then (0 : Int) else 2) = 0 := by rw [h3]; rfl
      repeat refine AWP.nest ?_
      first | refine AWP.rs (Gf_ok F65_ok) [] [1, 9, 10, 11] (by rw [hN]; decide) fun K hK => ?_ | refine AWP.rn (Gf_ok F65_ok) [] [1, 9, 10, 11] (by rw [hN]; decide) fun K hK => ?_
      repeat
        first | apply eL | (apply eG; (case ht => exact rfl); (case hef => exact rfl))
        case e => (simp only [evB, evG, evGR, Q.evalR, boolOf, opQ, opMove, opPick, opBin, opUn, opConv, opExtract, opNil, opAlloc, opBox, opBuild, opBuildSlice, opMakeSlice, opLoad, opStore, opSlice, opFieldAddr, opField, opIndexAddr, opIndex, opLen, opMinMax, opAppend, opAppendZ, opCall, opCallF, Q.opnd, Q.opndW, Q.eval, Q.ret, Q.elems, Q.cells, Q.parts, Q.args, Q.src, Q.optInt, intOf?, placeOf, fillA, setAll, mkAgg, datas, loadSel, ofCells, pickV, binI, binS, look, Value.oneCell', normD, smallNil, KD.known, KD.agg, T, TI.z, Dat.wd, Dat.cells, Dat.nagg, AV.ren, renL, AV.renT, AV.hi, AV.hi1, Ob.isRow, Ob.inn, Ob.out, Ob.gam, Ob.data, Ob.alike, loL, Gf, Mu, Dat.flat, Dat.isV, List.contains, List.elem, Option.isSome, Nat.reduceAdd, Nat.reduceSub, Nat.reduceMul, Nat.reduceEqDiff, Nat.reduceLeDiff, Nat.reduceBEq, reduceIte, reduceCtorEq, Int.reduceLT, Int.reduceLE, Int.reduceNeg, Int.reduceEq, Int.reduceToNat, Int.reducePow, Nat.reducePow, Nat.reduceLT, IntKind.bits, hf49, e49, hf51, e51, hf52, e52, hf54, e54, hf56, e56, evP, evS, toPrs_prs, toSgs_sgs, toInts_ints]; (try simp (disch := omega) only [evA]); exact rfl)
        case s => ((try simp only [evU]); exact rfl)
        case hp => (first | exact True.intro | ((and_intros <;> first | exact True.intro | omega | assumption | (intro hq; first | omega | (rw [hq]; rfl) | (simp; done) | (simp [hq]; done) | (intro hq2; first | (rw [hq, hq2]; rfl) | (simp [hq, hq2]; done) | (simp_all; done))) | (simp; done) | (simp_all; done))) | (intro hg; (and_intros <;> first | exact True.intro | omega | assumption | (intro hq; first | omega | (rw [hq]; rfl) | (simp; done) | (simp [hq]; done) | (intro hq2; first | (rw [hq, hq2]; rfl) | (simp [hq, hq2]; done) | (simp_all; done))) | (simp; done) | (simp_all; done))) | (intro hg; simp at hg; (and_intros <;> first | exact True.intro | omega | assumption | (intro hq; first | omega | (rw [hq]; rfl) | (simp; done) | (simp [hq]; done) | (intro hq2; first | (rw [hq, hq2]; rfl) | (simp [hq, hq2]; done) | (simp_all; done))) | (simp; done) | (simp_all; done))))
      rw [evalL_nil]
      refine hK _ ?_
      clear hK K
      simp only [evU, St.keep, List.map_cons, look, reduceIte, Nat.reduceEqDiff]
      try show AWP _ _ _ _ _
      repeat refine AWP.nest ?_
      first | refine AWP.rs (Gf_ok F65_ok) [] [1, 9, 10, 11, 13] (by rw [hN]; decide) fun K hK => ?_ | refine AWP.rn (Gf_ok F65_ok) [] [1, 9, 10, 11, 13] (by rw [hN]; decide) fun K hK => ?_
      repeat
        first | apply eL | (apply eG; (case ht => exact rfl); (case hef => exact rfl))
        case e => (simp only [evB, evG, evGR, Q.evalR, boolOf, opQ, opMove, opPick, opBin, opUn, opConv, opExtract, opNil, opAlloc, opBox, opBuild, opBuildSlice, opMakeSlice, opLoad, opStore, opSlice, opFieldAddr, opField, opIndexAddr, opIndex, opLen, opMinMax, opAppend, opAppendZ, opCall, opCallF, Q.opnd, Q.opndW, Q.eval, Q.ret, Q.elems, Q.cells, Q.parts, Q.args, Q.src, Q.optInt, intOf?, placeOf, fillA, setAll, mkAgg, datas, loadSel, ofCells, pickV, binI, binS, look, Value.oneCell', normD, smallNil, KD.known, KD.agg, T, TI.z, Dat.wd, Dat.cells, Dat.nagg, AV.ren, renL, AV.renT, AV.hi, AV.hi1, Ob.isRow, Ob.inn, Ob.out, Ob.gam, Ob.data, Ob.alike, loL, Gf, Mu, Dat.flat, Dat.isV, List.contains, List.elem, Option.isSome, Nat.reduceAdd, Nat.reduceSub, Nat.reduceMul, Nat.reduceEqDiff, Nat.reduceLeDiff, Nat.reduceBEq, reduceIte, reduceCtorEq, Int.reduceLT, Int.reduceLE, Int.reduceNeg, Int.reduceEq, Int.reduceToNat, Int.reducePow, Nat.reducePow, Nat.reduceLT, IntKind.bits, hf49, e49, hf51, e51, hf52, e52, hf54, e54, hf56, e56, evP, evS, toPrs_prs, toSgs_sgs, toInts_ints]; (try simp (disch := omega) only [evA]); exact rfl)
        case s => ((try simp only [evU]); exact rfl)
        case hp => (first | exact True.intro | ((and_intros <;> first | exact True.intro | omega | assumption | (intro hq; first | omega | (rw [hq]; rfl) | (simp; done) | (simp [hq]; done) | (intro hq2; first | (rw [hq, hq2]; rfl) | (simp [hq, hq2]; done) | (simp_all; done))) | (simp; done) | (simp_all; done))) | (intro hg; (and_intros <;> first | exact True.intro | omega | assumption | (intro hq; first | omega | (rw [hq]; rfl) | (simp; done) | (simp [hq]; done) | (intro hq2; first | (rw [hq, hq2]; rfl) | (simp [hq, hq2]; done) | (simp_all; done))) | (simp; done) | (simp_all; done))) | (intro hg; simp at hg; (and_intros <;> first | exact True.intro | omega | assumption | (intro hq; first | omega | (rw [hq]; rfl) | (simp; done) | (simp [hq]; done) | (intro hq2; first | (rw [hq, hq2]; rfl) | (simp [hq, hq2]; done) | (simp_all; done))) | (simp; done) | (simp_all; done))))
      rw [evalL_nil]
      refine hK _ ?_
      clear hK K
      simp only [evU, St.keep, List.map_cons, look, reduceIte, Nat.reduceEqDiff]
      try show AWP _ _ _ _ _
      refine AWP.frz 0 (by rw [hps]; decide) rfl ?_
      simp only [St.frz, Ob.frz, AV.frz, AV.frz1, Option.map_none, mkAgg, datas, Dat.nagg, List.map_cons, List.map_nil, Option.map_some, and_self, true_and, and_true, reduceIte, Nat.reduceEqDiff, List.set_cons_zero, List.set_cons_succ, Bool.and_true, Bool.true_and]
      clear hM hMl
      have ⟨m1, m2, m3⟩ := hmap
      generalize seqW a g i ++ [(a + (i : Int) + 1, g)] = r at hr hp hlen eB hlk ⊢
      repeat refine AWP.nest ?_
      first | refine AWP.rs (Gf_ok F65_ok) [] [1, 9, 10, 11, 13, 14, 15] (by rw [hN]; decide) fun K hK => ?_ | refine AWP.rn (Gf_ok F65_ok) [] [1, 9, 10, 11, 13, 14, 15] (by rw [hN]; decide) fun K hK => ?_
      repeat
        first | apply eL | (apply eG; (case ht => exact rfl); (case hef => exact rfl))
        case e => (simp only [evB, evG, evGR, Q.evalR, boolOf, opQ, opMove, opPick, opBin, opUn, opConv, opExtract, opNil, opAlloc, opBox, opBuild, opBuildSlice, opMakeSlice, opLoad, opStore, opSlice, opFieldAddr, opField, opIndexAddr, opIndex, opLen, opMinMax, opAppend, opAppendZ, opCall, opCallF, Q.opnd, Q.opndW, Q.eval, Q.ret, Q.elems, Q.cells, Q.parts, Q.args, Q.src, Q.optInt, intOf?, placeOf, fillA, setAll, mkAgg, datas, loadSel, ofCells, pickV, binI, binS, look, Value.oneCell', normD, smallNil, KD.known, KD.agg, T, TI.z, Dat.wd, Dat.cells, Dat.nagg, AV.ren, renL, AV.renT, AV.hi, AV.hi1, Ob.isRow, Ob.inn, Ob.out, Ob.gam, Ob.data, Ob.alike, loL, Gf, Mu, Dat.flat, Dat.isV, List.contains, List.elem, Option.isSome, Nat.reduceAdd, Nat.reduceSub, Nat.reduceMul, Nat.reduceEqDiff, Nat.reduceLeDiff, Nat.reduceBEq, reduceIte, reduceCtorEq, Int.reduceLT, Int.reduceLE, Int.reduceNeg, Int.reduceEq, Int.reduceToNat, Int.reducePow, Nat.reducePow, Nat.reduceLT, IntKind.bits, hf49, e49, hf51, e51, hf52, e52, hf54, e54, hf56, e56, evP, evS, toPrs_prs, toSgs_sgs, toInts_ints, eB, h4, h5, e3]; (try simp (disch := omega) only [evA]); exact rfl)
        case s => ((try simp only [evU]); exact rfl)
        case hp => (first | exact True.intro | ((and_intros <;> first | exact True.intro | omega | assumption | (intro hq; first | omega | (rw [hq]; rfl) | (simp; done) | (simp [hq]; done) | (intro hq2; first | (rw [hq, hq2]; rfl) | (simp [hq, hq2]; done) | (simp_all; done))) | (simp; done) | (simp_all; done))) | (intro hg; (and_intros <;> first | exact True.intro | omega | assumption | (intro hq; first | omega | (rw [hq]; rfl) | (simp; done) | (simp [hq]; done) | (intro hq2; first | (rw [hq, hq2]; rfl) | (simp [hq, hq2]; done) | (simp_all; done))) | (simp; done) | (simp_all; done))) | (intro hg; simp at hg; (and_intros <;> first | exact True.intro | omega | assumption | (intro hq; first | omega | (rw [hq]; rfl) | (simp; done) | (simp [hq]; done) | (intro hq2; first | (rw [hq, hq2]; rfl) | (simp [hq, hq2]; done) | (simp_all; done))) | (simp; done) | (simp_all; done))))
      rw [evalL_nil]
      refine hK _ ?_
      clear hK K
      simp only [evU, St.keep, List.map_cons, look, reduceIte, Nat.reduceEqDiff]
      try show AWP _ _ _ _ _
      repeat refine AWP.nest ?_
      first | refine AWP.rs (Gf_ok F65_ok) [] [8] (by rw [hN]; decide) fun K hK => ?_ | refine AWP.rn (Gf_ok F65_ok) [] [8] (by rw [hN]; decide) fun K hK => ?_
      repeat
        first | apply eL | (apply eG; (case ht => exact rfl); (case hef => exact rfl))
        case e => (simp only [evB, evG, evGR, Q.evalR, boolOf, opQ, opMove, opPick, opBin, opUn, opConv, opExtract, opNil, opAlloc, opBox, opBuild, opBuildSlice, opMakeSlice, opLoad, opStore, opSlice, opFieldAddr, opField, opIndexAddr, opIndex, opLen, opMinMax, opAppend, opAppendZ, opCall, opCallF, Q.opnd, Q.opndW, Q.eval, Q.ret, Q.elems, Q.cells, Q.parts, Q.args, Q.src, Q.optInt, intOf?, placeOf, fillA, setAll, mkAgg, datas, loadSel, ofCells, pickV, binI, binS, look, Value.oneCell', normD, smallNil, KD.known, KD.agg, T, TI.z, Dat.wd, Dat.cells, Dat.nagg, AV.ren, renL, AV.renT, AV.hi, AV.hi1, Ob.isRow, Ob.inn, Ob.out, Ob.gam, Ob.data, Ob.alike, loL, Gf, Mu, Dat.flat, Dat.isV, List.contains, List.elem, Option.isSome, Nat.reduceAdd, Nat.reduceSub, Nat.reduceMul, Nat.reduceEqDiff, Nat.reduceLeDiff, Nat.reduceBEq, reduceIte, reduceCtorEq, Int.reduceLT, Int.reduceLE, Int.reduceNeg, Int.reduceEq, Int.reduceToNat, Int.reducePow, Nat.reducePow, Nat.reduceLT, IntKind.bits, hf49, e49, hf51, e51, hf52, e52, hf54, e54, hf56, e56, evP, evS, toPrs_prs, toSgs_sgs, toInts_ints, q1, q2, q3, hMn, eB, hBn]; (try simp (disch := omega) only [evA]); exact rfl)
        case s => ((try simp only [evU]); exact rfl)
        case hp => (first | exact True.intro | ((and_intros <;> first | exact True.intro | omega | assumption | (intro hq; first | omega | (rw [hq]; rfl) | (simp; done) | (simp [hq]; done) | (intro hq2; first | (rw [hq, hq2]; rfl) | (simp [hq, hq2]; done) | (simp_all; done))) | (simp; done) | (simp_all; done))) | (intro hg; (and_intros <;> first | exact True.intro | omega | assumption | (intro hq; first | omega | (rw [hq]; rfl) | (simp; done) | (simp [hq]; done) | (intro hq2; first | (rw [hq, hq2]; rfl) | (simp [hq, hq2]; done) | (simp_all; done))) | (simp; done) | (simp_all; done))) | (intro hg; simp at hg; (and_intros <;> first | exact True.intro | omega | assumption | (intro hq; first | omega | (rw [hq]; rfl) | (simp; done) | (simp [hq]; done) | (intro hq2; first | (rw [hq, hq2]; rfl) | (simp [hq, hq2]; done) | (simp_all; done))) | (simp; done) | (simp_all; done))))
      rw [evalL_nil]
      refine hK _ ?_
      clear hK K
      simp only [evU, St.keep, List.map_cons, look, reduceIte, Nat.reduceEqDiff]
      try show AWP _ _ _ _ _
      refine AWP.ret ?_
      refine ⟨.inl rfl, ⟨⟨_, rfl, ?_⟩, fun ob hob => by cases hob⟩⟩
      simp only [look, reduceIte, Nat.reduceEqDiff]
      refine sub1_of ?_
      simp
    · refine AWP.skip ?_
      show AWP _ _ _ _ _
      have hr := seqW_rises (a := a) (g := g) (k := i) (by omega) (by omega)
      have hp := (seqW_pr (a := a) (g := g) (x := g) (k := i) (by omega) (by omega) (by omega) (by omega)).1
      have hlen : (seqW a g i).length = i := hil
      obtain ⟨M, B, eB, hM, hBb, hMl, hBl, h3, h4, h5, hmap, hlk⟩ := built_factsS hr hp (by rw [hlen]; omega)
      have lk0 : ∀ c, lkP (seqW a g i) c = if a ≤ c ∧ c < a + i then (g + (c - a)) % 65536 else 0 := fun c => by
        have := lk_seqW a g c i []
        rwa [List.append_nil] at this
      have q1 : lookS M B a = g := by rw [hlk, if_neg (by omega), lk0, if_pos (by omega)]; omega
      have q2 : lookS M B (a + (i : Int) - 1) = (g + ((i : Int) - 1)) % 65536 := by rw [hlk, if_neg (by omega), lk0, if_pos (by omega)]; omega
      have q3 : lookS M B (a + (i : Int)) = 0 := by
        rw [hlk, if_neg (by omega), lk0, if_neg (by omega)]
      have hMn : M.length = 2 := by
        obtain ⟨j, rfl⟩ : ∃ j, i = j + 1 := ⟨i - 1, by omega⟩
        have := runsW_seq (a := a) (g := g) (k := j + 1) hg0 hg1 [] j (by omega)
        rw [List.append_nil] at this
        rw [hMl, hlen, this]
        rfl
      have hBn : B.length = 32 := by omega
      have e3 : (if rightS B = true then (0 : Int) else 2) = 0 := by rw [h3]; rfl
      refine AWP.frz 0 (by rw [hps]; decide) rfl ?_
      simp only [St.frz, Ob.frz, AV.frz, AV.frz1, Option.map_none, mkAgg, datas, Dat.nagg, List.map_cons, List.map_nil, Option.map_some, and_self, true_and, and_true, reduceIte, Nat.reduceEqDiff, List.set_cons_zero, List.set_cons_succ, Bool.and_true, Bool.true_and]
      clear hM hMl
      have ⟨m1, m2, m3⟩ := hmap
      generalize seqW a g i = r at hr hp hlen eB hlk hil lk0 ⊢
      repeat refine AWP.nest ?_
      first | refine AWP.rs (Gf_ok F65_ok) [] [1, 9, 10, 11, 13, 14, 15] (by rw [hN]; decide) fun K hK => ?_ | refine AWP.rn (Gf_ok F65_ok) [] [1, 9, 10, 11, 13, 14, 15] (by rw [hN]; decide) fun K hK => ?_
      repeat
        first | apply eL | (apply eG; (case ht => exact rfl); (case hef => exact rfl))
        case e => (simp only [evB, evG, evGR, Q.evalR, boolOf, opQ, opMove, opPick, opBin, opUn, opConv, opExtract, opNil, opAlloc, opBox, opBuild, opBuildSlice, opMakeSlice, opLoad, opStore, opSlice, opFieldAddr, opField, opIndexAddr, opIndex, opLen, opMinMax, opAppend, opAppendZ, opCall, opCallF, Q.opnd, Q.opndW, Q.eval, Q.ret, Q.elems, Q.cells, Q.parts, Q.args, Q.src, Q.optInt, intOf?, placeOf, fillA, setAll, mkAgg, datas, loadSel, ofCells, pickV, binI, binS, look, Value.oneCell', normD, smallNil, KD.known, KD.agg, T, TI.z, Dat.wd, Dat.cells, Dat.nagg, AV.ren, renL, AV.renT, AV.hi, AV.hi1, Ob.isRow, Ob.inn, Ob.out, Ob.gam, Ob.data, Ob.alike, loL, Gf, Mu, Dat.flat, Dat.isV, List.contains, List.elem, Option.isSome, Nat.reduceAdd, Nat.reduceSub, Nat.reduceMul, Nat.reduceEqDiff, Nat.reduceLeDiff, Nat.reduceBEq, reduceIte, reduceCtorEq, Int.reduceLT, Int.reduceLE, Int.reduceNeg, Int.reduceEq, Int.reduceToNat, Int.reducePow, Nat.reducePow, Nat.reduceLT, IntKind.bits, hf49, e49, hf51, e51, hf52, e52, hf54, e54, hf56, e56, evP, evS, toPrs_prs, toSgs_sgs, toInts_ints, eB, h4, h5, e3]; (try simp (disch := omega) only [evA]); exact rfl)
        case s => ((try simp only [evU]); exact rfl)
        case hp => (first | exact True.intro | ((and_intros <;> first | exact True.intro | omega | assumption | (intro hq; first | omega | (rw [hq]; rfl) | (simp; done) | (simp [hq]; done) | (intro hq2; first | (rw [hq, hq2]; rfl) | (simp [hq, hq2]; done) | (simp_all; done))) | (simp; done) | (simp_all; done))) | (intro hg; (and_intros <;> first | exact True.intro | omega | assumption | (intro hq; first | omega | (rw [hq]; rfl) | (simp; done) | (simp [hq]; done) | (intro hq2; first | (rw [hq, hq2]; rfl) | (simp [hq, hq2]; done) | (simp_all; done))) | (simp; done) | (simp_all; done))) | (intro hg; simp at hg; (and_intros <;> first | exact True.intro | omega | assumption | (intro hq; first | omega | (rw [hq]; rfl) | (simp; done) | (simp [hq]; done) | (intro hq2; first | (rw [hq, hq2]; rfl) | (simp [hq, hq2]; done) | (simp_all; done))) | (simp; done) | (simp_all; done))))
      rw [evalL_nil]
      refine hK _ ?_
      clear hK K
      simp only [evU, St.keep, List.map_cons, look, reduceIte, Nat.reduceEqDiff]
      try show AWP _ _ _ _ _
      repeat refine AWP.nest ?_
      first | refine AWP.rs (Gf_ok F65_ok) [] [8] (by rw [hN]; decide) fun K hK => ?_ | refine AWP.rn (Gf_ok F65_ok) [] [8] (by rw [hN]; decide) fun K hK => ?_
      repeat
        first | apply eL | (apply eG; (case ht => exact rfl); (case hef => exact rfl))
        case e => (simp only [evB, evG, evGR, Q.evalR, boolOf, opQ, opMove, opPick, opBin, opUn, opConv, opExtract, opNil, opAlloc, opBox, opBuild, opBuildSlice, opMakeSlice, opLoad, opStore, opSlice, opFieldAddr, opField, opIndexAddr, opIndex, opLen, opMinMax, opAppend, opAppendZ, opCall, opCallF, Q.opnd, Q.opndW, Q.eval, Q.ret, Q.elems, Q.cells, Q.parts, Q.args, Q.src, Q.optInt, intOf?, placeOf, fillA, setAll, mkAgg, datas, loadSel, ofCells, pickV, binI, binS, look, Value.oneCell', normD, smallNil, KD.known, KD.agg, T, TI.z, Dat.wd, Dat.cells, Dat.nagg, AV.ren, renL, AV.renT, AV.hi, AV.hi1, Ob.isRow, Ob.inn, Ob.out, Ob.gam, Ob.data, Ob.alike, loL, Gf, Mu, Dat.flat, Dat.isV, List.contains, List.elem, Option.isSome, Nat.reduceAdd, Nat.reduceSub, Nat.reduceMul, Nat.reduceEqDiff, Nat.reduceLeDiff, Nat.reduceBEq, reduceIte, reduceCtorEq, Int.reduceLT, Int.reduceLE, Int.reduceNeg, Int.reduceEq, Int.reduceToNat, Int.reducePow, Nat.reducePow, Nat.reduceLT, IntKind.bits, hf49, e49, hf51, e51, hf52, e52, hf54, e54, hf56, e56, evP, evS, toPrs_prs, toSgs_sgs, toInts_ints, q1, q2, q3, hMn, eB, hBn]; (try simp (disch := omega) only [evA]); exact rfl)
        case s => ((try simp only [evU]); exact rfl)
        case hp => (first | exact True.intro | ((and_intros <;> first | exact True.intro | omega | assumption | (intro hq; first | omega | (rw [hq]; rfl) | (simp; done) | (simp [hq]; done) | (intro hq2; first | (rw [hq, hq2]; rfl) | (simp [hq, hq2]; done) | (simp_all; done))) | (simp; done) | (simp_all; done))) | (intro hg; (and_intros <;> first | exact True.intro | omega | assumption | (intro hq; first | omega | (rw [hq]; rfl) | (simp; done) | (simp [hq]; done) | (intro hq2; first | (rw [hq, hq2]; rfl) | (simp [hq, hq2]; done) | (simp_all; done))) | (simp; done) | (simp_all; done))) | (intro hg; simp at hg; (and_intros <;> first | exact True.intro | omega | assumption | (intro hq; first | omega | (rw [hq]; rfl) | (simp; done) | (simp [hq]; done) | (intro hq2; first | (rw [hq, hq2]; rfl) | (simp [hq, hq2]; done) | (simp_all; done))) | (simp; done) | (simp_all; done))))
      rw [evalL_nil]
      refine hK _ ?_
      clear hK K
      simp only [evU, St.keep, List.map_cons, look, reduceIte, Nat.reduceEqDiff]
      try show AWP _ _ _ _ _
      refine AWP.ret ?_
      refine ⟨.inl rfl, ⟨⟨_, rfl, ?_⟩, fun ob hob => by cases hob⟩⟩
      simp only [look, reduceIte, Nat.reduceEqDiff]
      refine sub1_of ?_
      simp
  simp only [evC, Int.not_lt] at hc
  refine AWP.skip ?_
  show AWP _ _ _ _ _
  have hi' := hc
  clear hc
  have eg : (g + (i : Int) % 65536) % 65536 = (g + i) % 65536 := by omega
  repeat refine AWP.nest ?_
  first | refine AWP.seq (AWP.block ?_) | refine AWP.block ?_
  repeat refine AWP.nest ?_
  first | refine AWP.rs (Gf_ok F65_ok) [] [1, 3, 9, 10, 11, 12, 25, 26] (by rw [hN]; decide) fun K hK => ?_ | refine AWP.rn (Gf_ok F65_ok) [] [1, 3, 9, 10, 11, 12, 25, 26] (by rw [hN]; decide) fun K hK => ?_
  repeat
    first | apply eL | (apply eG; (case ht => exact rfl); (case hef => exact rfl))
    case e => (simp only [evB, evG, evGR, Q.evalR, boolOf, opQ, opMove, opPick, opBin, opUn, opConv, opExtract, opNil, opAlloc, opBox, opBuild, opBuildSlice, opMakeSlice, opLoad, opStore, opSlice, opFieldAddr, opField, opIndexAddr, opIndex, opLen, opMinMax, opAppend, opAppendZ, opCall, opCallF, Q.opnd, Q.opndW, Q.eval, Q.ret, Q.elems, Q.cells, Q.parts, Q.args, Q.src, Q.optInt, intOf?, placeOf, fillA, setAll, mkAgg, datas, loadSel, ofCells, pickV, binI, binS, look, Value.oneCell', normD, smallNil, KD.known, KD.agg, T, TI.z, Dat.wd, Dat.cells, Dat.nagg, AV.ren, renL, AV.renT, AV.hi, AV.hi1, Ob.isRow, Ob.inn, Ob.out, Ob.gam, Ob.data, Ob.alike, loL, Gf, Mu, Dat.flat, Dat.isV, List.contains, List.elem, Option.isSome, Nat.reduceAdd, Nat.reduceSub, Nat.reduceMul, Nat.reduceEqDiff, Nat.reduceLeDiff, Nat.reduceBEq, reduceIte, reduceCtorEq, Int.reduceLT, Int.reduceLE, Int.reduceNeg, Int.reduceEq, Int.reduceToNat, Int.reducePow, Nat.reducePow, Nat.reduceLT, IntKind.bits, hf49, e49, hf51, e51, hf52, e52, hf54, e54, hf56, e56, evP, evS, toPrs_prs, toSgs_sgs, toInts_ints]; (try simp (disch := omega) only [evA]); exact rfl)
    case s => ((try simp only [evU]); exact rfl)
    case hp => (first | exact True.intro | ((and_intros <;> first | exact True.intro | omega | assumption | (intro hq; first | omega | (rw [hq]; rfl) | (simp; done) | (simp [hq]; done) | (intro hq2; first | (rw [hq, hq2]; rfl) | (simp [hq, hq2]; done) | (simp_all; done))) | (simp; done) | (simp_all; done))) | (intro hg; (and_intros <;> first | exact True.intro | omega | assumption | (intro hq; first | omega | (rw [hq]; rfl) | (simp; done) | (simp [hq]; done) | (intro hq2; first | (rw [hq, hq2]; rfl) | (simp [hq, hq2]; done) | (simp_all; done))) | (simp; done) | (simp_all; done))) | (intro hg; simp at hg; (and_intros <;> first | exact True.intro | omega | assumption | (intro hq; first | omega | (rw [hq]; rfl) | (simp; done) | (simp [hq]; done) | (intro hq2; first | (rw [hq, hq2]; rfl) | (simp [hq, hq2]; done) | (simp_all; done))) | (simp; done) | (simp_all; done))))
  rw [evalL_nil]
  refine hK _ ?_
  clear hK K
  simp only [evU, St.keep, List.map_cons, look, reduceIte, Nat.reduceEqDiff]
  try show AWP _ _ _ _ _
  repeat refine AWP.nest ?_
  first | refine AWP.rs (Gf_ok F65_ok) [] [1, 3, 9, 10, 11, 25, 26] (by rw [hN]; decide) fun K hK => ?_ | refine AWP.rn (Gf_ok F65_ok) [] [1, 3, 9, 10, 11, 25, 26] (by rw [hN]; decide) fun K hK => ?_
  repeat
    first | apply eL | (apply eG; (case ht => exact rfl); (case hef => exact rfl))
    case e => (simp only [evB, evG, evGR, Q.evalR, boolOf, opQ, opMove, opPick, opBin, opUn, opConv, opExtract, opNil, opAlloc, opBox, opBuild, opBuildSlice, opMakeSlice, opLoad, opStore, opSlice, opFieldAddr, opField, opIndexAddr, opIndex, opLen, opMinMax, opAppend, opAppendZ, opCall, opCallF, Q.opnd, Q.opndW, Q.eval, Q.ret, Q.elems, Q.cells, Q.parts, Q.args, Q.src, Q.optInt, intOf?, placeOf, fillA, setAll, mkAgg, datas, loadSel, ofCells, pickV, binI, binS, look, Value.oneCell', normD, smallNil, KD.known, KD.agg, T, TI.z, Dat.wd, Dat.cells, Dat.nagg, AV.ren, renL, AV.renT, AV.hi, AV.hi1, Ob.isRow, Ob.inn, Ob.out, Ob.gam, Ob.data, Ob.alike, loL, Gf, Mu, Dat.flat, Dat.isV, List.contains, List.elem, Option.isSome, Nat.reduceAdd, Nat.reduceSub, Nat.reduceMul, Nat.reduceEqDiff, Nat.reduceLeDiff, Nat.reduceBEq, reduceIte, reduceCtorEq, Int.reduceLT, Int.reduceLE, Int.reduceNeg, Int.reduceEq, Int.reduceToNat, Int.reducePow, Nat.reducePow, Nat.reduceLT, IntKind.bits, hf49, e49, hf51, e51, hf52, e52, hf54, e54, hf56, e56, evP, evS, toPrs_prs, toSgs_sgs, toInts_ints, eg]; (try simp (disch := omega) only [evA]); exact rfl)
    case s => ((try simp only [evU]); exact rfl)
    case hp => (first | exact True.intro | ((and_intros <;> first | exact True.intro | omega | assumption | (intro hq; first | omega | (rw [hq]; rfl) | (simp; done) | (simp [hq]; done) | (intro hq2; first | (rw [hq, hq2]; rfl) | (simp [hq, hq2]; done) | (simp_all; done))) | (simp; done) | (simp_all; done))) | (intro hg; (and_intros <;> first | exact True.intro | omega | assumption | (intro hq; first | omega | (rw [hq]; rfl) | (simp; done) | (simp [hq]; done) | (intro hq2; first | (rw [hq, hq2]; rfl) | (simp [hq, hq2]; done) | (simp_all; done))) | (simp; done) | (simp_all; done))) | (intro hg; simp at hg; (and_intros <;> first | exact True.intro | omega | assumption | (intro hq; first | omega | (rw [hq]; rfl) | (simp; done) | (simp [hq]; done) | (intro hq2; first | (rw [hq, hq2]; rfl) | (simp [hq, hq2]; done) | (simp_all; done))) | (simp; done) | (simp_all; done))))
  rw [evalL_nil]
  refine hK _ ?_
  clear hK K
  simp only [evU, St.keep, List.map_cons, look, reduceIte, Nat.reduceEqDiff]
  try show AWP _ _ _ _ _
  repeat refine AWP.nest ?_
  first | refine AWP.rs (Gf_ok F65_ok) [] [1, 3, 9, 10, 11, 25, 26] (by rw [hN]; decide) fun K hK => ?_ | refine AWP.rn (Gf_ok F65_ok) [] [1, 3, 9, 10, 11, 25, 26] (by rw [hN]; decide) fun K hK => ?_
  repeat
    first | apply eL | (apply eG; (case ht => exact rfl); (case hef => exact rfl))
    case e => (simp only [evB, evG, evGR, Q.evalR, boolOf, opQ, opMove, opPick, opBin, opUn, opConv, opExtract, opNil, opAlloc, opBox, opBuild, opBuildSlice, opMakeSlice, opLoad, opStore, opSlice, opFieldAddr, opField, opIndexAddr, opIndex, opLen, opMinMax, opAppend, opAppendZ, opCall, opCallF, Q.opnd, Q.opndW, Q.eval, Q.ret, Q.elems, Q.cells, Q.parts, Q.args, Q.src, Q.optInt, intOf?, placeOf, fillA, setAll, mkAgg, datas, loadSel, ofCells, pickV, binI, binS, look, Value.oneCell', normD, smallNil, KD.known, KD.agg, T, TI.z, Dat.wd, Dat.cells, Dat.nagg, AV.ren, renL, AV.renT, AV.hi, AV.hi1, Ob.isRow, Ob.inn, Ob.out, Ob.gam, Ob.data, Ob.alike, loL, Gf, Mu, Dat.flat, Dat.isV, List.contains, List.elem, Option.isSome, Nat.reduceAdd, Nat.reduceSub, Nat.reduceMul, Nat.reduceEqDiff, Nat.reduceLeDiff, Nat.reduceBEq, reduceIte, reduceCtorEq, Int.reduceLT, Int.reduceLE, Int.reduceNeg, Int.reduceEq, Int.reduceToNat, Int.reducePow, Nat.reducePow, Nat.reduceLT, IntKind.bits, hf49, e49, hf51, e51, hf52, e52, hf54, e54, hf56, e56, evP, evS, toPrs_prs, toSgs_sgs, toInts_ints]; (try simp (disch := omega) only [evA]); exact rfl)
    case s => ((try simp only [evU]); exact rfl)
    case hp => (first | exact True.intro | ((and_intros <;> first | exact True.intro | omega | assumption | (intro hq; first | omega | (rw [hq]; rfl) | (simp; done) | (simp [hq]; done) | (intro hq2; first | (rw [hq, hq2]; rfl) | (simp [hq, hq2]; done) | (simp_all; done))) | (simp; done) | (simp_all; done))) | (intro hg; (and_intros <;> first | exact True.intro | omega | assumption | (intro hq; first | omega | (rw [hq]; rfl) | (simp; done) | (simp [hq]; done) | (intro hq2; first | (rw [hq, hq2]; rfl) | (simp [hq, hq2]; done) | (simp_all; done))) | (simp; done) | (simp_all; done))) | (intro hg; simp at hg; (and_intros <;> first | exact True.intro | omega | assumption | (intro hq; first | omega | (rw [hq]; rfl) | (simp; done) | (simp [hq]; done) | (intro hq2; first | (rw [hq, hq2]; rfl) | (simp [hq, hq2]; done) | (simp_all; done))) | (simp; done) | (simp_all; done))))
  rw [evalL_nil]
  refine hK _ ?_
  clear hK K
  simp only [evU, St.keep, List.map_cons, look, reduceIte, Nat.reduceEqDiff]
  try show AWP _ _ _ _ _
  refine ⟨k - (i + 1), by omega, i + 1, by omega, rfl, ?_⟩
  rw [seqW_snoc]
  rfl
theorem law18 (x : Dat) (h : (AT.int .u16).holds x) (y : Dat) (h1 : (AT.int .u16).holds y) (z : Dat) (h2 : (AT.int .u8).holds z) (u : Dat) (h3 : AT.bool.holds u) : Spec Try.prog 18 [.d x.flat x, .d y.flat y, .d z.flat z, .d u.flat u] none ⟨True, .d true (.v (.bool true)), none⟩ := by
  obtain ⟨s, rfl, hs⟩ := h
  obtain ⟨g, rfl, hg⟩ := h1
  obtain ⟨n, rfl, hn⟩ := h2
  obtain ⟨b, rfl⟩ := h3
  have := bounds_u16 hs
  have := bounds_u16 hg
  have := bounds_u8 hn
  exact s18 s g n b (by omega) (by omega) (by omega) (by omega) (by omega) (by omega)
end Go.AM

