/- AM: the laws of package tally, on. -/
import Derived.Test.YtmfobkiljlepjaaC9
set_option maxRecDepth 100000
set_option maxHeartbeats 8000000
set_option linter.unusedSimpArgs false
set_option linter.unusedVariables false
namespace Go.AM
open Go Go.Proofs


/-! ### TallyZeroes -/
theorem zeroB_getD (l : List Int) (q n : Int) (i : Nat) (hi : i < l.length) : (zeroB l q n).getD i 0 = if q ≤ (i : Int) ∧ (i : Int) - q < n then 0 else l.getD i 0 := by
  simp only [zeroB, List.getD_eq_getElem?_getD, List.getElem?_map, List.getElem?_zipIdx, List.getElem?_eq_getElem hi, Option.map_some, Option.getD_some, Nat.zero_add]
theorem zeroB_byt {l : List Int} (h : Byt l) (q n : Int) : Byt (zeroB l q n) := by
  intro b hb
  simp only [zeroB, List.mem_map] at hb
  obtain ⟨p, hp, rfl⟩ := hb
  split
  · omega
  · exact h _ (List.mem_of_getElem? (List.mem_zipIdx_iff_getElem?.1 hp))
def clamp (x lo hi : Int) : Int := max (min x hi) lo
theorem s6 (l : List Int) (hb : Byt l) (q n : Int) : Spec Try.prog 6 [.d false (.sl 1 (ints .u8 l)), .d true (.v (.int .i64 q)), .d true (.v (.int .i64 n))] none ⟨True, .d true (.v (.bool true)), none⟩ := by
  have hf30 : F19 30 = e30 := rfl
  have hf31 : F19 31 = e31 := rfl
  have hf39 : F19 39 = e39 := rfl
  refine spec_of_awp (Gf_ok F19_ok) Try.func6 rfl (Nat.le_of_ble_eq_true rfl) fun E hps hN _ => ?_
  simp only [begin, List.zipIdx_cons, List.zipIdx_nil, List.map_cons, List.map_nil, Option.toList, Nat.zero_add, Nat.reduceAdd]
  repeat refine AWP.nest ?_
  first | refine AWP.rs (Gf_ok F19_ok) [] [0, 1, 2] (by rw [hN]; decide) fun K hK => ?_ | refine AWP.rn (Gf_ok F19_ok) [] [0, 1, 2] (by rw [hN]; decide) fun K hK => ?_
  repeat
    first | apply eL | (apply eG; (case ht => exact rfl); (case hef => exact rfl))
    case e => (simp only [evB, evG, evGR, Q.evalR, boolOf, opQ, opMove, opPick, opBin, opUn, opConv, opExtract, opNil, opAlloc, opBox, opBuild, opBuildSlice, opMakeSlice, opLoad, opStore, opSlice, opFieldAddr, opField, opIndexAddr, opIndex, opLen, opMinMax, opAppend, opAppendZ, opCall, opCallF, Q.opnd, Q.opndW, Q.eval, Q.ret, Q.elems, Q.cells, Q.parts, Q.args, Q.src, Q.optInt, intOf?, placeOf, fillA, setAll, mkAgg, datas, loadSel, ofCells, pickV, binI, binS, look, Value.oneCell', normD, smallNil, KD.known, KD.agg, T, TI.z, Dat.wd, Dat.cells, Dat.nagg, AV.ren, renL, AV.renT, AV.hi, AV.hi1, Ob.isRow, Ob.inn, Ob.out, Ob.gam, Ob.data, Ob.alike, loL, Gf, Mu, Dat.flat, Dat.isV, List.contains, List.elem, Option.isSome, Nat.reduceAdd, Nat.reduceSub, Nat.reduceMul, Nat.reduceEqDiff, Nat.reduceLeDiff, Nat.reduceBEq, reduceIte, reduceCtorEq, Int.reduceLT, Int.reduceLE, Int.reduceNeg, Int.reduceEq, Int.reduceToNat, Int.reducePow, Nat.reducePow, Nat.reduceLT, IntKind.bits, hf30, e30, hf31, e31, hf39, e39]; (try simp (disch := omega) only [w_i64, w_i32, w_u8, w_u16, w_u32, w_u64, tdiv_nn, tmod_nn]); exact rfl)
    case s => ((try simp only [evU]); exact rfl)
    case hp => (first | trivial | ((repeat' refine And.intro ?_ ?_) <;> first | trivial | assumption | omega | exact fun h => h | (intro hq; first | trivial | assumption | omega | (rw [hq]; rfl) | (simp_all; done)) | (simp; done)) | (intro hg; (repeat' refine And.intro ?_ ?_) <;> first | trivial | assumption | omega | exact fun h => h | (intro hq; first | trivial | assumption | omega | (rw [hq]; rfl) | (simp_all; done)) | (simp; done)))
  rw [evalL_nil]
  refine hK _ ?_
  clear hK K
  simp only [evU, St.keep, List.map_cons, look, reduceIte, Nat.reduceEqDiff]
  try show AWP _ _ _ _ _
  repeat refine AWP.nest ?_
  first | refine AWP.rs (Gf_ok F19_ok) [] [0, 1, 2, 12] (by rw [hN]; decide) fun K hK => ?_ | refine AWP.rn (Gf_ok F19_ok) [] [0, 1, 2, 12] (by rw [hN]; decide) fun K hK => ?_
  repeat
    first | apply eL | (apply eG; (case ht => exact rfl); (case hef => exact rfl))
    case e => (simp only [evB, evG, evGR, Q.evalR, boolOf, opQ, opMove, opPick, opBin, opUn, opConv, opExtract, opNil, opAlloc, opBox, opBuild, opBuildSlice, opMakeSlice, opLoad, opStore, opSlice, opFieldAddr, opField, opIndexAddr, opIndex, opLen, opMinMax, opAppend, opAppendZ, opCall, opCallF, Q.opnd, Q.opndW, Q.eval, Q.ret, Q.elems, Q.cells, Q.parts, Q.args, Q.src, Q.optInt, intOf?, placeOf, fillA, setAll, mkAgg, datas, loadSel, ofCells, pickV, binI, binS, look, Value.oneCell', normD, smallNil, KD.known, KD.agg, T, TI.z, Dat.wd, Dat.cells, Dat.nagg, AV.ren, renL, AV.renT, AV.hi, AV.hi1, Ob.isRow, Ob.inn, Ob.out, Ob.gam, Ob.data, Ob.alike, loL, Gf, Mu, Dat.flat, Dat.isV, List.contains, List.elem, Option.isSome, Nat.reduceAdd, Nat.reduceSub, Nat.reduceMul, Nat.reduceEqDiff, Nat.reduceLeDiff, Nat.reduceBEq, reduceIte, reduceCtorEq, Int.reduceLT, Int.reduceLE, Int.reduceNeg, Int.reduceEq, Int.reduceToNat, Int.reducePow, Nat.reducePow, Nat.reduceLT, IntKind.bits, hf30, e30, hf31, e31, hf39, e39]; (try simp (disch := omega) only [w_i64, w_i32, w_u8, w_u16, w_u32, w_u64, tdiv_nn, tmod_nn]); exact rfl)
    case s => ((try simp only [evU]); exact rfl)
    case hp => (first | trivial | ((repeat' refine And.intro ?_ ?_) <;> first | trivial | assumption | omega | exact fun h => h | (intro hq; first | trivial | assumption | omega | (rw [hq]; rfl) | (simp_all; done)) | (simp; done)) | (intro hg; (repeat' refine And.intro ?_ ?_) <;> first | trivial | assumption | omega | exact fun h => h | (intro hq; first | trivial | assumption | omega | (rw [hq]; rfl) | (simp_all; done)) | (simp; done)))
  rw [evalL_nil]
  refine hK _ ?_
  clear hK K
  simp only [evU, St.keep, List.map_cons, look, reduceIte, Nat.reduceEqDiff]
  try show AWP _ _ _ _ _
  repeat refine AWP.nest ?_
  first | refine AWP.seq (AWP.cond (b := _) rfl (fun hc => ?_) (fun hc => ?_)) | refine AWP.cond (b := _) rfl (fun hc => ?_) (fun hc => ?_)
  all_goals try simp only [decide_eq_true_eq, decide_eq_false_iff_not, Bool.and_eq_true, Bool.or_eq_true, Bool.and_eq_false_iff, Bool.or_eq_false_iff, beq_iff_eq, bne_iff_ne, Int.ofNat_lt, Int.ofNat_le] at hc
  · cases hc
  refine AWP.skip ?_
  show AWP _ _ _ _ _
  repeat refine AWP.nest ?_
  first | refine AWP.rs (Gf_ok F19_ok) [] [0, 1, 2] (by rw [hN]; decide) fun K hK => ?_ | refine AWP.rn (Gf_ok F19_ok) [] [0, 1, 2] (by rw [hN]; decide) fun K hK => ?_
  repeat
    first | apply eL | (apply eG; (case ht => exact rfl); (case hef => exact rfl))
    case e => (simp only [evB, evG, evGR, Q.evalR, boolOf, opQ, opMove, opPick, opBin, opUn, opConv, opExtract, opNil, opAlloc, opBox, opBuild, opBuildSlice, opMakeSlice, opLoad, opStore, opSlice, opFieldAddr, opField, opIndexAddr, opIndex, opLen, opMinMax, opAppend, opAppendZ, opCall, opCallF, Q.opnd, Q.opndW, Q.eval, Q.ret, Q.elems, Q.cells, Q.parts, Q.args, Q.src, Q.optInt, intOf?, placeOf, fillA, setAll, mkAgg, datas, loadSel, ofCells, pickV, binI, binS, look, Value.oneCell', normD, smallNil, KD.known, KD.agg, T, TI.z, Dat.wd, Dat.cells, Dat.nagg, AV.ren, renL, AV.renT, AV.hi, AV.hi1, Ob.isRow, Ob.inn, Ob.out, Ob.gam, Ob.data, Ob.alike, loL, Gf, Mu, Dat.flat, Dat.isV, List.contains, List.elem, Option.isSome, Nat.reduceAdd, Nat.reduceSub, Nat.reduceMul, Nat.reduceEqDiff, Nat.reduceLeDiff, Nat.reduceBEq, reduceIte, reduceCtorEq, Int.reduceLT, Int.reduceLE, Int.reduceNeg, Int.reduceEq, Int.reduceToNat, Int.reducePow, Nat.reducePow, Nat.reduceLT, IntKind.bits, hf30, e30, hf31, e31, hf39, e39]; (try simp (disch := omega) only [w_i64, w_i32, w_u8, w_u16, w_u32, w_u64, tdiv_nn, tmod_nn]); exact rfl)
    case s => ((try simp only [evU]); exact rfl)
    case hp => (first | trivial | ((repeat' refine And.intro ?_ ?_) <;> first | trivial | assumption | omega | exact fun h => h | (intro hq; first | trivial | assumption | omega | (rw [hq]; rfl) | (simp_all; done)) | (simp; done)) | (intro hg; (repeat' refine And.intro ?_ ?_) <;> first | trivial | assumption | omega | exact fun h => h | (intro hq; first | trivial | assumption | omega | (rw [hq]; rfl) | (simp_all; done)) | (simp; done)))
  rw [evalL_nil]
  refine hK _ ?_
  clear hK K
  simp only [evU, St.keep, List.map_cons, look, reduceIte, Nat.reduceEqDiff]
  try show AWP _ _ _ _ _
  have hbm := hb.take 60
  have hlm : (l.take 60).length ≤ 60 := by simp only [List.length_take]; omega
  generalize l.take 60 = m at hbm hlm ⊢
  repeat refine AWP.nest ?_
  first | refine AWP.rs (Gf_ok F19_ok) [] [0, 1, 2] (by rw [hN]; decide) fun K hK => ?_ | refine AWP.rn (Gf_ok F19_ok) [] [0, 1, 2] (by rw [hN]; decide) fun K hK => ?_
  repeat
    first | apply eL | (apply eG; (case ht => exact rfl); (case hef => exact rfl))
    case e => (simp only [evB, evG, evGR, Q.evalR, boolOf, opQ, opMove, opPick, opBin, opUn, opConv, opExtract, opNil, opAlloc, opBox, opBuild, opBuildSlice, opMakeSlice, opLoad, opStore, opSlice, opFieldAddr, opField, opIndexAddr, opIndex, opLen, opMinMax, opAppend, opAppendZ, opCall, opCallF, Q.opnd, Q.opndW, Q.eval, Q.ret, Q.elems, Q.cells, Q.parts, Q.args, Q.src, Q.optInt, intOf?, placeOf, fillA, setAll, mkAgg, datas, loadSel, ofCells, pickV, binI, binS, look, Value.oneCell', normD, smallNil, KD.known, KD.agg, T, TI.z, Dat.wd, Dat.cells, Dat.nagg, AV.ren, renL, AV.renT, AV.hi, AV.hi1, Ob.isRow, Ob.inn, Ob.out, Ob.gam, Ob.data, Ob.alike, loL, Gf, Mu, Dat.flat, Dat.isV, List.contains, List.elem, Option.isSome, Nat.reduceAdd, Nat.reduceSub, Nat.reduceMul, Nat.reduceEqDiff, Nat.reduceLeDiff, Nat.reduceBEq, reduceIte, reduceCtorEq, Int.reduceLT, Int.reduceLE, Int.reduceNeg, Int.reduceEq, Int.reduceToNat, Int.reducePow, Nat.reducePow, Nat.reduceLT, IntKind.bits, hf30, e30, hf31, e31, hf39, e39]; (try simp (disch := omega) only [w_i64, w_i32, w_u8, w_u16, w_u32, w_u64, tdiv_nn, tmod_nn]); exact rfl)
    case s => ((try simp only [evU]); exact rfl)
    case hp => (first | trivial | ((repeat' refine And.intro ?_ ?_) <;> first | trivial | assumption | omega | exact fun h => h | (intro hq; first | trivial | assumption | omega | (rw [hq]; rfl) | (simp_all; done)) | (simp; done)) | (intro hg; (repeat' refine And.intro ?_ ?_) <;> first | trivial | assumption | omega | exact fun h => h | (intro hq; first | trivial | assumption | omega | (rw [hq]; rfl) | (simp_all; done)) | (simp; done)))
  rw [evalL_nil]
  refine hK _ ?_
  clear hK K
  simp only [evU, St.keep, List.map_cons, look, reduceIte, Nat.reduceEqDiff]
  try show AWP _ _ _ _ _
  obtain ⟨q', hq', hq1, hq2⟩ : ∃ q', maxI (minI q 1000) (-1000) = q' ∧ -1000 ≤ q' ∧ q' ≤ 1000 := ⟨_, rfl, by unfold maxI minI; split <;> split <;> omega, by unfold maxI minI; split <;> split <;> omega⟩
  obtain ⟨n', hn', hn1, hn2⟩ : ∃ n', maxI (minI n 3000) (-3000) = n' ∧ -3000 ≤ n' ∧ n' ≤ 3000 := ⟨_, rfl, by unfold maxI minI; split <;> split <;> omega, by unfold maxI minI; split <;> split <;> omega⟩
  rw [hq', hn']
  clear hq' hn'
  repeat refine AWP.nest ?_
  first | refine AWP.rs (Gf_ok F19_ok) [] [0, 1, 2, 7] (by rw [hN]; decide) fun K hK => ?_ | refine AWP.rn (Gf_ok F19_ok) [] [0, 1, 2, 7] (by rw [hN]; decide) fun K hK => ?_
  repeat
    first | apply eL | (apply eG; (case ht => exact rfl); (case hef => exact rfl))
    case e => (simp only [evB, evG, evGR, Q.evalR, boolOf, opQ, opMove, opPick, opBin, opUn, opConv, opExtract, opNil, opAlloc, opBox, opBuild, opBuildSlice, opMakeSlice, opLoad, opStore, opSlice, opFieldAddr, opField, opIndexAddr, opIndex, opLen, opMinMax, opAppend, opAppendZ, opCall, opCallF, Q.opnd, Q.opndW, Q.eval, Q.ret, Q.elems, Q.cells, Q.parts, Q.args, Q.src, Q.optInt, intOf?, placeOf, fillA, setAll, mkAgg, datas, loadSel, ofCells, pickV, binI, binS, look, Value.oneCell', normD, smallNil, KD.known, KD.agg, T, TI.z, Dat.wd, Dat.cells, Dat.nagg, AV.ren, renL, AV.renT, AV.hi, AV.hi1, Ob.isRow, Ob.inn, Ob.out, Ob.gam, Ob.data, Ob.alike, loL, Gf, Mu, Dat.flat, Dat.isV, List.contains, List.elem, Option.isSome, Nat.reduceAdd, Nat.reduceSub, Nat.reduceMul, Nat.reduceEqDiff, Nat.reduceLeDiff, Nat.reduceBEq, reduceIte, reduceCtorEq, Int.reduceLT, Int.reduceLE, Int.reduceNeg, Int.reduceEq, Int.reduceToNat, Int.reducePow, Nat.reducePow, Nat.reduceLT, IntKind.bits, hf30, e30, hf31, e31, hf39, e39]; (try simp (disch := omega) only [w_i64, w_i32, w_u8, w_u16, w_u32, w_u64, tdiv_nn, tmod_nn]); exact rfl)
    case s => ((try simp only [evU]); exact rfl)
    case hp => (first | trivial | ((repeat' refine And.intro ?_ ?_) <;> first | trivial | assumption | omega | exact fun h => h | (intro hq; first | trivial | assumption | omega | (rw [hq]; rfl) | (simp_all; done)) | (simp; done)) | (intro hg; (repeat' refine And.intro ?_ ?_) <;> first | trivial | assumption | omega | exact fun h => h | (intro hq; first | trivial | assumption | omega | (rw [hq]; rfl) | (simp_all; done)) | (simp; done)))
  rw [evalL_nil]
  refine hK _ ?_
  clear hK K
  simp only [evU, St.keep, List.map_cons, look, reduceIte, Nat.reduceEqDiff]
  try show AWP _ _ _ _ _
  have hzb := zeroB_byt hbm q' n'
  have hzl := zeroB_length m q' n'
  repeat refine AWP.nest ?_
  first | refine AWP.rs (Gf_ok F19_ok) [] [0, 1, 2, 7, 29] (by rw [hN]; decide) fun K hK => ?_ | refine AWP.rn (Gf_ok F19_ok) [] [0, 1, 2, 7, 29] (by rw [hN]; decide) fun K hK => ?_
  repeat
    first | apply eL | (apply eG; (case ht => exact rfl); (case hef => exact rfl))
    case e => (simp only [evB, evG, evGR, Q.evalR, boolOf, opQ, opMove, opPick, opBin, opUn, opConv, opExtract, opNil, opAlloc, opBox, opBuild, opBuildSlice, opMakeSlice, opLoad, opStore, opSlice, opFieldAddr, opField, opIndexAddr, opIndex, opLen, opMinMax, opAppend, opAppendZ, opCall, opCallF, Q.opnd, Q.opndW, Q.eval, Q.ret, Q.elems, Q.cells, Q.parts, Q.args, Q.src, Q.optInt, intOf?, placeOf, fillA, setAll, mkAgg, datas, loadSel, ofCells, pickV, binI, binS, look, Value.oneCell', normD, smallNil, KD.known, KD.agg, T, TI.z, Dat.wd, Dat.cells, Dat.nagg, AV.ren, renL, AV.renT, AV.hi, AV.hi1, Ob.isRow, Ob.inn, Ob.out, Ob.gam, Ob.data, Ob.alike, loL, Gf, Mu, Dat.flat, Dat.isV, List.contains, List.elem, Option.isSome, Nat.reduceAdd, Nat.reduceSub, Nat.reduceMul, Nat.reduceEqDiff, Nat.reduceLeDiff, Nat.reduceBEq, reduceIte, reduceCtorEq, Int.reduceLT, Int.reduceLE, Int.reduceNeg, Int.reduceEq, Int.reduceToNat, Int.reducePow, Nat.reducePow, Nat.reduceLT, IntKind.bits, hf30, e30, hf31, e31, hf39, e39]; (try simp (disch := omega) only [w_i64, w_i32, w_u8, w_u16, w_u32, w_u64, tdiv_nn, tmod_nn]); exact rfl)
    case s => ((try simp only [evU]); exact rfl)
    case hp => (first | trivial | ((repeat' refine And.intro ?_ ?_) <;> first | trivial | assumption | omega | exact fun h => h | (intro hq; first | trivial | assumption | omega | (rw [hq]; rfl) | (simp_all; done)) | (simp; done)) | (intro hg; (repeat' refine And.intro ?_ ?_) <;> first | trivial | assumption | omega | exact fun h => h | (intro hq; first | trivial | assumption | omega | (rw [hq]; rfl) | (simp_all; done)) | (simp; done)))
  rw [evalL_nil]
  refine hK _ ?_
  clear hK K
  simp only [evU, St.keep, List.map_cons, look, reduceIte, Nat.reduceEqDiff]
  try show AWP _ _ _ _ _
  repeat refine AWP.nest ?_
  first | refine AWP.seq (AWP.cond (b := _) rfl (fun hc => ?_) (fun hc => ?_)) | refine AWP.cond (b := _) rfl (fun hc => ?_) (fun hc => ?_)
  all_goals try simp only [decide_eq_true_eq, decide_eq_false_iff_not, Bool.and_eq_true, Bool.or_eq_true, Bool.and_eq_false_iff, Bool.or_eq_false_iff, beq_iff_eq, bne_iff_ne, Int.ofNat_lt, Int.ofNat_le] at hc
  · exact absurd hzl (fun e => hc (by rw [e]))
  refine AWP.skip ?_
  show AWP _ _ _ _ _
  clear hc
  repeat refine AWP.nest ?_
  first | refine AWP.rs (Gf_ok F19_ok) [] [1, 2, 7, 30, 31, 32] (by rw [hN]; decide) fun K hK => ?_ | refine AWP.rn (Gf_ok F19_ok) [] [1, 2, 7, 30, 31, 32] (by rw [hN]; decide) fun K hK => ?_
  repeat
    first | apply eL | (apply eG; (case ht => exact rfl); (case hef => exact rfl))
    case e => (simp only [evB, evG, evGR, Q.evalR, boolOf, opQ, opMove, opPick, opBin, opUn, opConv, opExtract, opNil, opAlloc, opBox, opBuild, opBuildSlice, opMakeSlice, opLoad, opStore, opSlice, opFieldAddr, opField, opIndexAddr, opIndex, opLen, opMinMax, opAppend, opAppendZ, opCall, opCallF, Q.opnd, Q.opndW, Q.eval, Q.ret, Q.elems, Q.cells, Q.parts, Q.args, Q.src, Q.optInt, intOf?, placeOf, fillA, setAll, mkAgg, datas, loadSel, ofCells, pickV, binI, binS, look, Value.oneCell', normD, smallNil, KD.known, KD.agg, T, TI.z, Dat.wd, Dat.cells, Dat.nagg, AV.ren, renL, AV.renT, AV.hi, AV.hi1, Ob.isRow, Ob.inn, Ob.out, Ob.gam, Ob.data, Ob.alike, loL, Gf, Mu, Dat.flat, Dat.isV, List.contains, List.elem, Option.isSome, Nat.reduceAdd, Nat.reduceSub, Nat.reduceMul, Nat.reduceEqDiff, Nat.reduceLeDiff, Nat.reduceBEq, reduceIte, reduceCtorEq, Int.reduceLT, Int.reduceLE, Int.reduceNeg, Int.reduceEq, Int.reduceToNat, Int.reducePow, Nat.reducePow, Nat.reduceLT, IntKind.bits, hf30, e30, hf31, e31, hf39, e39]; (try simp (disch := omega) only [w_i64, w_i32, w_u8, w_u16, w_u32, w_u64, tdiv_nn, tmod_nn]); exact rfl)
    case s => ((try simp only [evU]); exact rfl)
    case hp => (first | trivial | ((repeat' refine And.intro ?_ ?_) <;> first | trivial | assumption | omega | exact fun h => h | (intro hq; first | trivial | assumption | omega | (rw [hq]; rfl) | (simp_all; done)) | (simp; done)) | (intro hg; (repeat' refine And.intro ?_ ?_) <;> first | trivial | assumption | omega | exact fun h => h | (intro hq; first | trivial | assumption | omega | (rw [hq]; rfl) | (simp_all; done)) | (simp; done)))
  rw [evalL_nil]
  refine hK _ ?_
  clear hK K
  simp only [evU, St.keep, List.map_cons, look, reduceIte, Nat.reduceEqDiff]
  try show AWP _ _ _ _ _
  repeat refine AWP.nest ?_
  first | refine AWP.seq (AWP.block ?_) | refine AWP.block ?_
  refine AWP.loop (fun k st => ∃ (i : Nat), i ≤ m.length ∧ k = m.length - i ∧ st = ⟨[(1, .d true (.v (.int .i64 q'))), (2, .d true (.v (.int .i64 n'))), (7, .d true (.sl 1 (ints .u8 (zeroB m q' n')))), (30, .d true (.sl 1 (ints .u8 m))), (31, .d true (.v (.int .i64 (m.length : Int)))), (32, .d true (.v (.int .i64 (i : Int))))], []⟩) (m.length) ?_ ?_
  · exact ⟨0, Nat.zero_le _, rfl, rfl⟩
  rintro k st ⟨i, hi, hk, rfl⟩
  repeat refine AWP.nest ?_
  first | refine AWP.rs (Gf_ok F19_ok) [] [1, 2, 7, 30, 31, 32, 33] (by rw [hN]; decide) fun K hK => ?_ | refine AWP.rn (Gf_ok F19_ok) [] [1, 2, 7, 30, 31, 32, 33] (by rw [hN]; decide) fun K hK => ?_
  repeat
    first | apply eL | (apply eG; (case ht => exact rfl); (case hef => exact rfl))
    case e => (simp only [evB, evG, evGR, Q.evalR, boolOf, opQ, opMove, opPick, opBin, opUn, opConv, opExtract, opNil, opAlloc, opBox, opBuild, opBuildSlice, opMakeSlice, opLoad, opStore, opSlice, opFieldAddr, opField, opIndexAddr, opIndex, opLen, opMinMax, opAppend, opAppendZ, opCall, opCallF, Q.opnd, Q.opndW, Q.eval, Q.ret, Q.elems, Q.cells, Q.parts, Q.args, Q.src, Q.optInt, intOf?, placeOf, fillA, setAll, mkAgg, datas, loadSel, ofCells, pickV, binI, binS, look, Value.oneCell', normD, smallNil, KD.known, KD.agg, T, TI.z, Dat.wd, Dat.cells, Dat.nagg, AV.ren, renL, AV.renT, AV.hi, AV.hi1, Ob.isRow, Ob.inn, Ob.out, Ob.gam, Ob.data, Ob.alike, loL, Gf, Mu, Dat.flat, Dat.isV, List.contains, List.elem, Option.isSome, Nat.reduceAdd, Nat.reduceSub, Nat.reduceMul, Nat.reduceEqDiff, Nat.reduceLeDiff, Nat.reduceBEq, reduceIte, reduceCtorEq, Int.reduceLT, Int.reduceLE, Int.reduceNeg, Int.reduceEq, Int.reduceToNat, Int.reducePow, Nat.reducePow, Nat.reduceLT, IntKind.bits, hf30, e30, hf31, e31, hf39, e39]; (try simp (disch := omega) only [w_i64, w_i32, w_u8, w_u16, w_u32, w_u64, tdiv_nn, tmod_nn]); exact rfl)
    case s => ((try simp only [evU]); exact rfl)
    case hp => (first | trivial | ((repeat' refine And.intro ?_ ?_) <;> first | trivial | assumption | omega | exact fun h => h | (intro hq; first | trivial | assumption | omega | (rw [hq]; rfl) | (simp_all; done)) | (simp; done)) | (intro hg; (repeat' refine And.intro ?_ ?_) <;> first | trivial | assumption | omega | exact fun h => h | (intro hq; first | trivial | assumption | omega | (rw [hq]; rfl) | (simp_all; done)) | (simp; done)))
  rw [evalL_nil]
  refine hK _ ?_
  clear hK K
  simp only [evU, St.keep, List.map_cons, look, reduceIte, Nat.reduceEqDiff]
  try show AWP _ _ _ _ _
  refine AWP.seq (AWP.cond (b := _) rfl (fun hc => ?_) (fun hc => ?_))
  rotate_left
  · refine AWP.exit ?_
    show AWP _ _ _ _ _
    simp only [decide_eq_false_iff_not, decide_eq_true_eq, Int.not_lt, Int.ofNat_lt, Int.ofNat_le] at hc
    repeat refine AWP.nest ?_
    first | refine AWP.rs (Gf_ok F19_ok) [] [6] (by rw [hN]; decide) fun K hK => ?_ | refine AWP.rn (Gf_ok F19_ok) [] [6] (by rw [hN]; decide) fun K hK => ?_
    repeat
      first | apply eL | (apply eG; (case ht => exact rfl); (case hef => exact rfl))
      case e => (simp only [evB, evG, evGR, Q.evalR, boolOf, opQ, opMove, opPick, opBin, opUn, opConv, opExtract, opNil, opAlloc, opBox, opBuild, opBuildSlice, opMakeSlice, opLoad, opStore, opSlice, opFieldAddr, opField, opIndexAddr, opIndex, opLen, opMinMax, opAppend, opAppendZ, opCall, opCallF, Q.opnd, Q.opndW, Q.eval, Q.ret, Q.elems, Q.cells, Q.parts, Q.args, Q.src, Q.optInt, intOf?, placeOf, fillA, setAll, mkAgg, datas, loadSel, ofCells, pickV, binI, binS, look, Value.oneCell', normD, smallNil, KD.known, KD.agg, T, TI.z, Dat.wd, Dat.cells, Dat.nagg, AV.ren, renL, AV.renT, AV.hi, AV.hi1, Ob.isRow, Ob.inn, Ob.out, Ob.gam, Ob.data, Ob.alike, loL, Gf, Mu, Dat.flat, Dat.isV, List.contains, List.elem, Option.isSome, Nat.reduceAdd, Nat.reduceSub, Nat.reduceMul, Nat.reduceEqDiff, Nat.reduceLeDiff, Nat.reduceBEq, reduceIte, reduceCtorEq, Int.reduceLT, Int.reduceLE, Int.reduceNeg, Int.reduceEq, Int.reduceToNat, Int.reducePow, Nat.reducePow, Nat.reduceLT, IntKind.bits, hf30, e30, hf31, e31, hf39, e39]; (try simp (disch := omega) only [w_i64, w_i32, w_u8, w_u16, w_u32, w_u64, tdiv_nn, tmod_nn]); exact rfl)
      case s => ((try simp only [evU]); exact rfl)
      case hp => (first | trivial | ((repeat' refine And.intro ?_ ?_) <;> first | trivial | assumption | omega | exact fun h => h | (intro hq; first | trivial | assumption | omega | (rw [hq]; rfl) | (simp_all; done)) | (simp; done)) | (intro hg; (repeat' refine And.intro ?_ ?_) <;> first | trivial | assumption | omega | exact fun h => h | (intro hq; first | trivial | assumption | omega | (rw [hq]; rfl) | (simp_all; done)) | (simp; done)))
    rw [evalL_nil]
    refine hK _ ?_
    clear hK K
    simp only [evU, St.keep, List.map_cons, look, reduceIte, Nat.reduceEqDiff]
    try show AWP _ _ _ _ _
    refine AWP.ret ?_
    refine ⟨.inl rfl, ⟨⟨_, rfl, ?_⟩, fun ob hob => by cases hob⟩⟩
    simp only [look, reduceIte, Nat.reduceEqDiff]
    exact sub1_of rfl
  simp only [decide_eq_true_eq, Int.ofNat_lt, Int.ofNat_le] at hc
  refine AWP.skip ?_
  show AWP _ _ _ _ _
  have hi' := hc
  clear hc
  have hg := zeroB_getD m q' n' i hi'
  repeat refine AWP.nest ?_
  first | refine AWP.seq (AWP.block ?_) | refine AWP.block ?_
  repeat refine AWP.nest ?_
  first | refine AWP.rs (Gf_ok F19_ok) [] [1, 2, 7, 8, 9, 30, 31, 32] (by rw [hN]; decide) fun K hK => ?_ | refine AWP.rn (Gf_ok F19_ok) [] [1, 2, 7, 8, 9, 30, 31, 32] (by rw [hN]; decide) fun K hK => ?_
  repeat
    first | apply eL | (apply eG; (case ht => exact rfl); (case hef => exact rfl))
    case e => (simp only [evB, evG, evGR, Q.evalR, boolOf, opQ, opMove, opPick, opBin, opUn, opConv, opExtract, opNil, opAlloc, opBox, opBuild, opBuildSlice, opMakeSlice, opLoad, opStore, opSlice, opFieldAddr, opField, opIndexAddr, opIndex, opLen, opMinMax, opAppend, opAppendZ, opCall, opCallF, Q.opnd, Q.opndW, Q.eval, Q.ret, Q.elems, Q.cells, Q.parts, Q.args, Q.src, Q.optInt, intOf?, placeOf, fillA, setAll, mkAgg, datas, loadSel, ofCells, pickV, binI, binS, look, Value.oneCell', normD, smallNil, KD.known, KD.agg, T, TI.z, Dat.wd, Dat.cells, Dat.nagg, AV.ren, renL, AV.renT, AV.hi, AV.hi1, Ob.isRow, Ob.inn, Ob.out, Ob.gam, Ob.data, Ob.alike, loL, Gf, Mu, Dat.flat, Dat.isV, List.contains, List.elem, Option.isSome, Nat.reduceAdd, Nat.reduceSub, Nat.reduceMul, Nat.reduceEqDiff, Nat.reduceLeDiff, Nat.reduceBEq, reduceIte, reduceCtorEq, Int.reduceLT, Int.reduceLE, Int.reduceNeg, Int.reduceEq, Int.reduceToNat, Int.reducePow, Nat.reducePow, Nat.reduceLT, IntKind.bits, hf30, e30, hf31, e31, hf39, e39]; (try simp (disch := omega) only [w_i64, w_i32, w_u8, w_u16, w_u32, w_u64, tdiv_nn, tmod_nn]); exact rfl)
    case s => ((try simp only [evU]); exact rfl)
    case hp => (first | trivial | ((repeat' refine And.intro ?_ ?_) <;> first | trivial | assumption | omega | exact fun h => h | (intro hq; first | trivial | assumption | omega | (rw [hq]; rfl) | (simp_all; done)) | (simp; done)) | (intro hg; (repeat' refine And.intro ?_ ?_) <;> first | trivial | assumption | omega | exact fun h => h | (intro hq; first | trivial | assumption | omega | (rw [hq]; rfl) | (simp_all; done)) | (simp; done)))
  rw [evalL_nil]
  refine hK _ ?_
  clear hK K
  simp only [evU, St.keep, List.map_cons, look, reduceIte, Nat.reduceEqDiff]
  try show AWP _ _ _ _ _
  repeat refine AWP.nest ?_
  first | refine AWP.rs (Gf_ok F19_ok) [] [1, 2, 7, 8, 9, 10, 30, 31, 32] (by rw [hN]; decide) fun K hK => ?_ | refine AWP.rn (Gf_ok F19_ok) [] [1, 2, 7, 8, 9, 10, 30, 31, 32] (by rw [hN]; decide) fun K hK => ?_
  repeat
    first | apply eL | (apply eG; (case ht => exact rfl); (case hef => exact rfl))
    case e => (simp only [evB, evG, evGR, Q.evalR, boolOf, opQ, opMove, opPick, opBin, opUn, opConv, opExtract, opNil, opAlloc, opBox, opBuild, opBuildSlice, opMakeSlice, opLoad, opStore, opSlice, opFieldAddr, opField, opIndexAddr, opIndex, opLen, opMinMax, opAppend, opAppendZ, opCall, opCallF, Q.opnd, Q.opndW, Q.eval, Q.ret, Q.elems, Q.cells, Q.parts, Q.args, Q.src, Q.optInt, intOf?, placeOf, fillA, setAll, mkAgg, datas, loadSel, ofCells, pickV, binI, binS, look, Value.oneCell', normD, smallNil, KD.known, KD.agg, T, TI.z, Dat.wd, Dat.cells, Dat.nagg, AV.ren, renL, AV.renT, AV.hi, AV.hi1, Ob.isRow, Ob.inn, Ob.out, Ob.gam, Ob.data, Ob.alike, loL, Gf, Mu, Dat.flat, Dat.isV, List.contains, List.elem, Option.isSome, Nat.reduceAdd, Nat.reduceSub, Nat.reduceMul, Nat.reduceEqDiff, Nat.reduceLeDiff, Nat.reduceBEq, reduceIte, reduceCtorEq, Int.reduceLT, Int.reduceLE, Int.reduceNeg, Int.reduceEq, Int.reduceToNat, Int.reducePow, Nat.reducePow, Nat.reduceLT, IntKind.bits, hf30, e30, hf31, e31, hf39, e39]; (try simp (disch := omega) only [w_i64, w_i32, w_u8, w_u16, w_u32, w_u64, tdiv_nn, tmod_nn]); exact rfl)
    case s => ((try simp only [evU]); exact rfl)
    case hp => (first | trivial | ((repeat' refine And.intro ?_ ?_) <;> first | trivial | assumption | omega | exact fun h => h | (intro hq; first | trivial | assumption | omega | (rw [hq]; rfl) | (simp_all; done)) | (simp; done)) | (intro hg; (repeat' refine And.intro ?_ ?_) <;> first | trivial | assumption | omega | exact fun h => h | (intro hq; first | trivial | assumption | omega | (rw [hq]; rfl) | (simp_all; done)) | (simp; done)))
  rw [evalL_nil]
  refine hK _ ?_
  clear hK K
  simp only [evU, St.keep, List.map_cons, look, reduceIte, Nat.reduceEqDiff]
  try show AWP _ _ _ _ _
  repeat refine AWP.nest ?_
  first | refine AWP.rs (Gf_ok F19_ok) [] [1, 2, 7, 30, 31, 32, 66] (by rw [hN]; decide) fun K hK => ?_ | refine AWP.rn (Gf_ok F19_ok) [] [1, 2, 7, 30, 31, 32, 66] (by rw [hN]; decide) fun K hK => ?_
  repeat
    first | apply eL | (apply eG; (case ht => exact rfl); (case hef => exact rfl))
    case e => (simp only [evB, evG, evGR, Q.evalR, boolOf, opQ, opMove, opPick, opBin, opUn, opConv, opExtract, opNil, opAlloc, opBox, opBuild, opBuildSlice, opMakeSlice, opLoad, opStore, opSlice, opFieldAddr, opField, opIndexAddr, opIndex, opLen, opMinMax, opAppend, opAppendZ, opCall, opCallF, Q.opnd, Q.opndW, Q.eval, Q.ret, Q.elems, Q.cells, Q.parts, Q.args, Q.src, Q.optInt, intOf?, placeOf, fillA, setAll, mkAgg, datas, loadSel, ofCells, pickV, binI, binS, look, Value.oneCell', normD, smallNil, KD.known, KD.agg, T, TI.z, Dat.wd, Dat.cells, Dat.nagg, AV.ren, renL, AV.renT, AV.hi, AV.hi1, Ob.isRow, Ob.inn, Ob.out, Ob.gam, Ob.data, Ob.alike, loL, Gf, Mu, Dat.flat, Dat.isV, List.contains, List.elem, Option.isSome, Nat.reduceAdd, Nat.reduceSub, Nat.reduceMul, Nat.reduceEqDiff, Nat.reduceLeDiff, Nat.reduceBEq, reduceIte, reduceCtorEq, Int.reduceLT, Int.reduceLE, Int.reduceNeg, Int.reduceEq, Int.reduceToNat, Int.reducePow, Nat.reducePow, Nat.reduceLT, IntKind.bits, hf30, e30, hf31, e31, hf39, e39]; (try simp (disch := omega) only [w_i64, w_i32, w_u8, w_u16, w_u32, w_u64, tdiv_nn, tmod_nn]); exact rfl)
    case s => ((try simp only [evU]); exact rfl)
    case hp => (first | trivial | ((repeat' refine And.intro ?_ ?_) <;> first | trivial | assumption | omega | exact fun h => h | (intro hq; first | trivial | assumption | omega | (rw [hq]; rfl) | (simp_all; done)) | (simp; done)) | (intro hg; (repeat' refine And.intro ?_ ?_) <;> first | trivial | assumption | omega | exact fun h => h | (intro hq; first | trivial | assumption | omega | (rw [hq]; rfl) | (simp_all; done)) | (simp; done)))
  rw [evalL_nil]
  refine hK _ ?_
  clear hK K
  simp only [evU, St.keep, List.map_cons, look, reduceIte, Nat.reduceEqDiff]
  try show AWP _ _ _ _ _
  repeat refine AWP.nest ?_
  first | refine AWP.seq (AWP.cond (b := _) rfl (fun hc => ?_) (fun hc => ?_)) | refine AWP.cond (b := _) rfl (fun hc => ?_) (fun hc => ?_)
  all_goals try simp only [decide_eq_true_eq, decide_eq_false_iff_not, Bool.and_eq_true, Bool.or_eq_true, Bool.and_eq_false_iff, Bool.or_eq_false_iff, beq_iff_eq, bne_iff_ne, Int.ofNat_lt, Int.ofNat_le] at hc
  · exfalso
    revert hc
    rw [hg]
    by_cases h : q' ≤ (i : Int) ∧ (i : Int) - q' < n'
    · simp [h]
    · rw [if_neg h]
      rintro (⟨h1, _⟩ | ⟨_, h2⟩)
      · exact h h1
      · exact h2 rfl
  · refine AWP.skip ?_
    show AWP _ _ _ _ _
    repeat refine AWP.nest ?_
    first | refine AWP.rs (Gf_ok F19_ok) [] [1, 2, 7, 30, 31, 32] (by rw [hN]; decide) fun K hK => ?_ | refine AWP.rn (Gf_ok F19_ok) [] [1, 2, 7, 30, 31, 32] (by rw [hN]; decide) fun K hK => ?_
    repeat
      first | apply eL | (apply eG; (case ht => exact rfl); (case hef => exact rfl))
      case e => (simp only [evB, evG, evGR, Q.evalR, boolOf, opQ, opMove, opPick, opBin, opUn, opConv, opExtract, opNil, opAlloc, opBox, opBuild, opBuildSlice, opMakeSlice, opLoad, opStore, opSlice, opFieldAddr, opField, opIndexAddr, opIndex, opLen, opMinMax, opAppend, opAppendZ, opCall, opCallF, Q.opnd, Q.opndW, Q.eval, Q.ret, Q.elems, Q.cells, Q.parts, Q.args, Q.src, Q.optInt, intOf?, placeOf, fillA, setAll, mkAgg, datas, loadSel, ofCells, pickV, binI, binS, look, Value.oneCell', normD, smallNil, KD.known, KD.agg, T, TI.z, Dat.wd, Dat.cells, Dat.nagg, AV.ren, renL, AV.renT, AV.hi, AV.hi1, Ob.isRow, Ob.inn, Ob.out, Ob.gam, Ob.data, Ob.alike, loL, Gf, Mu, Dat.flat, Dat.isV, List.contains, List.elem, Option.isSome, Nat.reduceAdd, Nat.reduceSub, Nat.reduceMul, Nat.reduceEqDiff, Nat.reduceLeDiff, Nat.reduceBEq, reduceIte, reduceCtorEq, Int.reduceLT, Int.reduceLE, Int.reduceNeg, Int.reduceEq, Int.reduceToNat, Int.reducePow, Nat.reducePow, Nat.reduceLT, IntKind.bits, hf30, e30, hf31, e31, hf39, e39]; (try simp (disch := omega) only [w_i64, w_i32, w_u8, w_u16, w_u32, w_u64, tdiv_nn, tmod_nn]); exact rfl)
      case s => ((try simp only [evU]); exact rfl)
      case hp => (first | trivial | ((repeat' refine And.intro ?_ ?_) <;> first | trivial | assumption | omega | exact fun h => h | (intro hq; first | trivial | assumption | omega | (rw [hq]; rfl) | (simp_all; done)) | (simp; done)) | (intro hg; (repeat' refine And.intro ?_ ?_) <;> first | trivial | assumption | omega | exact fun h => h | (intro hq; first | trivial | assumption | omega | (rw [hq]; rfl) | (simp_all; done)) | (simp; done)))
    rw [evalL_nil]
    refine hK _ ?_
    clear hK K
    simp only [evU, St.keep, List.map_cons, look, reduceIte, Nat.reduceEqDiff]
    try show AWP _ _ _ _ _
    refine ⟨m.length - (i + 1), by omega, i + 1, by omega, rfl, ?_⟩
    rfl
theorem law6 (x : Dat) (h : (AT.sl 5 (.int .u8)).holds x) (y : Dat) (h1 : (AT.int .i64).holds y) (z : Dat) (h2 : (AT.int .i64).holds z) : Spec Try.prog 6 [.d x.flat x, .d y.flat y, .d z.flat z] none ⟨True, .d true (.v (.bool true)), none⟩ := by
  obtain ⟨l, rfl, hb⟩ := bytes_of h
  obtain ⟨q, rfl, _⟩ := h1
  obtain ⟨n, rfl, _⟩ := h2
  exact s6 l hb q n

/-! ### TallyWhole -/
theorem zeroB_cut {l : List Int} {k : Nat} (hk : k + 4 ≤ l.length) : zeroB l k 4 = l.take k ++ ([0, 0, 0, 0] ++ l.drop (k + 4)) := by
  apply List.ext_getElem?
  intro i
  by_cases hi : i < l.length
  · have h1 := zeroB_getD l k 4 i hi
    rw [List.getD_eq_getElem?_getD, List.getElem?_eq_getElem (by rw [zeroB_length]; exact hi), Option.getD_some] at h1
    rw [List.getElem?_eq_getElem (by rw [zeroB_length]; exact hi), h1]
    rw [List.getD_eq_getElem?_getD, List.getElem?_eq_getElem hi, Option.getD_some]
    by_cases h : (k : Int) ≤ i ∧ (i : Int) - k < 4
    · rw [if_pos h, List.getElem?_append_right (by simp only [List.length_take]; omega), List.getElem?_append_left (by simp only [List.length_take, List.length_cons, List.length_nil]; omega)]
      have e : i - (l.take k).length = 0 ∨ i - (l.take k).length = 1 ∨ i - (l.take k).length = 2 ∨ i - (l.take k).length = 3 := by simp only [List.length_take]; omega
      rcases e with e | e | e | e <;> rw [e] <;> rfl
    · rw [if_neg h]
      by_cases h2 : i < k
      · rw [List.getElem?_append_left (by simp only [List.length_take]; omega), List.getElem?_take, if_pos h2, List.getElem?_eq_getElem hi]
      · rw [List.getElem?_append_right (by simp only [List.length_take]; omega), List.getElem?_append_right (by simp only [List.length_take, List.length_cons, List.length_nil]; omega), List.getElem?_drop]
        have e : k + 4 + (i - (l.take k).length - [(0 : Int), 0, 0, 0].length) = i := by simp only [List.length_take, List.length_cons, List.length_nil]; omega
        rw [e, List.getElem?_eq_getElem hi]
  · rw [List.getElem?_eq_none (by rw [zeroB_length]; omega), List.getElem?_eq_none (by simp only [List.length_append, List.length_take, List.length_drop, List.length_cons, List.length_nil]; omega)]
def b4 (n : Int) : List Int := [n / 16777216, n / 65536 % 256, n / 256 % 256, n % 256]
theorem b4_sum {n : Int} (h0 : 0 ≤ n) (h1 : n < 4294967296) : refSum 0 (b4 n) = n := by
  simp only [b4, refSum, wt]
  simp
  omega
theorem b4_byt {n : Int} (h0 : 0 ≤ n) (h1 : n < 4294967296) : Byt (b4 n) := by
  intro b hb
  simp only [b4, List.mem_cons, List.not_mem_nil, or_false] at hb
  rcases hb with rfl | rfl | rfl | rfl <;> omega
theorem whole_sum {q : List Int} {k : Nat} (hk : k + 4 ≤ q.length) (h4 : k % 4 = 0) (v : Int) (h0 : 0 ≤ v) (h1 : v < 4294967296) (hz : q = q.take k ++ ([0, 0, 0, 0] ++ q.drop (k + 4))) : refSum 0 (q.take k ++ (b4 v ++ q.drop (k + 4))) = refSum 0 q + v := by
  have e1 : refSum 0 q = refSum 0 (q.take k) + refSum (0 + (q.take k).length) ([0, 0, 0, 0] ++ q.drop (k + 4)) := by
    conv => lhs; rw [hz]
    rw [refSum_append]
  have hl : (q.take k).length = k := by simp only [List.length_take]; omega
  rw [e1, refSum_append, refSum_append, refSum_append, hl, refSum_mod4 (b4 v) (0 + k) 0 (by omega), b4_sum h0 h1]
  have e2 : refSum (0 + k) [0, 0, 0, 0] = 0 := by simp [refSum]
  have e3 : (b4 v).length = 4 := rfl
  have e4 : ([0, 0, 0, 0] : List Int).length = 4 := rfl
  rw [e2, e3, e4]
  omega
theorem take_drop_all (l : List Int) (n : Nat) : (l.drop n).take (l.length - n) = l.drop n := List.take_of_length_le (by rw [List.length_drop]; exact Nat.le_refl _)
theorem adj_end (x : Int) : (x + (2981146554 - x % 4294967296) % 4294967296) % 4294967296 = 2981146554 := by omega
theorem s7 (l : List Int) (hb : Byt l) (a : Int) (ha : 0 ≤ a) (ha2 : a ≤ 255) : Spec Try.prog 7 [.d false (.sl 1 (ints .u8 l)), .d true (.v (.int .u8 a))] none ⟨True, .d true (.v (.bool true)), none⟩ := by
  have hf30 : F19 30 = e30 := rfl
  have hf31 : F19 31 = e31 := rfl
  have hf32 : F19 32 = e32 := rfl
  have hf34 : F19 34 = e34 := rfl
  have hf35 : F19 35 = e35 := rfl
  have hf38 : F19 38 = e38 := rfl
  have hf39 : F19 39 = e39 := rfl
  refine spec_of_awp (Gf_ok F19_ok) Try.func7 rfl (Nat.le_of_ble_eq_true rfl) fun E hps hN _ => ?_
  simp only [begin, List.zipIdx_cons, List.zipIdx_nil, List.map_cons, List.map_nil, Option.toList, Nat.zero_add, Nat.reduceAdd]
  repeat refine AWP.nest ?_
  first | refine AWP.rs (Gf_ok F19_ok) [] [0, 1] (by rw [hN]; decide) fun K hK => ?_ | refine AWP.rn (Gf_ok F19_ok) [] [0, 1] (by rw [hN]; decide) fun K hK => ?_
  repeat
    first | apply eL | (apply eG; (case ht => exact rfl); (case hef => exact rfl))
    case e => (simp only [evB, evG, evGR, Q.evalR, boolOf, opQ, opMove, opPick, opBin, opUn, opConv, opExtract, opNil, opAlloc, opBox, opBuild, opBuildSlice, opMakeSlice, opLoad, opStore, opSlice, opFieldAddr, opField, opIndexAddr, opIndex, opLen, opMinMax, opAppend, opAppendZ, opCall, opCallF, Q.opnd, Q.opndW, Q.eval, Q.ret, Q.elems, Q.cells, Q.parts, Q.args, Q.src, Q.optInt, intOf?, placeOf, fillA, setAll, mkAgg, datas, loadSel, ofCells, pickV, binI, binS, look, Value.oneCell', normD, smallNil, KD.known, KD.agg, T, TI.z, Dat.wd, Dat.cells, Dat.nagg, AV.ren, renL, AV.renT, AV.hi, AV.hi1, Ob.isRow, Ob.inn, Ob.out, Ob.gam, Ob.data, Ob.alike, loL, Gf, Mu, Dat.flat, Dat.isV, List.contains, List.elem, Option.isSome, Nat.reduceAdd, Nat.reduceSub, Nat.reduceMul, Nat.reduceEqDiff, Nat.reduceLeDiff, Nat.reduceBEq, reduceIte, reduceCtorEq, Int.reduceLT, Int.reduceLE, Int.reduceNeg, Int.reduceEq, Int.reduceToNat, Int.reducePow, Nat.reducePow, Nat.reduceLT, IntKind.bits, hf30, e30, hf31, e31, hf32, e32, hf34, e34, hf35, e35, hf38, e38, hf39, e39]; (try simp (disch := omega) only [w_i64, w_i32, w_u8, w_u16, w_u32, w_u64, tdiv_nn, tmod_nn]); exact rfl)
    case s => ((try simp only [evU]); exact rfl)
    case hp => (first | trivial | ((repeat' refine And.intro ?_ ?_) <;> first | trivial | assumption | omega | exact fun h => h | (intro hq; first | trivial | assumption | omega | (rw [hq]; rfl) | (simp_all; done)) | (simp; done)) | (intro hg; (repeat' refine And.intro ?_ ?_) <;> first | trivial | assumption | omega | exact fun h => h | (intro hq; first | trivial | assumption | omega | (rw [hq]; rfl) | (simp_all; done)) | (simp; done)))
  rw [evalL_nil]
  refine hK _ ?_
  clear hK K
  simp only [evU, St.keep, List.map_cons, look, reduceIte, Nat.reduceEqDiff]
  try show AWP _ _ _ _ _
  repeat refine AWP.nest ?_
  first | refine AWP.rs (Gf_ok F19_ok) [] [0, 1, 8] (by rw [hN]; decide) fun K hK => ?_ | refine AWP.rn (Gf_ok F19_ok) [] [0, 1, 8] (by rw [hN]; decide) fun K hK => ?_
  repeat
    first | apply eL | (apply eG; (case ht => exact rfl); (case hef => exact rfl))
    case e => (simp only [evB, evG, evGR, Q.evalR, boolOf, opQ, opMove, opPick, opBin, opUn, opConv, opExtract, opNil, opAlloc, opBox, opBuild, opBuildSlice, opMakeSlice, opLoad, opStore, opSlice, opFieldAddr, opField, opIndexAddr, opIndex, opLen, opMinMax, opAppend, opAppendZ, opCall, opCallF, Q.opnd, Q.opndW, Q.eval, Q.ret, Q.elems, Q.cells, Q.parts, Q.args, Q.src, Q.optInt, intOf?, placeOf, fillA, setAll, mkAgg, datas, loadSel, ofCells, pickV, binI, binS, look, Value.oneCell', normD, smallNil, KD.known, KD.agg, T, TI.z, Dat.wd, Dat.cells, Dat.nagg, AV.ren, renL, AV.renT, AV.hi, AV.hi1, Ob.isRow, Ob.inn, Ob.out, Ob.gam, Ob.data, Ob.alike, loL, Gf, Mu, Dat.flat, Dat.isV, List.contains, List.elem, Option.isSome, Nat.reduceAdd, Nat.reduceSub, Nat.reduceMul, Nat.reduceEqDiff, Nat.reduceLeDiff, Nat.reduceBEq, reduceIte, reduceCtorEq, Int.reduceLT, Int.reduceLE, Int.reduceNeg, Int.reduceEq, Int.reduceToNat, Int.reducePow, Nat.reducePow, Nat.reduceLT, IntKind.bits, hf30, e30, hf31, e31, hf32, e32, hf34, e34, hf35, e35, hf38, e38, hf39, e39]; (try simp (disch := omega) only [w_i64, w_i32, w_u8, w_u16, w_u32, w_u64, tdiv_nn, tmod_nn]); exact rfl)
    case s => ((try simp only [evU]); exact rfl)
    case hp => (first | trivial | ((repeat' refine And.intro ?_ ?_) <;> first | trivial | assumption | omega | exact fun h => h | (intro hq; first | trivial | assumption | omega | (rw [hq]; rfl) | (simp_all; done)) | (simp; done)) | (intro hg; (repeat' refine And.intro ?_ ?_) <;> first | trivial | assumption | omega | exact fun h => h | (intro hq; first | trivial | assumption | omega | (rw [hq]; rfl) | (simp_all; done)) | (simp; done)))
  rw [evalL_nil]
  refine hK _ ?_
  clear hK K
  simp only [evU, St.keep, List.map_cons, look, reduceIte, Nat.reduceEqDiff]
  try show AWP _ _ _ _ _
  repeat refine AWP.nest ?_
  first | refine AWP.seq (AWP.cond (b := _) rfl (fun hc => ?_) (fun hc => ?_)) | refine AWP.cond (b := _) rfl (fun hc => ?_) (fun hc => ?_)
  all_goals try simp only [decide_eq_true_eq, decide_eq_false_iff_not, Bool.and_eq_true, Bool.or_eq_true, Bool.and_eq_false_iff, Bool.or_eq_false_iff, beq_iff_eq, bne_iff_ne, Int.ofNat_lt, Int.ofNat_le] at hc
  · cases hc
  refine AWP.skip ?_
  show AWP _ _ _ _ _
  have hbm := hb.take 200
  have hlm : (l.take 200).length ≤ 200 := by simp only [List.length_take]; omega
  have hz4 : Byt (List.replicate 4 0) := Byt.replicate _ (by decide) (by decide)
  have hl4 : (List.replicate 4 (0 : Int)).length = 4 := rfl
  repeat refine AWP.nest ?_
  refine AWP.rd (Gf_ok F19_ok) [] [0, 1] Try.mixed (by rw [hN]; decide) fun K hK => ?_
  repeat
    first | apply eD | (apply eDG; (case ht => exact rfl); (case hef => exact rfl))
    case e => (simp only [evB, evG, evGR, Q.evalR, boolOf, opQ, opMove, opPick, opBin, opUn, opConv, opExtract, opNil, opAlloc, opBox, opBuild, opBuildSlice, opMakeSlice, opLoad, opStore, opSlice, opFieldAddr, opField, opIndexAddr, opIndex, opLen, opMinMax, opAppend, opAppendZ, opCall, opCallF, Q.opnd, Q.opndW, Q.eval, Q.ret, Q.elems, Q.cells, Q.parts, Q.args, Q.src, Q.optInt, intOf?, placeOf, fillA, setAll, mkAgg, datas, loadSel, ofCells, pickV, binI, binS, look, Value.oneCell', normD, smallNil, KD.known, KD.agg, T, TI.z, Dat.wd, Dat.cells, Dat.nagg, AV.ren, renL, AV.renT, AV.hi, AV.hi1, Ob.isRow, Ob.inn, Ob.out, Ob.gam, Ob.data, Ob.alike, loL, Gf, Mu, Dat.flat, Dat.isV, List.contains, List.elem, Option.isSome, Nat.reduceAdd, Nat.reduceSub, Nat.reduceMul, Nat.reduceEqDiff, Nat.reduceLeDiff, Nat.reduceBEq, reduceIte, reduceCtorEq, Int.reduceLT, Int.reduceLE, Int.reduceNeg, Int.reduceEq, Int.reduceToNat, Int.reducePow, Nat.reducePow, Nat.reduceLT, IntKind.bits, hf30, e30, hf31, e31, hf32, e32, hf34, e34, hf35, e35, hf38, e38, hf39, e39]; (try simp (disch := omega) only [w_i64, w_i32, w_u8, w_u16, w_u32, w_u64, tdiv_nn, tmod_nn]); exact rfl)
    case s => ((try simp only [evU]); exact rfl)
    all_goals try (case hw => (first | exact wrs_nil | exact rfl))
    all_goals try (case hf => exact rfl)
    case hp => (first | trivial | ((repeat' refine And.intro ?_ ?_) <;> first | trivial | assumption | omega | exact fun h => h | (intro hq; first | trivial | assumption | omega | (rw [hq]; rfl) | (simp_all; done)) | (simp; done)) | (intro hg; (repeat' refine And.intro ?_ ?_) <;> first | trivial | assumption | omega | exact fun h => h | (intro hq; first | trivial | assumption | omega | (rw [hq]; rfl) | (simp_all; done)) | (simp; done)))
  refine evalD_done (by kernel_rfl) ?_
  refine hK _ ?_
  clear hK K
  simp only [evU, St.keep, List.map_cons, look, reduceIte, Nat.reduceEqDiff]
  try show AWP _ _ _ _ _
  have hbp : Byt (l.take 200 ++ List.replicate 4 0) := hbm.append hz4
  have hlp : 4 ≤ (l.take 200 ++ List.replicate 4 (0 : Int)).length ∧ (l.take 200 ++ List.replicate 4 (0 : Int)).length ≤ 204 := by simp only [List.length_append]; omega
  generalize l.take 200 ++ List.replicate 4 (0 : Int) = p at hbp hlp ⊢
  repeat refine AWP.nest ?_
  first | refine AWP.rs (Gf_ok F19_ok) [] [0, 5] (by rw [hN]; decide) fun K hK => ?_ | refine AWP.rn (Gf_ok F19_ok) [] [0, 5] (by rw [hN]; decide) fun K hK => ?_
  repeat
    first | apply eL | (apply eG; (case ht => exact rfl); (case hef => exact rfl))
    case e => (simp only [evB, evG, evGR, Q.evalR, boolOf, opQ, opMove, opPick, opBin, opUn, opConv, opExtract, opNil, opAlloc, opBox, opBuild, opBuildSlice, opMakeSlice, opLoad, opStore, opSlice, opFieldAddr, opField, opIndexAddr, opIndex, opLen, opMinMax, opAppend, opAppendZ, opCall, opCallF, Q.opnd, Q.opndW, Q.eval, Q.ret, Q.elems, Q.cells, Q.parts, Q.args, Q.src, Q.optInt, intOf?, placeOf, fillA, setAll, mkAgg, datas, loadSel, ofCells, pickV, binI, binS, look, Value.oneCell', normD, smallNil, KD.known, KD.agg, T, TI.z, Dat.wd, Dat.cells, Dat.nagg, AV.ren, renL, AV.renT, AV.hi, AV.hi1, Ob.isRow, Ob.inn, Ob.out, Ob.gam, Ob.data, Ob.alike, loL, Gf, Mu, Dat.flat, Dat.isV, List.contains, List.elem, Option.isSome, Nat.reduceAdd, Nat.reduceSub, Nat.reduceMul, Nat.reduceEqDiff, Nat.reduceLeDiff, Nat.reduceBEq, reduceIte, reduceCtorEq, Int.reduceLT, Int.reduceLE, Int.reduceNeg, Int.reduceEq, Int.reduceToNat, Int.reducePow, Nat.reducePow, Nat.reduceLT, IntKind.bits, hf30, e30, hf31, e31, hf32, e32, hf34, e34, hf35, e35, hf38, e38, hf39, e39]; (try simp (disch := omega) only [w_i64, w_i32, w_u8, w_u16, w_u32, w_u64, tdiv_nn, tmod_nn]); exact rfl)
    case s => ((try simp only [evU]); exact rfl)
    case hp => (first | trivial | ((repeat' refine And.intro ?_ ?_) <;> first | trivial | assumption | omega | exact fun h => h | (intro hq; first | trivial | assumption | omega | (rw [hq]; rfl) | (simp_all; done)) | (simp; done)) | (intro hg; (repeat' refine And.intro ?_ ?_) <;> first | trivial | assumption | omega | exact fun h => h | (intro hq; first | trivial | assumption | omega | (rw [hq]; rfl) | (simp_all; done)) | (simp; done)))
  rw [evalL_nil]
  refine hK _ ?_
  clear hK K
  simp only [evU, St.keep, List.map_cons, look, reduceIte, Nat.reduceEqDiff]
  try show AWP _ _ _ _ _
  obtain ⟨k, hk, hk1, hk2⟩ : ∃ k : Nat, IntKind.i64.wrap (4 * (a % ((p.length : Int) / 4))) = k ∧ k + 4 ≤ p.length ∧ k % 4 = 0 := by
    have h1 := Int.emod_nonneg a (show ((p.length : Int) / 4) ≠ 0 by omega)
    have h2 := Int.emod_lt_of_pos a (show 0 < ((p.length : Int) / 4) by omega)
    generalize a % ((p.length : Int) / 4) = r at h1 h2 ⊢
    exact ⟨(4 * r).toNat, by rw [w_i64 (by omega) (by omega)]; omega, by omega, by omega⟩
  rw [hk]
  clear hk
  repeat refine AWP.nest ?_
  first | refine AWP.rs (Gf_ok F19_ok) [] [5, 6] (by rw [hN]; decide) fun K hK => ?_ | refine AWP.rn (Gf_ok F19_ok) [] [5, 6] (by rw [hN]; decide) fun K hK => ?_
  repeat
    first | apply eL | (apply eG; (case ht => exact rfl); (case hef => exact rfl))
    case e => (simp only [evB, evG, evGR, Q.evalR, boolOf, opQ, opMove, opPick, opBin, opUn, opConv, opExtract, opNil, opAlloc, opBox, opBuild, opBuildSlice, opMakeSlice, opLoad, opStore, opSlice, opFieldAddr, opField, opIndexAddr, opIndex, opLen, opMinMax, opAppend, opAppendZ, opCall, opCallF, Q.opnd, Q.opndW, Q.eval, Q.ret, Q.elems, Q.cells, Q.parts, Q.args, Q.src, Q.optInt, intOf?, placeOf, fillA, setAll, mkAgg, datas, loadSel, ofCells, pickV, binI, binS, look, Value.oneCell', normD, smallNil, KD.known, KD.agg, T, TI.z, Dat.wd, Dat.cells, Dat.nagg, AV.ren, renL, AV.renT, AV.hi, AV.hi1, Ob.isRow, Ob.inn, Ob.out, Ob.gam, Ob.data, Ob.alike, loL, Gf, Mu, Dat.flat, Dat.isV, List.contains, List.elem, Option.isSome, Nat.reduceAdd, Nat.reduceSub, Nat.reduceMul, Nat.reduceEqDiff, Nat.reduceLeDiff, Nat.reduceBEq, reduceIte, reduceCtorEq, Int.reduceLT, Int.reduceLE, Int.reduceNeg, Int.reduceEq, Int.reduceToNat, Int.reducePow, Nat.reducePow, Nat.reduceLT, IntKind.bits, hf30, e30, hf31, e31, hf32, e32, hf34, e34, hf35, e35, hf38, e38, hf39, e39]; (try simp (disch := omega) only [w_i64, w_i32, w_u8, w_u16, w_u32, w_u64, tdiv_nn, tmod_nn]); exact rfl)
    case s => ((try simp only [evU]); exact rfl)
    case hp => (first | trivial | ((repeat' refine And.intro ?_ ?_) <;> first | trivial | assumption | omega | exact fun h => h | (intro hq; first | trivial | assumption | omega | (rw [hq]; rfl) | (simp_all; done)) | (simp; done)) | (intro hg; (repeat' refine And.intro ?_ ?_) <;> first | trivial | assumption | omega | exact fun h => h | (intro hq; first | trivial | assumption | omega | (rw [hq]; rfl) | (simp_all; done)) | (simp; done)))
  rw [evalL_nil]
  refine hK _ ?_
  clear hK K
  simp only [evU, St.keep, List.map_cons, look, reduceIte, Nat.reduceEqDiff]
  try show AWP _ _ _ _ _
  have hzc := zeroB_cut hk1
  have hzb := zeroB_byt hbp k 4
  have hzl := zeroB_length p k 4
  have hzt : (zeroB p k 4).take k = p.take k := by
    rw [hzc, List.take_append_of_le_length (by simp only [List.length_take]; omega), List.take_take, Nat.min_self]
  have hzd : (zeroB p k 4).drop (k + 4) = p.drop (k + 4) := by
    have e : (p.take k ++ [0, 0, 0, 0]).length = k + 4 := by simp only [List.length_append, List.length_take, List.length_cons, List.length_nil]; omega
    rw [hzc, ← List.append_assoc, ← e, List.drop_left]
  rw [← hzt, ← hzd] at hzc
  generalize zeroB p k 4 = q at hzc hzb hzl
  have hq1 := hzb.take k
  have hq2 := hzb.drop (k + 4)
  have hv := whole_sum (q := q) (k := k) (by omega) hk2 ((2981146554 - refSum 0 q % 4294967296) % 4294967296) (by omega) (by omega) hzc
  have hvb := b4_byt (n := (2981146554 - refSum 0 q % 4294967296) % 4294967296) (by omega) (by omega)
  have hae := adj_end (refSum 0 q)
  rw [← hv] at hae
  simp only [b4, List.cons_append, List.nil_append] at hae
  have hkn : ((k : Int) + 4).toNat = k + 4 := by omega
  have hll : (q.take k).length ≤ 204 ∧ (q.drop (k + 4)).length ≤ 204 := by simp only [List.length_take, List.length_drop]; omega
  clear hzt hzd hv hzc hvb
  repeat refine AWP.nest ?_
  refine AWP.rd (Gf_ok F19_ok) [] [4] Try.mixed (by rw [hN]; decide) fun K hK => ?_
  repeat
    first | apply eD | (apply eDG; (case ht => exact rfl); (case hef => exact rfl))
    case e => (simp only [evB, evG, evGR, Q.evalR, boolOf, opQ, opMove, opPick, opBin, opUn, opConv, opExtract, opNil, opAlloc, opBox, opBuild, opBuildSlice, opMakeSlice, opLoad, opStore, opSlice, opFieldAddr, opField, opIndexAddr, opIndex, opLen, opMinMax, opAppend, opAppendZ, opCall, opCallF, Q.opnd, Q.opndW, Q.eval, Q.ret, Q.elems, Q.cells, Q.parts, Q.args, Q.src, Q.optInt, intOf?, placeOf, fillA, setAll, mkAgg, datas, loadSel, ofCells, pickV, binI, binS, look, Value.oneCell', normD, smallNil, KD.known, KD.agg, T, TI.z, Dat.wd, Dat.cells, Dat.nagg, AV.ren, renL, AV.renT, AV.hi, AV.hi1, Ob.isRow, Ob.inn, Ob.out, Ob.gam, Ob.data, Ob.alike, loL, Gf, Mu, Dat.flat, Dat.isV, List.contains, List.elem, Option.isSome, Nat.reduceAdd, Nat.reduceSub, Nat.reduceMul, Nat.reduceEqDiff, Nat.reduceLeDiff, Nat.reduceBEq, reduceIte, reduceCtorEq, Int.reduceLT, Int.reduceLE, Int.reduceNeg, Int.reduceEq, Int.reduceToNat, Int.reducePow, Nat.reducePow, Nat.reduceLT, IntKind.bits, hf30, e30, hf31, e31, hf32, e32, hf34, e34, hf35, e35, hf38, e38, hf39, e39, Nat.sub_zero, hkn, take_drop_all]; (try simp (disch := omega) only [w_i64, w_i32, w_u8, w_u16, w_u32, w_u64, tdiv_nn, tmod_nn]); exact rfl)
    case s => ((try simp only [evU]); exact rfl)
    all_goals try (case hw => (first | exact wrs_nil | exact rfl))
    all_goals try (case hf => exact rfl)
    case hp => (first | trivial | ((repeat' refine And.intro ?_ ?_) <;> first | trivial | assumption | omega | exact fun h => h | (intro hq; first | trivial | assumption | omega | (rw [hq]; rfl) | (simp_all; done)) | (simp; done)) | (intro hg; (repeat' refine And.intro ?_ ?_) <;> first | trivial | assumption | omega | exact fun h => h | (intro hq; first | trivial | assumption | omega | (rw [hq]; rfl) | (simp_all; done)) | (simp; done)))
  refine evalD_done (by kernel_rfl) ?_
  refine hK _ ?_
  clear hK K
  simp only [evU, St.keep, List.map_cons, look, reduceIte, Nat.reduceEqDiff]
  try show AWP _ _ _ _ _
  refine AWP.ret ?_
  refine ⟨.inl rfl, ⟨⟨_, rfl, ?_⟩, fun ob hob => by cases hob⟩⟩
  simp only [look, reduceIte, Nat.reduceEqDiff]
  refine sub1_of ?_
  rw [hae]
  rfl
theorem law7 (x : Dat) (h : (AT.sl 5 (.int .u8)).holds x) (y : Dat) (h1 : (AT.int .u8).holds y) : Spec Try.prog 7 [.d x.flat x, .d y.flat y] none ⟨True, .d true (.v (.bool true)), none⟩ := by
  obtain ⟨l, rfl, hb⟩ := bytes_of h
  obtain ⟨a, rfl, hw⟩ := h1
  have := bounds_u8 hw
  exact s7 l hb a this.1 this.2
end Go.AM

