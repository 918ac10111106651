/- AM: ref01.Join, its row its own; GroupBends. -/
import Derived.Test.YtmfobkiljlepjaaG4
set_option maxRecDepth 100000
set_option maxHeartbeats 8000000
set_option linter.unusedSimpArgs false
set_option linter.unusedVariables false
namespace Go.AM
open Go Go.Proofs


/-! ### ref01.Join again: a row of the caller's own -/
theorem s32o (ls : List (List Int)) (hb : ∀ l ∈ ls, Byt l) (hl : ls.flatten.length ≤ 1099511627776) : Spec Try.prog 32 [.d false (.sl 1 (rows ls))] none ⟨True, .own 0 ls.length, some (.row 5 1 ls.length true (ints .u8 ls.flatten))⟩ := by
  refine spec_of_awp (Gf_ok F39_ok) Try.func32 rfl (Nat.le_of_ble_eq_true rfl) fun E hps hN _ => ?_
  simp only [begin, List.zipIdx_cons, List.zipIdx_nil, List.map_cons, List.map_nil, Option.toList, Nat.zero_add, Nat.reduceAdd]
  repeat refine AWP.nest ?_
  first | refine AWP.rs (Gf_ok F39_ok) [] [0] (by rw [hN]; decide) fun K hK => ?_ | refine AWP.rn (Gf_ok F39_ok) [] [0] (by rw [hN]; decide) fun K hK => ?_
  repeat
    first | apply eL | (apply eG; (case ht => exact rfl); (case hef => exact rfl))
    case e => (simp only [evB, evG, evGR, Q.evalR, boolOf, opQ, opMove, opPick, opBin, opUn, opConv, opExtract, opNil, opAlloc, opBox, opBuild, opBuildSlice, opMakeSlice, opLoad, opStore, opSlice, opFieldAddr, opField, opIndexAddr, opIndex, opLen, opMinMax, opAppend, opAppendZ, opCall, opCallF, Q.opnd, Q.opndW, Q.eval, Q.ret, Q.elems, Q.cells, Q.parts, Q.args, Q.src, Q.optInt, intOf?, placeOf, fillA, setAll, mkAgg, datas, loadSel, ofCells, pickV, binI, binS, look, Value.oneCell', normD, smallNil, KD.known, KD.agg, T, TI.z, Dat.wd, Dat.cells, Dat.nagg, AV.ren, renL, AV.renT, AV.hi, AV.hi1, Ob.isRow, Ob.inn, Ob.out, Ob.gam, Ob.data, Ob.alike, loL, Gf, Mu, Dat.flat, Dat.isV, List.contains, List.elem, Option.isSome, Nat.reduceAdd, Nat.reduceSub, Nat.reduceMul, Nat.reduceEqDiff, Nat.reduceLeDiff, Nat.reduceBEq, reduceIte, reduceCtorEq, Int.reduceLT, Int.reduceLE, Int.reduceNeg, Int.reduceEq, Int.reduceToNat, Int.reducePow, Nat.reducePow, Nat.reduceLT, IntKind.bits, evP]; (try simp (disch := omega) only [evA]); exact rfl)
    case s => ((try simp only [evU]); exact rfl)
    case hp => (first | exact True.intro | ((repeat' first | assumption | refine And.intro ?_ ?_ | intro hq) <;> first | exact True.intro | assumption | omega | (rw [hq]; rfl) | (simp; done) | (simp_all; done)) | (intro hg; simp at hg; (repeat' refine And.intro ?_ ?_) <;> first | exact True.intro | assumption | omega | exact fun h => h | (simp; done)))
  rw [evalL_nil]
  refine hK _ ?_
  clear hK K
  simp only [evU, St.keep, List.map_cons, look, reduceIte, Nat.reduceEqDiff]
  try show AWP _ _ _ _ _
  repeat refine AWP.nest ?_
  first | refine AWP.rs (Gf_ok F39_ok) [] [0, 3] (by rw [hN]; decide) fun K hK => ?_ | refine AWP.rn (Gf_ok F39_ok) [] [0, 3] (by rw [hN]; decide) fun K hK => ?_
  repeat
    first | apply eL | (apply eG; (case ht => exact rfl); (case hef => exact rfl))
    case e => (simp only [evB, evG, evGR, Q.evalR, boolOf, opQ, opMove, opPick, opBin, opUn, opConv, opExtract, opNil, opAlloc, opBox, opBuild, opBuildSlice, opMakeSlice, opLoad, opStore, opSlice, opFieldAddr, opField, opIndexAddr, opIndex, opLen, opMinMax, opAppend, opAppendZ, opCall, opCallF, Q.opnd, Q.opndW, Q.eval, Q.ret, Q.elems, Q.cells, Q.parts, Q.args, Q.src, Q.optInt, intOf?, placeOf, fillA, setAll, mkAgg, datas, loadSel, ofCells, pickV, binI, binS, look, Value.oneCell', normD, smallNil, KD.known, KD.agg, T, TI.z, Dat.wd, Dat.cells, Dat.nagg, AV.ren, renL, AV.renT, AV.hi, AV.hi1, Ob.isRow, Ob.inn, Ob.out, Ob.gam, Ob.data, Ob.alike, loL, Gf, Mu, Dat.flat, Dat.isV, List.contains, List.elem, Option.isSome, Nat.reduceAdd, Nat.reduceSub, Nat.reduceMul, Nat.reduceEqDiff, Nat.reduceLeDiff, Nat.reduceBEq, reduceIte, reduceCtorEq, Int.reduceLT, Int.reduceLE, Int.reduceNeg, Int.reduceEq, Int.reduceToNat, Int.reducePow, Nat.reducePow, Nat.reduceLT, IntKind.bits, evP]; (try simp (disch := omega) only [evA]); exact rfl)
    case s => ((try simp only [evU]); exact rfl)
    case hp => (first | exact True.intro | ((repeat' first | assumption | refine And.intro ?_ ?_ | intro hq) <;> first | exact True.intro | assumption | omega | (rw [hq]; rfl) | (simp; done) | (simp_all; done)) | (intro hg; simp at hg; (repeat' refine And.intro ?_ ?_) <;> first | exact True.intro | assumption | omega | exact fun h => h | (simp; done)))
  rw [evalL_nil]
  refine hK _ ?_
  clear hK K
  simp only [evU, St.keep, List.map_cons, look, reduceIte, Nat.reduceEqDiff]
  try show AWP _ _ _ _ _
  repeat refine AWP.nest ?_
  first | refine AWP.rs (Gf_ok F39_ok) [] [3, 6, 7, 8] (by rw [hN]; decide) fun K hK => ?_ | refine AWP.rn (Gf_ok F39_ok) [] [3, 6, 7, 8] (by rw [hN]; decide) fun K hK => ?_
  repeat
    first | apply eL | (apply eG; (case ht => exact rfl); (case hef => exact rfl))
    case e => (simp only [evB, evG, evGR, Q.evalR, boolOf, opQ, opMove, opPick, opBin, opUn, opConv, opExtract, opNil, opAlloc, opBox, opBuild, opBuildSlice, opMakeSlice, opLoad, opStore, opSlice, opFieldAddr, opField, opIndexAddr, opIndex, opLen, opMinMax, opAppend, opAppendZ, opCall, opCallF, Q.opnd, Q.opndW, Q.eval, Q.ret, Q.elems, Q.cells, Q.parts, Q.args, Q.src, Q.optInt, intOf?, placeOf, fillA, setAll, mkAgg, datas, loadSel, ofCells, pickV, binI, binS, look, Value.oneCell', normD, smallNil, KD.known, KD.agg, T, TI.z, Dat.wd, Dat.cells, Dat.nagg, AV.ren, renL, AV.renT, AV.hi, AV.hi1, Ob.isRow, Ob.inn, Ob.out, Ob.gam, Ob.data, Ob.alike, loL, Gf, Mu, Dat.flat, Dat.isV, List.contains, List.elem, Option.isSome, Nat.reduceAdd, Nat.reduceSub, Nat.reduceMul, Nat.reduceEqDiff, Nat.reduceLeDiff, Nat.reduceBEq, reduceIte, reduceCtorEq, Int.reduceLT, Int.reduceLE, Int.reduceNeg, Int.reduceEq, Int.reduceToNat, Int.reducePow, Nat.reducePow, Nat.reduceLT, IntKind.bits, evP]; (try simp (disch := omega) only [evA]); exact rfl)
    case s => ((try simp only [evU]); exact rfl)
    case hp => (first | exact True.intro | ((repeat' first | assumption | refine And.intro ?_ ?_ | intro hq) <;> first | exact True.intro | assumption | omega | (rw [hq]; rfl) | (simp; done) | (simp_all; done)) | (intro hg; simp at hg; (repeat' refine And.intro ?_ ?_) <;> first | exact True.intro | assumption | omega | exact fun h => h | (simp; done)))
  rw [evalL_nil]
  refine hK _ ?_
  clear hK K
  simp only [evU, St.keep, List.map_cons, look, reduceIte, Nat.reduceEqDiff]
  try show AWP _ _ _ _ _
  refine AWP.len 6 rfl fun hlen => ?_
  rw [rows_length] at hlen
  refine AWP.adopt 3 5 1 (by decide) rfl ?_
  refine AWP.keep [3, 6, 7, 8] ?_
  simp only [St.adopt, St.keep, List.map_cons, List.map_nil, look, reduceIte, Nat.reduceEqDiff, List.length_nil, List.nil_append]
  repeat refine AWP.nest ?_
  first | refine AWP.seq (AWP.block ?_) | refine AWP.block ?_
  refine AWP.loop (fun n st => ∃ (i : Nat), i ≤ ls.length ∧ n = ls.length - i ∧ st = ⟨[(3, .own 0 i), (6, .d false (.sl 1 (rows ls))), (7, .d true (.v (.int .i64 (ls.length : Int)))), (8, .d true (.v (.int .i64 (i : Int))))], [some (.row 5 1 i true (ints .u8 (ls.take i).flatten))]⟩) (ls.length) ?_ ?_
  · exact ⟨0, Nat.zero_le _, rfl, rfl⟩
  rintro n st ⟨i, hi, hn, rfl⟩
  repeat refine AWP.nest ?_
  first | refine AWP.rs (Gf_ok F39_ok) [] [3, 6, 7, 8, 9] (by rw [hN]; decide) fun K hK => ?_ | refine AWP.rn (Gf_ok F39_ok) [] [3, 6, 7, 8, 9] (by rw [hN]; decide) fun K hK => ?_
  repeat
    first | apply eL | (apply eG; (case ht => exact rfl); (case hef => exact rfl))
    case e => (simp only [evB, evG, evGR, Q.evalR, boolOf, opQ, opMove, opPick, opBin, opUn, opConv, opExtract, opNil, opAlloc, opBox, opBuild, opBuildSlice, opMakeSlice, opLoad, opStore, opSlice, opFieldAddr, opField, opIndexAddr, opIndex, opLen, opMinMax, opAppend, opAppendZ, opCall, opCallF, Q.opnd, Q.opndW, Q.eval, Q.ret, Q.elems, Q.cells, Q.parts, Q.args, Q.src, Q.optInt, intOf?, placeOf, fillA, setAll, mkAgg, datas, loadSel, ofCells, pickV, binI, binS, look, Value.oneCell', normD, smallNil, KD.known, KD.agg, T, TI.z, Dat.wd, Dat.cells, Dat.nagg, AV.ren, renL, AV.renT, AV.hi, AV.hi1, Ob.isRow, Ob.inn, Ob.out, Ob.gam, Ob.data, Ob.alike, loL, Gf, Mu, Dat.flat, Dat.isV, List.contains, List.elem, Option.isSome, Nat.reduceAdd, Nat.reduceSub, Nat.reduceMul, Nat.reduceEqDiff, Nat.reduceLeDiff, Nat.reduceBEq, reduceIte, reduceCtorEq, Int.reduceLT, Int.reduceLE, Int.reduceNeg, Int.reduceEq, Int.reduceToNat, Int.reducePow, Nat.reducePow, Nat.reduceLT, IntKind.bits, evP]; (try simp (disch := omega) only [evA]); exact rfl)
    case s => ((try simp only [evU]); exact rfl)
    case hp => (first | exact True.intro | ((repeat' first | assumption | refine And.intro ?_ ?_ | intro hq) <;> first | exact True.intro | assumption | omega | (rw [hq]; rfl) | (simp; done) | (simp_all; done)) | (intro hg; simp at hg; (repeat' refine And.intro ?_ ?_) <;> first | exact True.intro | assumption | omega | exact fun h => h | (simp; done)))
  rw [evalL_nil]
  refine hK _ ?_
  clear hK K
  simp only [evU, St.keep, List.map_cons, look, reduceIte, Nat.reduceEqDiff]
  try show AWP _ _ _ _ _
  first | refine AWP.seq (AWP.cond (b := _) rfl (fun hc => ?_) (fun hc => ?_)) | refine AWP.cond (b := _) rfl (fun hc => ?_) (fun hc => ?_)
  rotate_left
  · refine AWP.exit ?_
    show AWP _ _ _ _ _
    simp only [evC, Int.not_lt] at hc
    obtain rfl : i = ls.length := by omega
    rw [List.take_length]
    repeat refine AWP.nest ?_
    first | refine AWP.rs (Gf_ok F39_ok) [] [2] (by rw [hN]; decide) fun K hK => ?_ | refine AWP.rn (Gf_ok F39_ok) [] [2] (by rw [hN]; decide) fun K hK => ?_
    repeat
      first | apply eL | (apply eG; (case ht => exact rfl); (case hef => exact rfl))
      case e => (simp only [evB, evG, evGR, Q.evalR, boolOf, opQ, opMove, opPick, opBin, opUn, opConv, opExtract, opNil, opAlloc, opBox, opBuild, opBuildSlice, opMakeSlice, opLoad, opStore, opSlice, opFieldAddr, opField, opIndexAddr, opIndex, opLen, opMinMax, opAppend, opAppendZ, opCall, opCallF, Q.opnd, Q.opndW, Q.eval, Q.ret, Q.elems, Q.cells, Q.parts, Q.args, Q.src, Q.optInt, intOf?, placeOf, fillA, setAll, mkAgg, datas, loadSel, ofCells, pickV, binI, binS, look, Value.oneCell', normD, smallNil, KD.known, KD.agg, T, TI.z, Dat.wd, Dat.cells, Dat.nagg, AV.ren, renL, AV.renT, AV.hi, AV.hi1, Ob.isRow, Ob.inn, Ob.out, Ob.gam, Ob.data, Ob.alike, loL, Gf, Mu, Dat.flat, Dat.isV, List.contains, List.elem, Option.isSome, Nat.reduceAdd, Nat.reduceSub, Nat.reduceMul, Nat.reduceEqDiff, Nat.reduceLeDiff, Nat.reduceBEq, reduceIte, reduceCtorEq, Int.reduceLT, Int.reduceLE, Int.reduceNeg, Int.reduceEq, Int.reduceToNat, Int.reducePow, Nat.reducePow, Nat.reduceLT, IntKind.bits, evP]; (try simp (disch := omega) only [evA]); exact rfl)
      case s => ((try simp only [evU]); exact rfl)
      case hp => (first | exact True.intro | ((repeat' first | assumption | refine And.intro ?_ ?_ | intro hq) <;> first | exact True.intro | assumption | omega | (rw [hq]; rfl) | (simp; done) | (simp_all; done)) | (intro hg; simp at hg; (repeat' refine And.intro ?_ ?_) <;> first | exact True.intro | assumption | omega | exact fun h => h | (simp; done)))
    rw [evalL_nil]
    refine hK _ ?_
    clear hK K
    simp only [evU, St.keep, List.map_cons, look, reduceIte, Nat.reduceEqDiff]
    try show AWP _ _ _ _ _
    refine AWP.ret ?_
    refine ⟨.inl rfl, ⟨⟨_, rfl, ?_⟩, fun ob hob => ?_⟩⟩
    simp only [look, reduceIte, Nat.reduceEqDiff]
    rotate_left
    cases hob
    · rfl
    · exact sub1_of rfl
  simp only [evC, Int.not_lt] at hc
  refine AWP.skip ?_
  show AWP _ _ _ _ _
  have key : (ls.take i).flatten ++ ls.getD i [] = (ls.take (i + 1)).flatten := by
    rw [List.take_add_one, List.flatten_append, List.getD_eq_getElem?_getD, List.getElem?_eq_getElem hc]; simp
  have hk : (ls.take i).flatten.length + (ls.getD i []).length ≤ 1099511627776 := by
    rw [← List.length_append, key]
    have h1 : ls.flatten = (ls.take (i + 1)).flatten ++ (ls.drop (i + 1)).flatten := by rw [← List.flatten_append, List.take_append_drop]
    have h2 := congrArg List.length h1
    rw [List.length_append] at h2
    omega
  repeat refine AWP.nest ?_
  first | refine AWP.seq (AWP.block ?_) | refine AWP.block ?_
  repeat refine AWP.nest ?_
  first | refine AWP.rs (Gf_ok F39_ok) [] [3, 6, 7, 8, 5] (by rw [hN]; decide) fun K hK => ?_ | refine AWP.rn (Gf_ok F39_ok) [] [3, 6, 7, 8, 5] (by rw [hN]; decide) fun K hK => ?_
  repeat
    first | apply eL | (apply eG; (case ht => exact rfl); (case hef => exact rfl))
    case e => (simp only [evB, evG, evGR, Q.evalR, boolOf, opQ, opMove, opPick, opBin, opUn, opConv, opExtract, opNil, opAlloc, opBox, opBuild, opBuildSlice, opMakeSlice, opLoad, opStore, opSlice, opFieldAddr, opField, opIndexAddr, opIndex, opLen, opMinMax, opAppend, opAppendZ, opCall, opCallF, Q.opnd, Q.opndW, Q.eval, Q.ret, Q.elems, Q.cells, Q.parts, Q.args, Q.src, Q.optInt, intOf?, placeOf, fillA, setAll, mkAgg, datas, loadSel, ofCells, pickV, binI, binS, look, Value.oneCell', normD, smallNil, KD.known, KD.agg, T, TI.z, Dat.wd, Dat.cells, Dat.nagg, AV.ren, renL, AV.renT, AV.hi, AV.hi1, Ob.isRow, Ob.inn, Ob.out, Ob.gam, Ob.data, Ob.alike, loL, Gf, Mu, Dat.flat, Dat.isV, List.contains, List.elem, Option.isSome, Nat.reduceAdd, Nat.reduceSub, Nat.reduceMul, Nat.reduceEqDiff, Nat.reduceLeDiff, Nat.reduceBEq, reduceIte, reduceCtorEq, Int.reduceLT, Int.reduceLE, Int.reduceNeg, Int.reduceEq, Int.reduceToNat, Int.reducePow, Nat.reducePow, Nat.reduceLT, IntKind.bits, evP]; (try simp (disch := omega) only [evA]); exact rfl)
    case s => ((try simp only [evU]); exact rfl)
    case hp => (first | exact True.intro | ((repeat' first | assumption | refine And.intro ?_ ?_ | intro hq) <;> first | exact True.intro | assumption | omega | (rw [hq]; rfl) | (simp; done) | (simp_all; done)) | (intro hg; simp at hg; (repeat' refine And.intro ?_ ?_) <;> first | exact True.intro | assumption | omega | exact fun h => h | (simp; done)))
  rw [evalL_nil]
  refine hK _ ?_
  clear hK K
  simp only [evU, St.keep, List.map_cons, look, reduceIte, Nat.reduceEqDiff]
  try show AWP _ _ _ _ _
  repeat refine AWP.nest ?_
  first | refine AWP.rs (Gf_ok F39_ok) [] [3, 6, 7, 8] (by rw [hN]; decide) fun K hK => ?_ | refine AWP.rn (Gf_ok F39_ok) [] [3, 6, 7, 8] (by rw [hN]; decide) fun K hK => ?_
  repeat
    first | apply eL | (apply eG; (case ht => exact rfl); (case hef => exact rfl))
    case e => (simp only [evB, evG, evGR, Q.evalR, boolOf, opQ, opMove, opPick, opBin, opUn, opConv, opExtract, opNil, opAlloc, opBox, opBuild, opBuildSlice, opMakeSlice, opLoad, opStore, opSlice, opFieldAddr, opField, opIndexAddr, opIndex, opLen, opMinMax, opAppend, opAppendZ, opCall, opCallF, Q.opnd, Q.opndW, Q.eval, Q.ret, Q.elems, Q.cells, Q.parts, Q.args, Q.src, Q.optInt, intOf?, placeOf, fillA, setAll, mkAgg, datas, loadSel, ofCells, pickV, binI, binS, look, Value.oneCell', normD, smallNil, KD.known, KD.agg, T, TI.z, Dat.wd, Dat.cells, Dat.nagg, AV.ren, renL, AV.renT, AV.hi, AV.hi1, Ob.isRow, Ob.inn, Ob.out, Ob.gam, Ob.data, Ob.alike, loL, Gf, Mu, Dat.flat, Dat.isV, List.contains, List.elem, Option.isSome, Nat.reduceAdd, Nat.reduceSub, Nat.reduceMul, Nat.reduceEqDiff, Nat.reduceLeDiff, Nat.reduceBEq, reduceIte, reduceCtorEq, Int.reduceLT, Int.reduceLE, Int.reduceNeg, Int.reduceEq, Int.reduceToNat, Int.reducePow, Nat.reducePow, Nat.reduceLT, IntKind.bits, evP]; (try simp (disch := omega) only [evA]); exact rfl)
    case s => ((try simp only [evU]); exact rfl)
    case hp => (first | exact True.intro | ((repeat' first | assumption | refine And.intro ?_ ?_ | intro hq) <;> first | exact True.intro | assumption | omega | (rw [hq]; rfl) | (simp; done) | (simp_all; done)) | (intro hg; simp at hg; (repeat' refine And.intro ?_ ?_) <;> first | exact True.intro | assumption | omega | exact fun h => h | (simp; done)))
  rw [evalL_nil]
  refine hK _ ?_
  clear hK K
  simp only [evU, St.keep, List.map_cons, look, reduceIte, Nat.reduceEqDiff]
  try show AWP _ _ _ _ _
  repeat refine AWP.nest ?_
  first | refine AWP.rs (Gf_ok F39_ok) [] [3, 6, 7, 8] (by rw [hN]; decide) fun K hK => ?_ | refine AWP.rn (Gf_ok F39_ok) [] [3, 6, 7, 8] (by rw [hN]; decide) fun K hK => ?_
  repeat
    first | apply eL | (apply eG; (case ht => exact rfl); (case hef => exact rfl))
    case e => (simp only [evB, evG, evGR, Q.evalR, boolOf, opQ, opMove, opPick, opBin, opUn, opConv, opExtract, opNil, opAlloc, opBox, opBuild, opBuildSlice, opMakeSlice, opLoad, opStore, opSlice, opFieldAddr, opField, opIndexAddr, opIndex, opLen, opMinMax, opAppend, opAppendZ, opCall, opCallF, Q.opnd, Q.opndW, Q.eval, Q.ret, Q.elems, Q.cells, Q.parts, Q.args, Q.src, Q.optInt, intOf?, placeOf, fillA, setAll, mkAgg, datas, loadSel, ofCells, pickV, binI, binS, look, Value.oneCell', normD, smallNil, KD.known, KD.agg, T, TI.z, Dat.wd, Dat.cells, Dat.nagg, AV.ren, renL, AV.renT, AV.hi, AV.hi1, Ob.isRow, Ob.inn, Ob.out, Ob.gam, Ob.data, Ob.alike, loL, Gf, Mu, Dat.flat, Dat.isV, List.contains, List.elem, Option.isSome, Nat.reduceAdd, Nat.reduceSub, Nat.reduceMul, Nat.reduceEqDiff, Nat.reduceLeDiff, Nat.reduceBEq, reduceIte, reduceCtorEq, Int.reduceLT, Int.reduceLE, Int.reduceNeg, Int.reduceEq, Int.reduceToNat, Int.reducePow, Nat.reducePow, Nat.reduceLT, IntKind.bits, evP]; (try simp (disch := omega) only [evA]); exact rfl)
    case s => ((try simp only [evU]); exact rfl)
    case hp => (first | exact True.intro | ((repeat' first | assumption | refine And.intro ?_ ?_ | intro hq) <;> first | exact True.intro | assumption | omega | (rw [hq]; rfl) | (simp; done) | (simp_all; done)) | (intro hg; simp at hg; (repeat' refine And.intro ?_ ?_) <;> first | exact True.intro | assumption | omega | exact fun h => h | (simp; done)))
  rw [evalL_nil]
  refine hK _ ?_
  clear hK K
  simp only [evU, St.keep, List.map_cons, look, reduceIte, Nat.reduceEqDiff]
  try show AWP _ _ _ _ _
  refine ⟨ls.length - (i + 1), by omega, i + 1, by omega, rfl, ?_⟩
  rw [key]; rfl
def e32o : List AV → Option Ob → Option Res := fun args i => match args, i with
  | [.d false (.sl 1 xs)], none => some ⟨IsBB xs ∧ (toRows xs).flatten.length ≤ 1099511627776, .own 0 (toRows xs).length, some (.row 5 1 (toRows xs).length true (ints .u8 (toRows xs).flatten))⟩
  | _, _ => none
def F40 : FT := F39.upd 32 e32o
theorem F40_ok : FOK Try.prog F40 := FOK.upd F39_ok Try.func32 (by kernel_rfl) rfl fun args i R h => by
  unfold e32o at h
  split at h
  · cases h; exact Spec.pre fun h => by have := s32o _ h.1.2 h.2; rwa [← h.1.1] at this
  · cases h


/-- A byte is turned. -/
def bent (l : List Int) (k : Nat) (t : Int) : List Int := l.set k (bits .xor .u8 (l.getD k 0) t)
theorem bent_byt {l : List Int} (hb : Byt l) (k : Nat) (t : Int) : Byt (bent l k t) := fun b h => by
  rcases List.mem_or_eq_of_mem_set h with h | rfl
  · exact hb b h
  · unfold bits
    simp only [w_u8]
    omega
theorem bent_len (l : List Int) (k : Nat) (t : Int) : (bent l k t).length = l.length := by simp [bent]
theorem s10 (gs hs : List Int) (hg : W32 gs) (hh : W16 hs) (a t : Int) (ha0 : 0 ≤ a) (ha1 : a < 65536) (ht0 : 0 ≤ t) (ht1 : t < 256) (ms : List Int) (hm : Byt ms) : Spec Try.prog 10 [.d false (.sl 1 (ints .u32 gs)), .d false (.sl 1 (ints .u16 hs)), .d true (.v (.int .u16 a)), .d true (.v (.int .u8 t)), .d false (.sl 1 (ints .u8 ms))] none ⟨True, .d true (.v (.bool true)), none⟩ := by
  have hf31 : F40 31 = e31 := rfl
  have hf32 : F40 32 = e32o := rfl
  have hf40 : F40 40 = e40 := rfl
  have hf41 : F40 41 = e41 := rfl
  have hf43 : F40 43 = e43 := rfl
  have hf44 : F40 44 = e44 := rfl
  have hf45 : F40 45 = e45 := rfl
  have hf47 : F40 47 = e47 := rfl
  refine spec_of_awp (Gf_ok F40_ok) Try.func10 rfl (Nat.le_of_ble_eq_true rfl) fun E hps hN _ => ?_
  simp only [begin, List.zipIdx_cons, List.zipIdx_nil, List.map_cons, List.map_nil, Option.toList, Nat.zero_add, Nat.reduceAdd]
  repeat refine AWP.nest ?_
  first | refine AWP.rs (Gf_ok F40_ok) [] [0, 1, 2, 3, 4] (by rw [hN]; decide) fun K hK => ?_ | refine AWP.rn (Gf_ok F40_ok) [] [0, 1, 2, 3, 4] (by rw [hN]; decide) fun K hK => ?_
  repeat
    first | apply eL | (apply eG; (case ht => exact rfl); (case hef => exact rfl))
    case e => (simp only [evB, evG, evGR, Q.evalR, boolOf, opQ, opMove, opPick, opBin, opUn, opConv, opExtract, opNil, opAlloc, opBox, opBuild, opBuildSlice, opMakeSlice, opLoad, opStore, opSlice, opFieldAddr, opField, opIndexAddr, opIndex, opLen, opMinMax, opAppend, opAppendZ, opCall, opCallF, Q.opnd, Q.opndW, Q.eval, Q.ret, Q.elems, Q.cells, Q.parts, Q.args, Q.src, Q.optInt, intOf?, placeOf, fillA, setAll, mkAgg, datas, loadSel, ofCells, pickV, binI, binS, look, Value.oneCell', normD, smallNil, KD.known, KD.agg, T, TI.z, Dat.wd, Dat.cells, Dat.nagg, AV.ren, renL, AV.renT, AV.hi, AV.hi1, Ob.isRow, Ob.inn, Ob.out, Ob.gam, Ob.data, Ob.alike, loL, Gf, Mu, Dat.flat, Dat.isV, List.contains, List.elem, Option.isSome, Nat.reduceAdd, Nat.reduceSub, Nat.reduceMul, Nat.reduceEqDiff, Nat.reduceLeDiff, Nat.reduceBEq, reduceIte, reduceCtorEq, Int.reduceLT, Int.reduceLE, Int.reduceNeg, Int.reduceEq, Int.reduceToNat, Int.reducePow, Nat.reducePow, Nat.reduceLT, IntKind.bits, hf31, e31, hf32, e32o, hf40, e40, hf41, e41, hf43, e43, hf44, e44, hf45, e45, hf47, e47, evP, toPrs_prs, toPrs_prs9, toSps_sps, toInts_nil, toInts_ints]; (try simp (disch := omega) only [evA]); exact rfl)
    case s => ((try simp only [evU]); exact rfl)
    case hp => (first | exact True.intro | ((repeat' first | assumption | refine And.intro ?_ ?_ | intro hq) <;> first | exact True.intro | assumption | omega | (rw [hq]; rfl) | (simp; done) | (simp_all; done)) | (intro hg; simp at hg; (repeat' refine And.intro ?_ ?_) <;> first | exact True.intro | assumption | omega | exact fun h => h | (simp; done)))
  rw [evalL_nil]
  refine hK _ ?_
  clear hK K
  simp only [evU, St.keep, List.map_cons, look, reduceIte, Nat.reduceEqDiff]
  try show AWP _ _ _ _ _
  repeat refine AWP.nest ?_
  first | refine AWP.rs (Gf_ok F40_ok) [] [0, 1, 2, 3, 4, 21] (by rw [hN]; decide) fun K hK => ?_ | refine AWP.rn (Gf_ok F40_ok) [] [0, 1, 2, 3, 4, 21] (by rw [hN]; decide) fun K hK => ?_
  repeat
    first | apply eL | (apply eG; (case ht => exact rfl); (case hef => exact rfl))
    case e => (simp only [evB, evG, evGR, Q.evalR, boolOf, opQ, opMove, opPick, opBin, opUn, opConv, opExtract, opNil, opAlloc, opBox, opBuild, opBuildSlice, opMakeSlice, opLoad, opStore, opSlice, opFieldAddr, opField, opIndexAddr, opIndex, opLen, opMinMax, opAppend, opAppendZ, opCall, opCallF, Q.opnd, Q.opndW, Q.eval, Q.ret, Q.elems, Q.cells, Q.parts, Q.args, Q.src, Q.optInt, intOf?, placeOf, fillA, setAll, mkAgg, datas, loadSel, ofCells, pickV, binI, binS, look, Value.oneCell', normD, smallNil, KD.known, KD.agg, T, TI.z, Dat.wd, Dat.cells, Dat.nagg, AV.ren, renL, AV.renT, AV.hi, AV.hi1, Ob.isRow, Ob.inn, Ob.out, Ob.gam, Ob.data, Ob.alike, loL, Gf, Mu, Dat.flat, Dat.isV, List.contains, List.elem, Option.isSome, Nat.reduceAdd, Nat.reduceSub, Nat.reduceMul, Nat.reduceEqDiff, Nat.reduceLeDiff, Nat.reduceBEq, reduceIte, reduceCtorEq, Int.reduceLT, Int.reduceLE, Int.reduceNeg, Int.reduceEq, Int.reduceToNat, Int.reducePow, Nat.reducePow, Nat.reduceLT, IntKind.bits, hf31, e31, hf32, e32o, hf40, e40, hf41, e41, hf43, e43, hf44, e44, hf45, e45, hf47, e47, evP, toPrs_prs, toPrs_prs9, toSps_sps, toInts_nil, toInts_ints]; (try simp (disch := omega) only [evA]); exact rfl)
    case s => ((try simp only [evU]); exact rfl)
    case hp => (first | exact True.intro | ((repeat' first | assumption | refine And.intro ?_ ?_ | intro hq) <;> first | exact True.intro | assumption | omega | (rw [hq]; rfl) | (simp; done) | (simp_all; done)) | (intro hg; simp at hg; (repeat' refine And.intro ?_ ?_) <;> first | exact True.intro | assumption | omega | exact fun h => h | (simp; done)))
  rw [evalL_nil]
  refine hK _ ?_
  clear hK K
  simp only [evU, St.keep, List.map_cons, look, reduceIte, Nat.reduceEqDiff]
  try show AWP _ _ _ _ _
  repeat refine AWP.nest ?_
  first | refine AWP.seq (AWP.cond (b := _) rfl (fun hc => ?_) (fun hc => ?_)) | refine AWP.cond (b := _) rfl (fun hc => ?_) (fun hc => ?_)
  all_goals try simp only [evC] at hc
  · cases hc
  refine AWP.skip ?_
  show AWP _ _ _ _ _
  clear hc
  repeat refine AWP.nest ?_
  first | refine AWP.rs (Gf_ok F40_ok) [] [2, 3, 4, 12] (by rw [hN]; decide) fun K hK => ?_ | refine AWP.rn (Gf_ok F40_ok) [] [2, 3, 4, 12] (by rw [hN]; decide) fun K hK => ?_
  repeat
    first | apply eL | (apply eG; (case ht => exact rfl); (case hef => exact rfl))
    case e => (simp only [evB, evG, evGR, Q.evalR, boolOf, opQ, opMove, opPick, opBin, opUn, opConv, opExtract, opNil, opAlloc, opBox, opBuild, opBuildSlice, opMakeSlice, opLoad, opStore, opSlice, opFieldAddr, opField, opIndexAddr, opIndex, opLen, opMinMax, opAppend, opAppendZ, opCall, opCallF, Q.opnd, Q.opndW, Q.eval, Q.ret, Q.elems, Q.cells, Q.parts, Q.args, Q.src, Q.optInt, intOf?, placeOf, fillA, setAll, mkAgg, datas, loadSel, ofCells, pickV, binI, binS, look, Value.oneCell', normD, smallNil, KD.known, KD.agg, T, TI.z, Dat.wd, Dat.cells, Dat.nagg, AV.ren, renL, AV.renT, AV.hi, AV.hi1, Ob.isRow, Ob.inn, Ob.out, Ob.gam, Ob.data, Ob.alike, loL, Gf, Mu, Dat.flat, Dat.isV, List.contains, List.elem, Option.isSome, Nat.reduceAdd, Nat.reduceSub, Nat.reduceMul, Nat.reduceEqDiff, Nat.reduceLeDiff, Nat.reduceBEq, reduceIte, reduceCtorEq, Int.reduceLT, Int.reduceLE, Int.reduceNeg, Int.reduceEq, Int.reduceToNat, Int.reducePow, Nat.reducePow, Nat.reduceLT, IntKind.bits, hf31, e31, hf32, e32o, hf40, e40, hf41, e41, hf43, e43, hf44, e44, hf45, e45, hf47, e47, evP, toPrs_prs, toPrs_prs9, toSps_sps, toInts_nil, toInts_ints, toInts_ints]; (try simp (disch := omega) only [evA]); exact rfl)
    case s => ((try simp only [evU]); exact rfl)
    case hp => (first | exact True.intro | (exact ⟨hg, hh⟩) | (intro hg; exact ⟨hg, hh⟩) | (intro hg; simp at hg; exact ⟨hg, hh⟩))
  rw [evalL_nil]
  refine hK _ ?_
  clear hK K
  simp only [evU, St.keep, List.map_cons, look, reduceIte, Nat.reduceEqDiff]
  try show AWP _ _ _ _ _
  have hr := rsg_rises (md := 60000) (lim := 1114111) (by decide) (k := 40) (a := -1) (gs := gs) hh (by decide) (by decide)
  have hp := rsg_ok (md := 60000) (lim := 1114111) (by decide) (k := 40) (a := -1) (gs := gs) hh (by decide) (by decide)
  have hl := rsg_len (md := 60000) (lim := 1114111) (k := 40) (a := -1) (gs := gs) (hs := hs)
  generalize rsg 60000 1114111 40 (-1) gs hs = r at hr hp hl ⊢
  have hl6 : r.length ≤ 1000000 := by omega
  obtain ⟨R, B, eR, eB, hB, hBb, hBl, h3, h4, hmap, hRl, hlk⟩ := built_facts hr hp hl6
  have hB' : tabG R = B := hB.symm
  have hBlen : B.length ≤ 20000000 := by omega
  have hmt : Byt (ms.take 20) := hm.take _
  have hmtl : (ms.take 20).length ≤ 20 := by simp only [List.length_take]; omega
  have hnat : Int.toNat 20 = 20 := rfl
  repeat refine AWP.nest ?_
  first | refine AWP.rs (Gf_ok F40_ok) [] [2, 3, 13] (by rw [hN]; decide) fun K hK => ?_ | refine AWP.rn (Gf_ok F40_ok) [] [2, 3, 13] (by rw [hN]; decide) fun K hK => ?_
  repeat
    first | apply eL | (apply eG; (case ht => exact rfl); (case hef => exact rfl))
    case e => (simp only [evB, evG, evGR, Q.evalR, boolOf, opQ, opMove, opPick, opBin, opUn, opConv, opExtract, opNil, opAlloc, opBox, opBuild, opBuildSlice, opMakeSlice, opLoad, opStore, opSlice, opFieldAddr, opField, opIndexAddr, opIndex, opLen, opMinMax, opAppend, opAppendZ, opCall, opCallF, Q.opnd, Q.opndW, Q.eval, Q.ret, Q.elems, Q.cells, Q.parts, Q.args, Q.src, Q.optInt, intOf?, placeOf, fillA, setAll, mkAgg, datas, loadSel, ofCells, pickV, binI, binS, look, Value.oneCell', normD, smallNil, KD.known, KD.agg, T, TI.z, Dat.wd, Dat.cells, Dat.nagg, AV.ren, renL, AV.renT, AV.hi, AV.hi1, Ob.isRow, Ob.inn, Ob.out, Ob.gam, Ob.data, Ob.alike, loL, Gf, Mu, Dat.flat, Dat.isV, List.contains, List.elem, Option.isSome, Nat.reduceAdd, Nat.reduceSub, Nat.reduceMul, Nat.reduceEqDiff, Nat.reduceLeDiff, Nat.reduceBEq, reduceIte, reduceCtorEq, Int.reduceLT, Int.reduceLE, Int.reduceNeg, Int.reduceEq, Int.reduceToNat, Int.reducePow, Nat.reducePow, Nat.reduceLT, IntKind.bits, hf31, e31, hf32, e32o, hf40, e40, hf41, e41, hf43, e43, hf44, e44, hf45, e45, hf47, e47, evP, toPrs_prs, toPrs_prs9, toSps_sps, toInts_nil, toInts_ints, eR, hB', hnat]; (try simp (disch := omega) only [evA]); exact rfl)
    case s => ((try simp only [evU]); exact rfl)
    case hp => (first | exact True.intro | ((repeat' first | assumption | refine And.intro ?_ ?_ | intro hq) <;> first | exact True.intro | assumption | omega | (rw [hq]; rfl) | (simp; done) | (simp_all; done)) | (intro hg; simp at hg; (repeat' refine And.intro ?_ ?_) <;> first | exact True.intro | assumption | omega | exact fun h => h | (simp; done)))
  rw [evalL_nil]
  refine hK _ ?_
  clear hK K
  simp only [evU, St.keep, List.map_cons, look, reduceIte, Nat.reduceEqDiff]
  try show AWP _ _ _ _ _
  have hbt : Byt [t] := fun b hb => by simp only [List.mem_singleton] at hb; omega
  generalize ms.take 20 = mt at hmt hmtl ⊢
  have hbm : Byt (B ++ mt) := hBb.append hmt
  have hlm : 16 ≤ (B ++ mt).length ∧ (B ++ mt).length ≤ 20000020 := by rw [List.length_append]; omega
  generalize B ++ mt = q at hbm hlm ⊢
  clear hp hl hl6 eR eB hB hBb hBl h3 h4 hmap hRl hlk hB' hBlen hmt hmtl
  have hk1 : 0 ≤ a % (q.length : Int) := Int.emod_nonneg _ (by omega)
  have hk2 : a % (q.length : Int) < q.length := Int.emod_lt_of_pos _ (by omega)
  repeat refine AWP.nest ?_
  first | refine AWP.rs (Gf_ok F40_ok) [] [2, 13] (by rw [hN]; decide) fun K hK => ?_ | refine AWP.rn (Gf_ok F40_ok) [] [2, 13] (by rw [hN]; decide) fun K hK => ?_
  repeat
    first | apply eL | (apply eG; (case ht => exact rfl); (case hef => exact rfl))
    case e => (simp only [evB, evG, evGR, Q.evalR, boolOf, opQ, opMove, opPick, opBin, opUn, opConv, opExtract, opNil, opAlloc, opBox, opBuild, opBuildSlice, opMakeSlice, opLoad, opStore, opSlice, opFieldAddr, opField, opIndexAddr, opIndex, opLen, opMinMax, opAppend, opAppendZ, opCall, opCallF, Q.opnd, Q.opndW, Q.eval, Q.ret, Q.elems, Q.cells, Q.parts, Q.args, Q.src, Q.optInt, intOf?, placeOf, fillA, setAll, mkAgg, datas, loadSel, ofCells, pickV, binI, binS, look, Value.oneCell', normD, smallNil, KD.known, KD.agg, T, TI.z, Dat.wd, Dat.cells, Dat.nagg, AV.ren, renL, AV.renT, AV.hi, AV.hi1, Ob.isRow, Ob.inn, Ob.out, Ob.gam, Ob.data, Ob.alike, loL, Gf, Mu, Dat.flat, Dat.isV, List.contains, List.elem, Option.isSome, Nat.reduceAdd, Nat.reduceSub, Nat.reduceMul, Nat.reduceEqDiff, Nat.reduceLeDiff, Nat.reduceBEq, reduceIte, reduceCtorEq, Int.reduceLT, Int.reduceLE, Int.reduceNeg, Int.reduceEq, Int.reduceToNat, Int.reducePow, Nat.reducePow, Nat.reduceLT, IntKind.bits, hf31, e31, hf32, e32o, hf40, e40, hf41, e41, hf43, e43, hf44, e44, hf45, e45, hf47, e47, evP, toPrs_prs, toPrs_prs9, toSps_sps, toInts_nil, toInts_ints]; (try simp (disch := omega) only [evA]); exact rfl)
    case s => ((try simp only [evU]); exact rfl)
    case hp => (first | exact True.intro | ((repeat' first | assumption | refine And.intro ?_ ?_ | intro hq) <;> first | exact True.intro | assumption | omega | (rw [hq]; rfl) | (simp; done) | (simp_all; done)) | (intro hg; simp at hg; (repeat' refine And.intro ?_ ?_) <;> first | exact True.intro | assumption | omega | exact fun h => h | (simp; done)))
  rw [evalL_nil]
  refine hK _ ?_
  clear hK K
  simp only [evU, St.keep, List.map_cons, look, reduceIte, Nat.reduceEqDiff]
  try show AWP _ _ _ _ _
  have hq2 := bent_byt hbm (a % (q.length : Int)).toNat t
  have hq3 := bent_len q (a % (q.length : Int)).toNat t
  unfold bent at hq2 hq3
  generalize q.set (a % (q.length : Int)).toNat (bits BinOp.xor IntKind.u8 (q.getD (a % (q.length : Int)).toNat 0) t) = p at hq2 hq3 ⊢
  rw [← hq3] at hk1 hk2 hlm
  clear hbm hq3
  refine AWP.frz 0 (by rw [hps]; decide) rfl ?_
  simp only [St.frz, Ob.frz, AV.frz, AV.frz1, Option.map_none, mkAgg, datas, Dat.nagg, List.map_cons, List.map_nil, Option.map_some, and_self, true_and, and_true, reduceIte, Nat.reduceEqDiff, List.set_cons_zero, List.set_cons_succ, Bool.and_true, Bool.true_and]
  repeat refine AWP.nest ?_
  first | refine AWP.rs (Gf_ok F40_ok) [] [53, 54, 55] (by rw [hN]; decide) fun K hK => ?_ | refine AWP.rn (Gf_ok F40_ok) [] [53, 54, 55] (by rw [hN]; decide) fun K hK => ?_
  repeat
    first | apply eL | (apply eG; (case ht => exact rfl); (case hef => exact rfl))
    case e => (simp only [evB, evG, evGR, Q.evalR, boolOf, opQ, opMove, opPick, opBin, opUn, opConv, opExtract, opNil, opAlloc, opBox, opBuild, opBuildSlice, opMakeSlice, opLoad, opStore, opSlice, opFieldAddr, opField, opIndexAddr, opIndex, opLen, opMinMax, opAppend, opAppendZ, opCall, opCallF, Q.opnd, Q.opndW, Q.eval, Q.ret, Q.elems, Q.cells, Q.parts, Q.args, Q.src, Q.optInt, intOf?, placeOf, fillA, setAll, mkAgg, datas, loadSel, ofCells, pickV, binI, binS, look, Value.oneCell', normD, smallNil, KD.known, KD.agg, T, TI.z, Dat.wd, Dat.cells, Dat.nagg, AV.ren, renL, AV.renT, AV.hi, AV.hi1, Ob.isRow, Ob.inn, Ob.out, Ob.gam, Ob.data, Ob.alike, loL, Gf, Mu, Dat.flat, Dat.isV, List.contains, List.elem, Option.isSome, Nat.reduceAdd, Nat.reduceSub, Nat.reduceMul, Nat.reduceEqDiff, Nat.reduceLeDiff, Nat.reduceBEq, reduceIte, reduceCtorEq, Int.reduceLT, Int.reduceLE, Int.reduceNeg, Int.reduceEq, Int.reduceToNat, Int.reducePow, Nat.reducePow, Nat.reduceLT, IntKind.bits, hf31, e31, hf32, e32o, hf40, e40, hf41, e41, hf43, e43, hf44, e44, hf45, e45, hf47, e47, evP, toPrs_prs, toPrs_prs9, toSps_sps, toInts_nil, toInts_ints]; (try simp (disch := omega) only [evA]); exact rfl)
    case s => ((try simp only [evU]); exact rfl)
    case hp => (first | exact True.intro | ((repeat' first | assumption | refine And.intro ?_ ?_ | intro hq) <;> first | exact True.intro | assumption | omega | (rw [hq]; rfl) | (simp; done) | (simp_all; done)) | (intro hg; simp at hg; (repeat' refine And.intro ?_ ?_) <;> first | exact True.intro | assumption | omega | exact fun h => h | (simp; done)))
  rw [evalL_nil]
  refine hK _ ?_
  clear hK K
  simp only [evU, St.keep, List.map_cons, look, reduceIte, Nat.reduceEqDiff]
  try show AWP _ _ _ _ _
  have hall : ∀ x ∈ [p, p.take (a % (p.length : Int)).toNat], Byt x ∧ x.length ≤ 20000020 := by
    intro x hx
    simp only [List.mem_cons, List.not_mem_nil, or_false] at hx
    rcases hx with rfl | rfl
    · exact ⟨hq2, hlm.2⟩
    · exact ⟨hq2.take _, by simp only [List.length_take]; omega⟩
  generalize p.take (a % (p.length : Int)).toNat = p2 at hall ⊢
  repeat refine AWP.nest ?_
  first | refine AWP.seq (AWP.block ?_) | refine AWP.block ?_
  refine AWP.loop (fun n st => ∃ (i : Nat), i ≤ 2 ∧ n = 2 - i ∧ st = ⟨[(53, .d true (.sl 1 (rows [p, p2]))), (54, .d true (.v (.int .i64 2))), (55, .d true (.v (.int .i64 (i : Int))))], [none]⟩) (2) ?_ ?_
  · exact ⟨0, by omega, rfl, rfl⟩
  rintro n st ⟨i, hi, hn, rfl⟩
  repeat refine AWP.nest ?_
  first | refine AWP.rs (Gf_ok F40_ok) [] [53, 54, 55, 56] (by rw [hN]; decide) fun K hK => ?_ | refine AWP.rn (Gf_ok F40_ok) [] [53, 54, 55, 56] (by rw [hN]; decide) fun K hK => ?_
  repeat
    first | apply eL | (apply eG; (case ht => exact rfl); (case hef => exact rfl))
    case e => (simp only [evB, evG, evGR, Q.evalR, boolOf, opQ, opMove, opPick, opBin, opUn, opConv, opExtract, opNil, opAlloc, opBox, opBuild, opBuildSlice, opMakeSlice, opLoad, opStore, opSlice, opFieldAddr, opField, opIndexAddr, opIndex, opLen, opMinMax, opAppend, opAppendZ, opCall, opCallF, Q.opnd, Q.opndW, Q.eval, Q.ret, Q.elems, Q.cells, Q.parts, Q.args, Q.src, Q.optInt, intOf?, placeOf, fillA, setAll, mkAgg, datas, loadSel, ofCells, pickV, binI, binS, look, Value.oneCell', normD, smallNil, KD.known, KD.agg, T, TI.z, Dat.wd, Dat.cells, Dat.nagg, AV.ren, renL, AV.renT, AV.hi, AV.hi1, Ob.isRow, Ob.inn, Ob.out, Ob.gam, Ob.data, Ob.alike, loL, Gf, Mu, Dat.flat, Dat.isV, List.contains, List.elem, Option.isSome, Nat.reduceAdd, Nat.reduceSub, Nat.reduceMul, Nat.reduceEqDiff, Nat.reduceLeDiff, Nat.reduceBEq, reduceIte, reduceCtorEq, Int.reduceLT, Int.reduceLE, Int.reduceNeg, Int.reduceEq, Int.reduceToNat, Int.reducePow, Nat.reducePow, Nat.reduceLT, IntKind.bits, hf31, e31, hf32, e32o, hf40, e40, hf41, e41, hf43, e43, hf44, e44, hf45, e45, hf47, e47, evP, toPrs_prs, toPrs_prs9, toSps_sps, toInts_nil, toInts_ints]; (try simp (disch := omega) only [evA]); exact rfl)
    case s => ((try simp only [evU]); exact rfl)
    case hp => (first | exact True.intro | ((repeat' first | assumption | refine And.intro ?_ ?_ | intro hq) <;> first | exact True.intro | assumption | omega | (rw [hq]; rfl) | (simp; done) | (simp_all; done)) | (intro hg; simp at hg; (repeat' refine And.intro ?_ ?_) <;> first | exact True.intro | assumption | omega | exact fun h => h | (simp; done)))
  rw [evalL_nil]
  refine hK _ ?_
  clear hK K
  simp only [evU, St.keep, List.map_cons, look, reduceIte, Nat.reduceEqDiff]
  try show AWP _ _ _ _ _
  first | refine AWP.seq (AWP.cond (b := _) rfl (fun hc => ?_) (fun hc => ?_)) | refine AWP.cond (b := _) rfl (fun hc => ?_) (fun hc => ?_)
  rotate_left
  · refine AWP.exit ?_
    show AWP _ _ _ _ _
    simp only [evC, Int.not_lt] at hc
    repeat refine AWP.nest ?_
    first | refine AWP.rs (Gf_ok F40_ok) [] [10] (by rw [hN]; decide) fun K hK => ?_ | refine AWP.rn (Gf_ok F40_ok) [] [10] (by rw [hN]; decide) fun K hK => ?_
    repeat
      first | apply eL | (apply eG; (case ht => exact rfl); (case hef => exact rfl))
      case e => (simp only [evB, evG, evGR, Q.evalR, boolOf, opQ, opMove, opPick, opBin, opUn, opConv, opExtract, opNil, opAlloc, opBox, opBuild, opBuildSlice, opMakeSlice, opLoad, opStore, opSlice, opFieldAddr, opField, opIndexAddr, opIndex, opLen, opMinMax, opAppend, opAppendZ, opCall, opCallF, Q.opnd, Q.opndW, Q.eval, Q.ret, Q.elems, Q.cells, Q.parts, Q.args, Q.src, Q.optInt, intOf?, placeOf, fillA, setAll, mkAgg, datas, loadSel, ofCells, pickV, binI, binS, look, Value.oneCell', normD, smallNil, KD.known, KD.agg, T, TI.z, Dat.wd, Dat.cells, Dat.nagg, AV.ren, renL, AV.renT, AV.hi, AV.hi1, Ob.isRow, Ob.inn, Ob.out, Ob.gam, Ob.data, Ob.alike, loL, Gf, Mu, Dat.flat, Dat.isV, List.contains, List.elem, Option.isSome, Nat.reduceAdd, Nat.reduceSub, Nat.reduceMul, Nat.reduceEqDiff, Nat.reduceLeDiff, Nat.reduceBEq, reduceIte, reduceCtorEq, Int.reduceLT, Int.reduceLE, Int.reduceNeg, Int.reduceEq, Int.reduceToNat, Int.reducePow, Nat.reducePow, Nat.reduceLT, IntKind.bits, hf31, e31, hf32, e32o, hf40, e40, hf41, e41, hf43, e43, hf44, e44, hf45, e45, hf47, e47, evP, toPrs_prs, toPrs_prs9, toSps_sps, toInts_nil, toInts_ints]; (try simp (disch := omega) only [evA]); exact rfl)
      case s => ((try simp only [evU]); exact rfl)
      case hp => (first | exact True.intro | ((repeat' first | assumption | refine And.intro ?_ ?_ | intro hq) <;> first | exact True.intro | assumption | omega | (rw [hq]; rfl) | (simp; done) | (simp_all; done)) | (intro hg; simp at hg; (repeat' refine And.intro ?_ ?_) <;> first | exact True.intro | assumption | omega | exact fun h => h | (simp; done)))
    rw [evalL_nil]
    refine hK _ ?_
    clear hK K
    simp only [evU, St.keep, List.map_cons, look, reduceIte, Nat.reduceEqDiff]
    try show AWP _ _ _ _ _
    refine AWP.ret ?_
    refine ⟨.inl rfl, ⟨⟨_, rfl, ?_⟩, fun ob hob => by cases hob⟩⟩
    simp only [look, reduceIte, Nat.reduceEqDiff]
    exact sub1_of rfl
  simp only [evC, Int.not_lt] at hc
  refine AWP.skip ?_
  show AWP _ _ _ _ _
  have hi' := hc
  clear hc
  have hx : Byt ([p, p2].getD i []) ∧ ([p, p2].getD i []).length ≤ 20000020 := by
    rw [List.getD_eq_getElem?_getD, List.getElem?_eq_getElem (show i < [p, p2].length by simp only [List.length_cons, List.length_nil]; omega)]
    exact hall _ (List.getElem_mem _)
  repeat refine AWP.nest ?_
  first | refine AWP.seq (AWP.block ?_) | refine AWP.block ?_
  repeat refine AWP.nest ?_
  first | refine AWP.rs (Gf_ok F40_ok) [] [15, 53, 54, 55] (by rw [hN]; decide) fun K hK => ?_ | refine AWP.rn (Gf_ok F40_ok) [] [15, 53, 54, 55] (by rw [hN]; decide) fun K hK => ?_
  repeat
    first | apply eL | (apply eG; (case ht => exact rfl); (case hef => exact rfl))
    case e => (simp only [evB, evG, evGR, Q.evalR, boolOf, opQ, opMove, opPick, opBin, opUn, opConv, opExtract, opNil, opAlloc, opBox, opBuild, opBuildSlice, opMakeSlice, opLoad, opStore, opSlice, opFieldAddr, opField, opIndexAddr, opIndex, opLen, opMinMax, opAppend, opAppendZ, opCall, opCallF, Q.opnd, Q.opndW, Q.eval, Q.ret, Q.elems, Q.cells, Q.parts, Q.args, Q.src, Q.optInt, intOf?, placeOf, fillA, setAll, mkAgg, datas, loadSel, ofCells, pickV, binI, binS, look, Value.oneCell', normD, smallNil, KD.known, KD.agg, T, TI.z, Dat.wd, Dat.cells, Dat.nagg, AV.ren, renL, AV.renT, AV.hi, AV.hi1, Ob.isRow, Ob.inn, Ob.out, Ob.gam, Ob.data, Ob.alike, loL, Gf, Mu, Dat.flat, Dat.isV, List.contains, List.elem, Option.isSome, Nat.reduceAdd, Nat.reduceSub, Nat.reduceMul, Nat.reduceEqDiff, Nat.reduceLeDiff, Nat.reduceBEq, reduceIte, reduceCtorEq, Int.reduceLT, Int.reduceLE, Int.reduceNeg, Int.reduceEq, Int.reduceToNat, Int.reducePow, Nat.reducePow, Nat.reduceLT, IntKind.bits, hf31, e31, hf32, e32o, hf40, e40, hf41, e41, hf43, e43, hf44, e44, hf45, e45, hf47, e47, evP, toPrs_prs, toPrs_prs9, toSps_sps, toInts_nil, toInts_ints]; (try simp (disch := omega) only [evA]); exact rfl)
    case s => ((try simp only [evU]); exact rfl)
    case hp => (first | exact True.intro | ((repeat' first | assumption | refine And.intro ?_ ?_ | intro hq) <;> first | exact True.intro | assumption | omega | (rw [hq]; rfl) | (simp; done) | (simp_all; done)) | (intro hg; simp at hg; (repeat' refine And.intro ?_ ?_) <;> first | exact True.intro | assumption | omega | exact fun h => h | (simp; done)))
  rw [evalL_nil]
  refine hK _ ?_
  clear hK K
  simp only [evU, St.keep, List.map_cons, look, reduceIte, Nat.reduceEqDiff]
  try show AWP _ _ _ _ _
  generalize [p, p2].getD i [] = x at hx ⊢
  obtain ⟨hx1, hx2⟩ := hx
  repeat refine AWP.nest ?_
  first | refine AWP.rs (Gf_ok F40_ok) [] [15, 16, 17, 53, 54, 55] (by rw [hN]; decide) fun K hK => ?_ | refine AWP.rn (Gf_ok F40_ok) [] [15, 16, 17, 53, 54, 55] (by rw [hN]; decide) fun K hK => ?_
  repeat
    first | apply eL | (apply eG; (case ht => exact rfl); (case hef => exact rfl))
    case e => (simp only [evB, evG, evGR, Q.evalR, boolOf, opQ, opMove, opPick, opBin, opUn, opConv, opExtract, opNil, opAlloc, opBox, opBuild, opBuildSlice, opMakeSlice, opLoad, opStore, opSlice, opFieldAddr, opField, opIndexAddr, opIndex, opLen, opMinMax, opAppend, opAppendZ, opCall, opCallF, Q.opnd, Q.opndW, Q.eval, Q.ret, Q.elems, Q.cells, Q.parts, Q.args, Q.src, Q.optInt, intOf?, placeOf, fillA, setAll, mkAgg, datas, loadSel, ofCells, pickV, binI, binS, look, Value.oneCell', normD, smallNil, KD.known, KD.agg, T, TI.z, Dat.wd, Dat.cells, Dat.nagg, AV.ren, renL, AV.renT, AV.hi, AV.hi1, Ob.isRow, Ob.inn, Ob.out, Ob.gam, Ob.data, Ob.alike, loL, Gf, Mu, Dat.flat, Dat.isV, List.contains, List.elem, Option.isSome, Nat.reduceAdd, Nat.reduceSub, Nat.reduceMul, Nat.reduceEqDiff, Nat.reduceLeDiff, Nat.reduceBEq, reduceIte, reduceCtorEq, Int.reduceLT, Int.reduceLE, Int.reduceNeg, Int.reduceEq, Int.reduceToNat, Int.reducePow, Nat.reducePow, Nat.reduceLT, IntKind.bits, hf31, e31, hf32, e32o, hf40, e40, hf41, e41, hf43, e43, hf44, e44, hf45, e45, hf47, e47, evP, toPrs_prs, toPrs_prs9, toSps_sps, toInts_nil, toInts_ints]; (try simp (disch := omega) only [evA]); exact rfl)
    case s => ((try simp only [evU]); exact rfl)
    case hp => (first | exact True.intro | ((repeat' first | assumption | refine And.intro ?_ ?_ | intro hq) <;> first | exact True.intro | assumption | omega | (rw [hq]; rfl) | (simp; done) | (simp_all; done)) | (intro hg; simp at hg; (repeat' refine And.intro ?_ ?_) <;> first | exact True.intro | assumption | omega | exact fun h => h | (simp; done)))
  rw [evalL_nil]
  refine hK _ ?_
  clear hK K
  simp only [evU, St.keep, List.map_cons, look, reduceIte, Nat.reduceEqDiff]
  try show AWP _ _ _ _ _
  repeat refine AWP.nest ?_
  first | refine AWP.rs (Gf_ok F40_ok) [] [16, 17, 18, 19, 53, 54, 55] (by rw [hN]; decide) fun K hK => ?_ | refine AWP.rn (Gf_ok F40_ok) [] [16, 17, 18, 19, 53, 54, 55] (by rw [hN]; decide) fun K hK => ?_
  repeat
    first | apply eL | (apply eG; (case ht => exact rfl); (case hef => exact rfl))
    case e => (simp only [evB, evG, evGR, Q.evalR, boolOf, opQ, opMove, opPick, opBin, opUn, opConv, opExtract, opNil, opAlloc, opBox, opBuild, opBuildSlice, opMakeSlice, opLoad, opStore, opSlice, opFieldAddr, opField, opIndexAddr, opIndex, opLen, opMinMax, opAppend, opAppendZ, opCall, opCallF, Q.opnd, Q.opndW, Q.eval, Q.ret, Q.elems, Q.cells, Q.parts, Q.args, Q.src, Q.optInt, intOf?, placeOf, fillA, setAll, mkAgg, datas, loadSel, ofCells, pickV, binI, binS, look, Value.oneCell', normD, smallNil, KD.known, KD.agg, T, TI.z, Dat.wd, Dat.cells, Dat.nagg, AV.ren, renL, AV.renT, AV.hi, AV.hi1, Ob.isRow, Ob.inn, Ob.out, Ob.gam, Ob.data, Ob.alike, loL, Gf, Mu, Dat.flat, Dat.isV, List.contains, List.elem, Option.isSome, Nat.reduceAdd, Nat.reduceSub, Nat.reduceMul, Nat.reduceEqDiff, Nat.reduceLeDiff, Nat.reduceBEq, reduceIte, reduceCtorEq, Int.reduceLT, Int.reduceLE, Int.reduceNeg, Int.reduceEq, Int.reduceToNat, Int.reducePow, Nat.reducePow, Nat.reduceLT, IntKind.bits, hf31, e31, hf32, e32o, hf40, e40, hf41, e41, hf43, e43, hf44, e44, hf45, e45, hf47, e47, evP, toPrs_prs, toPrs_prs9, toSps_sps, toInts_nil, toInts_ints]; (try simp (disch := omega) only [evA]); exact rfl)
    case s => ((try simp only [evU]); exact rfl)
    case hp => (first | exact True.intro | ((repeat' first | assumption | refine And.intro ?_ ?_ | intro hq) <;> first | exact True.intro | assumption | omega | (rw [hq]; rfl) | (simp; done) | (simp_all; done)) | (intro hg; simp at hg; (repeat' refine And.intro ?_ ?_) <;> first | exact True.intro | assumption | omega | exact fun h => h | (simp; done)))
  rw [evalL_nil]
  refine hK _ ?_
  clear hK K
  simp only [evU, St.keep, List.map_cons, look, reduceIte, Nat.reduceEqDiff]
  try show AWP _ _ _ _ _
  cases eR : rightG x with
  | true =>
    have eS : spsG x = spans x (numG x) := by unfold spsG; rw [eR]; rfl
    have hsl : ((spsG x).length : Int) = numG x := by rw [eS, spans_length]
    have e1 : (if true = true then (0 : Int) else 2) = 0 := rfl
    have e2 : (if true = true then (numG x : Int) else 0) = numG x := rfl
    rw [e1, e2]
    repeat refine AWP.nest ?_
    first | refine AWP.rs (Gf_ok F40_ok) [] [53, 54, 55, 81] (by rw [hN]; decide) fun K hK => ?_ | refine AWP.rn (Gf_ok F40_ok) [] [53, 54, 55, 81] (by rw [hN]; decide) fun K hK => ?_
    repeat
      first | apply eL | (apply eG; (case ht => exact rfl); (case hef => exact rfl))
      case e => (simp only [evB, evG, evGR, Q.evalR, boolOf, opQ, opMove, opPick, opBin, opUn, opConv, opExtract, opNil, opAlloc, opBox, opBuild, opBuildSlice, opMakeSlice, opLoad, opStore, opSlice, opFieldAddr, opField, opIndexAddr, opIndex, opLen, opMinMax, opAppend, opAppendZ, opCall, opCallF, Q.opnd, Q.opndW, Q.eval, Q.ret, Q.elems, Q.cells, Q.parts, Q.args, Q.src, Q.optInt, intOf?, placeOf, fillA, setAll, mkAgg, datas, loadSel, ofCells, pickV, binI, binS, look, Value.oneCell', normD, smallNil, KD.known, KD.agg, T, TI.z, Dat.wd, Dat.cells, Dat.nagg, AV.ren, renL, AV.renT, AV.hi, AV.hi1, Ob.isRow, Ob.inn, Ob.out, Ob.gam, Ob.data, Ob.alike, loL, Gf, Mu, Dat.flat, Dat.isV, List.contains, List.elem, Option.isSome, Nat.reduceAdd, Nat.reduceSub, Nat.reduceMul, Nat.reduceEqDiff, Nat.reduceLeDiff, Nat.reduceBEq, reduceIte, reduceCtorEq, Int.reduceLT, Int.reduceLE, Int.reduceNeg, Int.reduceEq, Int.reduceToNat, Int.reducePow, Nat.reducePow, Nat.reduceLT, IntKind.bits, hf31, e31, hf32, e32o, hf40, e40, hf41, e41, hf43, e43, hf44, e44, hf45, e45, hf47, e47, evP, toPrs_prs, toPrs_prs9, toSps_sps, toInts_nil, toInts_ints, hsl]; (try simp (disch := omega) only [evA]); exact rfl)
      case s => ((try simp only [evU]); exact rfl)
      case hp => (first | exact True.intro | ((repeat' first | assumption | refine And.intro ?_ ?_ | intro hq) <;> first | exact True.intro | assumption | omega | (rw [hq]; rfl) | (simp; done) | (simp_all; done)) | (intro hg; simp at hg; (repeat' refine And.intro ?_ ?_) <;> first | exact True.intro | assumption | omega | exact fun h => h | (simp; done)))
    rw [evalL_nil]
    refine hK _ ?_
    clear hK K
    simp only [evU, St.keep, List.map_cons, look, reduceIte, Nat.reduceEqDiff]
    try show AWP _ _ _ _ _
    repeat refine AWP.nest ?_
    first | refine AWP.seq (AWP.cond (b := _) rfl (fun hc => ?_) (fun hc => ?_)) | refine AWP.cond (b := _) rfl (fun hc => ?_) (fun hc => ?_)
    all_goals try simp only [evC] at hc
    · exfalso
      simp at hc
    refine AWP.skip ?_
    show AWP _ _ _ _ _
    refine AWP.trunc 1 (by rw [hps]; decide) rfl ?_
    simp only [St.trunc, List.take_zero, List.take_succ_cons]
    repeat refine AWP.nest ?_
    first | refine AWP.rs (Gf_ok F40_ok) [] [53, 54, 55] (by rw [hN]; decide) fun K hK => ?_ | refine AWP.rn (Gf_ok F40_ok) [] [53, 54, 55] (by rw [hN]; decide) fun K hK => ?_
    repeat
      first | apply eL | (apply eG; (case ht => exact rfl); (case hef => exact rfl))
      case e => (simp only [evB, evG, evGR, Q.evalR, boolOf, opQ, opMove, opPick, opBin, opUn, opConv, opExtract, opNil, opAlloc, opBox, opBuild, opBuildSlice, opMakeSlice, opLoad, opStore, opSlice, opFieldAddr, opField, opIndexAddr, opIndex, opLen, opMinMax, opAppend, opAppendZ, opCall, opCallF, Q.opnd, Q.opndW, Q.eval, Q.ret, Q.elems, Q.cells, Q.parts, Q.args, Q.src, Q.optInt, intOf?, placeOf, fillA, setAll, mkAgg, datas, loadSel, ofCells, pickV, binI, binS, look, Value.oneCell', normD, smallNil, KD.known, KD.agg, T, TI.z, Dat.wd, Dat.cells, Dat.nagg, AV.ren, renL, AV.renT, AV.hi, AV.hi1, Ob.isRow, Ob.inn, Ob.out, Ob.gam, Ob.data, Ob.alike, loL, Gf, Mu, Dat.flat, Dat.isV, List.contains, List.elem, Option.isSome, Nat.reduceAdd, Nat.reduceSub, Nat.reduceMul, Nat.reduceEqDiff, Nat.reduceLeDiff, Nat.reduceBEq, reduceIte, reduceCtorEq, Int.reduceLT, Int.reduceLE, Int.reduceNeg, Int.reduceEq, Int.reduceToNat, Int.reducePow, Nat.reducePow, Nat.reduceLT, IntKind.bits, hf31, e31, hf32, e32o, hf40, e40, hf41, e41, hf43, e43, hf44, e44, hf45, e45, hf47, e47, evP, toPrs_prs, toPrs_prs9, toSps_sps, toInts_nil, toInts_ints]; (try simp (disch := omega) only [evA]); exact rfl)
      case s => ((try simp only [evU]); exact rfl)
      case hp => (first | exact True.intro | ((repeat' first | assumption | refine And.intro ?_ ?_ | intro hq) <;> first | exact True.intro | assumption | omega | (rw [hq]; rfl) | (simp; done) | (simp_all; done)) | (intro hg; simp at hg; (repeat' refine And.intro ?_ ?_) <;> first | exact True.intro | assumption | omega | exact fun h => h | (simp; done)))
    rw [evalL_nil]
    refine hK _ ?_
    clear hK K
    simp only [evU, St.keep, List.map_cons, look, reduceIte, Nat.reduceEqDiff]
    try show AWP _ _ _ _ _
    exact ⟨2 - (i + 1), by omega, i + 1, by omega, rfl, rfl⟩
  | false =>
    have e1 : (if false = true then (0 : Int) else 2) = 2 := rfl
    have e2 : (if false = true then (numG x : Int) else 0) = 0 := rfl
    rw [e1, e2]
    repeat refine AWP.nest ?_
    first | refine AWP.rs (Gf_ok F40_ok) [] [53, 54, 55, 81] (by rw [hN]; decide) fun K hK => ?_ | refine AWP.rn (Gf_ok F40_ok) [] [53, 54, 55, 81] (by rw [hN]; decide) fun K hK => ?_
    repeat
      first | apply eL | (apply eG; (case ht => exact rfl); (case hef => exact rfl))
      case e => (simp only [evB, evG, evGR, Q.evalR, boolOf, opQ, opMove, opPick, opBin, opUn, opConv, opExtract, opNil, opAlloc, opBox, opBuild, opBuildSlice, opMakeSlice, opLoad, opStore, opSlice, opFieldAddr, opField, opIndexAddr, opIndex, opLen, opMinMax, opAppend, opAppendZ, opCall, opCallF, Q.opnd, Q.opndW, Q.eval, Q.ret, Q.elems, Q.cells, Q.parts, Q.args, Q.src, Q.optInt, intOf?, placeOf, fillA, setAll, mkAgg, datas, loadSel, ofCells, pickV, binI, binS, look, Value.oneCell', normD, smallNil, KD.known, KD.agg, T, TI.z, Dat.wd, Dat.cells, Dat.nagg, AV.ren, renL, AV.renT, AV.hi, AV.hi1, Ob.isRow, Ob.inn, Ob.out, Ob.gam, Ob.data, Ob.alike, loL, Gf, Mu, Dat.flat, Dat.isV, List.contains, List.elem, Option.isSome, Nat.reduceAdd, Nat.reduceSub, Nat.reduceMul, Nat.reduceEqDiff, Nat.reduceLeDiff, Nat.reduceBEq, reduceIte, reduceCtorEq, Int.reduceLT, Int.reduceLE, Int.reduceNeg, Int.reduceEq, Int.reduceToNat, Int.reducePow, Nat.reducePow, Nat.reduceLT, IntKind.bits, hf31, e31, hf32, e32o, hf40, e40, hf41, e41, hf43, e43, hf44, e44, hf45, e45, hf47, e47, evP, toPrs_prs, toPrs_prs9, toSps_sps, toInts_nil, toInts_ints]; (try simp (disch := omega) only [evA]); exact rfl)
      case s => ((try simp only [evU]); exact rfl)
      case hp => (first | exact True.intro | ((repeat' first | assumption | refine And.intro ?_ ?_ | intro hq) <;> first | exact True.intro | assumption | omega | (rw [hq]; rfl) | (simp; done) | (simp_all; done)) | (intro hg; simp at hg; (repeat' refine And.intro ?_ ?_) <;> first | exact True.intro | assumption | omega | exact fun h => h | (simp; done)))
    rw [evalL_nil]
    refine hK _ ?_
    clear hK K
    simp only [evU, St.keep, List.map_cons, look, reduceIte, Nat.reduceEqDiff]
    try show AWP _ _ _ _ _
    repeat refine AWP.nest ?_
    first | refine AWP.seq (AWP.cond (b := _) rfl (fun hc => ?_) (fun hc => ?_)) | refine AWP.cond (b := _) rfl (fun hc => ?_) (fun hc => ?_)
    all_goals try simp only [evC] at hc
    · exfalso
      simp at hc
    refine AWP.skip ?_
    show AWP _ _ _ _ _
    refine AWP.trunc 1 (by rw [hps]; decide) rfl ?_
    simp only [St.trunc, List.take_zero, List.take_succ_cons]
    repeat refine AWP.nest ?_
    first | refine AWP.rs (Gf_ok F40_ok) [] [53, 54, 55] (by rw [hN]; decide) fun K hK => ?_ | refine AWP.rn (Gf_ok F40_ok) [] [53, 54, 55] (by rw [hN]; decide) fun K hK => ?_
    repeat
      first | apply eL | (apply eG; (case ht => exact rfl); (case hef => exact rfl))
      case e => (simp only [evB, evG, evGR, Q.evalR, boolOf, opQ, opMove, opPick, opBin, opUn, opConv, opExtract, opNil, opAlloc, opBox, opBuild, opBuildSlice, opMakeSlice, opLoad, opStore, opSlice, opFieldAddr, opField, opIndexAddr, opIndex, opLen, opMinMax, opAppend, opAppendZ, opCall, opCallF, Q.opnd, Q.opndW, Q.eval, Q.ret, Q.elems, Q.cells, Q.parts, Q.args, Q.src, Q.optInt, intOf?, placeOf, fillA, setAll, mkAgg, datas, loadSel, ofCells, pickV, binI, binS, look, Value.oneCell', normD, smallNil, KD.known, KD.agg, T, TI.z, Dat.wd, Dat.cells, Dat.nagg, AV.ren, renL, AV.renT, AV.hi, AV.hi1, Ob.isRow, Ob.inn, Ob.out, Ob.gam, Ob.data, Ob.alike, loL, Gf, Mu, Dat.flat, Dat.isV, List.contains, List.elem, Option.isSome, Nat.reduceAdd, Nat.reduceSub, Nat.reduceMul, Nat.reduceEqDiff, Nat.reduceLeDiff, Nat.reduceBEq, reduceIte, reduceCtorEq, Int.reduceLT, Int.reduceLE, Int.reduceNeg, Int.reduceEq, Int.reduceToNat, Int.reducePow, Nat.reducePow, Nat.reduceLT, IntKind.bits, hf31, e31, hf32, e32o, hf40, e40, hf41, e41, hf43, e43, hf44, e44, hf45, e45, hf47, e47, evP, toPrs_prs, toPrs_prs9, toSps_sps, toInts_nil, toInts_ints]; (try simp (disch := omega) only [evA]); exact rfl)
      case s => ((try simp only [evU]); exact rfl)
      case hp => (first | exact True.intro | ((repeat' first | assumption | refine And.intro ?_ ?_ | intro hq) <;> first | exact True.intro | assumption | omega | (rw [hq]; rfl) | (simp; done) | (simp_all; done)) | (intro hg; simp at hg; (repeat' refine And.intro ?_ ?_) <;> first | exact True.intro | assumption | omega | exact fun h => h | (simp; done)))
    rw [evalL_nil]
    refine hK _ ?_
    clear hK K
    simp only [evU, St.keep, List.map_cons, look, reduceIte, Nat.reduceEqDiff]
    try show AWP _ _ _ _ _
    exact ⟨2 - (i + 1), by omega, i + 1, by omega, rfl, rfl⟩
theorem law10 (x : Dat) (h : (AT.sl 25 (.int .u32)).holds x) (y : Dat) (h2 : (AT.sl 53 (.int .u16)).holds y) (z : Dat) (h3 : (AT.int .u16).holds z) (u : Dat) (h4 : (AT.int .u8).holds u) (v : Dat) (h5 : (AT.sl 5 (.int .u8)).holds v) : Spec Try.prog 10 [.d x.flat x, .d y.flat y, .d z.flat z, .d u.flat u, .d v.flat v] none ⟨True, .d true (.v (.bool true)), none⟩ := by
  obtain ⟨xs, rfl, hx⟩ := h
  obtain ⟨l, rfl, hl⟩ := ints_of hx
  obtain ⟨ys, rfl, hy⟩ := h2
  obtain ⟨m, rfl, hm⟩ := ints_of hy
  obtain ⟨a, rfl, ha⟩ := h3
  obtain ⟨t, rfl, ht⟩ := h4
  obtain ⟨ms, rfl, hms⟩ := bytes_of h5
  have := bounds_u16 ha
  have := bounds_u8 ht
  exact s10 l m (fun n hn => by have := bounds_u32 (hl n hn); omega) (fun n hn => by have := bounds_u16 (hm n hn); omega) a t (by omega) (by omega) (by omega) (by omega) ms hms
end Go.AM

