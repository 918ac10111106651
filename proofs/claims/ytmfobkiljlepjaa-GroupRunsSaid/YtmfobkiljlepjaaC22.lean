/- AM: ref10.Build. -/
import Derived.Test.YtmfobkiljlepjaaC21
set_option maxRecDepth 100000
set_option maxHeartbeats 8000000
set_option linter.unusedSimpArgs false
set_option linter.unusedVariables false
namespace Go.AM
open Go Go.Proofs

def e41 : List AV → Option Ob → Option Res := fun args i => match args, i with
  | [.d false (.sl 1 xs), .d false (.sl 1 ys)], none => some ⟨xs = ints .u32 (toInts xs) ∧ W32 (toInts xs) ∧ ys = ints .u16 (toInts ys) ∧ W16 (toInts ys), .tup [.d true (.sl 2 (prs (rsg 60000 1114111 40 (-1) (toInts xs) (toInts ys)))), .d true (.sl 2 (prs9 (rsg 60000 1114111 40 (-1) (toInts xs) (toInts ys))))], none⟩
  | _, _ => none
def F38 : FT := F37.upd 41 e41
theorem F38_ok : FOK Try.prog F38 := FOK.upd F37_ok Try.func41 (by kernel_rfl) rfl fun args i R h => by
  unfold e41 at h
  split at h
  · rename_i xs ys
    cases h
    refine Spec.pre fun h => ?_
    have := s41 (toInts xs) (toInts ys) h.2.1 h.2.2.2
    rw [← h.1, ← h.2.2.1] at this
    exact this
  · cases h
/-- What goes on with the pair before it. -/
def Con (l : List (Int × Int)) (q : Nat) : Prop := cd l q = cd l (q - 1) + 1 ∧ gl l q = gl l (q - 1) + 1
theorem run_to {l : List (Int × Int)} {i : Nat} (hs : ¬(0 < i ∧ Con l i)) : ∀ d, (∀ q, i < q → q ≤ i + d → Con l q) → runsTo l (i + d + 1) = runsTo l i ++ [(cd l i, cd l (i + d), gl l i)]
  | 0, _ => by
    show stepR l i (runsTo l i) = _
    unfold stepR
    exact if_neg hs
  | d + 1, h => by
    have ih := run_to hs d fun q h1 h2 => h q h1 (by omega)
    have hc := h (i + d + 1) (by omega) (by omega)
    show stepR l (i + d + 1) (runsTo l (i + d + 1)) = _
    unfold stepR
    have e0 : i + d + 1 - 1 = i + d := by omega
    unfold Con at hc
    rw [if_pos ⟨by omega, hc⟩, ih]
    have el : (runsTo l i ++ [(cd l i, cd l (i + d), gl l i)]).length - 1 = (runsTo l i).length := by simp
    rw [el, List.set_append_right _ _ (Nat.le_refl _), Nat.sub_self, List.getD_eq_getElem?_getD, List.getElem?_append_right (Nat.le_refl _), Nat.sub_self]
    rfl

theorem s44 (l : List (Int × Int)) (hr : risesB l 1114111 = true) (hp : PrOK l) (hl : l.length ≤ 1000000) : Spec Try.prog 44 [.d false (.sl 2 (prs9 l))] none ⟨True, .d true (.sl 1 (ints .u8 (tabG (runsTo l l.length)))), none⟩ := by
  have hf32 : F38 32 = e32 := rfl
  have hf35 : F38 35 = e35 := rfl
  have hf59 : F38 59 = e59 := rfl
  refine spec_of_awp (Gf_ok F38_ok) Try.func44 rfl (Nat.le_of_ble_eq_true rfl) fun E hps hN _ => ?_
  simp only [begin, List.zipIdx_cons, List.zipIdx_nil, List.map_cons, List.map_nil, Option.toList, Nat.zero_add, Nat.reduceAdd]
  repeat refine AWP.nest ?_
  first | refine AWP.rs (Gf_ok F38_ok) [] [0] (by rw [hN]; decide) fun K hK => ?_ | refine AWP.rn (Gf_ok F38_ok) [] [0] (by rw [hN]; decide) fun K hK => ?_
  repeat
    first | apply eL | (apply eG; (case ht => exact rfl); (case hef => exact rfl))
    case e => (simp only [evB, evG, evGR, Q.evalR, boolOf, opQ, opMove, opPick, opBin, opUn, opConv, opExtract, opNil, opAlloc, opBox, opBuild, opBuildSlice, opMakeSlice, opLoad, opStore, opSlice, opFieldAddr, opField, opIndexAddr, opIndex, opLen, opMinMax, opAppend, opAppendZ, opCall, opCallF, Q.opnd, Q.opndW, Q.eval, Q.ret, Q.elems, Q.cells, Q.parts, Q.args, Q.src, Q.optInt, intOf?, placeOf, fillA, setAll, mkAgg, datas, loadSel, ofCells, pickV, binI, binS, look, Value.oneCell', normD, smallNil, KD.known, KD.agg, T, TI.z, Dat.wd, Dat.cells, Dat.nagg, AV.ren, renL, AV.renT, AV.hi, AV.hi1, Ob.isRow, Ob.inn, Ob.out, Ob.gam, Ob.data, Ob.alike, loL, Gf, Mu, Dat.flat, Dat.isV, List.contains, List.elem, Option.isSome, Nat.reduceAdd, Nat.reduceSub, Nat.reduceMul, Nat.reduceEqDiff, Nat.reduceLeDiff, Nat.reduceBEq, reduceIte, reduceCtorEq, Int.reduceLT, Int.reduceLE, Int.reduceNeg, Int.reduceEq, Int.reduceToNat, Int.reducePow, Nat.reducePow, Nat.reduceLT, IntKind.bits, hf32, e32, hf35, e35, hf59, e59, evP, toPrs_prs, toSps_sps, toInts_nil]; (try simp (disch := omega) only [evA]); exact rfl)
    case s => ((try simp only [evU]); exact rfl)
    case hp => (first | exact True.intro | ((repeat' first | assumption | refine And.intro ?_ ?_ | intro hq) <;> first | exact True.intro | assumption | omega | (rw [hq]; rfl) | (simp; done) | (simp_all; done)) | (intro hg; simp at hg; (repeat' refine And.intro ?_ ?_) <;> first | exact True.intro | assumption | omega | exact fun h => h | (simp; done)))
  rw [evalL_nil]
  refine hK _ ?_
  clear hK K
  simp only [evU, St.keep, List.map_cons, look, reduceIte, Nat.reduceEqDiff]
  try show AWP _ _ _ _ _
  repeat refine AWP.nest ?_
  first | refine AWP.rs (Gf_ok F38_ok) [] [0, 3] (by rw [hN]; decide) fun K hK => ?_ | refine AWP.rn (Gf_ok F38_ok) [] [0, 3] (by rw [hN]; decide) fun K hK => ?_
  repeat
    first | apply eL | (apply eG; (case ht => exact rfl); (case hef => exact rfl))
    case e => (simp only [evB, evG, evGR, Q.evalR, boolOf, opQ, opMove, opPick, opBin, opUn, opConv, opExtract, opNil, opAlloc, opBox, opBuild, opBuildSlice, opMakeSlice, opLoad, opStore, opSlice, opFieldAddr, opField, opIndexAddr, opIndex, opLen, opMinMax, opAppend, opAppendZ, opCall, opCallF, Q.opnd, Q.opndW, Q.eval, Q.ret, Q.elems, Q.cells, Q.parts, Q.args, Q.src, Q.optInt, intOf?, placeOf, fillA, setAll, mkAgg, datas, loadSel, ofCells, pickV, binI, binS, look, Value.oneCell', normD, smallNil, KD.known, KD.agg, T, TI.z, Dat.wd, Dat.cells, Dat.nagg, AV.ren, renL, AV.renT, AV.hi, AV.hi1, Ob.isRow, Ob.inn, Ob.out, Ob.gam, Ob.data, Ob.alike, loL, Gf, Mu, Dat.flat, Dat.isV, List.contains, List.elem, Option.isSome, Nat.reduceAdd, Nat.reduceSub, Nat.reduceMul, Nat.reduceEqDiff, Nat.reduceLeDiff, Nat.reduceBEq, reduceIte, reduceCtorEq, Int.reduceLT, Int.reduceLE, Int.reduceNeg, Int.reduceEq, Int.reduceToNat, Int.reducePow, Nat.reducePow, Nat.reduceLT, IntKind.bits, hf32, e32, hf35, e35, hf59, e59, evP, toPrs_prs, toSps_sps, toInts_nil]; (try simp (disch := omega) only [evA]); exact rfl)
    case s => ((try simp only [evU]); exact rfl)
    case hp => (first | exact True.intro | ((repeat' first | assumption | refine And.intro ?_ ?_ | intro hq) <;> first | exact True.intro | assumption | omega | (rw [hq]; rfl) | (simp; done) | (simp_all; done)) | (intro hg; simp at hg; (repeat' refine And.intro ?_ ?_) <;> first | exact True.intro | assumption | omega | exact fun h => h | (simp; done)))
  rw [evalL_nil]
  refine hK _ ?_
  clear hK K
  simp only [evU, St.keep, List.map_cons, look, reduceIte, Nat.reduceEqDiff]
  try show AWP _ _ _ _ _
  repeat refine AWP.nest ?_
  first | refine AWP.rs (Gf_ok F38_ok) [] [0, 3, 4] (by rw [hN]; decide) fun K hK => ?_ | refine AWP.rn (Gf_ok F38_ok) [] [0, 3, 4] (by rw [hN]; decide) fun K hK => ?_
  repeat
    first | apply eL | (apply eG; (case ht => exact rfl); (case hef => exact rfl))
    case e => (simp only [evB, evG, evGR, Q.evalR, boolOf, opQ, opMove, opPick, opBin, opUn, opConv, opExtract, opNil, opAlloc, opBox, opBuild, opBuildSlice, opMakeSlice, opLoad, opStore, opSlice, opFieldAddr, opField, opIndexAddr, opIndex, opLen, opMinMax, opAppend, opAppendZ, opCall, opCallF, Q.opnd, Q.opndW, Q.eval, Q.ret, Q.elems, Q.cells, Q.parts, Q.args, Q.src, Q.optInt, intOf?, placeOf, fillA, setAll, mkAgg, datas, loadSel, ofCells, pickV, binI, binS, look, Value.oneCell', normD, smallNil, KD.known, KD.agg, T, TI.z, Dat.wd, Dat.cells, Dat.nagg, AV.ren, renL, AV.renT, AV.hi, AV.hi1, Ob.isRow, Ob.inn, Ob.out, Ob.gam, Ob.data, Ob.alike, loL, Gf, Mu, Dat.flat, Dat.isV, List.contains, List.elem, Option.isSome, Nat.reduceAdd, Nat.reduceSub, Nat.reduceMul, Nat.reduceEqDiff, Nat.reduceLeDiff, Nat.reduceBEq, reduceIte, reduceCtorEq, Int.reduceLT, Int.reduceLE, Int.reduceNeg, Int.reduceEq, Int.reduceToNat, Int.reducePow, Nat.reducePow, Nat.reduceLT, IntKind.bits, hf32, e32, hf35, e35, hf59, e59, evP, toPrs_prs, toSps_sps, toInts_nil]; (try simp (disch := omega) only [evA]); exact rfl)
    case s => ((try simp only [evU]); exact rfl)
    case hp => (first | exact True.intro | ((repeat' first | assumption | refine And.intro ?_ ?_ | intro hq) <;> first | exact True.intro | assumption | omega | (rw [hq]; rfl) | (simp; done) | (simp_all; done)) | (intro hg; simp at hg; (repeat' refine And.intro ?_ ?_) <;> first | exact True.intro | assumption | omega | exact fun h => h | (simp; done)))
  rw [evalL_nil]
  refine hK _ ?_
  clear hK K
  simp only [evU, St.keep, List.map_cons, look, reduceIte, Nat.reduceEqDiff]
  try show AWP _ _ _ _ _
  repeat refine AWP.nest ?_
  first | refine AWP.rs (Gf_ok F38_ok) [] [0, 3, 4, 5] (by rw [hN]; decide) fun K hK => ?_ | refine AWP.rn (Gf_ok F38_ok) [] [0, 3, 4, 5] (by rw [hN]; decide) fun K hK => ?_
  repeat
    first | apply eL | (apply eG; (case ht => exact rfl); (case hef => exact rfl))
    case e => (simp only [evB, evG, evGR, Q.evalR, boolOf, opQ, opMove, opPick, opBin, opUn, opConv, opExtract, opNil, opAlloc, opBox, opBuild, opBuildSlice, opMakeSlice, opLoad, opStore, opSlice, opFieldAddr, opField, opIndexAddr, opIndex, opLen, opMinMax, opAppend, opAppendZ, opCall, opCallF, Q.opnd, Q.opndW, Q.eval, Q.ret, Q.elems, Q.cells, Q.parts, Q.args, Q.src, Q.optInt, intOf?, placeOf, fillA, setAll, mkAgg, datas, loadSel, ofCells, pickV, binI, binS, look, Value.oneCell', normD, smallNil, KD.known, KD.agg, T, TI.z, Dat.wd, Dat.cells, Dat.nagg, AV.ren, renL, AV.renT, AV.hi, AV.hi1, Ob.isRow, Ob.inn, Ob.out, Ob.gam, Ob.data, Ob.alike, loL, Gf, Mu, Dat.flat, Dat.isV, List.contains, List.elem, Option.isSome, Nat.reduceAdd, Nat.reduceSub, Nat.reduceMul, Nat.reduceEqDiff, Nat.reduceLeDiff, Nat.reduceBEq, reduceIte, reduceCtorEq, Int.reduceLT, Int.reduceLE, Int.reduceNeg, Int.reduceEq, Int.reduceToNat, Int.reducePow, Nat.reducePow, Nat.reduceLT, IntKind.bits, hf32, e32, hf35, e35, hf59, e59, evP, toPrs_prs, toSps_sps, toInts_nil]; (try simp (disch := omega) only [evA]); exact rfl)
    case s => ((try simp only [evU]); exact rfl)
    case hp => (first | exact True.intro | ((repeat' first | assumption | refine And.intro ?_ ?_ | intro hq) <;> first | exact True.intro | assumption | omega | (rw [hq]; rfl) | (simp; done) | (simp_all; done)) | (intro hg; simp at hg; (repeat' refine And.intro ?_ ?_) <;> first | exact True.intro | assumption | omega | exact fun h => h | (simp; done)))
  rw [evalL_nil]
  refine hK _ ?_
  clear hK K
  simp only [evU, St.keep, List.map_cons, look, reduceIte, Nat.reduceEqDiff]
  try show AWP _ _ _ _ _
  refine AWP.nilD 3 true 1 rfl ?_
  refine AWP.keep [0, 3, 4, 5] ?_
  simp only [St.keep, List.map_cons, List.map_nil, look, reduceIte, Nat.reduceEqDiff]
  repeat refine AWP.nest ?_
  first | refine AWP.seq (AWP.block ?_) | refine AWP.block ?_
  refine AWP.loop (fun k st => ∃ (i : Nat), i ≤ l.length ∧ (i < l.length → ¬(0 < i ∧ Con l i)) ∧ k = l.length - i ∧ st = ⟨[(0, .d false (.sl 2 (prs9 l))), (3, .d true (.sl 1 (ints .u8 (encS (runsTo l i))))), (4, .d true (.v (.int .i64 ((runsTo l i).length : Int)))), (5, .d true (.v (.int .i64 (i : Int))))], []⟩) (l.length) ?_ ?_
  · exact ⟨0, Nat.zero_le _, fun _ h => Nat.lt_irrefl _ h.1, rfl, rfl⟩
  rintro k st ⟨i, hi, hs, hk, rfl⟩
  obtain ⟨ho1, ho2, ho3, ho4, ho5⟩ := runs_ok hr hp hi
  repeat refine AWP.nest ?_
  first | refine AWP.rs (Gf_ok F38_ok) [] [0, 3, 4, 5, 10] (by rw [hN]; decide) fun K hK => ?_ | refine AWP.rn (Gf_ok F38_ok) [] [0, 3, 4, 5, 10] (by rw [hN]; decide) fun K hK => ?_
  repeat
    first | apply eL | (apply eG; (case ht => exact rfl); (case hef => exact rfl))
    case e => (simp only [evB, evG, evGR, Q.evalR, boolOf, opQ, opMove, opPick, opBin, opUn, opConv, opExtract, opNil, opAlloc, opBox, opBuild, opBuildSlice, opMakeSlice, opLoad, opStore, opSlice, opFieldAddr, opField, opIndexAddr, opIndex, opLen, opMinMax, opAppend, opAppendZ, opCall, opCallF, Q.opnd, Q.opndW, Q.eval, Q.ret, Q.elems, Q.cells, Q.parts, Q.args, Q.src, Q.optInt, intOf?, placeOf, fillA, setAll, mkAgg, datas, loadSel, ofCells, pickV, binI, binS, look, Value.oneCell', normD, smallNil, KD.known, KD.agg, T, TI.z, Dat.wd, Dat.cells, Dat.nagg, AV.ren, renL, AV.renT, AV.hi, AV.hi1, Ob.isRow, Ob.inn, Ob.out, Ob.gam, Ob.data, Ob.alike, loL, Gf, Mu, Dat.flat, Dat.isV, List.contains, List.elem, Option.isSome, Nat.reduceAdd, Nat.reduceSub, Nat.reduceMul, Nat.reduceEqDiff, Nat.reduceLeDiff, Nat.reduceBEq, reduceIte, reduceCtorEq, Int.reduceLT, Int.reduceLE, Int.reduceNeg, Int.reduceEq, Int.reduceToNat, Int.reducePow, Nat.reducePow, Nat.reduceLT, IntKind.bits, hf32, e32, hf35, e35, hf59, e59, evP, toPrs_prs, toSps_sps, toInts_nil]; (try simp (disch := omega) only [evA]); exact rfl)
    case s => ((try simp only [evU]); exact rfl)
    case hp => (first | exact True.intro | ((repeat' first | assumption | refine And.intro ?_ ?_ | intro hq) <;> first | exact True.intro | assumption | omega | (rw [hq]; rfl) | (simp; done) | (simp_all; done)) | (intro hg; simp at hg; (repeat' refine And.intro ?_ ?_) <;> first | exact True.intro | assumption | omega | exact fun h => h | (simp; done)))
  rw [evalL_nil]
  refine hK _ ?_
  clear hK K
  simp only [evU, St.keep, List.map_cons, look, reduceIte, Nat.reduceEqDiff]
  try show AWP _ _ _ _ _
  first | refine AWP.seq (AWP.cond (b := _) rfl (fun hc => ?_) (fun hc => ?_)) | refine AWP.cond (b := _) rfl (fun hc => ?_) (fun hc => ?_)
  rotate_left
  · refine AWP.exit ?_
    show AWP _ _ _ _ _
    simp only [evC, Int.not_lt] at hc
    obtain rfl : i = l.length := by omega
    generalize runsTo l l.length = R at ho1 ho2 ho3 ho4 ho5 ⊢
    clear hk hi hc
    have hE := encS_len R
    have hEb := encS_byt ho1
    have em1 : (16 + 12 * (R.length : Int)) % 4294967296 = 16 + 12 * (R.length : Int) := by omega
    have em2 : (R.length : Int) % 4294967296 = R.length := by omega
    repeat refine AWP.nest ?_
    first | refine AWP.rs (Gf_ok F38_ok) [] [2] (by rw [hN]; decide) fun K hK => ?_ | refine AWP.rn (Gf_ok F38_ok) [] [2] (by rw [hN]; decide) fun K hK => ?_
    repeat
      first | apply eL | (apply eG; (case ht => exact rfl); (case hef => exact rfl))
      case e => (simp only [evB, evG, evGR, Q.evalR, boolOf, opQ, opMove, opPick, opBin, opUn, opConv, opExtract, opNil, opAlloc, opBox, opBuild, opBuildSlice, opMakeSlice, opLoad, opStore, opSlice, opFieldAddr, opField, opIndexAddr, opIndex, opLen, opMinMax, opAppend, opAppendZ, opCall, opCallF, Q.opnd, Q.opndW, Q.eval, Q.ret, Q.elems, Q.cells, Q.parts, Q.args, Q.src, Q.optInt, intOf?, placeOf, fillA, setAll, mkAgg, datas, loadSel, ofCells, pickV, binI, binS, look, Value.oneCell', normD, smallNil, KD.known, KD.agg, T, TI.z, Dat.wd, Dat.cells, Dat.nagg, AV.ren, renL, AV.renT, AV.hi, AV.hi1, Ob.isRow, Ob.inn, Ob.out, Ob.gam, Ob.data, Ob.alike, loL, Gf, Mu, Dat.flat, Dat.isV, List.contains, List.elem, Option.isSome, Nat.reduceAdd, Nat.reduceSub, Nat.reduceMul, Nat.reduceEqDiff, Nat.reduceLeDiff, Nat.reduceBEq, reduceIte, reduceCtorEq, Int.reduceLT, Int.reduceLE, Int.reduceNeg, Int.reduceEq, Int.reduceToNat, Int.reducePow, Nat.reducePow, Nat.reduceLT, IntKind.bits, hf32, e32, hf35, e35, hf59, e59, evP, toPrs_prs, toSps_sps, toInts_nil, em1, em2, Int.reduceDiv, Int.reduceMod]; (try simp (disch := omega) only [evA]); exact rfl)
      case s => ((try simp only [evU]); exact rfl)
      case hp => (first | exact True.intro | ((repeat' first | assumption | refine And.intro ?_ ?_ | intro hq) <;> first | exact True.intro | assumption | omega | (rw [hq]; rfl) | (simp; done) | (simp_all; done)) | (intro hg; simp at hg; (repeat' refine And.intro ?_ ?_) <;> first | exact True.intro | assumption | omega | exact fun h => h | (simp; done)))
    rw [evalL_nil]
    refine hK _ ?_
    clear hK K
    simp only [evU, St.keep, List.map_cons, look, reduceIte, Nat.reduceEqDiff]
    try show AWP _ _ _ _ _
    refine AWP.ret ?_
    refine ⟨.inl rfl, ⟨⟨_, rfl, ?_⟩, fun ob hob => by cases hob⟩⟩
    simp only [look, reduceIte, Nat.reduceEqDiff]
    exact sub1_of rfl
  simp only [evC, Int.not_lt] at hc
  refine AWP.skip ?_
  show AWP _ _ _ _ _
  have hi' := hc
  clear hc
  repeat refine AWP.nest ?_
  first | refine AWP.seq (AWP.block ?_) | refine AWP.block ?_
  repeat refine AWP.nest ?_
  first | refine AWP.rs (Gf_ok F38_ok) [] [0, 3, 4, 5, 6] (by rw [hN]; decide) fun K hK => ?_ | refine AWP.rn (Gf_ok F38_ok) [] [0, 3, 4, 5, 6] (by rw [hN]; decide) fun K hK => ?_
  repeat
    first | apply eL | (apply eG; (case ht => exact rfl); (case hef => exact rfl))
    case e => (simp only [evB, evG, evGR, Q.evalR, boolOf, opQ, opMove, opPick, opBin, opUn, opConv, opExtract, opNil, opAlloc, opBox, opBuild, opBuildSlice, opMakeSlice, opLoad, opStore, opSlice, opFieldAddr, opField, opIndexAddr, opIndex, opLen, opMinMax, opAppend, opAppendZ, opCall, opCallF, Q.opnd, Q.opndW, Q.eval, Q.ret, Q.elems, Q.cells, Q.parts, Q.args, Q.src, Q.optInt, intOf?, placeOf, fillA, setAll, mkAgg, datas, loadSel, ofCells, pickV, binI, binS, look, Value.oneCell', normD, smallNil, KD.known, KD.agg, T, TI.z, Dat.wd, Dat.cells, Dat.nagg, AV.ren, renL, AV.renT, AV.hi, AV.hi1, Ob.isRow, Ob.inn, Ob.out, Ob.gam, Ob.data, Ob.alike, loL, Gf, Mu, Dat.flat, Dat.isV, List.contains, List.elem, Option.isSome, Nat.reduceAdd, Nat.reduceSub, Nat.reduceMul, Nat.reduceEqDiff, Nat.reduceLeDiff, Nat.reduceBEq, reduceIte, reduceCtorEq, Int.reduceLT, Int.reduceLE, Int.reduceNeg, Int.reduceEq, Int.reduceToNat, Int.reducePow, Nat.reducePow, Nat.reduceLT, IntKind.bits, hf32, e32, hf35, e35, hf59, e59, evP, toPrs_prs, toSps_sps, toInts_nil]; (try simp (disch := omega) only [evA]); exact rfl)
    case s => ((try simp only [evU]); exact rfl)
    case hp => (first | exact True.intro | ((repeat' first | assumption | refine And.intro ?_ ?_ | intro hq) <;> first | exact True.intro | assumption | omega | (rw [hq]; rfl) | (simp; done) | (simp_all; done)) | (intro hg; simp at hg; (repeat' refine And.intro ?_ ?_) <;> first | exact True.intro | assumption | omega | exact fun h => h | (simp; done)))
  rw [evalL_nil]
  refine hK _ ?_
  clear hK K
  simp only [evU, St.keep, List.map_cons, look, reduceIte, Nat.reduceEqDiff]
  try show AWP _ _ _ _ _
  repeat refine AWP.nest ?_
  first | refine AWP.seq (AWP.block ?_) | refine AWP.block ?_
  refine AWP.loop (fun k st => ∃ (d : Nat), i + d < l.length ∧ (∀ q, i < q → q ≤ i + d → Con l q) ∧ k = l.length - (i + d) ∧ st = ⟨[(0, .d false (.sl 2 (prs9 l))), (3, .d true (.sl 1 (ints .u8 (encS (runsTo l i))))), (4, .d true (.v (.int .i64 ((runsTo l i).length : Int)))), (5, .d true (.v (.int .i64 (i : Int)))), (6, .d true (.v (.int .i64 ((i + d : Nat) : Int))))], []⟩) (l.length - i) ?_ ?_
  · exact ⟨0, by omega, fun q h1 h2 => by omega, rfl, rfl⟩
  rintro k2 st ⟨d, hd, hcon, hk2, rfl⟩
  have hx1 : 0 ≤ (l.getD (i + d) (0, 0)).1 ∧ (l.getD (i + d) (0, 0)).1 ≤ 1114111 := ⟨(rises_at hr hd).1, (rises_at hr hd).2.1⟩
  have hy1 : 0 ≤ (l.getD (i + d) (0, 0)).2 ∧ (l.getD (i + d) (0, 0)).2 ≤ 65535 := ⟨(hp (i + d)).2.2.1, (hp (i + d)).2.2.2⟩
  have e1 : (((i + d : Nat) : Int) + 1).toNat = i + d + 1 := by omega
  repeat refine AWP.nest ?_
  first | refine AWP.rd (Gf_ok F38_ok) [] [0, 3, 4, 5, 6, 46] Try.mixed (by rw [hN]; decide) fun K hK => ?_ | refine AWP.dn (Gf_ok F38_ok) [] [0, 3, 4, 5, 6, 46] Try.mixed (by rw [hN]; decide) fun K hK => ?_
  repeat
    first | apply eD | (apply eDG; (case ht => exact rfl); (case hef => exact rfl))
    case e => (simp only [evB, evG, evGR, Q.evalR, boolOf, opQ, opMove, opPick, opBin, opUn, opConv, opExtract, opNil, opAlloc, opBox, opBuild, opBuildSlice, opMakeSlice, opLoad, opStore, opSlice, opFieldAddr, opField, opIndexAddr, opIndex, opLen, opMinMax, opAppend, opAppendZ, opCall, opCallF, Q.opnd, Q.opndW, Q.eval, Q.ret, Q.elems, Q.cells, Q.parts, Q.args, Q.src, Q.optInt, intOf?, placeOf, fillA, setAll, mkAgg, datas, loadSel, ofCells, pickV, binI, binS, look, Value.oneCell', normD, smallNil, KD.known, KD.agg, T, TI.z, Dat.wd, Dat.cells, Dat.nagg, AV.ren, renL, AV.renT, AV.hi, AV.hi1, Ob.isRow, Ob.inn, Ob.out, Ob.gam, Ob.data, Ob.alike, loL, Gf, Mu, Dat.flat, Dat.isV, List.contains, List.elem, Option.isSome, Nat.reduceAdd, Nat.reduceSub, Nat.reduceMul, Nat.reduceEqDiff, Nat.reduceLeDiff, Nat.reduceBEq, reduceIte, reduceCtorEq, Int.reduceLT, Int.reduceLE, Int.reduceNeg, Int.reduceEq, Int.reduceToNat, Int.reducePow, Nat.reducePow, Nat.reduceLT, IntKind.bits, hf32, e32, hf35, e35, hf59, e59, evP, toPrs_prs, toSps_sps, toInts_nil, e1]; (try simp (disch := omega) only [evA]); exact rfl)
    case s => ((try simp only [evU]); exact rfl)
    all_goals try (case hw => (first | exact wrs_nil | exact rfl))
    all_goals try (case hf => exact rfl)
    case hp => (first | exact True.intro | ((repeat' first | assumption | refine And.intro ?_ ?_ | intro hq) <;> first | exact True.intro | assumption | omega | (rw [hq]; rfl) | (simp; done) | (simp_all; done)) | (intro hg; simp at hg; (repeat' refine And.intro ?_ ?_) <;> first | exact True.intro | assumption | omega | exact fun h => h | (simp; done)))
  refine evalD_done (by kernel_rfl) ?_
  refine hK _ ?_
  clear hK K
  simp only [evU, St.keep, List.map_cons, look, reduceIte, Nat.reduceEqDiff]
  try show AWP _ _ _ _ _
  first | refine AWP.seq (AWP.cond (b := _) rfl (fun hc => ?_) (fun hc => ?_)) | refine AWP.cond (b := _) rfl (fun hc => ?_) (fun hc => ?_)
  rotate_left
  · refine AWP.exit ?_
    show AWP _ _ _ _ _
    simp only [evC, Int.not_lt] at hc
    have hst : i + d + 1 < l.length → ¬(0 < i + d + 1 ∧ Con l (i + d + 1)) := fun h1 h2 => by
      have h3 := h2.2
      unfold Con cd gl at h3
      simp only [Nat.add_sub_cancel] at h3
      omega
    have hR := run_to (hs hi') d hcon
    have hE := encS_len (runsTo l i)
    have hEb := encS_byt ho1
    have hi0 : 0 ≤ (l.getD i (0, 0)).1 ∧ (l.getD i (0, 0)).1 ≤ 1114111 := ⟨(rises_at hr hi').1, (rises_at hr hi').2.1⟩
    have hg0 : 0 ≤ (l.getD i (0, 0)).2 ∧ (l.getD i (0, 0)).2 ≤ 65535 := ⟨(hp i).2.2.1, (hp i).2.2.2⟩
    have em1 : (l.getD i (0, 0)).1 % 4294967296 = (l.getD i (0, 0)).1 := by omega
    have em2 : (l.getD i (0, 0)).2 % 4294967296 = (l.getD i (0, 0)).2 := by omega
    have em3 : (l.getD (i + d) (0, 0)).1 % 4294967296 = (l.getD (i + d) (0, 0)).1 := by omega
    clear hc
    repeat refine AWP.nest ?_
    first | refine AWP.rd (Gf_ok F38_ok) [] [0, 3, 4, 6] Try.mixed (by rw [hN]; decide) fun K hK => ?_ | refine AWP.dn (Gf_ok F38_ok) [] [0, 3, 4, 6] Try.mixed (by rw [hN]; decide) fun K hK => ?_
    repeat
      first | apply eD | (apply eDG; (case ht => exact rfl); (case hef => exact rfl))
      case e => (simp only [evB, evG, evGR, Q.evalR, boolOf, opQ, opMove, opPick, opBin, opUn, opConv, opExtract, opNil, opAlloc, opBox, opBuild, opBuildSlice, opMakeSlice, opLoad, opStore, opSlice, opFieldAddr, opField, opIndexAddr, opIndex, opLen, opMinMax, opAppend, opAppendZ, opCall, opCallF, Q.opnd, Q.opndW, Q.eval, Q.ret, Q.elems, Q.cells, Q.parts, Q.args, Q.src, Q.optInt, intOf?, placeOf, fillA, setAll, mkAgg, datas, loadSel, ofCells, pickV, binI, binS, look, Value.oneCell', normD, smallNil, KD.known, KD.agg, T, TI.z, Dat.wd, Dat.cells, Dat.nagg, AV.ren, renL, AV.renT, AV.hi, AV.hi1, Ob.isRow, Ob.inn, Ob.out, Ob.gam, Ob.data, Ob.alike, loL, Gf, Mu, Dat.flat, Dat.isV, List.contains, List.elem, Option.isSome, Nat.reduceAdd, Nat.reduceSub, Nat.reduceMul, Nat.reduceEqDiff, Nat.reduceLeDiff, Nat.reduceBEq, reduceIte, reduceCtorEq, Int.reduceLT, Int.reduceLE, Int.reduceNeg, Int.reduceEq, Int.reduceToNat, Int.reducePow, Nat.reducePow, Nat.reduceLT, IntKind.bits, hf32, e32, hf35, e35, hf59, e59, evP, toPrs_prs, toSps_sps, toInts_nil, em1, em2, em3]; (try simp (disch := omega) only [evA]); exact rfl)
      case s => ((try simp only [evU]); exact rfl)
      all_goals try (case hw => (first | exact wrs_nil | exact rfl))
      all_goals try (case hf => exact rfl)
      case hp => (first | exact True.intro | ((repeat' first | assumption | refine And.intro ?_ ?_ | intro hq) <;> first | exact True.intro | assumption | omega | (rw [hq]; rfl) | (simp; done) | (simp_all; done)) | (intro hg; simp at hg; (repeat' refine And.intro ?_ ?_) <;> first | exact True.intro | assumption | omega | exact fun h => h | (simp; done)))
    refine evalD_done (by kernel_rfl) ?_
    refine hK _ ?_
    clear hK K
    simp only [evU, St.keep, List.map_cons, look, reduceIte, Nat.reduceEqDiff]
    try show AWP _ _ _ _ _
    repeat refine AWP.nest ?_
    first | refine AWP.rs (Gf_ok F38_ok) [] [0, 3, 4, 6] (by rw [hN]; decide) fun K hK => ?_ | refine AWP.rn (Gf_ok F38_ok) [] [0, 3, 4, 6] (by rw [hN]; decide) fun K hK => ?_
    repeat
      first | apply eL | (apply eG; (case ht => exact rfl); (case hef => exact rfl))
      case e => (simp only [evB, evG, evGR, Q.evalR, boolOf, opQ, opMove, opPick, opBin, opUn, opConv, opExtract, opNil, opAlloc, opBox, opBuild, opBuildSlice, opMakeSlice, opLoad, opStore, opSlice, opFieldAddr, opField, opIndexAddr, opIndex, opLen, opMinMax, opAppend, opAppendZ, opCall, opCallF, Q.opnd, Q.opndW, Q.eval, Q.ret, Q.elems, Q.cells, Q.parts, Q.args, Q.src, Q.optInt, intOf?, placeOf, fillA, setAll, mkAgg, datas, loadSel, ofCells, pickV, binI, binS, look, Value.oneCell', normD, smallNil, KD.known, KD.agg, T, TI.z, Dat.wd, Dat.cells, Dat.nagg, AV.ren, renL, AV.renT, AV.hi, AV.hi1, Ob.isRow, Ob.inn, Ob.out, Ob.gam, Ob.data, Ob.alike, loL, Gf, Mu, Dat.flat, Dat.isV, List.contains, List.elem, Option.isSome, Nat.reduceAdd, Nat.reduceSub, Nat.reduceMul, Nat.reduceEqDiff, Nat.reduceLeDiff, Nat.reduceBEq, reduceIte, reduceCtorEq, Int.reduceLT, Int.reduceLE, Int.reduceNeg, Int.reduceEq, Int.reduceToNat, Int.reducePow, Nat.reducePow, Nat.reduceLT, IntKind.bits, hf32, e32, hf35, e35, hf59, e59, evP, toPrs_prs, toSps_sps, toInts_nil]; (try simp (disch := omega) only [evA]); exact rfl)
      case s => ((try simp only [evU]); exact rfl)
      case hp => (first | exact True.intro | ((repeat' first | assumption | refine And.intro ?_ ?_ | intro hq) <;> first | exact True.intro | assumption | omega | (rw [hq]; rfl) | (simp; done) | (simp_all; done)) | (intro hg; simp at hg; (repeat' refine And.intro ?_ ?_) <;> first | exact True.intro | assumption | omega | exact fun h => h | (simp; done)))
    rw [evalL_nil]
    refine hK _ ?_
    clear hK K
    simp only [evU, St.keep, List.map_cons, look, reduceIte, Nat.reduceEqDiff]
    try show AWP _ _ _ _ _
    repeat refine AWP.nest ?_
    first | refine AWP.rs (Gf_ok F38_ok) [] [0, 3, 4, 5] (by rw [hN]; decide) fun K hK => ?_ | refine AWP.rn (Gf_ok F38_ok) [] [0, 3, 4, 5] (by rw [hN]; decide) fun K hK => ?_
    repeat
      first | apply eL | (apply eG; (case ht => exact rfl); (case hef => exact rfl))
      case e => (simp only [evB, evG, evGR, Q.evalR, boolOf, opQ, opMove, opPick, opBin, opUn, opConv, opExtract, opNil, opAlloc, opBox, opBuild, opBuildSlice, opMakeSlice, opLoad, opStore, opSlice, opFieldAddr, opField, opIndexAddr, opIndex, opLen, opMinMax, opAppend, opAppendZ, opCall, opCallF, Q.opnd, Q.opndW, Q.eval, Q.ret, Q.elems, Q.cells, Q.parts, Q.args, Q.src, Q.optInt, intOf?, placeOf, fillA, setAll, mkAgg, datas, loadSel, ofCells, pickV, binI, binS, look, Value.oneCell', normD, smallNil, KD.known, KD.agg, T, TI.z, Dat.wd, Dat.cells, Dat.nagg, AV.ren, renL, AV.renT, AV.hi, AV.hi1, Ob.isRow, Ob.inn, Ob.out, Ob.gam, Ob.data, Ob.alike, loL, Gf, Mu, Dat.flat, Dat.isV, List.contains, List.elem, Option.isSome, Nat.reduceAdd, Nat.reduceSub, Nat.reduceMul, Nat.reduceEqDiff, Nat.reduceLeDiff, Nat.reduceBEq, reduceIte, reduceCtorEq, Int.reduceLT, Int.reduceLE, Int.reduceNeg, Int.reduceEq, Int.reduceToNat, Int.reducePow, Nat.reducePow, Nat.reduceLT, IntKind.bits, hf32, e32, hf35, e35, hf59, e59, evP, toPrs_prs, toSps_sps, toInts_nil]; (try simp (disch := omega) only [evA]); exact rfl)
      case s => ((try simp only [evU]); exact rfl)
      case hp => (first | exact True.intro | ((repeat' first | assumption | refine And.intro ?_ ?_ | intro hq) <;> first | exact True.intro | assumption | omega | (rw [hq]; rfl) | (simp; done) | (simp_all; done)) | (intro hg; simp at hg; (repeat' refine And.intro ?_ ?_) <;> first | exact True.intro | assumption | omega | exact fun h => h | (simp; done)))
    rw [evalL_nil]
    refine hK _ ?_
    clear hK K
    simp only [evU, St.keep, List.map_cons, look, reduceIte, Nat.reduceEqDiff]
    try show AWP _ _ _ _ _
    refine ⟨l.length - (i + d + 1), by omega, i + d + 1, by omega, hst, rfl, ?_⟩
    rw [hR, encS_snoc, List.length_append]
    rfl
  simp only [evC, Int.not_lt] at hc
  refine AWP.skip ?_
  show AWP _ _ _ _ _
  repeat refine AWP.nest ?_
  first | refine AWP.seq (AWP.block ?_) | refine AWP.block ?_
  repeat refine AWP.nest ?_
  first | refine AWP.rs (Gf_ok F38_ok) [] [0, 3, 4, 5, 6] (by rw [hN]; decide) fun K hK => ?_ | refine AWP.rn (Gf_ok F38_ok) [] [0, 3, 4, 5, 6] (by rw [hN]; decide) fun K hK => ?_
  repeat
    first | apply eL | (apply eG; (case ht => exact rfl); (case hef => exact rfl))
    case e => (simp only [evB, evG, evGR, Q.evalR, boolOf, opQ, opMove, opPick, opBin, opUn, opConv, opExtract, opNil, opAlloc, opBox, opBuild, opBuildSlice, opMakeSlice, opLoad, opStore, opSlice, opFieldAddr, opField, opIndexAddr, opIndex, opLen, opMinMax, opAppend, opAppendZ, opCall, opCallF, Q.opnd, Q.opndW, Q.eval, Q.ret, Q.elems, Q.cells, Q.parts, Q.args, Q.src, Q.optInt, intOf?, placeOf, fillA, setAll, mkAgg, datas, loadSel, ofCells, pickV, binI, binS, look, Value.oneCell', normD, smallNil, KD.known, KD.agg, T, TI.z, Dat.wd, Dat.cells, Dat.nagg, AV.ren, renL, AV.renT, AV.hi, AV.hi1, Ob.isRow, Ob.inn, Ob.out, Ob.gam, Ob.data, Ob.alike, loL, Gf, Mu, Dat.flat, Dat.isV, List.contains, List.elem, Option.isSome, Nat.reduceAdd, Nat.reduceSub, Nat.reduceMul, Nat.reduceEqDiff, Nat.reduceLeDiff, Nat.reduceBEq, reduceIte, reduceCtorEq, Int.reduceLT, Int.reduceLE, Int.reduceNeg, Int.reduceEq, Int.reduceToNat, Int.reducePow, Nat.reducePow, Nat.reduceLT, IntKind.bits, hf32, e32, hf35, e35, hf59, e59, evP, toPrs_prs, toSps_sps, toInts_nil]; (try simp (disch := omega) only [evA]); exact rfl)
    case s => ((try simp only [evU]); exact rfl)
    case hp => (first | exact True.intro | ((repeat' first | assumption | refine And.intro ?_ ?_ | intro hq) <;> first | exact True.intro | assumption | omega | (rw [hq]; rfl) | (simp; done) | (simp_all; done)) | (intro hg; simp at hg; (repeat' refine And.intro ?_ ?_) <;> first | exact True.intro | assumption | omega | exact fun h => h | (simp; done)))
  rw [evalL_nil]
  refine hK _ ?_
  clear hK K
  simp only [evU, St.keep, List.map_cons, look, reduceIte, Nat.reduceEqDiff]
  try show AWP _ _ _ _ _
  refine ⟨l.length - (i + (d + 1)), by omega, d + 1, by omega, fun q h1 h2 => ?_, rfl, rfl⟩
  by_cases e : q ≤ i + d
  · exact hcon q h1 e
  · obtain rfl : q = i + d + 1 := by omega
    unfold Con cd gl
    simp only [Nat.add_sub_cancel]
    omega
def e44 : List AV → Option Ob → Option Res := fun args i => match args, i with
  | [.d false (.sl 2 xs)], none => some ⟨xs = prs9 (toPrs xs) ∧ risesB (toPrs xs) 1114111 = true ∧ PrOK (toPrs xs) ∧ (toPrs xs).length ≤ 1000000, .d true (.sl 1 (ints .u8 (tabG (runsTo (toPrs xs) (toPrs xs).length)))), none⟩
  | _, _ => none
def F39 : FT := F38.upd 44 e44
theorem F39_ok : FOK Try.prog F39 := FOK.upd F38_ok Try.func44 (by kernel_rfl) rfl fun args i R h => by
  unfold e44 at h
  split at h
  · rename_i xs
    cases h
    refine Spec.pre fun h => ?_
    have := s44 (toPrs xs) h.2.1 h.2.2.1 h.2.2.2
    rw [← h.1] at this
    exact this
  · cases h
/-- What rising makes. -/
theorem rsg_at {md lim : Int} (hm : 0 < md) {k : Nat} {a : Int} {gs hs : List Int} (hh : W16 hs) (ha : -1 ≤ a) (hl : lim ≤ 2147483647) : ∀ i, i < (rsg md lim k a gs hs).length → a < cd (rsg md lim k a gs hs) i ∧ cd (rsg md lim k a gs hs) i ≤ lim ∧ 0 ≤ gl (rsg md lim k a gs hs) i ∧ gl (rsg md lim k a gs hs) i ≤ 65535 ∧ (0 < i → cd (rsg md lim k a gs hs) (i - 1) < cd (rsg md lim k a gs hs) i) := by
  induction k generalizing a gs hs with
  | zero => intro i hi; exact absurd hi (Nat.not_lt_zero _)
  | succ k ih =>
    cases gs with
    | nil => intro i hi; exact absurd hi (Nat.not_lt_zero _)
    | cons g gs =>
      cases hs with
      | nil => intro i hi; exact absurd hi (Nat.not_lt_zero _)
      | cons h hs =>
        intro i hi
        have h0 := hh h (by simp)
        have hm0 := Int.emod_nonneg g (show md ≠ 0 by omega)
        simp only [rsg] at hi ⊢
        by_cases hc : a + (1 + g % md) > lim
        · rw [if_pos hc] at hi; exact absurd hi (Nat.not_lt_zero _)
        · rw [if_neg hc] at hi ⊢
          have ih2 := ih (a := a + (1 + g % md)) (gs := gs) (hs := hs) (fun x hx => hh x (by simp [hx])) (by omega)
          cases i with
          | zero => simp only [cd, gl, List.getD_cons_zero]; omega
          | succ i =>
            have := ih2 i (by simpa using hi)
            refine ⟨?_, ?_, ?_, ?_, fun _ => ?_⟩
            · simp only [cd, gl, List.getD_cons_succ] at this ⊢; omega
            · simp only [cd, gl, List.getD_cons_succ] at this ⊢; omega
            · simp only [cd, gl, List.getD_cons_succ] at this ⊢; omega
            · simp only [cd, gl, List.getD_cons_succ] at this ⊢; omega
            · cases i with
              | zero => simp only [cd, gl, List.getD_cons_succ, Nat.add_sub_cancel, List.getD_cons_zero] at this ⊢; omega
              | succ i => 
                simp only [cd, gl, List.getD_cons_succ, Nat.add_sub_cancel] at this ⊢; exact this.2.2.2.2 (by omega)
theorem rsg_rises {md lim : Int} (hm : 0 < md) {k : Nat} {a : Int} {gs hs : List Int} (hh : W16 hs) (ha : -1 ≤ a) (hl : lim ≤ 2147483647) : risesB (rsg md lim k a gs hs) lim = true := by
  simp only [risesB, List.all_eq_true, List.mem_range]
  intro i hi
  have := rsg_at hm hh ha hl i hi
  simp only [cnd, Bool.and_eq_true, Bool.or_eq_true, decide_eq_true_eq]
  omega
theorem rsg_ok {md lim : Int} (hm : 0 < md) {k : Nat} {a : Int} {gs hs : List Int} (hh : W16 hs) (ha : -1 ≤ a) (hl : lim ≤ 2147483647) : PrOK (rsg md lim k a gs hs) := fun i => by
  by_cases hi : i < (rsg md lim k a gs hs).length
  · have := rsg_at hm hh ha hl i hi; omega
  · simp only [cd, gl, List.getD_eq_getElem?_getD, List.getElem?_eq_none (show (rsg md lim k a gs hs).length ≤ i by omega), Option.getD_none]; omega
theorem rsg_len {md lim : Int} {k : Nat} {a : Int} {gs hs : List Int} : (rsg md lim k a gs hs).length ≤ k := by
  induction k generalizing a gs hs with
  | zero => exact Nat.le_refl _
  | succ k ih =>
    cases gs with
    | nil => exact Nat.zero_le _
    | cons g gs =>
      cases hs with
      | nil => exact Nat.zero_le _
      | cons h hs =>
        simp only [rsg]
        split
        · exact Nat.zero_le _
        · simp only [List.length_cons]; have := ih (a := a + (1 + g % md)) (gs := gs) (hs := hs); omega
end Go.AM

