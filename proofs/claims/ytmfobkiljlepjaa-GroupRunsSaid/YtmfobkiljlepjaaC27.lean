/- AM: GroupRuns. -/
import Derived.Test.YtmfobkiljlepjaaG4
set_option maxRecDepth 100000
set_option maxHeartbeats 8000000
set_option linter.unusedSimpArgs false
set_option linter.unusedVariables false
namespace Go.AM
open Go Go.Proofs

theorem lk_miss {p : Int × Int} {c : Int} (h : p.1 ≠ c) : lkP [p] c = 0 := by
  show (if p.1 = c then p.2 else 0) = 0
  rw [if_neg h]
theorem lk_seq0 {a g : Int} {k : Nat} (c : Int) : lkP (seqP a g k) c = if a ≤ c ∧ c < a + k then g + (c - a) else 0 := by
  have := lk_seq (a := a) (g := g) (k := k) c []
  rwa [List.append_nil] at this
theorem runs_seq0 {a g : Int} {k : Nat} (hk : 0 < k) : runsTo (seqP a g k) k = [(a, a + (k - 1 : Nat), g)] := by
  obtain ⟨j, rfl⟩ : ∃ j, k = j + 1 := ⟨k - 1, by omega⟩
  have := runs_seq (a := a) (g := g) (k := j + 1) [] j (by omega)
  rwa [List.append_nil] at this

theorem s12 (s g n : Int) (gap : Bool) (hs0 : 0 ≤ s) (hs1 : s < 4294967296) (hg0 : 0 ≤ g) (hg1 : g < 65536) (hn0 : 0 ≤ n) (hn1 : n < 256) : Spec Try.prog 12 [.d true (.v (.int .u32 s)), .d true (.v (.int .u16 g)), .d true (.v (.int .u8 n)), .d true (.v (.bool gap))] none ⟨True, .d true (.v (.bool true)), none⟩ := by
  have hf40 : F39 40 = e40 := rfl
  have hf42 : F39 42 = e42 := rfl
  have hf43 : F39 43 = e43 := rfl
  have hf45 : F39 45 = e45 := rfl
  have hf46 : F39 46 = e46 := rfl
  refine spec_of_awp (Gf_ok F39_ok) Try.func12 rfl (Nat.le_of_ble_eq_true rfl) fun E hps hN _ => ?_
  simp only [begin, List.zipIdx_cons, List.zipIdx_nil, List.map_cons, List.map_nil, Option.toList, Nat.zero_add, Nat.reduceAdd]
  repeat refine AWP.nest ?_
  first | refine AWP.rs (Gf_ok F39_ok) [] [0, 1, 2, 3] (by rw [hN]; decide) fun K hK => ?_ | refine AWP.rn (Gf_ok F39_ok) [] [0, 1, 2, 3] (by rw [hN]; decide) fun K hK => ?_
  repeat
    first | apply eL | (apply eG; (case ht => exact rfl); (case hef => exact rfl))
    case e => (simp only [evB, evG, evGR, Q.evalR, boolOf, opQ, opMove, opPick, opBin, opUn, opConv, opExtract, opNil, opAlloc, opBox, opBuild, opBuildSlice, opMakeSlice, opLoad, opStore, opSlice, opFieldAddr, opField, opIndexAddr, opIndex, opLen, opMinMax, opAppend, opAppendZ, opCall, opCallF, Q.opnd, Q.opndW, Q.eval, Q.ret, Q.elems, Q.cells, Q.parts, Q.args, Q.src, Q.optInt, intOf?, placeOf, fillA, setAll, mkAgg, datas, loadSel, ofCells, pickV, binI, binS, look, Value.oneCell', normD, smallNil, KD.known, KD.agg, T, TI.z, Dat.wd, Dat.cells, Dat.nagg, AV.ren, renL, AV.renT, AV.hi, AV.hi1, Ob.isRow, Ob.inn, Ob.out, Ob.gam, Ob.data, Ob.alike, loL, Gf, Mu, Dat.flat, Dat.isV, List.contains, List.elem, Option.isSome, Nat.reduceAdd, Nat.reduceSub, Nat.reduceMul, Nat.reduceEqDiff, Nat.reduceLeDiff, Nat.reduceBEq, reduceIte, reduceCtorEq, Int.reduceLT, Int.reduceLE, Int.reduceNeg, Int.reduceEq, Int.reduceToNat, Int.reducePow, Nat.reducePow, Nat.reduceLT, IntKind.bits, hf40, e40, hf42, e42, hf43, e43, hf45, e45, hf46, e46, evP, toPrs_prs, toSps_sps, toInts_nil, toInts_ints]; (try simp (disch := omega) only [evA]); exact rfl)
    case s => ((try simp only [evU]); exact rfl)
    case hp => (first | exact True.intro | ((repeat' first | assumption | refine And.intro ?_ ?_ | intro hq) <;> first | exact True.intro | assumption | omega | (rw [hq]; rfl) | (simp; done) | (simp_all; done)) | (intro hg; simp at hg; (repeat' refine And.intro ?_ ?_) <;> first | exact True.intro | assumption | omega | exact fun h => h | (simp; done)))
  rw [evalL_nil]
  refine hK _ ?_
  clear hK K
  simp only [evU, St.keep, List.map_cons, look, reduceIte, Nat.reduceEqDiff]
  try show AWP _ _ _ _ _
  repeat refine AWP.nest ?_
  first | refine AWP.rs (Gf_ok F39_ok) [] [0, 1, 2, 3, 17] (by rw [hN]; decide) fun K hK => ?_ | refine AWP.rn (Gf_ok F39_ok) [] [0, 1, 2, 3, 17] (by rw [hN]; decide) fun K hK => ?_
  repeat
    first | apply eL | (apply eG; (case ht => exact rfl); (case hef => exact rfl))
    case e => (simp only [evB, evG, evGR, Q.evalR, boolOf, opQ, opMove, opPick, opBin, opUn, opConv, opExtract, opNil, opAlloc, opBox, opBuild, opBuildSlice, opMakeSlice, opLoad, opStore, opSlice, opFieldAddr, opField, opIndexAddr, opIndex, opLen, opMinMax, opAppend, opAppendZ, opCall, opCallF, Q.opnd, Q.opndW, Q.eval, Q.ret, Q.elems, Q.cells, Q.parts, Q.args, Q.src, Q.optInt, intOf?, placeOf, fillA, setAll, mkAgg, datas, loadSel, ofCells, pickV, binI, binS, look, Value.oneCell', normD, smallNil, KD.known, KD.agg, T, TI.z, Dat.wd, Dat.cells, Dat.nagg, AV.ren, renL, AV.renT, AV.hi, AV.hi1, Ob.isRow, Ob.inn, Ob.out, Ob.gam, Ob.data, Ob.alike, loL, Gf, Mu, Dat.flat, Dat.isV, List.contains, List.elem, Option.isSome, Nat.reduceAdd, Nat.reduceSub, Nat.reduceMul, Nat.reduceEqDiff, Nat.reduceLeDiff, Nat.reduceBEq, reduceIte, reduceCtorEq, Int.reduceLT, Int.reduceLE, Int.reduceNeg, Int.reduceEq, Int.reduceToNat, Int.reducePow, Nat.reducePow, Nat.reduceLT, IntKind.bits, hf40, e40, hf42, e42, hf43, e43, hf45, e45, hf46, e46, evP, toPrs_prs, toSps_sps, toInts_nil, toInts_ints]; (try simp (disch := omega) only [evA]); exact rfl)
    case s => ((try simp only [evU]); exact rfl)
    case hp => (first | exact True.intro | ((repeat' first | assumption | refine And.intro ?_ ?_ | intro hq) <;> first | exact True.intro | assumption | omega | (rw [hq]; rfl) | (simp; done) | (simp_all; done)) | (intro hg; simp at hg; (repeat' refine And.intro ?_ ?_) <;> first | exact True.intro | assumption | omega | exact fun h => h | (simp; done)))
  rw [evalL_nil]
  refine hK _ ?_
  clear hK K
  simp only [evU, St.keep, List.map_cons, look, reduceIte, Nat.reduceEqDiff]
  try show AWP _ _ _ _ _
  repeat refine AWP.nest ?_
  first | refine AWP.seq (AWP.cond (b := _) rfl (fun hc => ?_) (fun hc => ?_)) | refine AWP.cond (b := _) rfl (fun hc => ?_) (fun hc => ?_)
  all_goals try simp only [evC] at hc
  · cases hc
  refine AWP.skip ?_
  show AWP _ _ _ _ _
  clear hc
  repeat refine AWP.nest ?_
  first | refine AWP.rs (Gf_ok F39_ok) [] [1, 3, 9, 10] (by rw [hN]; decide) fun K hK => ?_ | refine AWP.rn (Gf_ok F39_ok) [] [1, 3, 9, 10] (by rw [hN]; decide) fun K hK => ?_
  repeat
    first | apply eL | (apply eG; (case ht => exact rfl); (case hef => exact rfl))
    case e => (simp only [evB, evG, evGR, Q.evalR, boolOf, opQ, opMove, opPick, opBin, opUn, opConv, opExtract, opNil, opAlloc, opBox, opBuild, opBuildSlice, opMakeSlice, opLoad, opStore, opSlice, opFieldAddr, opField, opIndexAddr, opIndex, opLen, opMinMax, opAppend, opAppendZ, opCall, opCallF, Q.opnd, Q.opndW, Q.eval, Q.ret, Q.elems, Q.cells, Q.parts, Q.args, Q.src, Q.optInt, intOf?, placeOf, fillA, setAll, mkAgg, datas, loadSel, ofCells, pickV, binI, binS, look, Value.oneCell', normD, smallNil, KD.known, KD.agg, T, TI.z, Dat.wd, Dat.cells, Dat.nagg, AV.ren, renL, AV.renT, AV.hi, AV.hi1, Ob.isRow, Ob.inn, Ob.out, Ob.gam, Ob.data, Ob.alike, loL, Gf, Mu, Dat.flat, Dat.isV, List.contains, List.elem, Option.isSome, Nat.reduceAdd, Nat.reduceSub, Nat.reduceMul, Nat.reduceEqDiff, Nat.reduceLeDiff, Nat.reduceBEq, reduceIte, reduceCtorEq, Int.reduceLT, Int.reduceLE, Int.reduceNeg, Int.reduceEq, Int.reduceToNat, Int.reducePow, Nat.reducePow, Nat.reduceLT, IntKind.bits, hf40, e40, hf42, e42, hf43, e43, hf45, e45, hf46, e46, evP, toPrs_prs, toSps_sps, toInts_nil, toInts_ints]; (try simp (disch := omega) only [evA]); exact rfl)
    case s => ((try simp only [evU]); exact rfl)
    case hp => (first | exact True.intro | ((repeat' first | assumption | refine And.intro ?_ ?_ | intro hq) <;> first | exact True.intro | assumption | omega | (rw [hq]; rfl) | (simp; done) | (simp_all; done)) | (intro hg; simp at hg; (repeat' refine And.intro ?_ ?_) <;> first | exact True.intro | assumption | omega | exact fun h => h | (simp; done)))
  rw [evalL_nil]
  refine hK _ ?_
  clear hK K
  simp only [evU, St.keep, List.map_cons, look, reduceIte, Nat.reduceEqDiff]
  try show AWP _ _ _ _ _
  repeat refine AWP.nest ?_
  first | refine AWP.rs (Gf_ok F39_ok) [] [1, 3, 9, 10] (by rw [hN]; decide) fun K hK => ?_ | refine AWP.rn (Gf_ok F39_ok) [] [1, 3, 9, 10] (by rw [hN]; decide) fun K hK => ?_
  repeat
    first | apply eL | (apply eG; (case ht => exact rfl); (case hef => exact rfl))
    case e => (simp only [evB, evG, evGR, Q.evalR, boolOf, opQ, opMove, opPick, opBin, opUn, opConv, opExtract, opNil, opAlloc, opBox, opBuild, opBuildSlice, opMakeSlice, opLoad, opStore, opSlice, opFieldAddr, opField, opIndexAddr, opIndex, opLen, opMinMax, opAppend, opAppendZ, opCall, opCallF, Q.opnd, Q.opndW, Q.eval, Q.ret, Q.elems, Q.cells, Q.parts, Q.args, Q.src, Q.optInt, intOf?, placeOf, fillA, setAll, mkAgg, datas, loadSel, ofCells, pickV, binI, binS, look, Value.oneCell', normD, smallNil, KD.known, KD.agg, T, TI.z, Dat.wd, Dat.cells, Dat.nagg, AV.ren, renL, AV.renT, AV.hi, AV.hi1, Ob.isRow, Ob.inn, Ob.out, Ob.gam, Ob.data, Ob.alike, loL, Gf, Mu, Dat.flat, Dat.isV, List.contains, List.elem, Option.isSome, Nat.reduceAdd, Nat.reduceSub, Nat.reduceMul, Nat.reduceEqDiff, Nat.reduceLeDiff, Nat.reduceBEq, reduceIte, reduceCtorEq, Int.reduceLT, Int.reduceLE, Int.reduceNeg, Int.reduceEq, Int.reduceToNat, Int.reducePow, Nat.reducePow, Nat.reduceLT, IntKind.bits, hf40, e40, hf42, e42, hf43, e43, hf45, e45, hf46, e46, evP, toPrs_prs, toSps_sps, toInts_nil, toInts_ints]; (try simp (disch := omega) only [evA]); exact rfl)
    case s => ((try simp only [evU]); exact rfl)
    case hp => (first | exact True.intro | ((repeat' first | assumption | refine And.intro ?_ ?_ | intro hq) <;> first | exact True.intro | assumption | omega | (rw [hq]; rfl) | (simp; done) | (simp_all; done)) | (intro hg; simp at hg; (repeat' refine And.intro ?_ ?_) <;> first | exact True.intro | assumption | omega | exact fun h => h | (simp; done)))
  rw [evalL_nil]
  refine hK _ ?_
  clear hK K
  simp only [evU, St.keep, List.map_cons, look, reduceIte, Nat.reduceEqDiff]
  try show AWP _ _ _ _ _
  obtain ⟨k, hk⟩ : ∃ k : Nat, 1 + n % 60 = k := ⟨(1 + n % 60).toNat, by omega⟩
  rw [hk]
  have hk1 : 1 ≤ k ∧ k ≤ 60 := by omega
  have ha : 0 ≤ s % 1000000 ∧ s % 1000000 < 1000000 := by omega
  have hg : 0 ≤ g % 60000 ∧ g % 60000 < 60000 := by omega
  clear hk hn0 hn1 hs0 hs1 hg0 hg1
  generalize s % 1000000 = a at ha ⊢
  generalize g % 60000 = g at hg ⊢
  repeat refine AWP.nest ?_
  first | refine AWP.rs (Gf_ok F39_ok) [] [1, 3, 9, 10, 11] (by rw [hN]; decide) fun K hK => ?_ | refine AWP.rn (Gf_ok F39_ok) [] [1, 3, 9, 10, 11] (by rw [hN]; decide) fun K hK => ?_
  repeat
    first | apply eL | (apply eG; (case ht => exact rfl); (case hef => exact rfl))
    case e => (simp only [evB, evG, evGR, Q.evalR, boolOf, opQ, opMove, opPick, opBin, opUn, opConv, opExtract, opNil, opAlloc, opBox, opBuild, opBuildSlice, opMakeSlice, opLoad, opStore, opSlice, opFieldAddr, opField, opIndexAddr, opIndex, opLen, opMinMax, opAppend, opAppendZ, opCall, opCallF, Q.opnd, Q.opndW, Q.eval, Q.ret, Q.elems, Q.cells, Q.parts, Q.args, Q.src, Q.optInt, intOf?, placeOf, fillA, setAll, mkAgg, datas, loadSel, ofCells, pickV, binI, binS, look, Value.oneCell', normD, smallNil, KD.known, KD.agg, T, TI.z, Dat.wd, Dat.cells, Dat.nagg, AV.ren, renL, AV.renT, AV.hi, AV.hi1, Ob.isRow, Ob.inn, Ob.out, Ob.gam, Ob.data, Ob.alike, loL, Gf, Mu, Dat.flat, Dat.isV, List.contains, List.elem, Option.isSome, Nat.reduceAdd, Nat.reduceSub, Nat.reduceMul, Nat.reduceEqDiff, Nat.reduceLeDiff, Nat.reduceBEq, reduceIte, reduceCtorEq, Int.reduceLT, Int.reduceLE, Int.reduceNeg, Int.reduceEq, Int.reduceToNat, Int.reducePow, Nat.reducePow, Nat.reduceLT, IntKind.bits, hf40, e40, hf42, e42, hf43, e43, hf45, e45, hf46, e46, evP, toPrs_prs, toSps_sps, toInts_nil, toInts_ints]; (try simp (disch := omega) only [evA]); exact rfl)
    case s => ((try simp only [evU]); exact rfl)
    case hp => (first | exact True.intro | ((repeat' first | assumption | refine And.intro ?_ ?_ | intro hq) <;> first | exact True.intro | assumption | omega | (rw [hq]; rfl) | (simp; done) | (simp_all; done)) | (intro hg; simp at hg; (repeat' refine And.intro ?_ ?_) <;> first | exact True.intro | assumption | omega | exact fun h => h | (simp; done)))
  rw [evalL_nil]
  refine hK _ ?_
  clear hK K
  simp only [evU, St.keep, List.map_cons, look, reduceIte, Nat.reduceEqDiff]
  try show AWP _ _ _ _ _
  repeat refine AWP.nest ?_
  first | refine AWP.rs (Gf_ok F39_ok) [] [1, 3, 9, 10, 11, 27, 28] (by rw [hN]; decide) fun K hK => ?_ | refine AWP.rn (Gf_ok F39_ok) [] [1, 3, 9, 10, 11, 27, 28] (by rw [hN]; decide) fun K hK => ?_
  repeat
    first | apply eL | (apply eG; (case ht => exact rfl); (case hef => exact rfl))
    case e => (simp only [evB, evG, evGR, Q.evalR, boolOf, opQ, opMove, opPick, opBin, opUn, opConv, opExtract, opNil, opAlloc, opBox, opBuild, opBuildSlice, opMakeSlice, opLoad, opStore, opSlice, opFieldAddr, opField, opIndexAddr, opIndex, opLen, opMinMax, opAppend, opAppendZ, opCall, opCallF, Q.opnd, Q.opndW, Q.eval, Q.ret, Q.elems, Q.cells, Q.parts, Q.args, Q.src, Q.optInt, intOf?, placeOf, fillA, setAll, mkAgg, datas, loadSel, ofCells, pickV, binI, binS, look, Value.oneCell', normD, smallNil, KD.known, KD.agg, T, TI.z, Dat.wd, Dat.cells, Dat.nagg, AV.ren, renL, AV.renT, AV.hi, AV.hi1, Ob.isRow, Ob.inn, Ob.out, Ob.gam, Ob.data, Ob.alike, loL, Gf, Mu, Dat.flat, Dat.isV, List.contains, List.elem, Option.isSome, Nat.reduceAdd, Nat.reduceSub, Nat.reduceMul, Nat.reduceEqDiff, Nat.reduceLeDiff, Nat.reduceBEq, reduceIte, reduceCtorEq, Int.reduceLT, Int.reduceLE, Int.reduceNeg, Int.reduceEq, Int.reduceToNat, Int.reducePow, Nat.reducePow, Nat.reduceLT, IntKind.bits, hf40, e40, hf42, e42, hf43, e43, hf45, e45, hf46, e46, evP, toPrs_prs, toSps_sps, toInts_nil, toInts_ints]; (try simp (disch := omega) only [evA]); exact rfl)
    case s => ((try simp only [evU]); exact rfl)
    case hp => (first | exact True.intro | ((repeat' first | assumption | refine And.intro ?_ ?_ | intro hq) <;> first | exact True.intro | assumption | omega | (rw [hq]; rfl) | (simp; done) | (simp_all; done)) | (intro hg; simp at hg; (repeat' refine And.intro ?_ ?_) <;> first | exact True.intro | assumption | omega | exact fun h => h | (simp; done)))
  rw [evalL_nil]
  refine hK _ ?_
  clear hK K
  simp only [evU, St.keep, List.map_cons, look, reduceIte, Nat.reduceEqDiff]
  try show AWP _ _ _ _ _
  refine AWP.adopt 11 55 2 (by decide) rfl ?_
  refine AWP.keep [1, 3, 9, 10, 11, 27, 28] ?_
  simp only [St.adopt, St.keep, List.map_cons, List.map_nil, look, reduceIte, Nat.reduceEqDiff, List.length_nil, List.nil_append]
  repeat refine AWP.nest ?_
  first | refine AWP.seq (AWP.block ?_) | refine AWP.block ?_
  refine AWP.loop (fun m st => ∃ (i : Nat), i ≤ k ∧ m = k - i ∧ st = ⟨[(1, .d true (.v (.int .u16 g))), (3, .d true (.v (.bool gap))), (9, .d true (.v (.int .i32 a))), (10, .d true (.v (.int .i64 (k : Int)))), (11, .own 0 i), (27, .d true (.v (.int .i64 (k : Int)))), (28, .d true (.v (.int .i64 (i : Int))))], [some (.row 55 2 i true (prs (seqP a g i)))]⟩) (k) ?_ ?_
  · exact ⟨0, Nat.zero_le _, rfl, rfl⟩
  rintro m st ⟨i, hi, hm, rfl⟩
  have hil := seqP_len a g i
  repeat refine AWP.nest ?_
  first | refine AWP.rs (Gf_ok F39_ok) [] [1, 3, 9, 10, 11, 27, 28, 29] (by rw [hN]; decide) fun K hK => ?_ | refine AWP.rn (Gf_ok F39_ok) [] [1, 3, 9, 10, 11, 27, 28, 29] (by rw [hN]; decide) fun K hK => ?_
  repeat
    first | apply eL | (apply eG; (case ht => exact rfl); (case hef => exact rfl))
    case e => (simp only [evB, evG, evGR, Q.evalR, boolOf, opQ, opMove, opPick, opBin, opUn, opConv, opExtract, opNil, opAlloc, opBox, opBuild, opBuildSlice, opMakeSlice, opLoad, opStore, opSlice, opFieldAddr, opField, opIndexAddr, opIndex, opLen, opMinMax, opAppend, opAppendZ, opCall, opCallF, Q.opnd, Q.opndW, Q.eval, Q.ret, Q.elems, Q.cells, Q.parts, Q.args, Q.src, Q.optInt, intOf?, placeOf, fillA, setAll, mkAgg, datas, loadSel, ofCells, pickV, binI, binS, look, Value.oneCell', normD, smallNil, KD.known, KD.agg, T, TI.z, Dat.wd, Dat.cells, Dat.nagg, AV.ren, renL, AV.renT, AV.hi, AV.hi1, Ob.isRow, Ob.inn, Ob.out, Ob.gam, Ob.data, Ob.alike, loL, Gf, Mu, Dat.flat, Dat.isV, List.contains, List.elem, Option.isSome, Nat.reduceAdd, Nat.reduceSub, Nat.reduceMul, Nat.reduceEqDiff, Nat.reduceLeDiff, Nat.reduceBEq, reduceIte, reduceCtorEq, Int.reduceLT, Int.reduceLE, Int.reduceNeg, Int.reduceEq, Int.reduceToNat, Int.reducePow, Nat.reducePow, Nat.reduceLT, IntKind.bits, hf40, e40, hf42, e42, hf43, e43, hf45, e45, hf46, e46, evP, toPrs_prs, toSps_sps, toInts_nil, toInts_ints]; (try simp (disch := omega) only [evA]); exact rfl)
    case s => ((try simp only [evU]); exact rfl)
    case hp => (first | exact True.intro | ((repeat' first | assumption | refine And.intro ?_ ?_ | intro hq) <;> first | exact True.intro | assumption | omega | (rw [hq]; rfl) | (simp; done) | (simp_all; done)) | (intro hg; simp at hg; (repeat' refine And.intro ?_ ?_) <;> first | exact True.intro | assumption | omega | exact fun h => h | (simp; done)))
  rw [evalL_nil]
  refine hK _ ?_
  clear hK K
  simp only [evU, St.keep, List.map_cons, look, reduceIte, Nat.reduceEqDiff]
  try show AWP _ _ _ _ _
  first | refine AWP.seq (AWP.cond (b := _) rfl (fun hc => ?_) (fun hc => ?_)) | refine AWP.cond (b := _) rfl (fun hc => ?_) (fun hc => ?_)
  rotate_left
  · refine AWP.exit ?_
    show AWP _ _ _ _ _
    simp only [evC, Int.not_lt] at hc
    obtain rfl : i = k := by omega
    clear hm hi hc
    repeat refine AWP.nest ?_
    first | refine AWP.rs (Gf_ok F39_ok) [] [1, 3, 9, 10, 11, 13] (by rw [hN]; decide) fun K hK => ?_ | refine AWP.rn (Gf_ok F39_ok) [] [1, 3, 9, 10, 11, 13] (by rw [hN]; decide) fun K hK => ?_
    repeat
      first | apply eL | (apply eG; (case ht => exact rfl); (case hef => exact rfl))
      case e => (simp only [evB, evG, evGR, Q.evalR, boolOf, opQ, opMove, opPick, opBin, opUn, opConv, opExtract, opNil, opAlloc, opBox, opBuild, opBuildSlice, opMakeSlice, opLoad, opStore, opSlice, opFieldAddr, opField, opIndexAddr, opIndex, opLen, opMinMax, opAppend, opAppendZ, opCall, opCallF, Q.opnd, Q.opndW, Q.eval, Q.ret, Q.elems, Q.cells, Q.parts, Q.args, Q.src, Q.optInt, intOf?, placeOf, fillA, setAll, mkAgg, datas, loadSel, ofCells, pickV, binI, binS, look, Value.oneCell', normD, smallNil, KD.known, KD.agg, T, TI.z, Dat.wd, Dat.cells, Dat.nagg, AV.ren, renL, AV.renT, AV.hi, AV.hi1, Ob.isRow, Ob.inn, Ob.out, Ob.gam, Ob.data, Ob.alike, loL, Gf, Mu, Dat.flat, Dat.isV, List.contains, List.elem, Option.isSome, Nat.reduceAdd, Nat.reduceSub, Nat.reduceMul, Nat.reduceEqDiff, Nat.reduceLeDiff, Nat.reduceBEq, reduceIte, reduceCtorEq, Int.reduceLT, Int.reduceLE, Int.reduceNeg, Int.reduceEq, Int.reduceToNat, Int.reducePow, Nat.reducePow, Nat.reduceLT, IntKind.bits, hf40, e40, hf42, e42, hf43, e43, hf45, e45, hf46, e46, evP, toPrs_prs, toSps_sps, toInts_nil, toInts_ints]; (try simp (disch := omega) only [evA]); exact rfl)
      case s => ((try simp only [evU]); exact rfl)
      case hp => (first | exact True.intro | ((repeat' first | assumption | refine And.intro ?_ ?_ | intro hq) <;> first | exact True.intro | assumption | omega | (rw [hq]; rfl) | (simp; done) | (simp_all; done)) | (intro hg; simp at hg; (repeat' refine And.intro ?_ ?_) <;> first | exact True.intro | assumption | omega | exact fun h => h | (simp; done)))
    rw [evalL_nil]
    refine hK _ ?_
    clear hK K
    simp only [evU, St.keep, List.map_cons, look, reduceIte, Nat.reduceEqDiff]
    try show AWP _ _ _ _ _
    repeat refine AWP.nest ?_
    first | refine AWP.rs (Gf_ok F39_ok) [] [1, 9, 10, 11, 13, 44] (by rw [hN]; decide) fun K hK => ?_ | refine AWP.rn (Gf_ok F39_ok) [] [1, 9, 10, 11, 13, 44] (by rw [hN]; decide) fun K hK => ?_
    repeat
      first | apply eL | (apply eG; (case ht => exact rfl); (case hef => exact rfl))
      case e => (simp only [evB, evG, evGR, Q.evalR, boolOf, opQ, opMove, opPick, opBin, opUn, opConv, opExtract, opNil, opAlloc, opBox, opBuild, opBuildSlice, opMakeSlice, opLoad, opStore, opSlice, opFieldAddr, opField, opIndexAddr, opIndex, opLen, opMinMax, opAppend, opAppendZ, opCall, opCallF, Q.opnd, Q.opndW, Q.eval, Q.ret, Q.elems, Q.cells, Q.parts, Q.args, Q.src, Q.optInt, intOf?, placeOf, fillA, setAll, mkAgg, datas, loadSel, ofCells, pickV, binI, binS, look, Value.oneCell', normD, smallNil, KD.known, KD.agg, T, TI.z, Dat.wd, Dat.cells, Dat.nagg, AV.ren, renL, AV.renT, AV.hi, AV.hi1, Ob.isRow, Ob.inn, Ob.out, Ob.gam, Ob.data, Ob.alike, loL, Gf, Mu, Dat.flat, Dat.isV, List.contains, List.elem, Option.isSome, Nat.reduceAdd, Nat.reduceSub, Nat.reduceMul, Nat.reduceEqDiff, Nat.reduceLeDiff, Nat.reduceBEq, reduceIte, reduceCtorEq, Int.reduceLT, Int.reduceLE, Int.reduceNeg, Int.reduceEq, Int.reduceToNat, Int.reducePow, Nat.reducePow, Nat.reduceLT, IntKind.bits, hf40, e40, hf42, e42, hf43, e43, hf45, e45, hf46, e46, evP, toPrs_prs, toSps_sps, toInts_nil, toInts_ints]; (try simp (disch := omega) only [evA]); exact rfl)
      case s => ((try simp only [evU]); exact rfl)
      case hp => (first | exact True.intro | ((repeat' first | assumption | refine And.intro ?_ ?_ | intro hq) <;> first | exact True.intro | assumption | omega | (rw [hq]; rfl) | (simp; done) | (simp_all; done)) | (intro hg; simp at hg; (repeat' refine And.intro ?_ ?_) <;> first | exact True.intro | assumption | omega | exact fun h => h | (simp; done)))
    rw [evalL_nil]
    refine hK _ ?_
    clear hK K
    simp only [evU, St.keep, List.map_cons, look, reduceIte, Nat.reduceEqDiff]
    try show AWP _ _ _ _ _
    repeat refine AWP.nest ?_
    first | refine AWP.seq (AWP.cond (b := _) rfl (fun hc => ?_) (fun hc => ?_)) | refine AWP.cond (b := _) rfl (fun hc => ?_) (fun hc => ?_)
    all_goals try simp only [evC] at hc
    · have hr := gap_rises (a := a) (g := g) (k := i) (by omega) (by omega) (by omega)
      have hp := (seq_pr (a := a) (g := g) (k := i) (by omega) (by omega) (by omega) (by omega)).2
      have hlen : (seqP a g i ++ [(a + (i : Int) + 1, g + (i : Int))]).length = i + 1 := by rw [List.length_append, hil]; rfl
      obtain ⟨R, B, eR, eB, hB, hBb, hBl, h3, h4, hmap, hRl, hlk⟩ := built_facts hr hp (by rw [hlen]; omega)
      have q1 : lookG R a = g := by rw [hlk, lk_seq, if_pos (by omega)]; omega
      have q2 : lookG R (a + (i : Int) - 1) = g + ((i : Int) - 1) := by rw [hlk, lk_seq, if_pos (by omega)]; omega
      have q3 : lookG R (a + (i : Int)) = 0 := by
        rw [hlk, lk_seq, if_neg (by omega)]
        exact lk_miss (by omega)
      have hRn : R.length = 2 := by rw [← eR, hlen, runs_gap (by omega)]; rfl
      have hBlen : B.length ≤ 1000000 := by omega
      have eg : (g + (i : Int) % 65536) % 65536 = g + i := by omega
      repeat refine AWP.nest ?_
      first | refine AWP.rs (Gf_ok F39_ok) [] [1, 9, 10, 11] (by rw [hN]; decide) fun K hK => ?_ | refine AWP.rn (Gf_ok F39_ok) [] [1, 9, 10, 11] (by rw [hN]; decide) fun K hK => ?_
      repeat
        first | apply eL | (apply eG; (case ht => exact rfl); (case hef => exact rfl))
        case e => (simp only [evB, evG, evGR, Q.evalR, boolOf, opQ, opMove, opPick, opBin, opUn, opConv, opExtract, opNil, opAlloc, opBox, opBuild, opBuildSlice, opMakeSlice, opLoad, opStore, opSlice, opFieldAddr, opField, opIndexAddr, opIndex, opLen, opMinMax, opAppend, opAppendZ, opCall, opCallF, Q.opnd, Q.opndW, Q.eval, Q.ret, Q.elems, Q.cells, Q.parts, Q.args, Q.src, Q.optInt, intOf?, placeOf, fillA, setAll, mkAgg, datas, loadSel, ofCells, pickV, binI, binS, look, Value.oneCell', normD, smallNil, KD.known, KD.agg, T, TI.z, Dat.wd, Dat.cells, Dat.nagg, AV.ren, renL, AV.renT, AV.hi, AV.hi1, Ob.isRow, Ob.inn, Ob.out, Ob.gam, Ob.data, Ob.alike, loL, Gf, Mu, Dat.flat, Dat.isV, List.contains, List.elem, Option.isSome, Nat.reduceAdd, Nat.reduceSub, Nat.reduceMul, Nat.reduceEqDiff, Nat.reduceLeDiff, Nat.reduceBEq, reduceIte, reduceCtorEq, Int.reduceLT, Int.reduceLE, Int.reduceNeg, Int.reduceEq, Int.reduceToNat, Int.reducePow, Nat.reducePow, Nat.reduceLT, IntKind.bits, hf40, e40, hf42, e42, hf43, e43, hf45, e45, hf46, e46, evP, toPrs_prs, toSps_sps, toInts_nil, toInts_ints, eg]; (try simp (disch := omega) only [evA]); exact rfl)
        case s => ((try simp only [evU]); exact rfl)
        case hp => (first | exact True.intro | ((repeat' first | assumption | refine And.intro ?_ ?_ | intro hq) <;> first | exact True.intro | assumption | omega | (rw [hq]; rfl) | (simp; done) | (simp_all; done)) | (intro hg; simp at hg; (repeat' refine And.intro ?_ ?_) <;> first | exact True.intro | assumption | omega | exact fun h => h | (simp; done)))
      rw [evalL_nil]
      refine hK _ ?_
      clear hK K
      simp only [evU, St.keep, List.map_cons, look, reduceIte, Nat.reduceEqDiff]
      try show AWP _ _ _ _ _
      repeat refine AWP.nest ?_
      first | refine AWP.rs (Gf_ok F39_ok) [] [1, 9, 10, 11, 13] (by rw [hN]; decide) fun K hK => ?_ | refine AWP.rn (Gf_ok F39_ok) [] [1, 9, 10, 11, 13] (by rw [hN]; decide) fun K hK => ?_
      repeat
        first | apply eL | (apply eG; (case ht => exact rfl); (case hef => exact rfl))
        case e => (simp only [evB, evG, evGR, Q.evalR, boolOf, opQ, opMove, opPick, opBin, opUn, opConv, opExtract, opNil, opAlloc, opBox, opBuild, opBuildSlice, opMakeSlice, opLoad, opStore, opSlice, opFieldAddr, opField, opIndexAddr, opIndex, opLen, opMinMax, opAppend, opAppendZ, opCall, opCallF, Q.opnd, Q.opndW, Q.eval, Q.ret, Q.elems, Q.cells, Q.parts, Q.args, Q.src, Q.optInt, intOf?, placeOf, fillA, setAll, mkAgg, datas, loadSel, ofCells, pickV, binI, binS, look, Value.oneCell', normD, smallNil, KD.known, KD.agg, T, TI.z, Dat.wd, Dat.cells, Dat.nagg, AV.ren, renL, AV.renT, AV.hi, AV.hi1, Ob.isRow, Ob.inn, Ob.out, Ob.gam, Ob.data, Ob.alike, loL, Gf, Mu, Dat.flat, Dat.isV, List.contains, List.elem, Option.isSome, Nat.reduceAdd, Nat.reduceSub, Nat.reduceMul, Nat.reduceEqDiff, Nat.reduceLeDiff, Nat.reduceBEq, reduceIte, reduceCtorEq, Int.reduceLT, Int.reduceLE, Int.reduceNeg, Int.reduceEq, Int.reduceToNat, Int.reducePow, Nat.reducePow, Nat.reduceLT, IntKind.bits, hf40, e40, hf42, e42, hf43, e43, hf45, e45, hf46, e46, evP, toPrs_prs, toSps_sps, toInts_nil, toInts_ints]; (try simp (disch := omega) only [evA]); exact rfl)
        case s => ((try simp only [evU]); exact rfl)
        case hp => (first | exact True.intro | ((repeat' first | assumption | refine And.intro ?_ ?_ | intro hq) <;> first | exact True.intro | assumption | omega | (rw [hq]; rfl) | (simp; done) | (simp_all; done)) | (intro hg; simp at hg; (repeat' refine And.intro ?_ ?_) <;> first | exact True.intro | assumption | omega | exact fun h => h | (simp; done)))
      rw [evalL_nil]
      refine hK _ ?_
      clear hK K
      simp only [evU, St.keep, List.map_cons, look, reduceIte, Nat.reduceEqDiff]
      try show AWP _ _ _ _ _
      refine AWP.frz 0 (by rw [hps]; decide) rfl ?_
      simp only [St.frz, Ob.frz, AV.frz, AV.frz1, Option.map_none, mkAgg, datas, Dat.nagg, List.map_cons, List.map_nil, Option.map_some, and_self, true_and, and_true, reduceIte, Nat.reduceEqDiff, List.set_cons_zero, List.set_cons_succ, Bool.and_true, Bool.true_and]
      generalize seqP a g i ++ [(a + (i : Int) + 1, g + (i : Int))] = r at hr hp hlen eR eB hlk ⊢
      repeat refine AWP.nest ?_
      first | refine AWP.rs (Gf_ok F39_ok) [] [1, 9, 10, 13, 14, 15] (by rw [hN]; decide) fun K hK => ?_ | refine AWP.rn (Gf_ok F39_ok) [] [1, 9, 10, 13, 14, 15] (by rw [hN]; decide) fun K hK => ?_
      repeat
        first | apply eL | (apply eG; (case ht => exact rfl); (case hef => exact rfl))
        case e => (simp only [evB, evG, evGR, Q.evalR, boolOf, opQ, opMove, opPick, opBin, opUn, opConv, opExtract, opNil, opAlloc, opBox, opBuild, opBuildSlice, opMakeSlice, opLoad, opStore, opSlice, opFieldAddr, opField, opIndexAddr, opIndex, opLen, opMinMax, opAppend, opAppendZ, opCall, opCallF, Q.opnd, Q.opndW, Q.eval, Q.ret, Q.elems, Q.cells, Q.parts, Q.args, Q.src, Q.optInt, intOf?, placeOf, fillA, setAll, mkAgg, datas, loadSel, ofCells, pickV, binI, binS, look, Value.oneCell', normD, smallNil, KD.known, KD.agg, T, TI.z, Dat.wd, Dat.cells, Dat.nagg, AV.ren, renL, AV.renT, AV.hi, AV.hi1, Ob.isRow, Ob.inn, Ob.out, Ob.gam, Ob.data, Ob.alike, loL, Gf, Mu, Dat.flat, Dat.isV, List.contains, List.elem, Option.isSome, Nat.reduceAdd, Nat.reduceSub, Nat.reduceMul, Nat.reduceEqDiff, Nat.reduceLeDiff, Nat.reduceBEq, reduceIte, reduceCtorEq, Int.reduceLT, Int.reduceLE, Int.reduceNeg, Int.reduceEq, Int.reduceToNat, Int.reducePow, Nat.reducePow, Nat.reduceLT, IntKind.bits, hf40, e40, hf42, e42, hf43, e43, hf45, e45, hf46, e46, evP, toPrs_prs, toSps_sps, toInts_nil, toInts_ints, eB, h3, h4]; (try simp (disch := omega) only [evA]); exact rfl)
        case s => ((try simp only [evU]); exact rfl)
        case hp => (first | exact True.intro | ((repeat' first | assumption | refine And.intro ?_ ?_ | intro hq) <;> first | exact True.intro | assumption | omega | (rw [hq]; rfl) | (simp; done) | (simp_all; done)) | (intro hg; simp at hg; (repeat' refine And.intro ?_ ?_) <;> first | exact True.intro | assumption | omega | exact fun h => h | (simp; done)))
      rw [evalL_nil]
      refine hK _ ?_
      clear hK K
      simp only [evU, St.keep, List.map_cons, look, reduceIte, Nat.reduceEqDiff]
      try show AWP _ _ _ _ _
      repeat refine AWP.nest ?_
      first | refine AWP.rs (Gf_ok F39_ok) [] [8] (by rw [hN]; decide) fun K hK => ?_ | refine AWP.rn (Gf_ok F39_ok) [] [8] (by rw [hN]; decide) fun K hK => ?_
      repeat
        first | apply eL | (apply eG; (case ht => exact rfl); (case hef => exact rfl))
        case e => (simp only [evB, evG, evGR, Q.evalR, boolOf, opQ, opMove, opPick, opBin, opUn, opConv, opExtract, opNil, opAlloc, opBox, opBuild, opBuildSlice, opMakeSlice, opLoad, opStore, opSlice, opFieldAddr, opField, opIndexAddr, opIndex, opLen, opMinMax, opAppend, opAppendZ, opCall, opCallF, Q.opnd, Q.opndW, Q.eval, Q.ret, Q.elems, Q.cells, Q.parts, Q.args, Q.src, Q.optInt, intOf?, placeOf, fillA, setAll, mkAgg, datas, loadSel, ofCells, pickV, binI, binS, look, Value.oneCell', normD, smallNil, KD.known, KD.agg, T, TI.z, Dat.wd, Dat.cells, Dat.nagg, AV.ren, renL, AV.renT, AV.hi, AV.hi1, Ob.isRow, Ob.inn, Ob.out, Ob.gam, Ob.data, Ob.alike, loL, Gf, Mu, Dat.flat, Dat.isV, List.contains, List.elem, Option.isSome, Nat.reduceAdd, Nat.reduceSub, Nat.reduceMul, Nat.reduceEqDiff, Nat.reduceLeDiff, Nat.reduceBEq, reduceIte, reduceCtorEq, Int.reduceLT, Int.reduceLE, Int.reduceNeg, Int.reduceEq, Int.reduceToNat, Int.reducePow, Nat.reducePow, Nat.reduceLT, IntKind.bits, hf40, e40, hf42, e42, hf43, e43, hf45, e45, hf46, e46, evP, toPrs_prs, toSps_sps, toInts_nil, toInts_ints, q1, q2, q3, hRn]; (try simp (disch := omega) only [evA]); exact rfl)
        case s => ((try simp only [evU]); exact rfl)
        case hp => (first | exact True.intro | ((repeat' first | assumption | refine And.intro ?_ ?_ | intro hq) <;> first | exact True.intro | assumption | omega | (rw [hq]; rfl) | (simp; done) | (simp_all; done)) | (intro hg; simp at hg; (repeat' refine And.intro ?_ ?_) <;> first | exact True.intro | assumption | omega | exact fun h => h | (simp; done)))
      rw [evalL_nil]
      refine hK _ ?_
      clear hK K
      simp only [evU, St.keep, List.map_cons, look, reduceIte, Nat.reduceEqDiff]
      try show AWP _ _ _ _ _
      refine AWP.ret ?_
      refine ⟨.inl rfl, ⟨⟨_, rfl, ?_⟩, fun ob hob => by cases hob⟩⟩
      simp only [look, reduceIte, Nat.reduceEqDiff]
      refine sub1_of ?_
      simp
      omega
    · refine AWP.skip ?_
      show AWP _ _ _ _ _
      have hr := seq_rises (a := a) (g := g) (k := i) (by omega) (by omega)
      have hp := (seq_pr (a := a) (g := g) (k := i) (by omega) (by omega) (by omega) (by omega)).1
      have hlen : (seqP a g i).length = i := hil
      obtain ⟨R, B, eR, eB, hB, hBb, hBl, h3, h4, hmap, hRl, hlk⟩ := built_facts hr hp (by rw [hlen]; omega)
      have q1 : lookG R a = g := by rw [hlk, lk_seq0, if_pos (by omega)]; omega
      have q2 : lookG R (a + (i : Int) - 1) = g + ((i : Int) - 1) := by rw [hlk, lk_seq0, if_pos (by omega)]; omega
      have q3 : lookG R (a + (i : Int)) = 0 := by
        rw [hlk, lk_seq0, if_neg (by omega)]
      have hRn : R.length = 1 := by rw [← eR, hlen, runs_seq0 (by omega)]; rfl
      have hBlen : B.length ≤ 1000000 := by omega
      refine AWP.frz 0 (by rw [hps]; decide) rfl ?_
      simp only [St.frz, Ob.frz, AV.frz, AV.frz1, Option.map_none, mkAgg, datas, Dat.nagg, List.map_cons, List.map_nil, Option.map_some, and_self, true_and, and_true, reduceIte, Nat.reduceEqDiff, List.set_cons_zero, List.set_cons_succ, Bool.and_true, Bool.true_and]
      generalize seqP a g i = r at hr hp hlen eR eB hlk hil ⊢
      repeat refine AWP.nest ?_
      first | refine AWP.rs (Gf_ok F39_ok) [] [1, 9, 10, 13, 14, 15] (by rw [hN]; decide) fun K hK => ?_ | refine AWP.rn (Gf_ok F39_ok) [] [1, 9, 10, 13, 14, 15] (by rw [hN]; decide) fun K hK => ?_
      repeat
        first | apply eL | (apply eG; (case ht => exact rfl); (case hef => exact rfl))
        case e => (simp only [evB, evG, evGR, Q.evalR, boolOf, opQ, opMove, opPick, opBin, opUn, opConv, opExtract, opNil, opAlloc, opBox, opBuild, opBuildSlice, opMakeSlice, opLoad, opStore, opSlice, opFieldAddr, opField, opIndexAddr, opIndex, opLen, opMinMax, opAppend, opAppendZ, opCall, opCallF, Q.opnd, Q.opndW, Q.eval, Q.ret, Q.elems, Q.cells, Q.parts, Q.args, Q.src, Q.optInt, intOf?, placeOf, fillA, setAll, mkAgg, datas, loadSel, ofCells, pickV, binI, binS, look, Value.oneCell', normD, smallNil, KD.known, KD.agg, T, TI.z, Dat.wd, Dat.cells, Dat.nagg, AV.ren, renL, AV.renT, AV.hi, AV.hi1, Ob.isRow, Ob.inn, Ob.out, Ob.gam, Ob.data, Ob.alike, loL, Gf, Mu, Dat.flat, Dat.isV, List.contains, List.elem, Option.isSome, Nat.reduceAdd, Nat.reduceSub, Nat.reduceMul, Nat.reduceEqDiff, Nat.reduceLeDiff, Nat.reduceBEq, reduceIte, reduceCtorEq, Int.reduceLT, Int.reduceLE, Int.reduceNeg, Int.reduceEq, Int.reduceToNat, Int.reducePow, Nat.reducePow, Nat.reduceLT, IntKind.bits, hf40, e40, hf42, e42, hf43, e43, hf45, e45, hf46, e46, evP, toPrs_prs, toSps_sps, toInts_nil, toInts_ints, eB, h3, h4]; (try simp (disch := omega) only [evA]); exact rfl)
        case s => ((try simp only [evU]); exact rfl)
        case hp => (first | exact True.intro | ((repeat' first | assumption | refine And.intro ?_ ?_ | intro hq) <;> first | exact True.intro | assumption | omega | (rw [hq]; rfl) | (simp; done) | (simp_all; done)) | (intro hg; simp at hg; (repeat' refine And.intro ?_ ?_) <;> first | exact True.intro | assumption | omega | exact fun h => h | (simp; done)))
      rw [evalL_nil]
      refine hK _ ?_
      clear hK K
      simp only [evU, St.keep, List.map_cons, look, reduceIte, Nat.reduceEqDiff]
      try show AWP _ _ _ _ _
      repeat refine AWP.nest ?_
      first | refine AWP.rs (Gf_ok F39_ok) [] [8] (by rw [hN]; decide) fun K hK => ?_ | refine AWP.rn (Gf_ok F39_ok) [] [8] (by rw [hN]; decide) fun K hK => ?_
      repeat
        first | apply eL | (apply eG; (case ht => exact rfl); (case hef => exact rfl))
        case e => (simp only [evB, evG, evGR, Q.evalR, boolOf, opQ, opMove, opPick, opBin, opUn, opConv, opExtract, opNil, opAlloc, opBox, opBuild, opBuildSlice, opMakeSlice, opLoad, opStore, opSlice, opFieldAddr, opField, opIndexAddr, opIndex, opLen, opMinMax, opAppend, opAppendZ, opCall, opCallF, Q.opnd, Q.opndW, Q.eval, Q.ret, Q.elems, Q.cells, Q.parts, Q.args, Q.src, Q.optInt, intOf?, placeOf, fillA, setAll, mkAgg, datas, loadSel, ofCells, pickV, binI, binS, look, Value.oneCell', normD, smallNil, KD.known, KD.agg, T, TI.z, Dat.wd, Dat.cells, Dat.nagg, AV.ren, renL, AV.renT, AV.hi, AV.hi1, Ob.isRow, Ob.inn, Ob.out, Ob.gam, Ob.data, Ob.alike, loL, Gf, Mu, Dat.flat, Dat.isV, List.contains, List.elem, Option.isSome, Nat.reduceAdd, Nat.reduceSub, Nat.reduceMul, Nat.reduceEqDiff, Nat.reduceLeDiff, Nat.reduceBEq, reduceIte, reduceCtorEq, Int.reduceLT, Int.reduceLE, Int.reduceNeg, Int.reduceEq, Int.reduceToNat, Int.reducePow, Nat.reducePow, Nat.reduceLT, IntKind.bits, hf40, e40, hf42, e42, hf43, e43, hf45, e45, hf46, e46, evP, toPrs_prs, toSps_sps, toInts_nil, toInts_ints, q1, q2, q3, hRn]; (try simp (disch := omega) only [evA]); exact rfl)
        case s => ((try simp only [evU]); exact rfl)
        case hp => (first | exact True.intro | ((repeat' first | assumption | refine And.intro ?_ ?_ | intro hq) <;> first | exact True.intro | assumption | omega | (rw [hq]; rfl) | (simp; done) | (simp_all; done)) | (intro hg; simp at hg; (repeat' refine And.intro ?_ ?_) <;> first | exact True.intro | assumption | omega | exact fun h => h | (simp; done)))
      rw [evalL_nil]
      refine hK _ ?_
      clear hK K
      simp only [evU, St.keep, List.map_cons, look, reduceIte, Nat.reduceEqDiff]
      try show AWP _ _ _ _ _
      refine AWP.ret ?_
      refine ⟨.inl rfl, ⟨⟨_, rfl, ?_⟩, fun ob hob => by cases hob⟩⟩
      simp only [look, reduceIte, Nat.reduceEqDiff]
      refine sub1_of ?_
      simp
      omega
  simp only [evC, Int.not_lt] at hc
  refine AWP.skip ?_
  show AWP _ _ _ _ _
  have hi' := hc
  clear hc
  repeat refine AWP.nest ?_
  first | refine AWP.seq (AWP.block ?_) | refine AWP.block ?_
  have eg : (g + (i : Int) % 65536) % 65536 = g + i := by omega
  repeat refine AWP.nest ?_
  first | refine AWP.rs (Gf_ok F39_ok) [] [1, 3, 9, 10, 11, 12, 27, 28] (by rw [hN]; decide) fun K hK => ?_ | refine AWP.rn (Gf_ok F39_ok) [] [1, 3, 9, 10, 11, 12, 27, 28] (by rw [hN]; decide) fun K hK => ?_
  repeat
    first | apply eL | (apply eG; (case ht => exact rfl); (case hef => exact rfl))
    case e => (simp only [evB, evG, evGR, Q.evalR, boolOf, opQ, opMove, opPick, opBin, opUn, opConv, opExtract, opNil, opAlloc, opBox, opBuild, opBuildSlice, opMakeSlice, opLoad, opStore, opSlice, opFieldAddr, opField, opIndexAddr, opIndex, opLen, opMinMax, opAppend, opAppendZ, opCall, opCallF, Q.opnd, Q.opndW, Q.eval, Q.ret, Q.elems, Q.cells, Q.parts, Q.args, Q.src, Q.optInt, intOf?, placeOf, fillA, setAll, mkAgg, datas, loadSel, ofCells, pickV, binI, binS, look, Value.oneCell', normD, smallNil, KD.known, KD.agg, T, TI.z, Dat.wd, Dat.cells, Dat.nagg, AV.ren, renL, AV.renT, AV.hi, AV.hi1, Ob.isRow, Ob.inn, Ob.out, Ob.gam, Ob.data, Ob.alike, loL, Gf, Mu, Dat.flat, Dat.isV, List.contains, List.elem, Option.isSome, Nat.reduceAdd, Nat.reduceSub, Nat.reduceMul, Nat.reduceEqDiff, Nat.reduceLeDiff, Nat.reduceBEq, reduceIte, reduceCtorEq, Int.reduceLT, Int.reduceLE, Int.reduceNeg, Int.reduceEq, Int.reduceToNat, Int.reducePow, Nat.reducePow, Nat.reduceLT, IntKind.bits, hf40, e40, hf42, e42, hf43, e43, hf45, e45, hf46, e46, evP, toPrs_prs, toSps_sps, toInts_nil, toInts_ints]; (try simp (disch := omega) only [evA]); exact rfl)
    case s => ((try simp only [evU]); exact rfl)
    case hp => (first | exact True.intro | ((repeat' first | assumption | refine And.intro ?_ ?_ | intro hq) <;> first | exact True.intro | assumption | omega | (rw [hq]; rfl) | (simp; done) | (simp_all; done)) | (intro hg; simp at hg; (repeat' refine And.intro ?_ ?_) <;> first | exact True.intro | assumption | omega | exact fun h => h | (simp; done)))
  rw [evalL_nil]
  refine hK _ ?_
  clear hK K
  simp only [evU, St.keep, List.map_cons, look, reduceIte, Nat.reduceEqDiff]
  try show AWP _ _ _ _ _
  repeat refine AWP.nest ?_
  first | refine AWP.rs (Gf_ok F39_ok) [] [1, 3, 9, 10, 11, 27, 28] (by rw [hN]; decide) fun K hK => ?_ | refine AWP.rn (Gf_ok F39_ok) [] [1, 3, 9, 10, 11, 27, 28] (by rw [hN]; decide) fun K hK => ?_
  repeat
    first | apply eL | (apply eG; (case ht => exact rfl); (case hef => exact rfl))
    case e => (simp only [evB, evG, evGR, Q.evalR, boolOf, opQ, opMove, opPick, opBin, opUn, opConv, opExtract, opNil, opAlloc, opBox, opBuild, opBuildSlice, opMakeSlice, opLoad, opStore, opSlice, opFieldAddr, opField, opIndexAddr, opIndex, opLen, opMinMax, opAppend, opAppendZ, opCall, opCallF, Q.opnd, Q.opndW, Q.eval, Q.ret, Q.elems, Q.cells, Q.parts, Q.args, Q.src, Q.optInt, intOf?, placeOf, fillA, setAll, mkAgg, datas, loadSel, ofCells, pickV, binI, binS, look, Value.oneCell', normD, smallNil, KD.known, KD.agg, T, TI.z, Dat.wd, Dat.cells, Dat.nagg, AV.ren, renL, AV.renT, AV.hi, AV.hi1, Ob.isRow, Ob.inn, Ob.out, Ob.gam, Ob.data, Ob.alike, loL, Gf, Mu, Dat.flat, Dat.isV, List.contains, List.elem, Option.isSome, Nat.reduceAdd, Nat.reduceSub, Nat.reduceMul, Nat.reduceEqDiff, Nat.reduceLeDiff, Nat.reduceBEq, reduceIte, reduceCtorEq, Int.reduceLT, Int.reduceLE, Int.reduceNeg, Int.reduceEq, Int.reduceToNat, Int.reducePow, Nat.reducePow, Nat.reduceLT, IntKind.bits, hf40, e40, hf42, e42, hf43, e43, hf45, e45, hf46, e46, evP, toPrs_prs, toSps_sps, toInts_nil, toInts_ints, eg]; (try simp (disch := omega) only [evA]); exact rfl)
    case s => ((try simp only [evU]); exact rfl)
    case hp => (first | exact True.intro | ((repeat' first | assumption | refine And.intro ?_ ?_ | intro hq) <;> first | exact True.intro | assumption | omega | (rw [hq]; rfl) | (simp; done) | (simp_all; done)) | (intro hg; simp at hg; (repeat' refine And.intro ?_ ?_) <;> first | exact True.intro | assumption | omega | exact fun h => h | (simp; done)))
  rw [evalL_nil]
  refine hK _ ?_
  clear hK K
  simp only [evU, St.keep, List.map_cons, look, reduceIte, Nat.reduceEqDiff]
  try show AWP _ _ _ _ _
  repeat refine AWP.nest ?_
  first | refine AWP.rs (Gf_ok F39_ok) [] [1, 3, 9, 10, 11, 27, 28] (by rw [hN]; decide) fun K hK => ?_ | refine AWP.rn (Gf_ok F39_ok) [] [1, 3, 9, 10, 11, 27, 28] (by rw [hN]; decide) fun K hK => ?_
  repeat
    first | apply eL | (apply eG; (case ht => exact rfl); (case hef => exact rfl))
    case e => (simp only [evB, evG, evGR, Q.evalR, boolOf, opQ, opMove, opPick, opBin, opUn, opConv, opExtract, opNil, opAlloc, opBox, opBuild, opBuildSlice, opMakeSlice, opLoad, opStore, opSlice, opFieldAddr, opField, opIndexAddr, opIndex, opLen, opMinMax, opAppend, opAppendZ, opCall, opCallF, Q.opnd, Q.opndW, Q.eval, Q.ret, Q.elems, Q.cells, Q.parts, Q.args, Q.src, Q.optInt, intOf?, placeOf, fillA, setAll, mkAgg, datas, loadSel, ofCells, pickV, binI, binS, look, Value.oneCell', normD, smallNil, KD.known, KD.agg, T, TI.z, Dat.wd, Dat.cells, Dat.nagg, AV.ren, renL, AV.renT, AV.hi, AV.hi1, Ob.isRow, Ob.inn, Ob.out, Ob.gam, Ob.data, Ob.alike, loL, Gf, Mu, Dat.flat, Dat.isV, List.contains, List.elem, Option.isSome, Nat.reduceAdd, Nat.reduceSub, Nat.reduceMul, Nat.reduceEqDiff, Nat.reduceLeDiff, Nat.reduceBEq, reduceIte, reduceCtorEq, Int.reduceLT, Int.reduceLE, Int.reduceNeg, Int.reduceEq, Int.reduceToNat, Int.reducePow, Nat.reducePow, Nat.reduceLT, IntKind.bits, hf40, e40, hf42, e42, hf43, e43, hf45, e45, hf46, e46, evP, toPrs_prs, toSps_sps, toInts_nil, toInts_ints]; (try simp (disch := omega) only [evA]); exact rfl)
    case s => ((try simp only [evU]); exact rfl)
    case hp => (first | exact True.intro | ((repeat' first | assumption | refine And.intro ?_ ?_ | intro hq) <;> first | exact True.intro | assumption | omega | (rw [hq]; rfl) | (simp; done) | (simp_all; done)) | (intro hg; simp at hg; (repeat' refine And.intro ?_ ?_) <;> first | exact True.intro | assumption | omega | exact fun h => h | (simp; done)))
  rw [evalL_nil]
  refine hK _ ?_
  clear hK K
  simp only [evU, St.keep, List.map_cons, look, reduceIte, Nat.reduceEqDiff]
  try show AWP _ _ _ _ _
  refine ⟨k - (i + 1), by omega, i + 1, by omega, rfl, ?_⟩
  rw [seqP_snoc]
  rfl
theorem law12 (x : Dat) (h : (AT.int .u32).holds x) (y : Dat) (h1 : (AT.int .u16).holds y) (z : Dat) (h2 : (AT.int .u8).holds z) (u : Dat) (h3 : AT.bool.holds u) : Spec Try.prog 12 [.d x.flat x, .d y.flat y, .d z.flat z, .d u.flat u] none ⟨True, .d true (.v (.bool true)), none⟩ := by
  obtain ⟨s, rfl, hs⟩ := h
  obtain ⟨g, rfl, hg⟩ := h1
  obtain ⟨n, rfl, hn⟩ := h2
  obtain ⟨b, rfl⟩ := h3
  have := bounds_u32 hs
  have := bounds_u16 hg
  have := bounds_u8 hn
  exact s12 s g n b (by omega) (by omega) (by omega) (by omega) (by omega) (by omega)
end Go.AM

