/- AM: tally.Adjust; the laws of package tally: awake, TallySums. -/
import Derived.Test.YtmfobkiljlepjaaC7
import Derived.Test.YtmfobkiljlepjaaB2
set_option maxRecDepth 100000
set_option maxHeartbeats 8000000
set_option linter.unusedSimpArgs false
set_option linter.unusedVariables false
namespace Go.AM
open Go Go.Proofs


/-! ### tally.Adjust -/
theorem s38 (l : List Int) (hb : Byt l) (hl : l.length ≤ 1000000000000) : Spec Try.prog 38 [.d false (.sl 1 (ints .u8 l))] none ⟨True, .d true (.v (.int .u32 ((2981146554 - refSum 0 l % 4294967296) % 4294967296))), none⟩ := by
  have hf34 : F17 34 = e34 := rfl
  refine spec_of_awp (Gf_ok F17_ok) Try.func38 rfl (Nat.le_of_ble_eq_true rfl) fun E hps hN _ => ?_
  simp only [begin, List.zipIdx_cons, List.zipIdx_nil, List.map_cons, List.map_nil, Option.toList, Nat.zero_add, Nat.reduceAdd]
  repeat refine AWP.nest ?_
  first | refine AWP.rs (Gf_ok F17_ok) [] [0] (by rw [hN]; decide) fun K hK => ?_ | refine AWP.rn (Gf_ok F17_ok) [] [0] (by rw [hN]; decide) fun K hK => ?_
  repeat
    first | apply eL | (apply eG; (case ht => exact rfl); (case hef => exact rfl))
    case e => (simp only [evB, evG, evGR, Q.evalR, boolOf, opQ, opMove, opPick, opBin, opUn, opConv, opExtract, opNil, opAlloc, opBox, opBuild, opBuildSlice, opMakeSlice, opLoad, opStore, opSlice, opFieldAddr, opField, opIndexAddr, opIndex, opLen, opMinMax, opAppend, opAppendZ, opCall, opCallF, Q.opnd, Q.opndW, Q.eval, Q.ret, Q.elems, Q.cells, Q.parts, Q.args, Q.src, Q.optInt, intOf?, placeOf, fillA, setAll, mkAgg, datas, loadSel, ofCells, pickV, binI, binS, look, Value.oneCell', normD, smallNil, KD.known, KD.agg, T, TI.z, Dat.wd, Dat.cells, Dat.nagg, AV.ren, renL, AV.renT, AV.hi, AV.hi1, Ob.isRow, Ob.inn, Ob.out, Ob.gam, Ob.data, Ob.alike, loL, Gf, Mu, Dat.flat, Dat.isV, List.contains, List.elem, Option.isSome, Nat.reduceAdd, Nat.reduceSub, Nat.reduceMul, Nat.reduceEqDiff, Nat.reduceLeDiff, Nat.reduceBEq, reduceIte, reduceCtorEq, Int.reduceLT, Int.reduceLE, Int.reduceNeg, Int.reduceEq, Int.reduceToNat, Int.reducePow, Nat.reducePow, Nat.reduceLT, IntKind.bits, hf34, e34]; (try simp (disch := omega) only [w_i64, w_i32, w_u8, w_u16, w_u32, w_u64, tdiv_nn, tmod_nn]); exact rfl)
    case s => ((try simp only [evU]); exact rfl)
    case hp => (first | trivial | ((repeat' refine And.intro ?_ ?_) <;> first | trivial | assumption | omega | exact fun h => h | (intro hq; first | trivial | assumption | omega | (simp_all; done)) | (simp; done)) | (intro hg; (repeat' refine And.intro ?_ ?_) <;> first | trivial | assumption | omega | exact fun h => h | (intro hq; first | trivial | assumption | omega | (simp_all; done)) | (simp; done)))
  rw [evalL_nil]
  refine hK _ ?_
  clear hK K
  simp only [evU, St.keep, List.map_cons, look, reduceIte, Nat.reduceEqDiff]
  try show AWP _ _ _ _ _
  repeat refine AWP.nest ?_
  first | refine AWP.rs (Gf_ok F17_ok) [] [2] (by rw [hN]; decide) fun K hK => ?_ | refine AWP.rn (Gf_ok F17_ok) [] [2] (by rw [hN]; decide) fun K hK => ?_
  repeat
    first | apply eL | (apply eG; (case ht => exact rfl); (case hef => exact rfl))
    case e => (simp only [evB, evG, evGR, Q.evalR, boolOf, opQ, opMove, opPick, opBin, opUn, opConv, opExtract, opNil, opAlloc, opBox, opBuild, opBuildSlice, opMakeSlice, opLoad, opStore, opSlice, opFieldAddr, opField, opIndexAddr, opIndex, opLen, opMinMax, opAppend, opAppendZ, opCall, opCallF, Q.opnd, Q.opndW, Q.eval, Q.ret, Q.elems, Q.cells, Q.parts, Q.args, Q.src, Q.optInt, intOf?, placeOf, fillA, setAll, mkAgg, datas, loadSel, ofCells, pickV, binI, binS, look, Value.oneCell', normD, smallNil, KD.known, KD.agg, T, TI.z, Dat.wd, Dat.cells, Dat.nagg, AV.ren, renL, AV.renT, AV.hi, AV.hi1, Ob.isRow, Ob.inn, Ob.out, Ob.gam, Ob.data, Ob.alike, loL, Gf, Mu, Dat.flat, Dat.isV, List.contains, List.elem, Option.isSome, Nat.reduceAdd, Nat.reduceSub, Nat.reduceMul, Nat.reduceEqDiff, Nat.reduceLeDiff, Nat.reduceBEq, reduceIte, reduceCtorEq, Int.reduceLT, Int.reduceLE, Int.reduceNeg, Int.reduceEq, Int.reduceToNat, Int.reducePow, Nat.reducePow, Nat.reduceLT, IntKind.bits, hf34, e34]; (try simp (disch := omega) only [w_i64, w_i32, w_u8, w_u16, w_u32, w_u64, tdiv_nn, tmod_nn]); exact rfl)
    case s => ((try simp only [evU]); exact rfl)
    case hp => (first | trivial | ((repeat' refine And.intro ?_ ?_) <;> first | trivial | assumption | omega | exact fun h => h | (intro hq; first | trivial | assumption | omega | (simp_all; done)) | (simp; done)) | (intro hg; (repeat' refine And.intro ?_ ?_) <;> first | trivial | assumption | omega | exact fun h => h | (intro hq; first | trivial | assumption | omega | (simp_all; done)) | (simp; done)))
  rw [evalL_nil]
  refine hK _ ?_
  clear hK K
  simp only [evU, St.keep, List.map_cons, look, reduceIte, Nat.reduceEqDiff]
  try show AWP _ _ _ _ _
  refine AWP.ret ?_
  refine ⟨.inl rfl, ⟨⟨_, rfl, ?_⟩, fun ob hob => by cases hob⟩⟩
  simp only [look, reduceIte, Nat.reduceEqDiff]
  exact sub1_of rfl
def e38 : List AV → Option Ob → Option Res := fun args i => match args, i with
  | [.d false (.sl 1 xs)], none => some ⟨IsB xs ∧ (toInts xs).length ≤ 1000000000000, .d true (.v (.int .u32 ((2981146554 - refSum 0 (toInts xs) % 4294967296) % 4294967296))), none⟩
  | _, _ => none
def F18 : FT := F17.upd 38 e38
theorem F18_ok : FOK Try.prog F18 := FOK.upd F17_ok Try.func38 (by kernel_rfl) rfl fun args i R h => by
  unfold e38 at h
  split at h
  · cases h
    refine Spec.pre fun h => ?_
    obtain ⟨l, rfl, hb⟩ := h.1.elim
    rw [toInts_ints] at h ⊢
    exact s38 l hb h.2
  · cases h


/-! ### awake -/
theorem s30 : Spec Try.prog 30 [] none ⟨True, .d true (.v (.bool true)), none⟩ := by
  have hf34 : F18 34 = e34 := rfl
  refine spec_of_awp (Gf_ok F18_ok) Try.func30 rfl (Nat.le_of_ble_eq_true rfl) fun E hps hN _ => ?_
  simp only [begin, List.zipIdx_cons, List.zipIdx_nil, List.map_cons, List.map_nil, Option.toList, Nat.zero_add, Nat.reduceAdd]
  repeat refine AWP.nest ?_
  first | refine AWP.rs (Gf_ok F18_ok) [] [] (by rw [hN]; decide) fun K hK => ?_ | refine AWP.rn (Gf_ok F18_ok) [] [] (by rw [hN]; decide) fun K hK => ?_
  repeat
    first | apply eL | (apply eG; (case ht => exact rfl); (case hef => exact rfl))
    case e => (simp only [evB, evG, evGR, Q.evalR, boolOf, opQ, opMove, opPick, opBin, opUn, opConv, opExtract, opNil, opAlloc, opBox, opBuild, opBuildSlice, opMakeSlice, opLoad, opStore, opSlice, opFieldAddr, opField, opIndexAddr, opIndex, opLen, opMinMax, opAppend, opAppendZ, opCall, opCallF, Q.opnd, Q.opndW, Q.eval, Q.ret, Q.elems, Q.cells, Q.parts, Q.args, Q.src, Q.optInt, intOf?, placeOf, fillA, setAll, mkAgg, datas, loadSel, ofCells, pickV, binI, binS, look, Value.oneCell', normD, smallNil, KD.known, KD.agg, T, TI.z, Dat.wd, Dat.cells, Dat.nagg, AV.ren, renL, AV.renT, AV.hi, AV.hi1, Ob.isRow, Ob.inn, Ob.out, Ob.gam, Ob.data, Ob.alike, loL, Gf, Mu, Dat.flat, Dat.isV, List.contains, List.elem, Option.isSome, Nat.reduceAdd, Nat.reduceSub, Nat.reduceMul, Nat.reduceEqDiff, Nat.reduceLeDiff, Nat.reduceBEq, reduceIte, reduceCtorEq, Int.reduceLT, Int.reduceLE, Int.reduceNeg, Int.reduceEq, Int.reduceToNat, Int.reducePow, Nat.reducePow, Nat.reduceLT, IntKind.bits, hf34, e34]; (try simp (disch := omega) only [w_i64, w_i32, w_u8, w_u16, w_u32, w_u64, tdiv_nn, tmod_nn]); exact rfl)
    case s => ((try simp only [evU]); exact rfl)
    case hp => (first | trivial | ((repeat' refine And.intro ?_ ?_) <;> first | trivial | assumption | omega | exact fun h => h | (intro hq; first | trivial | assumption | omega | (simp_all; done)) | (simp; done)) | (intro hg; (repeat' refine And.intro ?_ ?_) <;> first | trivial | assumption | omega | exact fun h => h | (intro hq; first | trivial | assumption | omega | (simp_all; done)) | (simp; done)))
  rw [evalL_nil]
  refine hK _ ?_
  clear hK K
  simp only [evU, St.keep, List.map_cons, look, reduceIte, Nat.reduceEqDiff]
  try show AWP _ _ _ _ _
  repeat refine AWP.nest ?_
  first | refine AWP.rs (Gf_ok F18_ok) [] [0] (by rw [hN]; decide) fun K hK => ?_ | refine AWP.rn (Gf_ok F18_ok) [] [0] (by rw [hN]; decide) fun K hK => ?_
  repeat
    first | apply eL | (apply eG; (case ht => exact rfl); (case hef => exact rfl))
    case e => (simp only [evB, evG, evGR, Q.evalR, boolOf, opQ, opMove, opPick, opBin, opUn, opConv, opExtract, opNil, opAlloc, opBox, opBuild, opBuildSlice, opMakeSlice, opLoad, opStore, opSlice, opFieldAddr, opField, opIndexAddr, opIndex, opLen, opMinMax, opAppend, opAppendZ, opCall, opCallF, Q.opnd, Q.opndW, Q.eval, Q.ret, Q.elems, Q.cells, Q.parts, Q.args, Q.src, Q.optInt, intOf?, placeOf, fillA, setAll, mkAgg, datas, loadSel, ofCells, pickV, binI, binS, look, Value.oneCell', normD, smallNil, KD.known, KD.agg, T, TI.z, Dat.wd, Dat.cells, Dat.nagg, AV.ren, renL, AV.renT, AV.hi, AV.hi1, Ob.isRow, Ob.inn, Ob.out, Ob.gam, Ob.data, Ob.alike, loL, Gf, Mu, Dat.flat, Dat.isV, List.contains, List.elem, Option.isSome, Nat.reduceAdd, Nat.reduceSub, Nat.reduceMul, Nat.reduceEqDiff, Nat.reduceLeDiff, Nat.reduceBEq, reduceIte, reduceCtorEq, Int.reduceLT, Int.reduceLE, Int.reduceNeg, Int.reduceEq, Int.reduceToNat, Int.reducePow, Nat.reducePow, Nat.reduceLT, IntKind.bits, hf34, e34]; (try simp (disch := omega) only [w_i64, w_i32, w_u8, w_u16, w_u32, w_u64, tdiv_nn, tmod_nn]); exact rfl)
    case s => ((try simp only [evU]); exact rfl)
    case hp => (first | trivial | ((repeat' refine And.intro ?_ ?_) <;> first | trivial | assumption | omega | exact fun h => h | (intro hq; first | trivial | assumption | omega | (simp_all; done)) | (simp; done)) | (intro hg; (repeat' refine And.intro ?_ ?_) <;> first | trivial | assumption | omega | exact fun h => h | (intro hq; first | trivial | assumption | omega | (simp_all; done)) | (simp; done)))
  rw [evalL_nil]
  refine hK _ ?_
  clear hK K
  simp only [evU, St.keep, List.map_cons, look, reduceIte, Nat.reduceEqDiff]
  try show AWP _ _ _ _ _
  refine AWP.ret ?_
  refine ⟨.inl rfl, ⟨⟨_, rfl, ?_⟩, fun ob hob => by cases hob⟩⟩
  simp only [look, reduceIte, Nat.reduceEqDiff]
  exact sub1_of rfl
def e30 : List AV → Option Ob → Option Res := fun args i => match args, i with
  | [], none => some ⟨True, .d true (.v (.bool true)), none⟩
  | _, _ => none
def F19 : FT := F18.upd 30 e30
theorem F19_ok : FOK Try.prog F19 := FOK.upd F18_ok Try.func30 (by kernel_rfl) rfl fun args i R h => by
  unfold e30 at h
  split at h
  · cases h; exact s30
  · cases h


/-! ### TallySums -/
theorem padB_len2 (l : List Int) : (padB l).length % 4 = 0 ∧ l.length ≤ (padB l).length ∧ (padB l).length < l.length + 4 := by
  simp only [padB, List.length_append, List.length_replicate]
  omega
theorem padB_rem (m : List Int) : (((padB m).length : Int) % 4 == 0) = true := by have := padB_len2 m; simp; omega
theorem padB_lt (m : List Int) : decide (((padB m).length : Int) - m.length < 4) = true := by have := padB_len2 m; simp; omega
theorem padB_same (m : List Int) : decide (padB m = m ++ List.replicate (((padB m).length : Int) - m.length).toNat 0) = true := by
  have e : (((padB m).length : Int) - m.length).toNat = (4 - m.length % 4) % 4 := by
    simp only [padB, List.length_append, List.length_replicate]; omega
  rw [e]
  simp [padB]
theorem adj_sum (x : Int) : ((2981146554 - x % 4294967296) % 4294967296 + x % 4294967296) % 4294967296 = 2981146554 := by omega
theorem s5 (l : List Int) (hb : Byt l) : Spec Try.prog 5 [.d false (.sl 1 (ints .u8 l))] none ⟨True, .d true (.v (.bool true)), none⟩ := by
  have hf30 : F19 30 = e30 := rfl
  have hf31 : F19 31 = e31 := rfl
  have hf32 : F19 32 = e32 := rfl
  have hf33 : F19 33 = e33 := rfl
  have hf34 : F19 34 = e34 := rfl
  have hf36 : F19 36 = e36 := rfl
  have hf37 : F19 37 = e37 := rfl
  have hf38 : F19 38 = e38 := rfl
  refine spec_of_awp (Gf_ok F19_ok) Try.func5 rfl (Nat.le_of_ble_eq_true rfl) fun E hps hN _ => ?_
  simp only [begin, List.zipIdx_cons, List.zipIdx_nil, List.map_cons, List.map_nil, Option.toList, Nat.zero_add, Nat.reduceAdd]
  repeat refine AWP.nest ?_
  first | refine AWP.rs (Gf_ok F19_ok) [] [0] (by rw [hN]; decide) fun K hK => ?_ | refine AWP.rn (Gf_ok F19_ok) [] [0] (by rw [hN]; decide) fun K hK => ?_
  repeat
    first | apply eL | (apply eG; (case ht => exact rfl); (case hef => exact rfl))
    case e => (simp only [evB, evG, evGR, Q.evalR, boolOf, opQ, opMove, opPick, opBin, opUn, opConv, opExtract, opNil, opAlloc, opBox, opBuild, opBuildSlice, opMakeSlice, opLoad, opStore, opSlice, opFieldAddr, opField, opIndexAddr, opIndex, opLen, opMinMax, opAppend, opAppendZ, opCall, opCallF, Q.opnd, Q.opndW, Q.eval, Q.ret, Q.elems, Q.cells, Q.parts, Q.args, Q.src, Q.optInt, intOf?, placeOf, fillA, setAll, mkAgg, datas, loadSel, ofCells, pickV, binI, binS, look, Value.oneCell', normD, smallNil, KD.known, KD.agg, T, TI.z, Dat.wd, Dat.cells, Dat.nagg, AV.ren, renL, AV.renT, AV.hi, AV.hi1, Ob.isRow, Ob.inn, Ob.out, Ob.gam, Ob.data, Ob.alike, loL, Gf, Mu, Dat.flat, Dat.isV, List.contains, List.elem, Option.isSome, Nat.reduceAdd, Nat.reduceSub, Nat.reduceMul, Nat.reduceEqDiff, Nat.reduceLeDiff, Nat.reduceBEq, reduceIte, reduceCtorEq, Int.reduceLT, Int.reduceLE, Int.reduceNeg, Int.reduceEq, Int.reduceToNat, Int.reducePow, Nat.reducePow, Nat.reduceLT, IntKind.bits, hf30, e30, hf31, e31, hf32, e32, hf33, e33, hf34, e34, hf36, e36, hf37, e37, hf38, e38]; (try simp (disch := omega) only [w_i64, w_i32, w_u8, w_u16, w_u32, w_u64, tdiv_nn, tmod_nn]); exact rfl)
    case s => ((try simp only [evU]); exact rfl)
    case hp => (first | trivial | ((repeat' refine And.intro ?_ ?_) <;> first | trivial | assumption | omega | exact fun h => h | (intro hq; first | trivial | assumption | omega | (simp_all; done)) | (simp; done)) | (intro hg; (repeat' refine And.intro ?_ ?_) <;> first | trivial | assumption | omega | exact fun h => h | (intro hq; first | trivial | assumption | omega | (simp_all; done)) | (simp; done)))
  rw [evalL_nil]
  refine hK _ ?_
  clear hK K
  simp only [evU, St.keep, List.map_cons, look, reduceIte, Nat.reduceEqDiff]
  try show AWP _ _ _ _ _
  repeat refine AWP.nest ?_
  first | refine AWP.rs (Gf_ok F19_ok) [] [0, 5] (by rw [hN]; decide) fun K hK => ?_ | refine AWP.rn (Gf_ok F19_ok) [] [0, 5] (by rw [hN]; decide) fun K hK => ?_
  repeat
    first | apply eL | (apply eG; (case ht => exact rfl); (case hef => exact rfl))
    case e => (simp only [evB, evG, evGR, Q.evalR, boolOf, opQ, opMove, opPick, opBin, opUn, opConv, opExtract, opNil, opAlloc, opBox, opBuild, opBuildSlice, opMakeSlice, opLoad, opStore, opSlice, opFieldAddr, opField, opIndexAddr, opIndex, opLen, opMinMax, opAppend, opAppendZ, opCall, opCallF, Q.opnd, Q.opndW, Q.eval, Q.ret, Q.elems, Q.cells, Q.parts, Q.args, Q.src, Q.optInt, intOf?, placeOf, fillA, setAll, mkAgg, datas, loadSel, ofCells, pickV, binI, binS, look, Value.oneCell', normD, smallNil, KD.known, KD.agg, T, TI.z, Dat.wd, Dat.cells, Dat.nagg, AV.ren, renL, AV.renT, AV.hi, AV.hi1, Ob.isRow, Ob.inn, Ob.out, Ob.gam, Ob.data, Ob.alike, loL, Gf, Mu, Dat.flat, Dat.isV, List.contains, List.elem, Option.isSome, Nat.reduceAdd, Nat.reduceSub, Nat.reduceMul, Nat.reduceEqDiff, Nat.reduceLeDiff, Nat.reduceBEq, reduceIte, reduceCtorEq, Int.reduceLT, Int.reduceLE, Int.reduceNeg, Int.reduceEq, Int.reduceToNat, Int.reducePow, Nat.reducePow, Nat.reduceLT, IntKind.bits, hf30, e30, hf31, e31, hf32, e32, hf33, e33, hf34, e34, hf36, e36, hf37, e37, hf38, e38]; (try simp (disch := omega) only [w_i64, w_i32, w_u8, w_u16, w_u32, w_u64, tdiv_nn, tmod_nn]); exact rfl)
    case s => ((try simp only [evU]); exact rfl)
    case hp => (first | trivial | ((repeat' refine And.intro ?_ ?_) <;> first | trivial | assumption | omega | exact fun h => h | (intro hq; first | trivial | assumption | omega | (simp_all; done)) | (simp; done)) | (intro hg; (repeat' refine And.intro ?_ ?_) <;> first | trivial | assumption | omega | exact fun h => h | (intro hq; first | trivial | assumption | omega | (simp_all; done)) | (simp; done)))
  rw [evalL_nil]
  refine hK _ ?_
  clear hK K
  simp only [evU, St.keep, List.map_cons, look, reduceIte, Nat.reduceEqDiff]
  try show AWP _ _ _ _ _
  repeat refine AWP.nest ?_
  first | refine AWP.seq (AWP.cond (b := _) rfl (fun hc => ?_) (fun hc => ?_)) | refine AWP.cond (b := _) rfl (fun hc => ?_) (fun hc => ?_)
  all_goals try simp only [decide_eq_true_eq, decide_eq_false_iff_not, Bool.and_eq_true, Bool.or_eq_true, Bool.and_eq_false_iff, Bool.or_eq_false_iff, beq_iff_eq, bne_iff_ne, Int.ofNat_lt, Int.ofNat_le] at hc
  · cases hc
  refine AWP.skip ?_
  show AWP _ _ _ _ _
  repeat refine AWP.nest ?_
  first | refine AWP.rs (Gf_ok F19_ok) [] [0] (by rw [hN]; decide) fun K hK => ?_ | refine AWP.rn (Gf_ok F19_ok) [] [0] (by rw [hN]; decide) fun K hK => ?_
  repeat
    first | apply eL | (apply eG; (case ht => exact rfl); (case hef => exact rfl))
    case e => (simp only [evB, evG, evGR, Q.evalR, boolOf, opQ, opMove, opPick, opBin, opUn, opConv, opExtract, opNil, opAlloc, opBox, opBuild, opBuildSlice, opMakeSlice, opLoad, opStore, opSlice, opFieldAddr, opField, opIndexAddr, opIndex, opLen, opMinMax, opAppend, opAppendZ, opCall, opCallF, Q.opnd, Q.opndW, Q.eval, Q.ret, Q.elems, Q.cells, Q.parts, Q.args, Q.src, Q.optInt, intOf?, placeOf, fillA, setAll, mkAgg, datas, loadSel, ofCells, pickV, binI, binS, look, Value.oneCell', normD, smallNil, KD.known, KD.agg, T, TI.z, Dat.wd, Dat.cells, Dat.nagg, AV.ren, renL, AV.renT, AV.hi, AV.hi1, Ob.isRow, Ob.inn, Ob.out, Ob.gam, Ob.data, Ob.alike, loL, Gf, Mu, Dat.flat, Dat.isV, List.contains, List.elem, Option.isSome, Nat.reduceAdd, Nat.reduceSub, Nat.reduceMul, Nat.reduceEqDiff, Nat.reduceLeDiff, Nat.reduceBEq, reduceIte, reduceCtorEq, Int.reduceLT, Int.reduceLE, Int.reduceNeg, Int.reduceEq, Int.reduceToNat, Int.reducePow, Nat.reducePow, Nat.reduceLT, IntKind.bits, hf30, e30, hf31, e31, hf32, e32, hf33, e33, hf34, e34, hf36, e36, hf37, e37, hf38, e38]; (try simp (disch := omega) only [w_i64, w_i32, w_u8, w_u16, w_u32, w_u64, tdiv_nn, tmod_nn]); exact rfl)
    case s => ((try simp only [evU]); exact rfl)
    case hp => (first | trivial | ((repeat' refine And.intro ?_ ?_) <;> first | trivial | assumption | omega | exact fun h => h | (intro hq; first | trivial | assumption | omega | (simp_all; done)) | (simp; done)) | (intro hg; (repeat' refine And.intro ?_ ?_) <;> first | trivial | assumption | omega | exact fun h => h | (intro hq; first | trivial | assumption | omega | (simp_all; done)) | (simp; done)))
  rw [evalL_nil]
  refine hK _ ?_
  clear hK K
  simp only [evU, St.keep, List.map_cons, look, reduceIte, Nat.reduceEqDiff]
  try show AWP _ _ _ _ _
  have hbm := hb.take 200
  have hlm : (l.take 200).length ≤ 200 := by simp only [List.length_take]; omega
  generalize l.take 200 = m at hbm hlm ⊢
  repeat refine AWP.nest ?_
  first | refine AWP.rs (Gf_ok F19_ok) [] [0, 3] (by rw [hN]; decide) fun K hK => ?_ | refine AWP.rn (Gf_ok F19_ok) [] [0, 3] (by rw [hN]; decide) fun K hK => ?_
  repeat
    first | apply eL | (apply eG; (case ht => exact rfl); (case hef => exact rfl))
    case e => (simp only [evB, evG, evGR, Q.evalR, boolOf, opQ, opMove, opPick, opBin, opUn, opConv, opExtract, opNil, opAlloc, opBox, opBuild, opBuildSlice, opMakeSlice, opLoad, opStore, opSlice, opFieldAddr, opField, opIndexAddr, opIndex, opLen, opMinMax, opAppend, opAppendZ, opCall, opCallF, Q.opnd, Q.opndW, Q.eval, Q.ret, Q.elems, Q.cells, Q.parts, Q.args, Q.src, Q.optInt, intOf?, placeOf, fillA, setAll, mkAgg, datas, loadSel, ofCells, pickV, binI, binS, look, Value.oneCell', normD, smallNil, KD.known, KD.agg, T, TI.z, Dat.wd, Dat.cells, Dat.nagg, AV.ren, renL, AV.renT, AV.hi, AV.hi1, Ob.isRow, Ob.inn, Ob.out, Ob.gam, Ob.data, Ob.alike, loL, Gf, Mu, Dat.flat, Dat.isV, List.contains, List.elem, Option.isSome, Nat.reduceAdd, Nat.reduceSub, Nat.reduceMul, Nat.reduceEqDiff, Nat.reduceLeDiff, Nat.reduceBEq, reduceIte, reduceCtorEq, Int.reduceLT, Int.reduceLE, Int.reduceNeg, Int.reduceEq, Int.reduceToNat, Int.reducePow, Nat.reducePow, Nat.reduceLT, IntKind.bits, hf30, e30, hf31, e31, hf32, e32, hf33, e33, hf34, e34, hf36, e36, hf37, e37, hf38, e38]; (try simp (disch := omega) only [w_i64, w_i32, w_u8, w_u16, w_u32, w_u64, tdiv_nn, tmod_nn]); exact rfl)
    case s => ((try simp only [evU]); exact rfl)
    case hp => (first | trivial | ((repeat' refine And.intro ?_ ?_) <;> first | trivial | assumption | omega | exact fun h => h | (intro hq; first | trivial | assumption | omega | (simp_all; done)) | (simp; done)) | (intro hg; (repeat' refine And.intro ?_ ?_) <;> first | trivial | assumption | omega | exact fun h => h | (intro hq; first | trivial | assumption | omega | (simp_all; done)) | (simp; done)))
  rw [evalL_nil]
  refine hK _ ?_
  clear hK K
  simp only [evU, St.keep, List.map_cons, look, reduceIte, Nat.reduceEqDiff]
  try show AWP _ _ _ _ _
  have hbp := padB_byt hbm
  have hpl := padB_len2 m
  have hbz : Byt (List.replicate (((padB m).length : Int) - m.length).toNat 0) := Byt.replicate _ (by decide) (by decide)
  have hl3 : (padB m).length ≤ 1099511627776 := by omega
  repeat refine AWP.nest ?_
  first | refine AWP.rs (Gf_ok F19_ok) [] [2] (by rw [hN]; decide) fun K hK => ?_ | refine AWP.rn (Gf_ok F19_ok) [] [2] (by rw [hN]; decide) fun K hK => ?_
  repeat
    first | apply eL | (apply eG; (case ht => exact rfl); (case hef => exact rfl))
    case e => (simp only [evB, evG, evGR, Q.evalR, boolOf, opQ, opMove, opPick, opBin, opUn, opConv, opExtract, opNil, opAlloc, opBox, opBuild, opBuildSlice, opMakeSlice, opLoad, opStore, opSlice, opFieldAddr, opField, opIndexAddr, opIndex, opLen, opMinMax, opAppend, opAppendZ, opCall, opCallF, Q.opnd, Q.opndW, Q.eval, Q.ret, Q.elems, Q.cells, Q.parts, Q.args, Q.src, Q.optInt, intOf?, placeOf, fillA, setAll, mkAgg, datas, loadSel, ofCells, pickV, binI, binS, look, Value.oneCell', normD, smallNil, KD.known, KD.agg, T, TI.z, Dat.wd, Dat.cells, Dat.nagg, AV.ren, renL, AV.renT, AV.hi, AV.hi1, Ob.isRow, Ob.inn, Ob.out, Ob.gam, Ob.data, Ob.alike, loL, Gf, Mu, Dat.flat, Dat.isV, List.contains, List.elem, Option.isSome, Nat.reduceAdd, Nat.reduceSub, Nat.reduceMul, Nat.reduceEqDiff, Nat.reduceLeDiff, Nat.reduceBEq, reduceIte, reduceCtorEq, Int.reduceLT, Int.reduceLE, Int.reduceNeg, Int.reduceEq, Int.reduceToNat, Int.reducePow, Nat.reducePow, Nat.reduceLT, IntKind.bits, hf30, e30, hf31, e31, hf32, e32, hf33, e33, hf34, e34, hf36, e36, hf37, e37, hf38, e38, refSum_pad, padB_rem, padB_lt, padB_same, adj_sum]; (try simp (disch := omega) only [w_i64, w_i32, w_u8, w_u16, w_u32, w_u64, tdiv_nn, tmod_nn]); exact rfl)
    case s => ((try simp only [evU]); exact rfl)
    case hp => (first | trivial | ((repeat' refine And.intro ?_ ?_) <;> first | trivial | assumption | omega | exact fun h => h | (intro hq; first | trivial | assumption | omega | (simp_all; done)) | (simp; done)) | (intro hg; (repeat' refine And.intro ?_ ?_) <;> first | trivial | assumption | omega | exact fun h => h | (intro hq; first | trivial | assumption | omega | (simp_all; done)) | (simp; done)))
  rw [evalL_nil]
  refine hK _ ?_
  clear hK K
  simp only [evU, St.keep, List.map_cons, look, reduceIte, Nat.reduceEqDiff]
  try show AWP _ _ _ _ _
  refine AWP.ret ?_
  refine ⟨.inl rfl, ⟨⟨_, rfl, ?_⟩, fun ob hob => by cases hob⟩⟩
  simp only [look, reduceIte, Nat.reduceEqDiff]
  exact sub1_of rfl

theorem law5 (x : Dat) (h : (AT.sl 5 (.int .u8)).holds x) : Spec Try.prog 5 [.d x.flat x] none ⟨True, .d true (.v (.bool true)), none⟩ := by
  obtain ⟨l, rfl, hb⟩ := bytes_of h
  exact s5 l hb
end Go.AM

