/- AM: the laws of package tally. -/
import Derived.Test.YtmfobkiljlepjaaC8
import Derived.Test.YtmfobkiljlepjaaA25
set_option maxRecDepth 100000
set_option maxHeartbeats 8000000
set_option linter.unusedSimpArgs false
set_option linter.unusedVariables false
namespace Go.AM
open Go Go.Proofs


theorem take_snoc' {α : Type} (d : α) {l : List α} {i : Nat} (hi : i < l.length) : l.take (i + 1) = l.take i ++ [l.getD i d] := by
  rw [List.take_add_one, List.getElem?_eq_getElem hi, List.getD_eq_getElem?_getD, List.getElem?_eq_getElem hi]
  rfl
/-! ### TallyParts -/
/-- The parts, padded, one behind the other. -/
def padAll (ps : List (List Int)) : List Int := (ps.map padB).flatten
theorem padAll_snoc (ps : List (List Int)) (p : List Int) : padAll (ps ++ [p]) = padAll ps ++ padB p := by simp [padAll]
theorem padAll_mod : ∀ ps : List (List Int), (padAll ps).length % 4 = 0
  | [] => rfl
  | p :: ps => by
    have h1 := (padB_len2 p).1
    have h2 := padAll_mod ps
    simp only [padAll, List.map_cons, List.flatten_cons, List.length_append] at h2 ⊢
    omega
theorem padAll_byt {ps : List (List Int)} (h : ∀ p ∈ ps, Byt p) : Byt (padAll ps) := by
  intro b hb
  simp only [padAll, List.mem_flatten, List.mem_map] at hb
  obtain ⟨l, ⟨p, hp, rfl⟩, hb⟩ := hb
  exact padB_byt (h p hp) b hb
theorem padAll_len : ∀ {ps : List (List Int)}, (∀ p ∈ ps, p.length ≤ 40) → (padAll ps).length ≤ 44 * ps.length
  | [], _ => by simp [padAll]
  | p :: ps, h => by
    have h1 := (padB_len2 p).2.2
    have h2 := padAll_len (ps := ps) (fun q hq => h q (by simp [hq]))
    have h3 := h p (by simp)
    simp only [padAll, List.map_cons, List.flatten_cons, List.length_append, List.length_cons] at h2 ⊢
    omega
theorem padAll_sum (ps : List (List Int)) (p : List Int) : refSum 0 (padAll (ps ++ [p])) = refSum 0 (padAll ps) + refSum 0 p := by
  rw [padAll_snoc, refSum_append, refSum_mod4 (padB p) (0 + (padAll ps).length) 0 (by have := padAll_mod ps; omega), refSum_pad]
/-- The first eight, each cut at forty. -/
def cut8 (ls : List (List Int)) (i : Nat) : List (List Int) := ((ls.take 8).take i).map fun p => p.take 40
theorem cut8_step {ls : List (List Int)} {i : Nat} (hi : i < ls.length) (h8 : i < 8) : cut8 ls (i + 1) = cut8 ls i ++ [(ls.getD i []).take 40] := by
  unfold cut8
  rw [List.take_take, List.take_take, show min (i + 1) 8 = i + 1 by omega, show min i 8 = i by omega, take_snoc' [] hi, List.map_append]
  rfl
theorem cut8_stop {ls : List (List Int)} {i : Nat} (h8 : 8 ≤ i) : cut8 ls (i + 1) = cut8 ls i := by
  unfold cut8
  rw [List.take_take, List.take_take, show min (i + 1) 8 = 8 by omega, show min i 8 = 8 by omega]
theorem cut8_byt {ls : List (List Int)} (h : ∀ l ∈ ls, Byt l) (i : Nat) : ∀ p ∈ cut8 ls i, Byt p := by
  intro p hp
  simp only [cut8, List.mem_map] at hp
  obtain ⟨q, hq, rfl⟩ := hp
  exact (h q (List.mem_of_mem_take (List.mem_of_mem_take hq))).take 40
theorem cut8_len (ls : List (List Int)) (i : Nat) : (∀ p ∈ cut8 ls i, p.length ≤ 40) ∧ (cut8 ls i).length ≤ 8 := by
  constructor
  · intro p hp
    simp only [cut8, List.mem_map] at hp
    obtain ⟨q, _, rfl⟩ := hp
    simp only [List.length_take]; omega
  · simp only [cut8, List.length_map, List.length_take]; omega
theorem s3 (ls : List (List Int)) (hb : ∀ l ∈ ls, Byt l) : Spec Try.prog 3 [.d false (.sl 1 (rows ls))] none ⟨True, .d true (.v (.bool true)), none⟩ := by
  have hf30 : F19 30 = e30 := rfl
  have hf31 : F19 31 = e31 := rfl
  have hf32 : F19 32 = e32 := rfl
  have hf33 : F19 33 = e33 := rfl
  have hf34 : F19 34 = e34 := rfl
  refine spec_of_awp (Gf_ok F19_ok) Try.func3 rfl (Nat.le_of_ble_eq_true rfl) fun E hps hN _ => ?_
  simp only [begin, List.zipIdx_cons, List.zipIdx_nil, List.map_cons, List.map_nil, Option.toList, Nat.zero_add, Nat.reduceAdd]
  repeat refine AWP.nest ?_
  first | refine AWP.rs (Gf_ok F19_ok) [] [0] (by rw [hN]; decide) fun K hK => ?_ | refine AWP.rn (Gf_ok F19_ok) [] [0] (by rw [hN]; decide) fun K hK => ?_
  repeat
    first | apply eL | (apply eG; (case ht => exact rfl); (case hef => exact rfl))
    case e => (simp only [evB, evG, evGR, Q.evalR, boolOf, opQ, opMove, opPick, opBin, opUn, opConv, opExtract, opNil, opAlloc, opBox, opBuild, opBuildSlice, opMakeSlice, opLoad, opStore, opSlice, opFieldAddr, opField, opIndexAddr, opIndex, opLen, opMinMax, opAppend, opAppendZ, opCall, opCallF, Q.opnd, Q.opndW, Q.eval, Q.ret, Q.elems, Q.cells, Q.parts, Q.args, Q.src, Q.optInt, intOf?, placeOf, fillA, setAll, mkAgg, datas, loadSel, ofCells, pickV, binI, binS, look, Value.oneCell', normD, smallNil, KD.known, KD.agg, T, TI.z, Dat.wd, Dat.cells, Dat.nagg, AV.ren, renL, AV.renT, AV.hi, AV.hi1, Ob.isRow, Ob.inn, Ob.out, Ob.gam, Ob.data, Ob.alike, loL, Gf, Mu, Dat.flat, Dat.isV, List.contains, List.elem, Option.isSome, Nat.reduceAdd, Nat.reduceSub, Nat.reduceMul, Nat.reduceEqDiff, Nat.reduceLeDiff, Nat.reduceBEq, reduceIte, reduceCtorEq, Int.reduceLT, Int.reduceLE, Int.reduceNeg, Int.reduceEq, Int.reduceToNat, Int.reducePow, Nat.reducePow, Nat.reduceLT, IntKind.bits, hf30, e30, hf31, e31, hf32, e32, hf33, e33, hf34, e34]; (try simp (disch := omega) only [w_i64, w_i32, w_u8, w_u16, w_u32, w_u64, tdiv_nn, tmod_nn]); exact rfl)
    case s => ((try simp only [evU]); exact rfl)
    case hp => (first | trivial | ((repeat' refine And.intro ?_ ?_) <;> first | trivial | assumption | omega | exact fun h => h | (intro hq; first | trivial | assumption | omega | (simp_all; done)) | (simp; done)) | (intro hg; (repeat' refine And.intro ?_ ?_) <;> first | trivial | assumption | omega | exact fun h => h | (intro hq; first | trivial | assumption | omega | (simp_all; done)) | (simp; done)))
  rw [evalL_nil]
  refine hK _ ?_
  clear hK K
  simp only [evU, St.keep, List.map_cons, look, reduceIte, Nat.reduceEqDiff]
  try show AWP _ _ _ _ _
  repeat refine AWP.nest ?_
  first | refine AWP.rs (Gf_ok F19_ok) [] [0, 8] (by rw [hN]; decide) fun K hK => ?_ | refine AWP.rn (Gf_ok F19_ok) [] [0, 8] (by rw [hN]; decide) fun K hK => ?_
  repeat
    first | apply eL | (apply eG; (case ht => exact rfl); (case hef => exact rfl))
    case e => (simp only [evB, evG, evGR, Q.evalR, boolOf, opQ, opMove, opPick, opBin, opUn, opConv, opExtract, opNil, opAlloc, opBox, opBuild, opBuildSlice, opMakeSlice, opLoad, opStore, opSlice, opFieldAddr, opField, opIndexAddr, opIndex, opLen, opMinMax, opAppend, opAppendZ, opCall, opCallF, Q.opnd, Q.opndW, Q.eval, Q.ret, Q.elems, Q.cells, Q.parts, Q.args, Q.src, Q.optInt, intOf?, placeOf, fillA, setAll, mkAgg, datas, loadSel, ofCells, pickV, binI, binS, look, Value.oneCell', normD, smallNil, KD.known, KD.agg, T, TI.z, Dat.wd, Dat.cells, Dat.nagg, AV.ren, renL, AV.renT, AV.hi, AV.hi1, Ob.isRow, Ob.inn, Ob.out, Ob.gam, Ob.data, Ob.alike, loL, Gf, Mu, Dat.flat, Dat.isV, List.contains, List.elem, Option.isSome, Nat.reduceAdd, Nat.reduceSub, Nat.reduceMul, Nat.reduceEqDiff, Nat.reduceLeDiff, Nat.reduceBEq, reduceIte, reduceCtorEq, Int.reduceLT, Int.reduceLE, Int.reduceNeg, Int.reduceEq, Int.reduceToNat, Int.reducePow, Nat.reducePow, Nat.reduceLT, IntKind.bits, hf30, e30, hf31, e31, hf32, e32, hf33, e33, hf34, e34]; (try simp (disch := omega) only [w_i64, w_i32, w_u8, w_u16, w_u32, w_u64, tdiv_nn, tmod_nn]); exact rfl)
    case s => ((try simp only [evU]); exact rfl)
    case hp => (first | trivial | ((repeat' refine And.intro ?_ ?_) <;> first | trivial | assumption | omega | exact fun h => h | (intro hq; first | trivial | assumption | omega | (simp_all; done)) | (simp; done)) | (intro hg; (repeat' refine And.intro ?_ ?_) <;> first | trivial | assumption | omega | exact fun h => h | (intro hq; first | trivial | assumption | omega | (simp_all; done)) | (simp; done)))
  rw [evalL_nil]
  refine hK _ ?_
  clear hK K
  simp only [evU, St.keep, List.map_cons, look, reduceIte, Nat.reduceEqDiff]
  try show AWP _ _ _ _ _
  repeat refine AWP.nest ?_
  first | refine AWP.seq (AWP.cond (b := _) rfl (fun hc => ?_) (fun hc => ?_)) | refine AWP.cond (b := _) rfl (fun hc => ?_) (fun hc => ?_)
  all_goals try simp only [decide_eq_true_eq, decide_eq_false_iff_not, Bool.and_eq_true, Bool.or_eq_true, Bool.and_eq_false_iff, Bool.or_eq_false_iff, beq_iff_eq, bne_iff_ne, Int.ofNat_lt, Int.ofNat_le] at hc
  · cases hc
  refine AWP.skip ?_
  show AWP _ _ _ _ _
  repeat refine AWP.nest ?_
  first | refine AWP.rs (Gf_ok F19_ok) [] [0, 3] (by rw [hN]; decide) fun K hK => ?_ | refine AWP.rn (Gf_ok F19_ok) [] [0, 3] (by rw [hN]; decide) fun K hK => ?_
  repeat
    first | apply eL | (apply eG; (case ht => exact rfl); (case hef => exact rfl))
    case e => (simp only [evB, evG, evGR, Q.evalR, boolOf, opQ, opMove, opPick, opBin, opUn, opConv, opExtract, opNil, opAlloc, opBox, opBuild, opBuildSlice, opMakeSlice, opLoad, opStore, opSlice, opFieldAddr, opField, opIndexAddr, opIndex, opLen, opMinMax, opAppend, opAppendZ, opCall, opCallF, Q.opnd, Q.opndW, Q.eval, Q.ret, Q.elems, Q.cells, Q.parts, Q.args, Q.src, Q.optInt, intOf?, placeOf, fillA, setAll, mkAgg, datas, loadSel, ofCells, pickV, binI, binS, look, Value.oneCell', normD, smallNil, KD.known, KD.agg, T, TI.z, Dat.wd, Dat.cells, Dat.nagg, AV.ren, renL, AV.renT, AV.hi, AV.hi1, Ob.isRow, Ob.inn, Ob.out, Ob.gam, Ob.data, Ob.alike, loL, Gf, Mu, Dat.flat, Dat.isV, List.contains, List.elem, Option.isSome, Nat.reduceAdd, Nat.reduceSub, Nat.reduceMul, Nat.reduceEqDiff, Nat.reduceLeDiff, Nat.reduceBEq, reduceIte, reduceCtorEq, Int.reduceLT, Int.reduceLE, Int.reduceNeg, Int.reduceEq, Int.reduceToNat, Int.reducePow, Nat.reducePow, Nat.reduceLT, IntKind.bits, hf30, e30, hf31, e31, hf32, e32, hf33, e33, hf34, e34]; (try simp (disch := omega) only [w_i64, w_i32, w_u8, w_u16, w_u32, w_u64, tdiv_nn, tmod_nn]); exact rfl)
    case s => ((try simp only [evU]); exact rfl)
    case hp => (first | trivial | ((repeat' refine And.intro ?_ ?_) <;> first | trivial | assumption | omega | exact fun h => h | (intro hq; first | trivial | assumption | omega | (simp_all; done)) | (simp; done)) | (intro hg; (repeat' refine And.intro ?_ ?_) <;> first | trivial | assumption | omega | exact fun h => h | (intro hq; first | trivial | assumption | omega | (simp_all; done)) | (simp; done)))
  rw [evalL_nil]
  refine hK _ ?_
  clear hK K
  simp only [evU, St.keep, List.map_cons, look, reduceIte, Nat.reduceEqDiff]
  try show AWP _ _ _ _ _
  repeat refine AWP.nest ?_
  first | refine AWP.rs (Gf_ok F19_ok) [] [0, 3, 4] (by rw [hN]; decide) fun K hK => ?_ | refine AWP.rn (Gf_ok F19_ok) [] [0, 3, 4] (by rw [hN]; decide) fun K hK => ?_
  repeat
    first | apply eL | (apply eG; (case ht => exact rfl); (case hef => exact rfl))
    case e => (simp only [evB, evG, evGR, Q.evalR, boolOf, opQ, opMove, opPick, opBin, opUn, opConv, opExtract, opNil, opAlloc, opBox, opBuild, opBuildSlice, opMakeSlice, opLoad, opStore, opSlice, opFieldAddr, opField, opIndexAddr, opIndex, opLen, opMinMax, opAppend, opAppendZ, opCall, opCallF, Q.opnd, Q.opndW, Q.eval, Q.ret, Q.elems, Q.cells, Q.parts, Q.args, Q.src, Q.optInt, intOf?, placeOf, fillA, setAll, mkAgg, datas, loadSel, ofCells, pickV, binI, binS, look, Value.oneCell', normD, smallNil, KD.known, KD.agg, T, TI.z, Dat.wd, Dat.cells, Dat.nagg, AV.ren, renL, AV.renT, AV.hi, AV.hi1, Ob.isRow, Ob.inn, Ob.out, Ob.gam, Ob.data, Ob.alike, loL, Gf, Mu, Dat.flat, Dat.isV, List.contains, List.elem, Option.isSome, Nat.reduceAdd, Nat.reduceSub, Nat.reduceMul, Nat.reduceEqDiff, Nat.reduceLeDiff, Nat.reduceBEq, reduceIte, reduceCtorEq, Int.reduceLT, Int.reduceLE, Int.reduceNeg, Int.reduceEq, Int.reduceToNat, Int.reducePow, Nat.reducePow, Nat.reduceLT, IntKind.bits, hf30, e30, hf31, e31, hf32, e32, hf33, e33, hf34, e34]; (try simp (disch := omega) only [w_i64, w_i32, w_u8, w_u16, w_u32, w_u64, tdiv_nn, tmod_nn]); exact rfl)
    case s => ((try simp only [evU]); exact rfl)
    case hp => (first | trivial | ((repeat' refine And.intro ?_ ?_) <;> first | trivial | assumption | omega | exact fun h => h | (intro hq; first | trivial | assumption | omega | (simp_all; done)) | (simp; done)) | (intro hg; (repeat' refine And.intro ?_ ?_) <;> first | trivial | assumption | omega | exact fun h => h | (intro hq; first | trivial | assumption | omega | (simp_all; done)) | (simp; done)))
  rw [evalL_nil]
  refine hK _ ?_
  clear hK K
  simp only [evU, St.keep, List.map_cons, look, reduceIte, Nat.reduceEqDiff]
  try show AWP _ _ _ _ _
  repeat refine AWP.nest ?_
  first | refine AWP.rs (Gf_ok F19_ok) [] [3, 4, 9, 10, 11] (by rw [hN]; decide) fun K hK => ?_ | refine AWP.rn (Gf_ok F19_ok) [] [3, 4, 9, 10, 11] (by rw [hN]; decide) fun K hK => ?_
  repeat
    first | apply eL | (apply eG; (case ht => exact rfl); (case hef => exact rfl))
    case e => (simp only [evB, evG, evGR, Q.evalR, boolOf, opQ, opMove, opPick, opBin, opUn, opConv, opExtract, opNil, opAlloc, opBox, opBuild, opBuildSlice, opMakeSlice, opLoad, opStore, opSlice, opFieldAddr, opField, opIndexAddr, opIndex, opLen, opMinMax, opAppend, opAppendZ, opCall, opCallF, Q.opnd, Q.opndW, Q.eval, Q.ret, Q.elems, Q.cells, Q.parts, Q.args, Q.src, Q.optInt, intOf?, placeOf, fillA, setAll, mkAgg, datas, loadSel, ofCells, pickV, binI, binS, look, Value.oneCell', normD, smallNil, KD.known, KD.agg, T, TI.z, Dat.wd, Dat.cells, Dat.nagg, AV.ren, renL, AV.renT, AV.hi, AV.hi1, Ob.isRow, Ob.inn, Ob.out, Ob.gam, Ob.data, Ob.alike, loL, Gf, Mu, Dat.flat, Dat.isV, List.contains, List.elem, Option.isSome, Nat.reduceAdd, Nat.reduceSub, Nat.reduceMul, Nat.reduceEqDiff, Nat.reduceLeDiff, Nat.reduceBEq, reduceIte, reduceCtorEq, Int.reduceLT, Int.reduceLE, Int.reduceNeg, Int.reduceEq, Int.reduceToNat, Int.reducePow, Nat.reducePow, Nat.reduceLT, IntKind.bits, hf30, e30, hf31, e31, hf32, e32, hf33, e33, hf34, e34]; (try simp (disch := omega) only [w_i64, w_i32, w_u8, w_u16, w_u32, w_u64, tdiv_nn, tmod_nn]); exact rfl)
    case s => ((try simp only [evU]); exact rfl)
    case hp => (first | trivial | ((repeat' refine And.intro ?_ ?_) <;> first | trivial | assumption | omega | exact fun h => h | (intro hq; first | trivial | assumption | omega | (simp_all; done)) | (simp; done)) | (intro hg; (repeat' refine And.intro ?_ ?_) <;> first | trivial | assumption | omega | exact fun h => h | (intro hq; first | trivial | assumption | omega | (simp_all; done)) | (simp; done)))
  rw [evalL_nil]
  refine hK _ ?_
  clear hK K
  simp only [evU, St.keep, List.map_cons, look, reduceIte, Nat.reduceEqDiff]
  try show AWP _ _ _ _ _
  refine AWP.len 9 rfl fun hlen => ?_
  rw [rows_length] at hlen
  refine AWP.nilD 3 true 1 rfl ?_
  refine AWP.keep [3, 4, 9, 10, 11] ?_
  simp only [St.keep, List.map_cons, List.map_nil, look, reduceIte, Nat.reduceEqDiff]
  repeat refine AWP.nest ?_
  first | refine AWP.seq (AWP.block ?_) | refine AWP.block ?_
  refine AWP.loop (fun k st => ∃ (i : Nat), i ≤ ls.length ∧ k = ls.length - i ∧ st = ⟨[(3, .d true (.sl 1 (ints .u8 (padAll (cut8 ls i))))), (4, .d true (.v (.int .u32 (refSum 0 (padAll (cut8 ls i)) % 4294967296)))), (9, .d false (.sl 1 (rows ls))), (10, .d true (.v (.int .i64 (ls.length : Int)))), (11, .d true (.v (.int .i64 (i : Int))))], []⟩) (ls.length) ?_ ?_
  · exact ⟨0, Nat.zero_le _, rfl, rfl⟩
  rintro k st ⟨i, hi, hk, rfl⟩
  have hAb := padAll_byt (cut8_byt hb i)
  have hAl : (padAll (cut8 ls i)).length ≤ 352 := by
    have h1 := cut8_len ls i
    have h2 := padAll_len h1.1
    omega
  repeat refine AWP.nest ?_
  first | refine AWP.rs (Gf_ok F19_ok) [] [3, 4, 9, 10, 11, 12] (by rw [hN]; decide) fun K hK => ?_ | refine AWP.rn (Gf_ok F19_ok) [] [3, 4, 9, 10, 11, 12] (by rw [hN]; decide) fun K hK => ?_
  repeat
    first | apply eL | (apply eG; (case ht => exact rfl); (case hef => exact rfl))
    case e => (simp only [evB, evG, evGR, Q.evalR, boolOf, opQ, opMove, opPick, opBin, opUn, opConv, opExtract, opNil, opAlloc, opBox, opBuild, opBuildSlice, opMakeSlice, opLoad, opStore, opSlice, opFieldAddr, opField, opIndexAddr, opIndex, opLen, opMinMax, opAppend, opAppendZ, opCall, opCallF, Q.opnd, Q.opndW, Q.eval, Q.ret, Q.elems, Q.cells, Q.parts, Q.args, Q.src, Q.optInt, intOf?, placeOf, fillA, setAll, mkAgg, datas, loadSel, ofCells, pickV, binI, binS, look, Value.oneCell', normD, smallNil, KD.known, KD.agg, T, TI.z, Dat.wd, Dat.cells, Dat.nagg, AV.ren, renL, AV.renT, AV.hi, AV.hi1, Ob.isRow, Ob.inn, Ob.out, Ob.gam, Ob.data, Ob.alike, loL, Gf, Mu, Dat.flat, Dat.isV, List.contains, List.elem, Option.isSome, Nat.reduceAdd, Nat.reduceSub, Nat.reduceMul, Nat.reduceEqDiff, Nat.reduceLeDiff, Nat.reduceBEq, reduceIte, reduceCtorEq, Int.reduceLT, Int.reduceLE, Int.reduceNeg, Int.reduceEq, Int.reduceToNat, Int.reducePow, Nat.reducePow, Nat.reduceLT, IntKind.bits, hf30, e30, hf31, e31, hf32, e32, hf33, e33, hf34, e34]; (try simp (disch := omega) only [w_i64, w_i32, w_u8, w_u16, w_u32, w_u64, tdiv_nn, tmod_nn]); exact rfl)
    case s => ((try simp only [evU]); exact rfl)
    case hp => (first | trivial | ((repeat' refine And.intro ?_ ?_) <;> first | trivial | assumption | omega | exact fun h => h | (intro hq; first | trivial | assumption | omega | (simp_all; done)) | (simp; done)) | (intro hg; (repeat' refine And.intro ?_ ?_) <;> first | trivial | assumption | omega | exact fun h => h | (intro hq; first | trivial | assumption | omega | (simp_all; done)) | (simp; done)))
  rw [evalL_nil]
  refine hK _ ?_
  clear hK K
  simp only [evU, St.keep, List.map_cons, look, reduceIte, Nat.reduceEqDiff]
  try show AWP _ _ _ _ _
  refine AWP.seq (AWP.cond (b := _) rfl (fun hc => ?_) (fun hc => ?_))
  rotate_left
  · refine AWP.exit ?_
    show AWP _ _ _ _ _
    simp only [decide_eq_false_iff_not, decide_eq_true_eq, Int.not_lt, Int.ofNat_lt, Int.ofNat_le] at hc
    repeat refine AWP.nest ?_
    first | refine AWP.rs (Gf_ok F19_ok) [] [2] (by rw [hN]; decide) fun K hK => ?_ | refine AWP.rn (Gf_ok F19_ok) [] [2] (by rw [hN]; decide) fun K hK => ?_
    repeat
      first | apply eL | (apply eG; (case ht => exact rfl); (case hef => exact rfl))
      case e => (simp only [evB, evG, evGR, Q.evalR, boolOf, opQ, opMove, opPick, opBin, opUn, opConv, opExtract, opNil, opAlloc, opBox, opBuild, opBuildSlice, opMakeSlice, opLoad, opStore, opSlice, opFieldAddr, opField, opIndexAddr, opIndex, opLen, opMinMax, opAppend, opAppendZ, opCall, opCallF, Q.opnd, Q.opndW, Q.eval, Q.ret, Q.elems, Q.cells, Q.parts, Q.args, Q.src, Q.optInt, intOf?, placeOf, fillA, setAll, mkAgg, datas, loadSel, ofCells, pickV, binI, binS, look, Value.oneCell', normD, smallNil, KD.known, KD.agg, T, TI.z, Dat.wd, Dat.cells, Dat.nagg, AV.ren, renL, AV.renT, AV.hi, AV.hi1, Ob.isRow, Ob.inn, Ob.out, Ob.gam, Ob.data, Ob.alike, loL, Gf, Mu, Dat.flat, Dat.isV, List.contains, List.elem, Option.isSome, Nat.reduceAdd, Nat.reduceSub, Nat.reduceMul, Nat.reduceEqDiff, Nat.reduceLeDiff, Nat.reduceBEq, reduceIte, reduceCtorEq, Int.reduceLT, Int.reduceLE, Int.reduceNeg, Int.reduceEq, Int.reduceToNat, Int.reducePow, Nat.reducePow, Nat.reduceLT, IntKind.bits, hf30, e30, hf31, e31, hf32, e32, hf33, e33, hf34, e34, beq_self_eq_true]; (try simp (disch := omega) only [w_i64, w_i32, w_u8, w_u16, w_u32, w_u64, tdiv_nn, tmod_nn]); exact rfl)
      case s => ((try simp only [evU]); exact rfl)
      case hp => (first | trivial | ((repeat' refine And.intro ?_ ?_) <;> first | trivial | assumption | omega | exact fun h => h | (intro hq; first | trivial | assumption | omega | (simp_all; done)) | (simp; done)) | (intro hg; (repeat' refine And.intro ?_ ?_) <;> first | trivial | assumption | omega | exact fun h => h | (intro hq; first | trivial | assumption | omega | (simp_all; done)) | (simp; done)))
    rw [evalL_nil]
    refine hK _ ?_
    clear hK K
    simp only [evU, St.keep, List.map_cons, look, reduceIte, Nat.reduceEqDiff]
    try show AWP _ _ _ _ _
    refine AWP.ret ?_
    refine ⟨.inl rfl, ⟨⟨_, rfl, ?_⟩, fun ob hob => by cases hob⟩⟩
    simp only [look, reduceIte, Nat.reduceEqDiff]
    exact sub1_of rfl
  simp only [decide_eq_true_eq, Int.ofNat_lt, Int.ofNat_le] at hc
  refine AWP.skip ?_
  show AWP _ _ _ _ _
  have hi' := hc
  clear hc
  have hbi : Byt (ls.getD i []) := by
    rw [List.getD_eq_getElem?_getD, List.getElem?_eq_getElem hi']
    exact hb _ (by simp)
  repeat refine AWP.nest ?_
  first | refine AWP.seq (AWP.block ?_) | refine AWP.block ?_
  repeat refine AWP.nest ?_
  first | refine AWP.rs (Gf_ok F19_ok) [] [3, 4, 5, 6, 9, 10, 11] (by rw [hN]; decide) fun K hK => ?_ | refine AWP.rn (Gf_ok F19_ok) [] [3, 4, 5, 6, 9, 10, 11] (by rw [hN]; decide) fun K hK => ?_
  repeat
    first | apply eL | (apply eG; (case ht => exact rfl); (case hef => exact rfl))
    case e => (simp only [evB, evG, evGR, Q.evalR, boolOf, opQ, opMove, opPick, opBin, opUn, opConv, opExtract, opNil, opAlloc, opBox, opBuild, opBuildSlice, opMakeSlice, opLoad, opStore, opSlice, opFieldAddr, opField, opIndexAddr, opIndex, opLen, opMinMax, opAppend, opAppendZ, opCall, opCallF, Q.opnd, Q.opndW, Q.eval, Q.ret, Q.elems, Q.cells, Q.parts, Q.args, Q.src, Q.optInt, intOf?, placeOf, fillA, setAll, mkAgg, datas, loadSel, ofCells, pickV, binI, binS, look, Value.oneCell', normD, smallNil, KD.known, KD.agg, T, TI.z, Dat.wd, Dat.cells, Dat.nagg, AV.ren, renL, AV.renT, AV.hi, AV.hi1, Ob.isRow, Ob.inn, Ob.out, Ob.gam, Ob.data, Ob.alike, loL, Gf, Mu, Dat.flat, Dat.isV, List.contains, List.elem, Option.isSome, Nat.reduceAdd, Nat.reduceSub, Nat.reduceMul, Nat.reduceEqDiff, Nat.reduceLeDiff, Nat.reduceBEq, reduceIte, reduceCtorEq, Int.reduceLT, Int.reduceLE, Int.reduceNeg, Int.reduceEq, Int.reduceToNat, Int.reducePow, Nat.reducePow, Nat.reduceLT, IntKind.bits, hf30, e30, hf31, e31, hf32, e32, hf33, e33, hf34, e34]; (try simp (disch := omega) only [w_i64, w_i32, w_u8, w_u16, w_u32, w_u64, tdiv_nn, tmod_nn]); exact rfl)
    case s => ((try simp only [evU]); exact rfl)
    case hp => (first | trivial | ((repeat' refine And.intro ?_ ?_) <;> first | trivial | assumption | omega | exact fun h => h | (intro hq; first | trivial | assumption | omega | (simp_all; done)) | (simp; done)) | (intro hg; (repeat' refine And.intro ?_ ?_) <;> first | trivial | assumption | omega | exact fun h => h | (intro hq; first | trivial | assumption | omega | (simp_all; done)) | (simp; done)))
  rw [evalL_nil]
  refine hK _ ?_
  clear hK K
  simp only [evU, St.keep, List.map_cons, look, reduceIte, Nat.reduceEqDiff]
  try show AWP _ _ _ _ _
  repeat refine AWP.nest ?_
  first | refine AWP.rs (Gf_ok F19_ok) [] [3, 4, 6, 9, 10, 11, 17] (by rw [hN]; decide) fun K hK => ?_ | refine AWP.rn (Gf_ok F19_ok) [] [3, 4, 6, 9, 10, 11, 17] (by rw [hN]; decide) fun K hK => ?_
  repeat
    first | apply eL | (apply eG; (case ht => exact rfl); (case hef => exact rfl))
    case e => (simp only [evB, evG, evGR, Q.evalR, boolOf, opQ, opMove, opPick, opBin, opUn, opConv, opExtract, opNil, opAlloc, opBox, opBuild, opBuildSlice, opMakeSlice, opLoad, opStore, opSlice, opFieldAddr, opField, opIndexAddr, opIndex, opLen, opMinMax, opAppend, opAppendZ, opCall, opCallF, Q.opnd, Q.opndW, Q.eval, Q.ret, Q.elems, Q.cells, Q.parts, Q.args, Q.src, Q.optInt, intOf?, placeOf, fillA, setAll, mkAgg, datas, loadSel, ofCells, pickV, binI, binS, look, Value.oneCell', normD, smallNil, KD.known, KD.agg, T, TI.z, Dat.wd, Dat.cells, Dat.nagg, AV.ren, renL, AV.renT, AV.hi, AV.hi1, Ob.isRow, Ob.inn, Ob.out, Ob.gam, Ob.data, Ob.alike, loL, Gf, Mu, Dat.flat, Dat.isV, List.contains, List.elem, Option.isSome, Nat.reduceAdd, Nat.reduceSub, Nat.reduceMul, Nat.reduceEqDiff, Nat.reduceLeDiff, Nat.reduceBEq, reduceIte, reduceCtorEq, Int.reduceLT, Int.reduceLE, Int.reduceNeg, Int.reduceEq, Int.reduceToNat, Int.reducePow, Nat.reducePow, Nat.reduceLT, IntKind.bits, hf30, e30, hf31, e31, hf32, e32, hf33, e33, hf34, e34]; (try simp (disch := omega) only [w_i64, w_i32, w_u8, w_u16, w_u32, w_u64, tdiv_nn, tmod_nn]); exact rfl)
    case s => ((try simp only [evU]); exact rfl)
    case hp => (first | trivial | ((repeat' refine And.intro ?_ ?_) <;> first | trivial | assumption | omega | exact fun h => h | (intro hq; first | trivial | assumption | omega | (simp_all; done)) | (simp; done)) | (intro hg; (repeat' refine And.intro ?_ ?_) <;> first | trivial | assumption | omega | exact fun h => h | (intro hq; first | trivial | assumption | omega | (simp_all; done)) | (simp; done)))
  rw [evalL_nil]
  refine hK _ ?_
  clear hK K
  simp only [evU, St.keep, List.map_cons, look, reduceIte, Nat.reduceEqDiff]
  try show AWP _ _ _ _ _
  repeat refine AWP.nest ?_
  first | refine AWP.seq (AWP.cond (b := _) rfl (fun hc => ?_) (fun hc => ?_)) | refine AWP.cond (b := _) rfl (fun hc => ?_) (fun hc => ?_)
  all_goals try simp only [decide_eq_true_eq, decide_eq_false_iff_not, Bool.and_eq_true, Bool.or_eq_true, Bool.and_eq_false_iff, Bool.or_eq_false_iff, beq_iff_eq, bne_iff_ne, Int.ofNat_lt, Int.ofNat_le] at hc
  · repeat refine AWP.nest ?_
    first | refine AWP.rs (Gf_ok F19_ok) [] [3, 4, 6, 9, 10, 11] (by rw [hN]; decide) fun K hK => ?_ | refine AWP.rn (Gf_ok F19_ok) [] [3, 4, 6, 9, 10, 11] (by rw [hN]; decide) fun K hK => ?_
    repeat
      first | apply eL | (apply eG; (case ht => exact rfl); (case hef => exact rfl))
      case e => (simp only [evB, evG, evGR, Q.evalR, boolOf, opQ, opMove, opPick, opBin, opUn, opConv, opExtract, opNil, opAlloc, opBox, opBuild, opBuildSlice, opMakeSlice, opLoad, opStore, opSlice, opFieldAddr, opField, opIndexAddr, opIndex, opLen, opMinMax, opAppend, opAppendZ, opCall, opCallF, Q.opnd, Q.opndW, Q.eval, Q.ret, Q.elems, Q.cells, Q.parts, Q.args, Q.src, Q.optInt, intOf?, placeOf, fillA, setAll, mkAgg, datas, loadSel, ofCells, pickV, binI, binS, look, Value.oneCell', normD, smallNil, KD.known, KD.agg, T, TI.z, Dat.wd, Dat.cells, Dat.nagg, AV.ren, renL, AV.renT, AV.hi, AV.hi1, Ob.isRow, Ob.inn, Ob.out, Ob.gam, Ob.data, Ob.alike, loL, Gf, Mu, Dat.flat, Dat.isV, List.contains, List.elem, Option.isSome, Nat.reduceAdd, Nat.reduceSub, Nat.reduceMul, Nat.reduceEqDiff, Nat.reduceLeDiff, Nat.reduceBEq, reduceIte, reduceCtorEq, Int.reduceLT, Int.reduceLE, Int.reduceNeg, Int.reduceEq, Int.reduceToNat, Int.reducePow, Nat.reducePow, Nat.reduceLT, IntKind.bits, hf30, e30, hf31, e31, hf32, e32, hf33, e33, hf34, e34]; (try simp (disch := omega) only [w_i64, w_i32, w_u8, w_u16, w_u32, w_u64, tdiv_nn, tmod_nn]); exact rfl)
      case s => ((try simp only [evU]); exact rfl)
      case hp => (first | trivial | ((repeat' refine And.intro ?_ ?_) <;> first | trivial | assumption | omega | exact fun h => h | (intro hq; first | trivial | assumption | omega | (simp_all; done)) | (simp; done)) | (intro hg; (repeat' refine And.intro ?_ ?_) <;> first | trivial | assumption | omega | exact fun h => h | (intro hq; first | trivial | assumption | omega | (simp_all; done)) | (simp; done)))
    rw [evalL_nil]
    refine hK _ ?_
    clear hK K
    simp only [evU, St.keep, List.map_cons, look, reduceIte, Nat.reduceEqDiff]
    try show AWP _ _ _ _ _
    have hbt := hbi.take 40
    have hpt := padB_byt hbt
    have hlt : ((ls.getD i []).take 40).length ≤ 40 := by simp only [List.length_take]; omega
    have hpl := padB_len2 ((ls.getD i []).take 40)
    repeat refine AWP.nest ?_
    first | refine AWP.rs (Gf_ok F19_ok) [] [3, 4, 9, 10, 11] (by rw [hN]; decide) fun K hK => ?_ | refine AWP.rn (Gf_ok F19_ok) [] [3, 4, 9, 10, 11] (by rw [hN]; decide) fun K hK => ?_
    repeat
      first | apply eL | (apply eG; (case ht => exact rfl); (case hef => exact rfl))
      case e => (simp only [evB, evG, evGR, Q.evalR, boolOf, opQ, opMove, opPick, opBin, opUn, opConv, opExtract, opNil, opAlloc, opBox, opBuild, opBuildSlice, opMakeSlice, opLoad, opStore, opSlice, opFieldAddr, opField, opIndexAddr, opIndex, opLen, opMinMax, opAppend, opAppendZ, opCall, opCallF, Q.opnd, Q.opndW, Q.eval, Q.ret, Q.elems, Q.cells, Q.parts, Q.args, Q.src, Q.optInt, intOf?, placeOf, fillA, setAll, mkAgg, datas, loadSel, ofCells, pickV, binI, binS, look, Value.oneCell', normD, smallNil, KD.known, KD.agg, T, TI.z, Dat.wd, Dat.cells, Dat.nagg, AV.ren, renL, AV.renT, AV.hi, AV.hi1, Ob.isRow, Ob.inn, Ob.out, Ob.gam, Ob.data, Ob.alike, loL, Gf, Mu, Dat.flat, Dat.isV, List.contains, List.elem, Option.isSome, Nat.reduceAdd, Nat.reduceSub, Nat.reduceMul, Nat.reduceEqDiff, Nat.reduceLeDiff, Nat.reduceBEq, reduceIte, reduceCtorEq, Int.reduceLT, Int.reduceLE, Int.reduceNeg, Int.reduceEq, Int.reduceToNat, Int.reducePow, Nat.reducePow, Nat.reduceLT, IntKind.bits, hf30, e30, hf31, e31, hf32, e32, hf33, e33, hf34, e34]; (try simp (disch := omega) only [w_i64, w_i32, w_u8, w_u16, w_u32, w_u64, tdiv_nn, tmod_nn]); exact rfl)
      case s => ((try simp only [evU]); exact rfl)
      case hp => (first | trivial | ((repeat' refine And.intro ?_ ?_) <;> first | trivial | assumption | omega | exact fun h => h | (intro hq; first | trivial | assumption | omega | (simp_all; done)) | (simp; done)) | (intro hg; (repeat' refine And.intro ?_ ?_) <;> first | trivial | assumption | omega | exact fun h => h | (intro hq; first | trivial | assumption | omega | (simp_all; done)) | (simp; done)))
    rw [evalL_nil]
    refine hK _ ?_
    clear hK K
    simp only [evU, St.keep, List.map_cons, look, reduceIte, Nat.reduceEqDiff]
    try show AWP _ _ _ _ _
    repeat refine AWP.nest ?_
    first | refine AWP.rs (Gf_ok F19_ok) [] [3, 4, 9, 10, 11] (by rw [hN]; decide) fun K hK => ?_ | refine AWP.rn (Gf_ok F19_ok) [] [3, 4, 9, 10, 11] (by rw [hN]; decide) fun K hK => ?_
    repeat
      first | apply eL | (apply eG; (case ht => exact rfl); (case hef => exact rfl))
      case e => (simp only [evB, evG, evGR, Q.evalR, boolOf, opQ, opMove, opPick, opBin, opUn, opConv, opExtract, opNil, opAlloc, opBox, opBuild, opBuildSlice, opMakeSlice, opLoad, opStore, opSlice, opFieldAddr, opField, opIndexAddr, opIndex, opLen, opMinMax, opAppend, opAppendZ, opCall, opCallF, Q.opnd, Q.opndW, Q.eval, Q.ret, Q.elems, Q.cells, Q.parts, Q.args, Q.src, Q.optInt, intOf?, placeOf, fillA, setAll, mkAgg, datas, loadSel, ofCells, pickV, binI, binS, look, Value.oneCell', normD, smallNil, KD.known, KD.agg, T, TI.z, Dat.wd, Dat.cells, Dat.nagg, AV.ren, renL, AV.renT, AV.hi, AV.hi1, Ob.isRow, Ob.inn, Ob.out, Ob.gam, Ob.data, Ob.alike, loL, Gf, Mu, Dat.flat, Dat.isV, List.contains, List.elem, Option.isSome, Nat.reduceAdd, Nat.reduceSub, Nat.reduceMul, Nat.reduceEqDiff, Nat.reduceLeDiff, Nat.reduceBEq, reduceIte, reduceCtorEq, Int.reduceLT, Int.reduceLE, Int.reduceNeg, Int.reduceEq, Int.reduceToNat, Int.reducePow, Nat.reducePow, Nat.reduceLT, IntKind.bits, hf30, e30, hf31, e31, hf32, e32, hf33, e33, hf34, e34]; (try simp (disch := omega) only [w_i64, w_i32, w_u8, w_u16, w_u32, w_u64, tdiv_nn, tmod_nn]); exact rfl)
      case s => ((try simp only [evU]); exact rfl)
      case hp => (first | trivial | ((repeat' refine And.intro ?_ ?_) <;> first | trivial | assumption | omega | exact fun h => h | (intro hq; first | trivial | assumption | omega | (simp_all; done)) | (simp; done)) | (intro hg; (repeat' refine And.intro ?_ ?_) <;> first | trivial | assumption | omega | exact fun h => h | (intro hq; first | trivial | assumption | omega | (simp_all; done)) | (simp; done)))
    rw [evalL_nil]
    refine hK _ ?_
    clear hK K
    simp only [evU, St.keep, List.map_cons, look, reduceIte, Nat.reduceEqDiff]
    try show AWP _ _ _ _ _
    refine ⟨ls.length - (i + 1), by omega, i + 1, by omega, rfl, ?_⟩
    rw [cut8_step hi' (by omega), padAll_sum, padAll_snoc]
    have e1 : (refSum 0 (padAll (cut8 ls i)) % 4294967296 + refSum 0 ((ls.getD i []).take 40) % 4294967296) % 4294967296 = (refSum 0 (padAll (cut8 ls i)) + refSum 0 ((ls.getD i []).take 40)) % 4294967296 := by omega
    rw [e1]; rfl
  · refine AWP.skip ?_
    show AWP _ _ _ _ _
    repeat refine AWP.nest ?_
    first | refine AWP.rs (Gf_ok F19_ok) [] [3, 4, 9, 10, 11] (by rw [hN]; decide) fun K hK => ?_ | refine AWP.rn (Gf_ok F19_ok) [] [3, 4, 9, 10, 11] (by rw [hN]; decide) fun K hK => ?_
    repeat
      first | apply eL | (apply eG; (case ht => exact rfl); (case hef => exact rfl))
      case e => (simp only [evB, evG, evGR, Q.evalR, boolOf, opQ, opMove, opPick, opBin, opUn, opConv, opExtract, opNil, opAlloc, opBox, opBuild, opBuildSlice, opMakeSlice, opLoad, opStore, opSlice, opFieldAddr, opField, opIndexAddr, opIndex, opLen, opMinMax, opAppend, opAppendZ, opCall, opCallF, Q.opnd, Q.opndW, Q.eval, Q.ret, Q.elems, Q.cells, Q.parts, Q.args, Q.src, Q.optInt, intOf?, placeOf, fillA, setAll, mkAgg, datas, loadSel, ofCells, pickV, binI, binS, look, Value.oneCell', normD, smallNil, KD.known, KD.agg, T, TI.z, Dat.wd, Dat.cells, Dat.nagg, AV.ren, renL, AV.renT, AV.hi, AV.hi1, Ob.isRow, Ob.inn, Ob.out, Ob.gam, Ob.data, Ob.alike, loL, Gf, Mu, Dat.flat, Dat.isV, List.contains, List.elem, Option.isSome, Nat.reduceAdd, Nat.reduceSub, Nat.reduceMul, Nat.reduceEqDiff, Nat.reduceLeDiff, Nat.reduceBEq, reduceIte, reduceCtorEq, Int.reduceLT, Int.reduceLE, Int.reduceNeg, Int.reduceEq, Int.reduceToNat, Int.reducePow, Nat.reducePow, Nat.reduceLT, IntKind.bits, hf30, e30, hf31, e31, hf32, e32, hf33, e33, hf34, e34]; (try simp (disch := omega) only [w_i64, w_i32, w_u8, w_u16, w_u32, w_u64, tdiv_nn, tmod_nn]); exact rfl)
      case s => ((try simp only [evU]); exact rfl)
      case hp => (first | trivial | ((repeat' refine And.intro ?_ ?_) <;> first | trivial | assumption | omega | exact fun h => h | (intro hq; first | trivial | assumption | omega | (simp_all; done)) | (simp; done)) | (intro hg; (repeat' refine And.intro ?_ ?_) <;> first | trivial | assumption | omega | exact fun h => h | (intro hq; first | trivial | assumption | omega | (simp_all; done)) | (simp; done)))
    rw [evalL_nil]
    refine hK _ ?_
    clear hK K
    simp only [evU, St.keep, List.map_cons, look, reduceIte, Nat.reduceEqDiff]
    try show AWP _ _ _ _ _
    refine ⟨ls.length - (i + 1), by omega, i + 1, by omega, rfl, ?_⟩
    rw [cut8_stop (by omega)]
    rfl
theorem law3 (x : Dat) (h : (AT.sl 24 (.sl 5 (.int .u8))).holds x) : Spec Try.prog 3 [.d x.flat x] none ⟨True, .d true (.v (.bool true)), none⟩ := by
  obtain ⟨xs, rfl, hx⟩ := h
  obtain ⟨ls, rfl, hb⟩ := rows_of hx
  exact s3 ls hb
end Go.AM

