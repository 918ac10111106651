/- AM: TallyOrders. -/
import Derived.Test.YtmfobkiljlepjaaC10
import Derived.Test.YtmfobkiljlepjaaA26
set_option maxRecDepth 100000
set_option maxHeartbeats 8000000
set_option linter.unusedSimpArgs false
set_option linter.unusedVariables false
namespace Go.AM
open Go Go.Proofs


/-! ### TallyOrders -/
def W32 (l : List Int) : Prop := ∀ n ∈ l, 0 ≤ n ∧ n < 4294967296
theorem W32.getD {l : List Int} (h : W32 l) (n : Nat) : 0 ≤ l.getD n 0 ∧ l.getD n 0 < 4294967296 := by
  rw [List.getD_eq_getElem?_getD]
  cases e : l[n]? with
  | none => simp
  | some x => exact h x (List.mem_of_getElem? e)
def enc4 (l : List Int) : List Int := l.flatMap b4
theorem enc4_snoc (l : List Int) (n : Int) : enc4 (l ++ [n]) = enc4 l ++ b4 n := by simp [enc4]
theorem enc4_len (l : List Int) : (enc4 l).length = 4 * l.length := by
  induction l with
  | nil => rfl
  | cons a l ih => simp only [enc4, List.flatMap_cons, List.length_append, List.length_cons] at ih ⊢; rw [ih]; simp [b4]; omega
theorem enc4_byt {l : List Int} (h : W32 l) : Byt (enc4 l) := by
  intro b hb
  simp only [enc4, List.mem_flatMap] at hb
  obtain ⟨n, hn, hb⟩ := hb
  exact b4_byt (h n hn).1 (h n hn).2 b hb
theorem enc4_sum : ∀ {l : List Int}, W32 l → refSum 0 (enc4 l) = l.sum
  | [], _ => rfl
  | n :: l, h => by
    have ih := enc4_sum (l := l) (fun m hm => h m (by simp [hm]))
    have e : enc4 (n :: l) = b4 n ++ enc4 l := by simp [enc4]
    rw [e, refSum_append, b4_sum (h n (by simp)).1 (h n (by simp)).2, refSum_mod4 (enc4 l) (0 + (b4 n).length) 0 (by simp [b4]), ih, List.sum_cons]
/-- The list, turned. -/
def rot (l : List Int) (t i : Nat) : List Int := (List.range i).map fun j => l.getD ((j + t) % l.length) 0
theorem rot_snoc (l : List Int) (t i : Nat) : rot l t (i + 1) = rot l t i ++ [l.getD ((i + t) % l.length) 0] := by
  simp [rot, List.range_succ]
theorem rot_w {l : List Int} (h : W32 l) (t i : Nat) : W32 (rot l t i) := by
  intro n hn
  simp only [rot, List.mem_map] at hn
  obtain ⟨j, _, rfl⟩ := hn
  exact h.getD _
theorem rot_zero (l : List Int) : rot l 0 l.length = l := by
  apply List.ext_getElem
  · simp [rot]
  · intro i h1 h2
    simp only [rot, List.getElem_map, List.getElem_range, Nat.add_zero, Nat.mod_eq_of_lt h2, List.getD_eq_getElem?_getD, List.getElem?_eq_getElem h2, Option.getD_some]
theorem shift_sum (f : Nat → Int) (n : Nat) (h : f n = f 0) : ((List.range n).map fun j => f (j + 1)).sum = ((List.range n).map f).sum := by
  have h1 : ((List.range (n + 1)).map f).sum = ((List.range n).map f).sum + f n := by
    rw [List.range_succ, List.map_append, List.sum_append]; simp
  have h2 : ((List.range (n + 1)).map f).sum = f 0 + ((List.range n).map fun j => f (j + 1)).sum := by
    rw [List.range_succ_eq_map, List.map_cons, List.sum_cons, List.map_map]; rfl
  omega
theorem rot_sum (l : List Int) : ∀ t, (rot l t l.length).sum = l.sum
  | 0 => by rw [rot_zero]
  | t + 1 => by
    have ih := rot_sum l t
    rw [← ih]
    have := shift_sum (fun j => l.getD ((j + t) % l.length) 0) l.length (by simp)
    unfold rot
    rw [← this]
    congr 1
    apply List.map_congr_left
    intro j _
    show l.getD ((j + (t + 1)) % l.length) 0 = l.getD ((j + 1 + t) % l.length) 0
    rw [show j + (t + 1) = j + 1 + t by omega]
theorem s4 (l0 : List Int) (hb0 : W32 l0) (t : Nat) (ht : t ≤ 255) : Spec Try.prog 4 [.d false (.sl 1 (ints .u32 l0)), .d true (.v (.int .u8 (t : Int)))] none ⟨True, .d true (.v (.bool true)), none⟩ := by
  have hf30 : F19 30 = e30 := rfl
  have hf32 : F19 32 = e32 := rfl
  have hf34 : F19 34 = e34 := rfl
  have hf35 : F19 35 = e35 := rfl
  refine spec_of_awp (Gf_ok F19_ok) Try.func4 rfl (Nat.le_of_ble_eq_true rfl) fun E hps hN _ => ?_
  simp only [begin, List.zipIdx_cons, List.zipIdx_nil, List.map_cons, List.map_nil, Option.toList, Nat.zero_add, Nat.reduceAdd]
  repeat refine AWP.nest ?_
  first | refine AWP.rs (Gf_ok F19_ok) [] [0, 1] (by rw [hN]; decide) fun K hK => ?_ | refine AWP.rn (Gf_ok F19_ok) [] [0, 1] (by rw [hN]; decide) fun K hK => ?_
  repeat
    first | apply eL | (apply eG; (case ht => exact rfl); (case hef => exact rfl))
    case e => (simp only [evB, evG, evGR, Q.evalR, boolOf, opQ, opMove, opPick, opBin, opUn, opConv, opExtract, opNil, opAlloc, opBox, opBuild, opBuildSlice, opMakeSlice, opLoad, opStore, opSlice, opFieldAddr, opField, opIndexAddr, opIndex, opLen, opMinMax, opAppend, opAppendZ, opCall, opCallF, Q.opnd, Q.opndW, Q.eval, Q.ret, Q.elems, Q.cells, Q.parts, Q.args, Q.src, Q.optInt, intOf?, placeOf, fillA, setAll, mkAgg, datas, loadSel, ofCells, pickV, binI, binS, look, Value.oneCell', normD, smallNil, KD.known, KD.agg, T, TI.z, Dat.wd, Dat.cells, Dat.nagg, AV.ren, renL, AV.renT, AV.hi, AV.hi1, Ob.isRow, Ob.inn, Ob.out, Ob.gam, Ob.data, Ob.alike, loL, Gf, Mu, Dat.flat, Dat.isV, List.contains, List.elem, Option.isSome, Nat.reduceAdd, Nat.reduceSub, Nat.reduceMul, Nat.reduceEqDiff, Nat.reduceLeDiff, Nat.reduceBEq, reduceIte, reduceCtorEq, Int.reduceLT, Int.reduceLE, Int.reduceNeg, Int.reduceEq, Int.reduceToNat, Int.reducePow, Nat.reducePow, Nat.reduceLT, IntKind.bits, hf30, e30, hf32, e32, hf34, e34, hf35, e35]; (try simp (disch := omega) only [w_i64, w_i32, w_u8, w_u16, w_u32, w_u64, tdiv_nn, tmod_nn]); exact rfl)
    case s => ((try simp only [evU]); exact rfl)
    case hp => (first | trivial | ((repeat' refine And.intro ?_ ?_) <;> first | trivial | assumption | omega | exact fun h => h | (intro hq; first | trivial | assumption | omega | (rw [hq]; rfl) | (simp_all; done)) | (simp; done)) | (intro hg; (repeat' refine And.intro ?_ ?_) <;> first | trivial | assumption | omega | exact fun h => h | (intro hq; first | trivial | assumption | omega | (rw [hq]; rfl) | (simp_all; done)) | (simp; done)))
  rw [evalL_nil]
  refine hK _ ?_
  clear hK K
  simp only [evU, St.keep, List.map_cons, look, reduceIte, Nat.reduceEqDiff]
  try show AWP _ _ _ _ _
  repeat refine AWP.nest ?_
  first | refine AWP.rs (Gf_ok F19_ok) [] [0, 1, 11] (by rw [hN]; decide) fun K hK => ?_ | refine AWP.rn (Gf_ok F19_ok) [] [0, 1, 11] (by rw [hN]; decide) fun K hK => ?_
  repeat
    first | apply eL | (apply eG; (case ht => exact rfl); (case hef => exact rfl))
    case e => (simp only [evB, evG, evGR, Q.evalR, boolOf, opQ, opMove, opPick, opBin, opUn, opConv, opExtract, opNil, opAlloc, opBox, opBuild, opBuildSlice, opMakeSlice, opLoad, opStore, opSlice, opFieldAddr, opField, opIndexAddr, opIndex, opLen, opMinMax, opAppend, opAppendZ, opCall, opCallF, Q.opnd, Q.opndW, Q.eval, Q.ret, Q.elems, Q.cells, Q.parts, Q.args, Q.src, Q.optInt, intOf?, placeOf, fillA, setAll, mkAgg, datas, loadSel, ofCells, pickV, binI, binS, look, Value.oneCell', normD, smallNil, KD.known, KD.agg, T, TI.z, Dat.wd, Dat.cells, Dat.nagg, AV.ren, renL, AV.renT, AV.hi, AV.hi1, Ob.isRow, Ob.inn, Ob.out, Ob.gam, Ob.data, Ob.alike, loL, Gf, Mu, Dat.flat, Dat.isV, List.contains, List.elem, Option.isSome, Nat.reduceAdd, Nat.reduceSub, Nat.reduceMul, Nat.reduceEqDiff, Nat.reduceLeDiff, Nat.reduceBEq, reduceIte, reduceCtorEq, Int.reduceLT, Int.reduceLE, Int.reduceNeg, Int.reduceEq, Int.reduceToNat, Int.reducePow, Nat.reducePow, Nat.reduceLT, IntKind.bits, hf30, e30, hf32, e32, hf34, e34, hf35, e35]; (try simp (disch := omega) only [w_i64, w_i32, w_u8, w_u16, w_u32, w_u64, tdiv_nn, tmod_nn]); exact rfl)
    case s => ((try simp only [evU]); exact rfl)
    case hp => (first | trivial | ((repeat' refine And.intro ?_ ?_) <;> first | trivial | assumption | omega | exact fun h => h | (intro hq; first | trivial | assumption | omega | (rw [hq]; rfl) | (simp_all; done)) | (simp; done)) | (intro hg; (repeat' refine And.intro ?_ ?_) <;> first | trivial | assumption | omega | exact fun h => h | (intro hq; first | trivial | assumption | omega | (rw [hq]; rfl) | (simp_all; done)) | (simp; done)))
  rw [evalL_nil]
  refine hK _ ?_
  clear hK K
  simp only [evU, St.keep, List.map_cons, look, reduceIte, Nat.reduceEqDiff]
  try show AWP _ _ _ _ _
  repeat refine AWP.nest ?_
  first | refine AWP.seq (AWP.cond (b := _) rfl (fun hc => ?_) (fun hc => ?_)) | refine AWP.cond (b := _) rfl (fun hc => ?_) (fun hc => ?_)
  all_goals try simp only [decide_eq_true_eq, decide_eq_false_iff_not, Bool.and_eq_true, Bool.or_eq_true, Bool.and_eq_false_iff, Bool.or_eq_false_iff, beq_iff_eq, bne_iff_ne, Int.ofNat_lt, Int.ofNat_le] at hc
  · cases hc
  refine AWP.skip ?_
  show AWP _ _ _ _ _
  refine AWP.len 0 rfl fun hlen => ?_
  rw [ints_length] at hlen
  have hmn : 0 ≤ minI (l0.length : Int) 30 ∧ minI (l0.length : Int) 30 ≤ 30 ∧ minI (l0.length : Int) 30 ≤ l0.length := by unfold minI; split <;> omega
  obtain ⟨n0, hn0, hn1, hn2⟩ : ∃ n0 : Nat, minI (l0.length : Int) 30 = n0 ∧ n0 ≤ 30 ∧ n0 ≤ l0.length := ⟨(minI (l0.length : Int) 30).toNat, by omega, by omega, by omega⟩
  have hlt : (l0.take n0).length = n0 := by simp only [List.length_take]; omega
  repeat refine AWP.nest ?_
  first | refine AWP.rs (Gf_ok F19_ok) [0] [0, 1] (by rw [hN]; decide) fun K hK => ?_ | refine AWP.rn (Gf_ok F19_ok) [0] [0, 1] (by rw [hN]; decide) fun K hK => ?_
  repeat
    first | apply eL | (apply eG; (case ht => exact rfl); (case hef => exact rfl))
    case e => (simp only [evB, evG, evGR, Q.evalR, boolOf, opQ, opMove, opPick, opBin, opUn, opConv, opExtract, opNil, opAlloc, opBox, opBuild, opBuildSlice, opMakeSlice, opLoad, opStore, opSlice, opFieldAddr, opField, opIndexAddr, opIndex, opLen, opMinMax, opAppend, opAppendZ, opCall, opCallF, Q.opnd, Q.opndW, Q.eval, Q.ret, Q.elems, Q.cells, Q.parts, Q.args, Q.src, Q.optInt, intOf?, placeOf, fillA, setAll, mkAgg, datas, loadSel, ofCells, pickV, binI, binS, look, Value.oneCell', normD, smallNil, KD.known, KD.agg, T, TI.z, Dat.wd, Dat.cells, Dat.nagg, AV.ren, renL, AV.renT, AV.hi, AV.hi1, Ob.isRow, Ob.inn, Ob.out, Ob.gam, Ob.data, Ob.alike, loL, Gf, Mu, Dat.flat, Dat.isV, List.contains, List.elem, Option.isSome, Nat.reduceAdd, Nat.reduceSub, Nat.reduceMul, Nat.reduceEqDiff, Nat.reduceLeDiff, Nat.reduceBEq, reduceIte, reduceCtorEq, Int.reduceLT, Int.reduceLE, Int.reduceNeg, Int.reduceEq, Int.reduceToNat, Int.reducePow, Nat.reducePow, Nat.reduceLT, IntKind.bits, hf30, e30, hf32, e32, hf34, e34, hf35, e35, hn0, Nat.sub_zero]; (try simp (disch := omega) only [w_i64, w_i32, w_u8, w_u16, w_u32, w_u64, tdiv_nn, tmod_nn]); exact rfl)
    case s => ((try simp only [evU]); exact rfl)
    case hp => (first | trivial | ((repeat' refine And.intro ?_ ?_) <;> first | trivial | assumption | omega | exact fun h => h | (intro hq; first | trivial | assumption | omega | (rw [hq]; rfl) | (simp_all; done)) | (simp; done)) | (intro hg; (repeat' refine And.intro ?_ ?_) <;> first | trivial | assumption | omega | exact fun h => h | (intro hq; first | trivial | assumption | omega | (rw [hq]; rfl) | (simp_all; done)) | (simp; done)))
  rw [evalL_nil]
  refine hK _ ?_
  clear hK K
  simp only [evU, St.keep, List.map_cons, look, reduceIte, Nat.reduceEqDiff]
  try show AWP _ _ _ _ _
  refine AWP.frz 0 (by rw [hps]; decide) rfl ?_
  simp only [St.frz, Ob.frz, AV.frz, AV.frz1, Option.map_none, mkAgg, datas, Dat.nagg, List.map_cons, List.map_nil, Option.map_some, and_self, true_and, and_true, reduceIte, Nat.reduceEqDiff, List.set_cons_zero, List.set_cons_succ, Bool.and_true, Bool.true_and]
  have hb : W32 (l0.take n0) := fun n hn => hb0 n (List.mem_of_mem_take hn)
  generalize l0.take n0 = l at hlt hb ⊢
  clear hmn hn0 hb0 hlen
  have hl30 : l.length ≤ 30 := by omega
  clear hlt hn1 hn2
  repeat refine AWP.nest ?_
  first | refine AWP.rs (Gf_ok F19_ok) [] [0, 1, 5, 6] (by rw [hN]; decide) fun K hK => ?_ | refine AWP.rn (Gf_ok F19_ok) [] [0, 1, 5, 6] (by rw [hN]; decide) fun K hK => ?_
  repeat
    first | apply eL | (apply eG; (case ht => exact rfl); (case hef => exact rfl))
    case e => (simp only [evB, evG, evGR, Q.evalR, boolOf, opQ, opMove, opPick, opBin, opUn, opConv, opExtract, opNil, opAlloc, opBox, opBuild, opBuildSlice, opMakeSlice, opLoad, opStore, opSlice, opFieldAddr, opField, opIndexAddr, opIndex, opLen, opMinMax, opAppend, opAppendZ, opCall, opCallF, Q.opnd, Q.opndW, Q.eval, Q.ret, Q.elems, Q.cells, Q.parts, Q.args, Q.src, Q.optInt, intOf?, placeOf, fillA, setAll, mkAgg, datas, loadSel, ofCells, pickV, binI, binS, look, Value.oneCell', normD, smallNil, KD.known, KD.agg, T, TI.z, Dat.wd, Dat.cells, Dat.nagg, AV.ren, renL, AV.renT, AV.hi, AV.hi1, Ob.isRow, Ob.inn, Ob.out, Ob.gam, Ob.data, Ob.alike, loL, Gf, Mu, Dat.flat, Dat.isV, List.contains, List.elem, Option.isSome, Nat.reduceAdd, Nat.reduceSub, Nat.reduceMul, Nat.reduceEqDiff, Nat.reduceLeDiff, Nat.reduceBEq, reduceIte, reduceCtorEq, Int.reduceLT, Int.reduceLE, Int.reduceNeg, Int.reduceEq, Int.reduceToNat, Int.reducePow, Nat.reducePow, Nat.reduceLT, IntKind.bits, hf30, e30, hf32, e32, hf34, e34, hf35, e35]; (try simp (disch := omega) only [w_i64, w_i32, w_u8, w_u16, w_u32, w_u64, tdiv_nn, tmod_nn]); exact rfl)
    case s => ((try simp only [evU]); exact rfl)
    case hp => (first | trivial | ((repeat' refine And.intro ?_ ?_) <;> first | trivial | assumption | omega | exact fun h => h | (intro hq; first | trivial | assumption | omega | (rw [hq]; rfl) | (simp_all; done)) | (simp; done)) | (intro hg; (repeat' refine And.intro ?_ ?_) <;> first | trivial | assumption | omega | exact fun h => h | (intro hq; first | trivial | assumption | omega | (rw [hq]; rfl) | (simp_all; done)) | (simp; done)))
  rw [evalL_nil]
  refine hK _ ?_
  clear hK K
  simp only [evU, St.keep, List.map_cons, look, reduceIte, Nat.reduceEqDiff]
  try show AWP _ _ _ _ _
  repeat refine AWP.nest ?_
  first | refine AWP.rs (Gf_ok F19_ok) [] [0, 1, 5, 6, 7] (by rw [hN]; decide) fun K hK => ?_ | refine AWP.rn (Gf_ok F19_ok) [] [0, 1, 5, 6, 7] (by rw [hN]; decide) fun K hK => ?_
  repeat
    first | apply eL | (apply eG; (case ht => exact rfl); (case hef => exact rfl))
    case e => (simp only [evB, evG, evGR, Q.evalR, boolOf, opQ, opMove, opPick, opBin, opUn, opConv, opExtract, opNil, opAlloc, opBox, opBuild, opBuildSlice, opMakeSlice, opLoad, opStore, opSlice, opFieldAddr, opField, opIndexAddr, opIndex, opLen, opMinMax, opAppend, opAppendZ, opCall, opCallF, Q.opnd, Q.opndW, Q.eval, Q.ret, Q.elems, Q.cells, Q.parts, Q.args, Q.src, Q.optInt, intOf?, placeOf, fillA, setAll, mkAgg, datas, loadSel, ofCells, pickV, binI, binS, look, Value.oneCell', normD, smallNil, KD.known, KD.agg, T, TI.z, Dat.wd, Dat.cells, Dat.nagg, AV.ren, renL, AV.renT, AV.hi, AV.hi1, Ob.isRow, Ob.inn, Ob.out, Ob.gam, Ob.data, Ob.alike, loL, Gf, Mu, Dat.flat, Dat.isV, List.contains, List.elem, Option.isSome, Nat.reduceAdd, Nat.reduceSub, Nat.reduceMul, Nat.reduceEqDiff, Nat.reduceLeDiff, Nat.reduceBEq, reduceIte, reduceCtorEq, Int.reduceLT, Int.reduceLE, Int.reduceNeg, Int.reduceEq, Int.reduceToNat, Int.reducePow, Nat.reducePow, Nat.reduceLT, IntKind.bits, hf30, e30, hf32, e32, hf34, e34, hf35, e35]; (try simp (disch := omega) only [w_i64, w_i32, w_u8, w_u16, w_u32, w_u64, tdiv_nn, tmod_nn]); exact rfl)
    case s => ((try simp only [evU]); exact rfl)
    case hp => (first | trivial | ((repeat' refine And.intro ?_ ?_) <;> first | trivial | assumption | omega | exact fun h => h | (intro hq; first | trivial | assumption | omega | (rw [hq]; rfl) | (simp_all; done)) | (simp; done)) | (intro hg; (repeat' refine And.intro ?_ ?_) <;> first | trivial | assumption | omega | exact fun h => h | (intro hq; first | trivial | assumption | omega | (rw [hq]; rfl) | (simp_all; done)) | (simp; done)))
  rw [evalL_nil]
  refine hK _ ?_
  clear hK K
  simp only [evU, St.keep, List.map_cons, look, reduceIte, Nat.reduceEqDiff]
  try show AWP _ _ _ _ _
  repeat refine AWP.nest ?_
  first | refine AWP.rs (Gf_ok F19_ok) [] [0, 1, 5, 6, 7, 19, 20, 21] (by rw [hN]; decide) fun K hK => ?_ | refine AWP.rn (Gf_ok F19_ok) [] [0, 1, 5, 6, 7, 19, 20, 21] (by rw [hN]; decide) fun K hK => ?_
  repeat
    first | apply eL | (apply eG; (case ht => exact rfl); (case hef => exact rfl))
    case e => (simp only [evB, evG, evGR, Q.evalR, boolOf, opQ, opMove, opPick, opBin, opUn, opConv, opExtract, opNil, opAlloc, opBox, opBuild, opBuildSlice, opMakeSlice, opLoad, opStore, opSlice, opFieldAddr, opField, opIndexAddr, opIndex, opLen, opMinMax, opAppend, opAppendZ, opCall, opCallF, Q.opnd, Q.opndW, Q.eval, Q.ret, Q.elems, Q.cells, Q.parts, Q.args, Q.src, Q.optInt, intOf?, placeOf, fillA, setAll, mkAgg, datas, loadSel, ofCells, pickV, binI, binS, look, Value.oneCell', normD, smallNil, KD.known, KD.agg, T, TI.z, Dat.wd, Dat.cells, Dat.nagg, AV.ren, renL, AV.renT, AV.hi, AV.hi1, Ob.isRow, Ob.inn, Ob.out, Ob.gam, Ob.data, Ob.alike, loL, Gf, Mu, Dat.flat, Dat.isV, List.contains, List.elem, Option.isSome, Nat.reduceAdd, Nat.reduceSub, Nat.reduceMul, Nat.reduceEqDiff, Nat.reduceLeDiff, Nat.reduceBEq, reduceIte, reduceCtorEq, Int.reduceLT, Int.reduceLE, Int.reduceNeg, Int.reduceEq, Int.reduceToNat, Int.reducePow, Nat.reducePow, Nat.reduceLT, IntKind.bits, hf30, e30, hf32, e32, hf34, e34, hf35, e35]; (try simp (disch := omega) only [w_i64, w_i32, w_u8, w_u16, w_u32, w_u64, tdiv_nn, tmod_nn]); exact rfl)
    case s => ((try simp only [evU]); exact rfl)
    case hp => (first | trivial | ((repeat' refine And.intro ?_ ?_) <;> first | trivial | assumption | omega | exact fun h => h | (intro hq; first | trivial | assumption | omega | (rw [hq]; rfl) | (simp_all; done)) | (simp; done)) | (intro hg; (repeat' refine And.intro ?_ ?_) <;> first | trivial | assumption | omega | exact fun h => h | (intro hq; first | trivial | assumption | omega | (rw [hq]; rfl) | (simp_all; done)) | (simp; done)))
  rw [evalL_nil]
  refine hK _ ?_
  clear hK K
  simp only [evU, St.keep, List.map_cons, look, reduceIte, Nat.reduceEqDiff]
  try show AWP _ _ _ _ _
  refine AWP.nilD 5 true 1 rfl ?_
  refine AWP.nilD 6 true 1 rfl ?_
  refine AWP.keep [0, 1, 5, 6, 7, 19, 20, 21] ?_
  simp only [St.keep, List.map_cons, List.map_nil, look, reduceIte, Nat.reduceEqDiff]
  repeat refine AWP.nest ?_
  first | refine AWP.seq (AWP.block ?_) | refine AWP.block ?_
  refine AWP.loop (fun k st => ∃ (i : Nat), i ≤ l.length ∧ k = l.length - i ∧ st = ⟨[(0, .d true (.sl 1 (ints .u32 l))), (1, .d true (.v (.int .u8 (t : Int)))), (5, .d true (.sl 1 (ints .u8 (enc4 (l.take i))))), (6, .d true (.sl 1 (ints .u8 (enc4 (rot l t i))))), (7, .d true (.v (.int .u32 ((l.take i).sum % 4294967296)))), (19, .d true (.sl 1 (ints .u32 l))), (20, .d true (.v (.int .i64 (l.length : Int)))), (21, .d true (.v (.int .i64 (i : Int))))], [none]⟩) (l.length) ?_ ?_
  · exact ⟨0, Nat.zero_le _, rfl, rfl⟩
  rintro k st ⟨i, hi, hk, rfl⟩
  repeat refine AWP.nest ?_
  first | refine AWP.rs (Gf_ok F19_ok) [] [0, 1, 5, 6, 7, 19, 20, 21, 22] (by rw [hN]; decide) fun K hK => ?_ | refine AWP.rn (Gf_ok F19_ok) [] [0, 1, 5, 6, 7, 19, 20, 21, 22] (by rw [hN]; decide) fun K hK => ?_
  repeat
    first | apply eL | (apply eG; (case ht => exact rfl); (case hef => exact rfl))
    case e => (simp only [evB, evG, evGR, Q.evalR, boolOf, opQ, opMove, opPick, opBin, opUn, opConv, opExtract, opNil, opAlloc, opBox, opBuild, opBuildSlice, opMakeSlice, opLoad, opStore, opSlice, opFieldAddr, opField, opIndexAddr, opIndex, opLen, opMinMax, opAppend, opAppendZ, opCall, opCallF, Q.opnd, Q.opndW, Q.eval, Q.ret, Q.elems, Q.cells, Q.parts, Q.args, Q.src, Q.optInt, intOf?, placeOf, fillA, setAll, mkAgg, datas, loadSel, ofCells, pickV, binI, binS, look, Value.oneCell', normD, smallNil, KD.known, KD.agg, T, TI.z, Dat.wd, Dat.cells, Dat.nagg, AV.ren, renL, AV.renT, AV.hi, AV.hi1, Ob.isRow, Ob.inn, Ob.out, Ob.gam, Ob.data, Ob.alike, loL, Gf, Mu, Dat.flat, Dat.isV, List.contains, List.elem, Option.isSome, Nat.reduceAdd, Nat.reduceSub, Nat.reduceMul, Nat.reduceEqDiff, Nat.reduceLeDiff, Nat.reduceBEq, reduceIte, reduceCtorEq, Int.reduceLT, Int.reduceLE, Int.reduceNeg, Int.reduceEq, Int.reduceToNat, Int.reducePow, Nat.reducePow, Nat.reduceLT, IntKind.bits, hf30, e30, hf32, e32, hf34, e34, hf35, e35]; (try simp (disch := omega) only [w_i64, w_i32, w_u8, w_u16, w_u32, w_u64, tdiv_nn, tmod_nn]); exact rfl)
    case s => ((try simp only [evU]); exact rfl)
    case hp => (first | trivial | ((repeat' refine And.intro ?_ ?_) <;> first | trivial | assumption | omega | exact fun h => h | (intro hq; first | trivial | assumption | omega | (rw [hq]; rfl) | (simp_all; done)) | (simp; done)) | (intro hg; (repeat' refine And.intro ?_ ?_) <;> first | trivial | assumption | omega | exact fun h => h | (intro hq; first | trivial | assumption | omega | (rw [hq]; rfl) | (simp_all; done)) | (simp; done)))
  rw [evalL_nil]
  refine hK _ ?_
  clear hK K
  simp only [evU, St.keep, List.map_cons, look, reduceIte, Nat.reduceEqDiff]
  try show AWP _ _ _ _ _
  refine AWP.seq (AWP.cond (b := _) rfl (fun hc => ?_) (fun hc => ?_))
  rotate_left
  · refine AWP.exit ?_
    show AWP _ _ _ _ _
    simp only [decide_eq_false_iff_not, decide_eq_true_eq, Int.not_lt, Int.ofNat_lt, Int.ofNat_le] at hc
    obtain rfl : i = l.length := by omega
    rw [List.take_length]
    have h1 := enc4_byt hb
    have h2 := enc4_byt (rot_w hb t l.length)
    have h3 := enc4_len l
    have h4 := enc4_len (rot l t l.length)
    have h5 : (rot l t l.length).length = l.length := by simp [rot]
    have e1 := enc4_sum hb
    have e2 : refSum 0 (enc4 (rot l t l.length)) = l.sum := by rw [enc4_sum (rot_w hb t _), rot_sum]
    have e3 : refSum 0 (enc4 l ++ b4 7) = l.sum + 7 := by rw [refSum_append, e1, refSum_mod4 (b4 7) (0 + (enc4 l).length) 0 (by omega), b4_sum (by decide) (by decide)]
    simp only [b4, Int.reduceDiv, Int.reduceMod] at e3
    have e4 : (l.sum + 7) % 4294967296 = (l.sum % 4294967296 + 7) % 4294967296 := by omega
    repeat refine AWP.nest ?_
    first | refine AWP.rs (Gf_ok F19_ok) [] [4] (by rw [hN]; decide) fun K hK => ?_ | refine AWP.rn (Gf_ok F19_ok) [] [4] (by rw [hN]; decide) fun K hK => ?_
    repeat
      first | apply eL | (apply eG; (case ht => exact rfl); (case hef => exact rfl))
      case e => (simp only [evB, evG, evGR, Q.evalR, boolOf, opQ, opMove, opPick, opBin, opUn, opConv, opExtract, opNil, opAlloc, opBox, opBuild, opBuildSlice, opMakeSlice, opLoad, opStore, opSlice, opFieldAddr, opField, opIndexAddr, opIndex, opLen, opMinMax, opAppend, opAppendZ, opCall, opCallF, Q.opnd, Q.opndW, Q.eval, Q.ret, Q.elems, Q.cells, Q.parts, Q.args, Q.src, Q.optInt, intOf?, placeOf, fillA, setAll, mkAgg, datas, loadSel, ofCells, pickV, binI, binS, look, Value.oneCell', normD, smallNil, KD.known, KD.agg, T, TI.z, Dat.wd, Dat.cells, Dat.nagg, AV.ren, renL, AV.renT, AV.hi, AV.hi1, Ob.isRow, Ob.inn, Ob.out, Ob.gam, Ob.data, Ob.alike, loL, Gf, Mu, Dat.flat, Dat.isV, List.contains, List.elem, Option.isSome, Nat.reduceAdd, Nat.reduceSub, Nat.reduceMul, Nat.reduceEqDiff, Nat.reduceLeDiff, Nat.reduceBEq, reduceIte, reduceCtorEq, Int.reduceLT, Int.reduceLE, Int.reduceNeg, Int.reduceEq, Int.reduceToNat, Int.reducePow, Nat.reducePow, Nat.reduceLT, IntKind.bits, hf30, e30, hf32, e32, hf34, e34, hf35, e35, e1, e2, e3, e4, Int.reduceDiv, Int.reduceMod]; (try simp (disch := omega) only [w_i64, w_i32, w_u8, w_u16, w_u32, w_u64, tdiv_nn, tmod_nn]); exact rfl)
      case s => ((try simp only [evU]); exact rfl)
      case hp => (first | trivial | ((repeat' refine And.intro ?_ ?_) <;> first | trivial | assumption | omega | exact fun h => h | (intro hq; first | trivial | assumption | omega | (rw [hq]; rfl) | (simp_all; done)) | (simp; done)) | (intro hg; (repeat' refine And.intro ?_ ?_) <;> first | trivial | assumption | omega | exact fun h => h | (intro hq; first | trivial | assumption | omega | (rw [hq]; rfl) | (simp_all; done)) | (simp; done)))
    rw [evalL_nil]
    refine hK _ ?_
    clear hK K
    simp only [evU, St.keep, List.map_cons, look, reduceIte, Nat.reduceEqDiff]
    try show AWP _ _ _ _ _
    refine AWP.ret ?_
    refine ⟨.inl rfl, ⟨⟨_, rfl, ?_⟩, fun ob hob => by cases hob⟩⟩
    simp only [look, reduceIte, Nat.reduceEqDiff]
    exact sub1_of rfl
  simp only [decide_eq_true_eq, Int.ofNat_lt, Int.ofNat_le] at hc
  refine AWP.skip ?_
  show AWP _ _ _ _ _
  have hi' := hc
  clear hc
  have g1 := hb.getD i
  have g2 := hb.getD ((i + t) % l.length)
  have p1 := enc4_byt (l := l.take i) (fun n hn => hb n (List.mem_of_mem_take hn))
  have p2 := enc4_byt (rot_w hb t i)
  have p3 := enc4_len (l.take i)
  have p4 := enc4_len (rot l t i)
  have p5 : (rot l t i).length = i := by simp [rot]
  have p6 : (l.take i).length = i := by simp only [List.length_take]; omega
  have j0 := Int.emod_nonneg ((i : Int) + t) (show (l.length : Int) ≠ 0 by omega)
  have j1 := Int.emod_lt_of_pos ((i : Int) + t) (show (0 : Int) < l.length by omega)
  have jn : (((i : Int) + t) % (l.length : Int)).toNat = (i + t) % l.length := by
    rw [← Int.natCast_add, ← Int.natCast_emod, Int.toNat_natCast]
  repeat refine AWP.nest ?_
  first | refine AWP.seq (AWP.block ?_) | refine AWP.block ?_
  repeat refine AWP.nest ?_
  first | refine AWP.rs (Gf_ok F19_ok) [] [0, 1, 5, 6, 7, 8, 9, 19, 20, 21] (by rw [hN]; decide) fun K hK => ?_ | refine AWP.rn (Gf_ok F19_ok) [] [0, 1, 5, 6, 7, 8, 9, 19, 20, 21] (by rw [hN]; decide) fun K hK => ?_
  repeat
    first | apply eL | (apply eG; (case ht => exact rfl); (case hef => exact rfl))
    case e => (simp only [evB, evG, evGR, Q.evalR, boolOf, opQ, opMove, opPick, opBin, opUn, opConv, opExtract, opNil, opAlloc, opBox, opBuild, opBuildSlice, opMakeSlice, opLoad, opStore, opSlice, opFieldAddr, opField, opIndexAddr, opIndex, opLen, opMinMax, opAppend, opAppendZ, opCall, opCallF, Q.opnd, Q.opndW, Q.eval, Q.ret, Q.elems, Q.cells, Q.parts, Q.args, Q.src, Q.optInt, intOf?, placeOf, fillA, setAll, mkAgg, datas, loadSel, ofCells, pickV, binI, binS, look, Value.oneCell', normD, smallNil, KD.known, KD.agg, T, TI.z, Dat.wd, Dat.cells, Dat.nagg, AV.ren, renL, AV.renT, AV.hi, AV.hi1, Ob.isRow, Ob.inn, Ob.out, Ob.gam, Ob.data, Ob.alike, loL, Gf, Mu, Dat.flat, Dat.isV, List.contains, List.elem, Option.isSome, Nat.reduceAdd, Nat.reduceSub, Nat.reduceMul, Nat.reduceEqDiff, Nat.reduceLeDiff, Nat.reduceBEq, reduceIte, reduceCtorEq, Int.reduceLT, Int.reduceLE, Int.reduceNeg, Int.reduceEq, Int.reduceToNat, Int.reducePow, Nat.reducePow, Nat.reduceLT, IntKind.bits, hf30, e30, hf32, e32, hf34, e34, hf35, e35]; (try simp (disch := omega) only [w_i64, w_i32, w_u8, w_u16, w_u32, w_u64, tdiv_nn, tmod_nn]); exact rfl)
    case s => ((try simp only [evU]); exact rfl)
    case hp => (first | trivial | ((repeat' refine And.intro ?_ ?_) <;> first | trivial | assumption | omega | exact fun h => h | (intro hq; first | trivial | assumption | omega | (rw [hq]; rfl) | (simp_all; done)) | (simp; done)) | (intro hg; (repeat' refine And.intro ?_ ?_) <;> first | trivial | assumption | omega | exact fun h => h | (intro hq; first | trivial | assumption | omega | (rw [hq]; rfl) | (simp_all; done)) | (simp; done)))
  rw [evalL_nil]
  refine hK _ ?_
  clear hK K
  simp only [evU, St.keep, List.map_cons, look, reduceIte, Nat.reduceEqDiff]
  try show AWP _ _ _ _ _
  repeat refine AWP.nest ?_
  first | refine AWP.rd (Gf_ok F19_ok) [] [0, 1, 5, 6, 7, 19, 20, 21] Try.mixed (by rw [hN]; decide) fun K hK => ?_ | refine AWP.dn (Gf_ok F19_ok) [] [0, 1, 5, 6, 7, 19, 20, 21] Try.mixed (by rw [hN]; decide) fun K hK => ?_
  repeat
    first | apply eD | (apply eDG; (case ht => exact rfl); (case hef => exact rfl))
    case e => (simp only [evB, evG, evGR, Q.evalR, boolOf, opQ, opMove, opPick, opBin, opUn, opConv, opExtract, opNil, opAlloc, opBox, opBuild, opBuildSlice, opMakeSlice, opLoad, opStore, opSlice, opFieldAddr, opField, opIndexAddr, opIndex, opLen, opMinMax, opAppend, opAppendZ, opCall, opCallF, Q.opnd, Q.opndW, Q.eval, Q.ret, Q.elems, Q.cells, Q.parts, Q.args, Q.src, Q.optInt, intOf?, placeOf, fillA, setAll, mkAgg, datas, loadSel, ofCells, pickV, binI, binS, look, Value.oneCell', normD, smallNil, KD.known, KD.agg, T, TI.z, Dat.wd, Dat.cells, Dat.nagg, AV.ren, renL, AV.renT, AV.hi, AV.hi1, Ob.isRow, Ob.inn, Ob.out, Ob.gam, Ob.data, Ob.alike, loL, Gf, Mu, Dat.flat, Dat.isV, List.contains, List.elem, Option.isSome, Nat.reduceAdd, Nat.reduceSub, Nat.reduceMul, Nat.reduceEqDiff, Nat.reduceLeDiff, Nat.reduceBEq, reduceIte, reduceCtorEq, Int.reduceLT, Int.reduceLE, Int.reduceNeg, Int.reduceEq, Int.reduceToNat, Int.reducePow, Nat.reducePow, Nat.reduceLT, IntKind.bits, hf30, e30, hf32, e32, hf34, e34, hf35, e35, jn]; (try simp (disch := omega) only [w_i64, w_i32, w_u8, w_u16, w_u32, w_u64, tdiv_nn, tmod_nn]); exact rfl)
    case s => ((try simp only [evU]); exact rfl)
    all_goals try (case hw => (first | exact wrs_nil | exact rfl))
    all_goals try (case hf => exact rfl)
    case hp => (first | trivial | ((repeat' refine And.intro ?_ ?_) <;> first | trivial | assumption | omega | exact fun h => h | (intro hq; first | trivial | assumption | omega | (rw [hq]; rfl) | (simp_all; done)) | (simp; done)) | (intro hg; (repeat' refine And.intro ?_ ?_) <;> first | trivial | assumption | omega | exact fun h => h | (intro hq; first | trivial | assumption | omega | (rw [hq]; rfl) | (simp_all; done)) | (simp; done)))
  refine evalD_done (by kernel_rfl) ?_
  refine hK _ ?_
  clear hK K
  simp only [evU, St.keep, List.map_cons, look, reduceIte, Nat.reduceEqDiff]
  try show AWP _ _ _ _ _
  repeat refine AWP.nest ?_
  first | refine AWP.rs (Gf_ok F19_ok) [] [0, 1, 5, 6, 7, 19, 20, 21] (by rw [hN]; decide) fun K hK => ?_ | refine AWP.rn (Gf_ok F19_ok) [] [0, 1, 5, 6, 7, 19, 20, 21] (by rw [hN]; decide) fun K hK => ?_
  repeat
    first | apply eL | (apply eG; (case ht => exact rfl); (case hef => exact rfl))
    case e => (simp only [evB, evG, evGR, Q.evalR, boolOf, opQ, opMove, opPick, opBin, opUn, opConv, opExtract, opNil, opAlloc, opBox, opBuild, opBuildSlice, opMakeSlice, opLoad, opStore, opSlice, opFieldAddr, opField, opIndexAddr, opIndex, opLen, opMinMax, opAppend, opAppendZ, opCall, opCallF, Q.opnd, Q.opndW, Q.eval, Q.ret, Q.elems, Q.cells, Q.parts, Q.args, Q.src, Q.optInt, intOf?, placeOf, fillA, setAll, mkAgg, datas, loadSel, ofCells, pickV, binI, binS, look, Value.oneCell', normD, smallNil, KD.known, KD.agg, T, TI.z, Dat.wd, Dat.cells, Dat.nagg, AV.ren, renL, AV.renT, AV.hi, AV.hi1, Ob.isRow, Ob.inn, Ob.out, Ob.gam, Ob.data, Ob.alike, loL, Gf, Mu, Dat.flat, Dat.isV, List.contains, List.elem, Option.isSome, Nat.reduceAdd, Nat.reduceSub, Nat.reduceMul, Nat.reduceEqDiff, Nat.reduceLeDiff, Nat.reduceBEq, reduceIte, reduceCtorEq, Int.reduceLT, Int.reduceLE, Int.reduceNeg, Int.reduceEq, Int.reduceToNat, Int.reducePow, Nat.reducePow, Nat.reduceLT, IntKind.bits, hf30, e30, hf32, e32, hf34, e34, hf35, e35]; (try simp (disch := omega) only [w_i64, w_i32, w_u8, w_u16, w_u32, w_u64, tdiv_nn, tmod_nn]); exact rfl)
    case s => ((try simp only [evU]); exact rfl)
    case hp => (first | trivial | ((repeat' refine And.intro ?_ ?_) <;> first | trivial | assumption | omega | exact fun h => h | (intro hq; first | trivial | assumption | omega | (rw [hq]; rfl) | (simp_all; done)) | (simp; done)) | (intro hg; (repeat' refine And.intro ?_ ?_) <;> first | trivial | assumption | omega | exact fun h => h | (intro hq; first | trivial | assumption | omega | (rw [hq]; rfl) | (simp_all; done)) | (simp; done)))
  rw [evalL_nil]
  refine hK _ ?_
  clear hK K
  simp only [evU, St.keep, List.map_cons, look, reduceIte, Nat.reduceEqDiff]
  try show AWP _ _ _ _ _
  refine ⟨l.length - (i + 1), by omega, i + 1, by omega, rfl, ?_⟩
  rw [rot_snoc, take_snoc' 0 hi', enc4_snoc, enc4_snoc, List.sum_append]
  have e1 : ((l.take i).sum % 4294967296 + l.getD i 0) % 4294967296 = ((l.take i).sum + [l.getD i 0].sum) % 4294967296 := by
    simp only [List.sum_cons, List.sum_nil]; omega
  rw [e1]; rfl
theorem law4 (x : Dat) (h : (AT.sl 25 (.int .u32)).holds x) (y : Dat) (h1 : (AT.int .u8).holds y) : Spec Try.prog 4 [.d x.flat x, .d y.flat y] none ⟨True, .d true (.v (.bool true)), none⟩ := by
  obtain ⟨xs, rfl, hx⟩ := h
  obtain ⟨l, rfl, hl⟩ := ints_of hx
  obtain ⟨a, rfl, hw⟩ := h1
  have ha := bounds_u8 hw
  have := s4 l (fun n hn => by have := bounds_u32 (hl n hn); omega) a.toNat (by omega)
  rw [Int.toNat_of_nonneg ha.1] at this
  exact this
end Go.AM

