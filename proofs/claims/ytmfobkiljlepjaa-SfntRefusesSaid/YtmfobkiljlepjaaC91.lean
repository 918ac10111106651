/- AM: the sort. -/
import Derived.Test.YtmfobkiljlepjaaC90
import Derived.Test.YtmfobkiljlepjaaD3
set_option maxRecDepth 100000
set_option maxHeartbeats 8000000
set_option linter.unusedSimpArgs false
set_option linter.unusedVariables false
namespace Go.AM
open Go Go.Proofs

theorem downS_stop {α : Type} {lt : α → α → Bool} {z : α} {a j : Nat} {l : List α} (h : j ≤ a ∨ lt (l.getD j z) (l.getD (j - 1) z) = false) : downS lt z a j l = l := by
  cases j with
  | zero => rfl
  | succ j =>
    unfold downS
    rw [if_neg]
    rintro ⟨h1, h2⟩
    rcases h with h | h
    · omega
    · rw [Nat.add_sub_cancel] at h
      rw [h2] at h
      cases h
theorem downS_go {α : Type} {lt : α → α → Bool} {z : α} {a j : Nat} {l : List α} (h : a < j) (h2 : lt (l.getD j z) (l.getD (j - 1) z) = true) : downS lt z a j l = downS lt z a (j - 1) ((l.set j (l.getD (j - 1) z)).set (j - 1) (l.getD j z)) := by
  cases j with
  | zero => omega
  | succ j =>
    rw [Nat.add_sub_cancel] at h2 ⊢
    conv => lhs; unfold downS
    rw [if_pos ⟨h, h2⟩]
theorem tbs_at' {l : List Tb} {i : Int} {n : Nat} (e : i.toNat = n) (h : n < l.length) : ∀ z, (tbs l).getD i.toNat z = .agg [.v (.string (l.getD n tb0).1), .sl 1 (ints .u8 (l.getD n tb0).2)] := fun z => by
  rw [e]; exact tbs_at h


theorem s130 (S : List Tb) (a b : Nat) (hab : a ≤ b) (hb : b ≤ S.length) (hS : S.length ≤ 1000000) : Spec Try.prog 130 [.own 0 0, .d true (.v (.int .i64 (a : Int))), .d true (.v (.int .i64 (b : Int))), .fn 112 []] (some (.row 106 2 0 false (tbs S)))
    ⟨True, .tup [], some (.row 106 2 0 false (tbs (insS ltT tb0 a (b - (a + 1)) (a + 1) S)))⟩ := by
  have hG := (Gf_ok F124_ok)
  have hfs := And.intro @evP @evTb
  have hxs := @Nat.add_zero
  refine spec_of_awp (Gf_ok F124_ok) Try.func130 rfl (Nat.le_of_ble_eq_true rfl) fun E hps hN _ => ?_
  simp only [begin, List.zipIdx_cons, List.zipIdx_nil, List.map_cons, List.map_nil, Option.toList, Nat.zero_add, Nat.reduceAdd]
  obtain ⟨W, hW⟩ : ∃ W, insS ltT tb0 a (b - (a + 1)) (a + 1) S = W := ⟨_, rfl⟩
  rw [hW]
  have c1 : (a : Int) + 1 = ((a + 1 : Nat) : Int) := by omega
  repeat refine AWP.nest ?_
  have hxs := @c1
  first | refine rsa hG [] [0, 1, 2, 3, 8] fun K hK => ?_ | refine rna hG [] [0, 1, 2, 3, 8] fun K hK => ?_
  repeat first | ((with_reducible refine shN ?_); refine sL ?_) | ((with_reducible refine shG ?_); refine sG ?_)
  refine Eq.mpr evalL_nil (hK _ ?_)
  clear hK K hxs
  simp only [evU, St.keep, List.map_cons, look, reduceIte, Nat.reduceEqDiff]
  try show AWP _ _ _ _ _
  repeat refine AWP.nest ?_
  first | refine AWP.seq (AWP.block ?_) | refine AWP.block ?_
  refine AWP.loop (fun k st => ∃ (i : Nat) (X : List Tb), a + 1 ≤ i ∧ (i ≤ b ∨ i = a + 1) ∧ k = b - i ∧ X.length = S.length ∧ insS ltT tb0 a (b - i) i X = W ∧ st = ⟨[(0, .own 0 0), (1, .d true (.v (.int .i64 (a : Int)))), (2, .d true (.v (.int .i64 (b : Int)))), (3, .fn 112 []), (8, .d true (.v (.int .i64 (i : Int))))], [some (.row 106 2 0 false (tbs X))]⟩) (b - (a + 1)) ?_ ?_
  · exact ⟨a + 1, S, Nat.le_refl _, .inr rfl, rfl, rfl, hW, rfl⟩
  rintro k st ⟨i, X, hi1, hi2, hk, hX, hWi, rfl⟩
  repeat refine AWP.nest ?_
  first | refine rsa hG [] [0, 1, 2, 3, 8, 14] fun K hK => ?_ | refine rna hG [] [0, 1, 2, 3, 8, 14] fun K hK => ?_
  repeat first | ((with_reducible refine shN ?_); refine sL ?_) | ((with_reducible refine shG ?_); refine sG ?_)
  refine Eq.mpr evalL_nil (hK _ ?_)
  clear hK K
  simp only [evU, St.keep, List.map_cons, look, reduceIte, Nat.reduceEqDiff]
  try show AWP _ _ _ _ _
  first | refine AWP.seq (AWP.cond (b := _) rfl (fun hc => ?_) (fun hc => ?_)) | refine AWP.cond (b := _) rfl (fun hc => ?_) (fun hc => ?_)
  rotate_left
  · simp only [evC] at hc
    refine AWP.exit ?_
    rw [show b - i = 0 by omega] at hWi
    have hWX : X = W := hWi
    rw [← hWX]
    refine ⟨.inr rfl, ⟨⟨_, rfl, _, rfl, .nil⟩, fun ob hob => ?_⟩⟩
    cases hob
    rfl
  simp only [evC] at hc
  refine AWP.skip ?_
  show AWP _ _ _ _ _
  have hib : i < b := by omega
  clear hc
  have hWi2 : insS ltT tb0 a (b - (i + 1)) (i + 1) (downS ltT tb0 a i X) = W := by
    rw [show b - i = (b - (i + 1)) + 1 by omega] at hWi
    exact hWi
  repeat refine AWP.nest ?_
  first | refine AWP.seq (AWP.block ?_) | refine AWP.block ?_
  repeat refine AWP.nest ?_
  first | refine rsa hG [] [0, 1, 2, 3, 8, 9] fun K hK => ?_ | refine rna hG [] [0, 1, 2, 3, 8, 9] fun K hK => ?_
  repeat first | ((with_reducible refine shN ?_); refine sL ?_) | ((with_reducible refine shG ?_); refine sG ?_)
  refine Eq.mpr evalL_nil (hK _ ?_)
  clear hK K
  simp only [evU, St.keep, List.map_cons, look, reduceIte, Nat.reduceEqDiff]
  try show AWP _ _ _ _ _
  repeat refine AWP.nest ?_
  first | refine AWP.seq (AWP.block ?_) | refine AWP.block ?_
  refine AWP.loop (fun k st => ∃ (j : Nat) (Y : List Tb), a ≤ j ∧ j ≤ i ∧ k = j ∧ Y.length = S.length ∧ insS ltT tb0 a (b - (i + 1)) (i + 1) (downS ltT tb0 a j Y) = W ∧ st = ⟨[(0, .own 0 0), (1, .d true (.v (.int .i64 (a : Int)))), (2, .d true (.v (.int .i64 (b : Int)))), (3, .fn 112 []), (8, .d true (.v (.int .i64 (i : Int)))), (9, .d true (.v (.int .i64 (j : Int))))], [some (.row 106 2 0 false (tbs Y))]⟩) (i) ?_ ?_
  · exact ⟨i, X, by omega, Nat.le_refl _, rfl, hX, hWi2, rfl⟩
  rintro k2 st ⟨j, Y, hj1, hj2, hk2, hY, hWj, rfl⟩
  have hyl : (tbs Y).length = S.length := by rw [tbs_length, hY]
  have at0 : ∀ z, (tbs Y).getD j z = .agg [.v (.string (Y.getD j tb0).1), .sl 1 (ints .u8 (Y.getD j tb0).2)] := fun z => tbs_at (by omega)
  have at1 := tbs_at' (l := Y) (i := (j : Int) - 1) (n := j - 1) (by omega) (by omega)
  have p0 : ints .u8 (Y.getD j tb0).2 = ints .u8 (toInts (ints .u8 (Y.getD j tb0).2)) := by rw [toInts_ints]
  have p1 : ints .u8 (Y.getD (j - 1) tb0).2 = ints .u8 (toInts (ints .u8 (Y.getD (j - 1) tb0).2)) := by rw [toInts_ints]
  repeat refine AWP.nest ?_
  first | refine AWP.rd (Gf_ok F124_ok) [] [0, 1, 2, 3, 8, 9, 34] Try.mixed (by rw [hN]; decide) fun K hK => ?_ | refine AWP.dn (Gf_ok F124_ok) [] [0, 1, 2, 3, 8, 9, 34] Try.mixed (by rw [hN]; decide) fun K hK => ?_
  repeat
    first | apply eD | (apply eDG; (case ht => exact rfl); (case hef => exact rfl))
    case e => (simp only [evB, evG, evGR, Q.evalR, boolOf, opQ, opMove, opPick, opBinK, opBin, opMakeMap, opLookup, opMapUpdate, keyA, keyI, keyEq, opUn, opConvS, convSB, convBS, lazy_app, lazyO_app, opConv, opExtract, opNil, opAlloc, opBox, opBuild, opBuildSlice, opMakeSlice, opLoad, opStore, opSlice, opFieldAddr, opField, opIndexAddr, opIndex, opLen, opMinMax, opAppend, opAppendZ, opCall, opCallF, callK_none, callK_some, opCallS, callS_none, opCopy, opMakeFunc, Q.opnd, Q.opndW, Q.eval, Q.ret, Q.elems, Q.cells, Q.parts, Q.args, Q.src, Q.optInt, intOf?, placeOf, fillA, setAll, mkAgg, datas, loadSel, ofCells, pickV, binI, binS, look, Value.oneCell', normD, smallNil, KD.known, KD.agg, T, TI.z, Dat.wd, Dat.cells, Dat.nagg, AV.ren, renL, AV.renT, AV.hi, AV.hi1, Ob.isRow, Ob.inn, Ob.out, Ob.gam, Ob.data, Ob.alike, loL, Gf, Mu, KE, Dat.flat, Dat.isV, List.contains, List.elem, Option.isSome, Nat.reduceAdd, Nat.reduceSub, Nat.reduceMul, Nat.reduceEqDiff, Nat.reduceLeDiff, Nat.reduceBEq, reduceIte, reduceCtorEq, Int.reduceLT, Int.reduceLE, Int.reduceNeg, Int.reduceEq, Int.reduceToNat, Int.reducePow, Nat.reducePow, Nat.reduceLT, IntKind.bits, evP, evTb, at0, at1, hyl]; (try simp (disch := omega) only [evA]); exact rfl)
    case s => ((try simp only [evU]); exact rfl)
    all_goals try (case hw => (first | exact wrs_nil | exact rfl))
    all_goals try (case hf => exact rfl)
    case hp => (first | exact True.intro | ((intros; and_intros <;> first | exact True.intro | omega | exact p0 | exact p1 | (simp only [toInts_ints]; done) | (simp; done))) | (intro hg; (intros; and_intros <;> first | exact True.intro | omega | exact p0 | exact p1 | (simp only [toInts_ints]; done) | (simp; done))) | (intro hg; simp at hg; (intros; and_intros <;> first | exact True.intro | omega | exact p0 | exact p1 | (simp only [toInts_ints]; done) | (simp; done))))
  refine evalD_done (by kernel_rfl) ?_
  refine hK _ ?_
  clear hK K
  simp only [evU, St.keep, List.map_cons, look, reduceIte, Nat.reduceEqDiff]
  try show AWP _ _ _ _ _
  clear p0 p1
  first | refine AWP.seq (AWP.cond (b := _) rfl (fun hc => ?_) (fun hc => ?_)) | refine AWP.cond (b := _) rfl (fun hc => ?_) (fun hc => ?_)
  rotate_left
  · refine AWP.exit ?_
    show AWP _ _ _ _ _
    simp only [evC, Int.not_lt] at hc
    have hst : downS ltT tb0 a j Y = Y := downS_stop (by
      rcases hc with h | h
      · exact .inl (by omega)
      · exact .inr (decide_eq_false (by omega)))
    rw [hst] at hWj
    clear hc at0 at1
    repeat refine AWP.nest ?_
    first | refine rsa hG [] [0, 1, 2, 3, 8] fun K hK => ?_ | refine rna hG [] [0, 1, 2, 3, 8] fun K hK => ?_
    repeat first | ((with_reducible refine shN ?_); refine sL ?_) | ((with_reducible refine shG ?_); refine sG ?_)
    refine Eq.mpr evalL_nil (hK _ ?_)
    clear hK K
    simp only [evU, St.keep, List.map_cons, look, reduceIte, Nat.reduceEqDiff]
    try show AWP _ _ _ _ _
    exact ⟨b - (i + 1), by omega, i + 1, Y, by omega, .inl (by omega), rfl, hY, hWj, rfl⟩
  simp only [evC, Int.not_lt] at hc
  refine AWP.skip ?_
  show AWP _ _ _ _ _
  have hlt : ltT (Y.getD j tb0) (Y.getD (j - 1) tb0) = true := decide_eq_true hc.2
  have hja : a < j := by omega
  rw [downS_go hja hlt] at hWj
  clear hc hlt
  repeat refine AWP.nest ?_
  first | refine AWP.seq (AWP.block ?_) | refine AWP.block ?_
  have at2 : ∀ z, (tbs (Y.set j ((Y.getD (j - 1) tb0).1, (Y.getD (j - 1) tb0).2))).getD ((j : Int) - 1).toNat z = .agg [.v (.string (Y.getD (j - 1) tb0).1), .sl 1 (ints .u8 (Y.getD (j - 1) tb0).2)] := fun z => by
    rw [tbs_at' (l := Y.set j _) (n := j - 1) (by omega) (by simp; omega), getD_set' (by omega), if_neg (by omega)]
  have hyl2 : (Y.set j ((Y.getD (j - 1) tb0).1, (Y.getD (j - 1) tb0).2)).length = S.length := by rw [List.length_set, hY]
  have jm : ((j : Int) - 1).toNat = j - 1 := by omega
  repeat refine AWP.nest ?_
  have hxs := And.intro @at0 (And.intro @at1 (And.intro @at2 @hyl))
  first | refine rda hG [] [0, 1, 2, 3, 8, 9] Try.mixed fun K hK => ?_ | refine dna hG [] [0, 1, 2, 3, 8, 9] Try.mixed fun K hK => ?_
  repeat first | ((with_reducible refine shD ?_); refine sD ?_) | ((with_reducible refine shDG ?_); refine sDG ?_)
  refine evalD_done (by kernel_rfl) (hK _ ?_)
  clear hK K hxs
  simp only [evU, St.keep, List.map_cons, look, reduceIte, Nat.reduceEqDiff]
  try show AWP _ _ _ _ _
  rw [jm]
  have cj : (j : Int) - 1 = ((j - 1 : Nat) : Int) := by omega
  clear at0 at1 at2
  repeat refine AWP.nest ?_
  have hxs := @cj
  first | refine rsa hG [] [0, 1, 2, 3, 8, 9] fun K hK => ?_ | refine rna hG [] [0, 1, 2, 3, 8, 9] fun K hK => ?_
  repeat first | ((with_reducible refine shN ?_); refine sL ?_) | ((with_reducible refine shG ?_); refine sG ?_)
  refine Eq.mpr evalL_nil (hK _ ?_)
  clear hK K hxs
  simp only [evU, St.keep, List.map_cons, look, reduceIte, Nat.reduceEqDiff]
  try show AWP _ _ _ _ _
  exact ⟨j - 1, by omega, j - 1, _, by omega, by omega, rfl, by simp [hY], hWj, rfl⟩
def e130 : List AV → Option Ob → Option Res := fun args i => match args, i with
  | [.own 0 0, .d true (.v (.int .i64 a)), .d true (.v (.int .i64 b)), .fn 112 []], some (.row 106 2 0 false xs) => some ⟨xs = tbs (toTbs xs) ∧ 0 ≤ a ∧ a ≤ b ∧ b ≤ (toTbs xs).length ∧ (toTbs xs).length ≤ 1000000, .tup [], some (.row 106 2 0 false (tbs (insS ltT tb0 a.toNat (b.toNat - (a.toNat + 1)) (a.toNat + 1) (toTbs xs))))⟩
  | _, _ => none
def F125 : FT := F124.upd 130 e130
theorem F125_ok : FOK Try.prog F125 := FOK.upd F124_ok Try.func130 (by kernel_rfl) rfl fun args i R h => by
  unfold e130 at h
  split at h
  · rename_i a b xs
    cases h
    refine Spec.pre fun h => ?_
    obtain ⟨h1, h2, h3, h4, h5⟩ := h
    have := s130 (toTbs xs) a.toNat b.toNat (by omega) (by omega) h5
    rw [← h1, Int.toNat_of_nonneg h2, Int.toNat_of_nonneg (by omega)] at this
    exact this
  · cases h
end Go.AM

