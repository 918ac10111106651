/- AM: GroupRefuses. -/
import Derived.Test.YtmfobkiljlepjaaC22
set_option maxRecDepth 100000
set_option maxHeartbeats 8000000
set_option linter.unusedSimpArgs false
set_option linter.unusedVariables false
namespace Go.AM
open Go Go.Proofs

/-- Codes with their places as glyphs. -/
def idxP (l : List Int) : List (Int × Int) := (List.range l.length).map fun k : Nat => (l.getD k 0, (k : Int))
theorem idxP_len (l : List Int) : (idxP l).length = l.length := by simp [idxP]
theorem idxP_snoc (l : List Int) (c : Int) : idxP (l ++ [c]) = idxP l ++ [(c, (l.length : Int))] := by
  unfold idxP
  rw [List.length_append, List.length_singleton, List.range_succ, List.map_append]
  congr 1
  · apply List.map_congr_left
    intro k hk
    rw [List.mem_range] at hk
    simp only [List.getD_eq_getElem?_getD, List.getElem?_append_left hk]
  · simp
theorem idxP_cd {l : List Int} {k : Nat} (hk : k < l.length) : cd (idxP l) k = l.getD k 0 ∧ gl (idxP l) k = k := by
  unfold cd gl idxP
  simp [List.getD_eq_getElem?_getD, hk]
theorem idxP_ok {l : List Int} (h : WI32 l) (hl : l.length ≤ 65535) : PrOK (idxP l) := fun i => by
  by_cases hi : i < l.length
  · rw [(idxP_cd hi).1, (idxP_cd hi).2]
    have := h.getD i
    omega
  · simp only [cd, gl, List.getD_eq_getElem?_getD, List.getElem?_eq_none (show (idxP l).length ≤ i by rw [idxP_len]; omega), Option.getD_none]; omega
theorem cnd_left {l m : List (Int × Int)} {most : Int} {i : Nat} (hi : i < l.length) : cnd (l ++ m) most i = cnd l most i := by
  simp only [cnd, cd, List.getD_eq_getElem?_getD, List.getElem?_append_left hi, List.getElem?_append_left (show i - 1 < l.length by omega)]
theorem risesB_snoc {l : List (Int × Int)} {p : Int × Int} {most : Int} : risesB (l ++ [p]) most = (risesB l most && (decide (0 ≤ p.1) && decide (p.1 ≤ most) && (decide (l.length = 0) || decide (cd l (l.length - 1) < p.1)))) := by
  have e1 : cnd (l ++ [p]) most l.length = (decide (0 ≤ p.1) && decide (p.1 ≤ most) && (decide (l.length = 0) || decide (cd l (l.length - 1) < p.1))) := by
    have e0 : cd (l ++ [p]) l.length = p.1 := by simp [cd, List.getD_eq_getElem?_getD]
    unfold cnd
    rw [e0]
    by_cases h : l.length = 0
    · simp [h]
    · have e2 : cd (l ++ [p]) (l.length - 1) = cd l (l.length - 1) := by
        simp only [cd, List.getD_eq_getElem?_getD, List.getElem?_append_left (show l.length - 1 < l.length by omega)]
      rw [e2]
  rw [← e1]
  unfold risesB
  rw [List.length_append, List.length_singleton, List.range_succ, List.all_append]
  congr 1
  · rw [Bool.eq_iff_iff, List.all_eq_true, List.all_eq_true]
    constructor
    · intro h x hx; have := h x hx; rwa [cnd_left (List.mem_range.1 hx)] at this
    · intro h x hx; rw [cnd_left (List.mem_range.1 hx)]; exact h x hx
  · simp
theorem buildG_pos (l : List (Int × Int)) : decide (((buildG l).length : Int) > 0) = risesB l 1114111 := by
  unfold buildG
  cases h : risesB l 1114111 with
  | true => rw [if_pos rfl, tab_len]; rw [decide_eq_true_eq]; omega
  | false => simp

theorem s11 (cs : List Int) (hw : WI32 cs) : Spec Try.prog 11 [.d false (.sl 1 (ints .i32 cs))] none ⟨True, .d true (.v (.bool true)), none⟩ := by
  have hf40 : F39 40 = e40 := rfl
  have hf42 : F39 42 = e42 := rfl
  have hG := (Gf_ok F39_ok)
  have hfs := And.intro @hf40 (And.intro @e40.eq_1 (And.intro @hf42 (And.intro @e42.eq_1 (And.intro @evP (And.intro @toPrs_prs (And.intro @toSps_sps @toInts_nil))))))
  have hxs := @Nat.add_zero
  refine spec_of_awp (Gf_ok F39_ok) Try.func11 rfl (Nat.le_of_ble_eq_true rfl) fun E hps hN _ => ?_
  simp only [begin, List.zipIdx_cons, List.zipIdx_nil, List.map_cons, List.map_nil, Option.toList, Nat.zero_add, Nat.reduceAdd]
  refine AWP.len 0 rfl fun hlen => ?_
  rw [ints_length] at hlen
  repeat refine AWP.nest ?_
  first | refine rsa hG [] [0] fun K hK => ?_ | refine rna hG [] [0] fun K hK => ?_
  repeat first | ((with_reducible refine shN ?_); refine sL ?_) | ((with_reducible refine shG ?_); refine sG ?_)
  refine Eq.mpr evalL_nil (hK _ ?_)
  clear hK K
  simp only [evU, St.keep, List.map_cons, look, reduceIte, Nat.reduceEqDiff]
  try show AWP _ _ _ _ _
  repeat refine AWP.nest ?_
  first | refine rsa hG [] [0, 8] fun K hK => ?_ | refine rna hG [] [0, 8] fun K hK => ?_
  repeat first | ((with_reducible refine shN ?_); refine sL ?_) | ((with_reducible refine shG ?_); refine sG ?_)
  refine Eq.mpr evalL_nil (hK _ ?_)
  clear hK K
  simp only [evU, St.keep, List.map_cons, look, reduceIte, Nat.reduceEqDiff]
  try show AWP _ _ _ _ _
  repeat refine AWP.nest ?_
  first | refine AWP.seq (AWP.cond (b := _) rfl (fun hc => ?_) (fun hc => ?_)) | refine AWP.cond (b := _) rfl (fun hc => ?_) (fun hc => ?_)
  all_goals try simp only [evC] at hc
  · cases hc
  refine AWP.skip ?_
  show AWP _ _ _ _ _
  clear hc
  repeat refine AWP.nest ?_
  first | refine rsa hG [] [0, 3] fun K hK => ?_ | refine rna hG [] [0, 3] fun K hK => ?_
  repeat first | ((with_reducible refine shN ?_); refine sL ?_) | ((with_reducible refine shG ?_); refine sG ?_)
  refine Eq.mpr evalL_nil (hK _ ?_)
  clear hK K
  simp only [evU, St.keep, List.map_cons, look, reduceIte, Nat.reduceEqDiff]
  try show AWP _ _ _ _ _
  repeat refine AWP.nest ?_
  first | refine rsa hG [] [0, 3, 4] fun K hK => ?_ | refine rna hG [] [0, 3, 4] fun K hK => ?_
  repeat first | ((with_reducible refine shN ?_); refine sL ?_) | ((with_reducible refine shG ?_); refine sG ?_)
  refine Eq.mpr evalL_nil (hK _ ?_)
  clear hK K
  simp only [evU, St.keep, List.map_cons, look, reduceIte, Nat.reduceEqDiff]
  try show AWP _ _ _ _ _
  repeat refine AWP.nest ?_
  first | refine rsa hG [] [0, 3, 4, 9, 10, 11] fun K hK => ?_ | refine rna hG [] [0, 3, 4, 9, 10, 11] fun K hK => ?_
  repeat first | ((with_reducible refine shN ?_); refine sL ?_) | ((with_reducible refine shG ?_); refine sG ?_)
  refine Eq.mpr evalL_nil (hK _ ?_)
  clear hK K
  simp only [evU, St.keep, List.map_cons, look, reduceIte, Nat.reduceEqDiff]
  try show AWP _ _ _ _ _
  refine AWP.adopt 3 55 2 (by decide) rfl ?_
  refine AWP.keep [0, 3, 4, 9, 10, 11] ?_
  simp only [St.adopt, St.keep, List.map_cons, List.map_nil, look, reduceIte, Nat.reduceEqDiff, List.nil_append, List.length_nil]
  repeat refine AWP.nest ?_
  first | refine AWP.seq (AWP.block ?_) | refine AWP.block ?_
  refine AWP.loop (fun k st => ∃ (i m : Nat), i ≤ cs.length ∧ m = min i 20 ∧ k = cs.length - i ∧ st = ⟨[(0, .d false (.sl 1 (ints .i32 cs))), (3, .own 0 m), (4, .d true (.v (.bool (risesB (idxP (cs.take m)) 1114111)))), (9, .d false (.sl 1 (ints .i32 cs))), (10, .d true (.v (.int .i64 (cs.length : Int)))), (11, .d true (.v (.int .i64 (i : Int))))], [some (.row 55 2 m true (prs (idxP (cs.take m))))]⟩) (cs.length) ?_ ?_
  · exact ⟨0, 0, Nat.zero_le _, rfl, rfl, rfl⟩
  rintro k st ⟨i, m, hi, hm, hk, rfl⟩
  have htl : (cs.take m).length = m := by simp only [List.length_take]; omega
  have htw : WI32 (cs.take m) := fun n hn => hw n (List.mem_of_mem_take hn)
  repeat refine AWP.nest ?_
  first | refine rsa hG [] [0, 3, 4, 9, 10, 11, 12] fun K hK => ?_ | refine rna hG [] [0, 3, 4, 9, 10, 11, 12] fun K hK => ?_
  repeat first | ((with_reducible refine shN ?_); refine sL ?_) | ((with_reducible refine shG ?_); refine sG ?_)
  refine Eq.mpr evalL_nil (hK _ ?_)
  clear hK K
  simp only [evU, St.keep, List.map_cons, look, reduceIte, Nat.reduceEqDiff]
  try show AWP _ _ _ _ _
  first | refine AWP.seq (AWP.cond (b := _) rfl (fun hc => ?_) (fun hc => ?_)) | refine AWP.cond (b := _) rfl (fun hc => ?_) (fun hc => ?_)
  rotate_left
  · refine AWP.exit ?_
    show AWP _ _ _ _ _
    simp only [evC, Int.not_lt] at hc
    have hp := idxP_ok htw (by omega)
    have hil := idxP_len (cs.take m)
    have hb := buildG_pos (idxP (cs.take m))
    have hbl := buildG_byt hp (by omega)
    obtain ⟨hb1, hb2⟩ := hbl
    refine AWP.frz 0 (by rw [hps]; decide) rfl ?_
    simp only [St.frz, Ob.frz, AV.frz, AV.frz1, Option.map_none, mkAgg, datas, Dat.nagg, List.map_cons, List.map_nil, Option.map_some, and_self, true_and, and_true, reduceIte, Nat.reduceEqDiff, List.set_cons_zero, List.set_cons_succ, Bool.and_true, Bool.true_and]
    repeat refine AWP.nest ?_
    have hxs := @hb
    first | refine rsa hG [] [2] fun K hK => ?_ | refine rna hG [] [2] fun K hK => ?_
    repeat first | ((with_reducible refine shN ?_); refine sL ?_) | ((with_reducible refine shG ?_); refine sG ?_)
    refine Eq.mpr evalL_nil (hK _ ?_)
    clear hK K hxs
    simp only [evU, St.keep, List.map_cons, look, reduceIte, Nat.reduceEqDiff]
    try show AWP _ _ _ _ _
    refine AWP.ret ?_
    refine ⟨.inl rfl, ⟨⟨_, rfl, ?_⟩, fun ob hob => by cases hob⟩⟩
    simp only [look, reduceIte, Nat.reduceEqDiff]
    refine sub1_of ?_
    simp
  simp only [evC, Int.not_lt] at hc
  refine AWP.skip ?_
  show AWP _ _ _ _ _
  have hi' := hc
  clear hc
  repeat refine AWP.nest ?_
  first | refine AWP.seq (AWP.block ?_) | refine AWP.block ?_
  repeat refine AWP.nest ?_
  first | refine rsa hG [] [0, 3, 4, 5, 6, 9, 10, 11] fun K hK => ?_ | refine rna hG [] [0, 3, 4, 5, 6, 9, 10, 11] fun K hK => ?_
  repeat first | ((with_reducible refine shN ?_); refine sL ?_) | ((with_reducible refine shG ?_); refine sG ?_)
  refine Eq.mpr evalL_nil (hK _ ?_)
  clear hK K
  simp only [evU, St.keep, List.map_cons, look, reduceIte, Nat.reduceEqDiff]
  try show AWP _ _ _ _ _
  repeat refine AWP.nest ?_
  first | refine rsa hG [] [0, 3, 4, 5, 6, 9, 10, 11, 17] fun K hK => ?_ | refine rna hG [] [0, 3, 4, 5, 6, 9, 10, 11, 17] fun K hK => ?_
  repeat first | ((with_reducible refine shN ?_); refine sL ?_) | ((with_reducible refine shG ?_); refine sG ?_)
  refine Eq.mpr evalL_nil (hK _ ?_)
  clear hK K
  simp only [evU, St.keep, List.map_cons, look, reduceIte, Nat.reduceEqDiff]
  try show AWP _ _ _ _ _
  repeat refine AWP.nest ?_
  first | refine AWP.seq (AWP.cond (b := _) rfl (fun hc => ?_) (fun hc => ?_)) | refine AWP.cond (b := _) rfl (fun hc => ?_) (fun hc => ?_)
  all_goals try simp only [evC] at hc
  · have hmi : m = i := by omega
    subst hmi
    have hnew : risesB (idxP (cs.take (m + 1))) 1114111 = (risesB (idxP (cs.take m)) 1114111 && (decide (0 ≤ cs.getD m 0) && decide (cs.getD m 0 ≤ 1114111) && (decide (m = 0) || decide (cs.getD (m - 1) 0 < cs.getD m 0)))) := by
      rw [take_snoc' 0 hi', idxP_snoc, risesB_snoc, idxP_len, htl]
      by_cases h0 : m = 0
      · simp [h0]
      · rw [(idxP_cd (l := cs.take m) (k := m - 1) (by omega)).1]
        have e1 : (cs.take m).getD (m - 1) 0 = cs.getD (m - 1) 0 := by
          simp only [List.getD_eq_getElem?_getD, List.getElem?_take_of_lt (show m - 1 < m by omega)]
        rw [e1]
    have ei : ((m : Int) - 1).toNat = m - 1 := by omega
    have e2 : ((m : Int) == 0) = decide (m = 0) := by rw [Bool.eq_iff_iff]; simp
    have hnew2 : (risesB (idxP (List.take m cs)) 1114111 && decide (cs.getD m 0 ≥ 0) && decide (cs.getD m 0 ≤ 1114111) && ((m : Int) == 0 || decide (cs.getD m 0 > cs.getD ((m : Int) - 1).toNat 0))) = risesB (idxP (cs.take (m + 1))) 1114111 := by
      rw [hnew, ei, e2]
      simp only [Bool.and_assoc, ge_iff_le, gt_iff_lt]
    have em : (m : Int) % 65536 = m := by omega
    have hil : (idxP (List.take m cs)).length = m := by rw [idxP_len, htl]
    clear hnew
    repeat refine AWP.nest ?_
    first | refine AWP.rs (Gf_ok F39_ok) [] [0, 3, 4, 5, 6, 9, 10, 11] (by rw [hN]; decide) fun K hK => ?_ | refine AWP.rn (Gf_ok F39_ok) [] [0, 3, 4, 5, 6, 9, 10, 11] (by rw [hN]; decide) fun K hK => ?_
    repeat
      first | apply eL | (apply eG; (case ht => exact rfl); (case hef => exact rfl))
      case e => (simp only [evB, evG, evGR, Q.evalR, boolOf, opQ, opMove, opPick, opBinK, opBin, opMakeMap, opLookup, opMapUpdate, keyA, keyI, keyEq, opUn, opConvS, convSB, convBS, lazy_app, opConv, opExtract, opNil, opAlloc, opBox, opBuild, opBuildSlice, opMakeSlice, opLoad, opStore, opSlice, opFieldAddr, opField, opIndexAddr, opIndex, opLen, opMinMax, opAppend, opAppendZ, opCall, opCallF, Q.opnd, Q.opndW, Q.eval, Q.ret, Q.elems, Q.cells, Q.parts, Q.args, Q.src, Q.optInt, intOf?, placeOf, fillA, setAll, mkAgg, datas, loadSel, ofCells, pickV, binI, binS, look, Value.oneCell', normD, smallNil, KD.known, KD.agg, T, TI.z, Dat.wd, Dat.cells, Dat.nagg, AV.ren, renL, AV.renT, AV.hi, AV.hi1, Ob.isRow, Ob.inn, Ob.out, Ob.gam, Ob.data, Ob.alike, loL, Gf, Mu, KE, Dat.flat, Dat.isV, List.contains, List.elem, Option.isSome, Nat.reduceAdd, Nat.reduceSub, Nat.reduceMul, Nat.reduceEqDiff, Nat.reduceLeDiff, Nat.reduceBEq, reduceIte, reduceCtorEq, Int.reduceLT, Int.reduceLE, Int.reduceNeg, Int.reduceEq, Int.reduceToNat, Int.reducePow, Nat.reducePow, Nat.reduceLT, IntKind.bits, hf40, e40, hf42, e42, evP, toPrs_prs, toSps_sps, toInts_nil, hnew2]; (try simp (disch := omega) only [evA]); exact rfl)
      case s => ((try simp only [evU]); exact rfl)
      case hp => (first | exact True.intro | (first | exact fun h => h | ((repeat' refine And.intro ?_ ?_) <;> first | exact True.intro | omega) | (intro hq; have hq' := hq; simp only [Bool.and_eq_true, Bool.not_eq_true', decide_eq_true_eq, decide_eq_false_iff_not, bne_iff_ne, ne_eq, beq_iff_eq, beq_eq_false_iff_ne] at hq'; (repeat' refine And.intro ?_ ?_) <;> first | exact True.intro | exact fun h => h | exact hq | (intro h2; rw [hq, h2]; rfl) | assumption | omega)) | (intro hg; first | exact fun h => h | ((repeat' refine And.intro ?_ ?_) <;> first | exact True.intro | omega) | (intro hq; have hq' := hq; simp only [Bool.and_eq_true, Bool.not_eq_true', decide_eq_true_eq, decide_eq_false_iff_not, bne_iff_ne, ne_eq, beq_iff_eq, beq_eq_false_iff_ne] at hq'; (repeat' refine And.intro ?_ ?_) <;> first | exact True.intro | exact fun h => h | exact hq | (intro h2; rw [hq, h2]; rfl) | assumption | omega)) | (intro hg; simp at hg; first | exact fun h => h | ((repeat' refine And.intro ?_ ?_) <;> first | exact True.intro | omega) | (intro hq; have hq' := hq; simp only [Bool.and_eq_true, Bool.not_eq_true', decide_eq_true_eq, decide_eq_false_iff_not, bne_iff_ne, ne_eq, beq_iff_eq, beq_eq_false_iff_ne] at hq'; (repeat' refine And.intro ?_ ?_) <;> first | exact True.intro | exact fun h => h | exact hq | (intro h2; rw [hq, h2]; rfl) | assumption | omega)))
    rw [evalL_nil]
    refine hK _ ?_
    clear hK K
    simp only [evU, St.keep, List.map_cons, look, reduceIte, Nat.reduceEqDiff]
    try show AWP _ _ _ _ _
    repeat refine AWP.nest ?_
    have hxs := @em
    first | refine rsa hG [] [0, 3, 4, 9, 10, 11] fun K hK => ?_ | refine rna hG [] [0, 3, 4, 9, 10, 11] fun K hK => ?_
    repeat first | ((with_reducible refine shN ?_); refine sL ?_) | ((with_reducible refine shG ?_); refine sG ?_)
    refine Eq.mpr evalL_nil (hK _ ?_)
    clear hK K hxs
    simp only [evU, St.keep, List.map_cons, look, reduceIte, Nat.reduceEqDiff]
    try show AWP _ _ _ _ _
    repeat refine AWP.nest ?_
    first | refine rsa hG [] [0, 3, 4, 9, 10, 11] fun K hK => ?_ | refine rna hG [] [0, 3, 4, 9, 10, 11] fun K hK => ?_
    repeat first | ((with_reducible refine shN ?_); refine sL ?_) | ((with_reducible refine shG ?_); refine sG ?_)
    refine Eq.mpr evalL_nil (hK _ ?_)
    clear hK K
    simp only [evU, St.keep, List.map_cons, look, reduceIte, Nat.reduceEqDiff]
    try show AWP _ _ _ _ _
    refine ⟨cs.length - (m + 1), by omega, m + 1, m + 1, by omega, by omega, rfl, ?_⟩
    rw [take_snoc' 0 hi', idxP_snoc, htl]
    rfl
  refine AWP.skip ?_
  show AWP _ _ _ _ _
  repeat refine AWP.nest ?_
  first | refine rsa hG [] [0, 3, 4, 9, 10, 11] fun K hK => ?_ | refine rna hG [] [0, 3, 4, 9, 10, 11] fun K hK => ?_
  repeat first | ((with_reducible refine shN ?_); refine sL ?_) | ((with_reducible refine shG ?_); refine sG ?_)
  refine Eq.mpr evalL_nil (hK _ ?_)
  clear hK K
  simp only [evU, St.keep, List.map_cons, look, reduceIte, Nat.reduceEqDiff]
  try show AWP _ _ _ _ _
  refine ⟨cs.length - (i + 1), by omega, i + 1, m, by omega, by omega, rfl, rfl⟩
theorem law11 (x : Dat) (h : (AT.sl 21 (.int .i32)).holds x) : Spec Try.prog 11 [.d x.flat x] none ⟨True, .d true (.v (.bool true)), none⟩ := by
  obtain ⟨xs, rfl, hx⟩ := h
  obtain ⟨l, rfl, hl⟩ := ints_of hx
  exact s11 l (fun n hn => by have := bounds_i32 (hl n hn); omega)
end Go.AM

