/- AM: sfnt.Build, where no head is whole. -/
import Derived.Test.YtmfobkiljlepjaaC96
set_option maxRecDepth 100000
set_option maxHeartbeats 8000000
set_option linter.unusedSimpArgs false
set_option linter.unusedVariables false
namespace Go.AM
open Go Go.Proofs

theorem rowsF_step {S : List Tb} {a i : Nat} (hi : i < S.length) : rowsF a (S.take (i + 1)) = rowsF a (S.take i) ++ rowF (a + (datF (S.take i)).length) (S.getD i tb0) := by
  rw [take_tb hi, rowsF_append]
  simp [rowsF]
theorem datF_step {S : List Tb} {i : Nat} (hi : i < S.length) : datF (S.take (i + 1)) = datF (S.take i) ++ padB (zerT (S.getD i tb0)) := by
  rw [take_tb hi, datF_append]
  simp [datF]
theorem datF_le {S : List Tb} (hs : ∀ t ∈ S, t.2.length ≤ 60000) : ∀ i, i ≤ S.length → (datF (S.take i)).length ≤ 60003 * i
  | 0, _ => by simp [datF]
  | i + 1, hi => by
    have := datF_le hs i (by omega)
    rw [datF_step (by omega), List.length_append]
    have h2 : (S.getD i tb0).2.length ≤ 60000 := by
      rw [List.getD_eq_getElem?_getD, List.getElem?_eq_getElem (by omega)]
      exact hs _ (List.getElem_mem _)
    have h3 := padB_mod (zerT (S.getD i tb0))
    have h4 := zerT_len (S.getD i tb0)
    omega
theorem datF_byt {S : List Tb} (hb : DatB S) : Byt (datF S) := by
  intro b h
  unfold datF at h
  obtain ⟨p, hp, hb2⟩ := List.mem_flatten.1 h
  obtain ⟨t, ht, rfl⟩ := List.mem_map.1 hp
  exact padB_byt (zerT_byt (hb t ht)) b hb2
theorem b2F_byt {n : Int} (h0 : 0 ≤ n) (h1 : n < 65536) : Byt (b2F n) := by
  intro b hb
  simp only [b2F, List.mem_cons, List.not_mem_nil, or_false] at hb
  rcases hb with rfl | rfl <;> omega
theorem hdrF_byt {n : Nat} (h1 : 1 ≤ n) (h64 : n ≤ 64) : Byt (hdrF n) := by
  obtain ⟨q1, q2, q3, q4⟩ := log_64 (n := n) (by omega) h64
  have hn2 : 1 ≤ (n : Int) ∧ (n : Int) ≤ 64 := by omega
  have w1 : 0 ≤ tA (n : Int) ∧ tA n < 65536 := by unfold tA; rw [if_pos hn2, Int.toNat_natCast]; omega
  have w2 : 0 ≤ tB (n : Int) ∧ tB n < 65536 := by unfold tB; rw [if_pos hn2, Int.toNat_natCast]; omega
  have w3 : 0 ≤ tD (n : Int) ∧ tD n < 65536 := by unfold tD; rw [if_pos hn2, Int.toNat_natCast]; omega
  unfold hdrF
  refine Byt.append (fun b hb => by simp at hb; omega) ((b2F_byt (by omega) (by omega)).append ((b2F_byt w1.1 w1.2).append ((b2F_byt w2.1 w2.2).append (b2F_byt w3.1 w3.2))))
theorem sumT_bd (t : Tb) : 0 ≤ sumT t ∧ sumT t < 4294967296 := by unfold sumT; omega
theorem rowF_byt {a : Nat} {t : Tb} (ha : a < 4294967296) (hl : t.2.length ≤ 60000) : Byt (rowF a t) := by
  have := sumT_bd t
  unfold rowF
  exact (bytesL_byt _).append ((b4_byt (by omega) (by omega)).append ((b4_byt (by omega) (by omega)).append (b4_byt (by omega) (by omega))))
/-- What Build makes. -/
def bldT (l : List Tb) : List Int := if rightT (srtT l) = true then fileF (srtT l) else []


theorem s78r (l : List Tb) (hl : l.length < 20 ∨ (l.length ≤ 1000 ∧ Asc ltT tb0 l 0 l.length)) (hb : DatB l) (hs : ∀ t ∈ l, t.2.length ≤ 60000) (hr : rightT (srtT l) = false ∨ ∀ t ∈ l, wholeT t = false) :
    Spec Try.prog 78 [.d false (.sl 2 (tbs l))] none ⟨True, .d true (.sl 1 (ints .u8 (bldT l))), none⟩ := by
  have hf33 : F140 33 = e33 := rfl
  have hf38 : F140 38 = e38b := rfl
  have hf39 : F140 39 = e39 := rfl
  have hf63 : F140 63 = e63 := rfl
  have hf89 : F140 89 = e89 := rfl
  have hf90 : F140 90 = e90 := rfl
  have hf91 : F140 91 = e91 := rfl
  have hf99 : F140 99 = e99 := rfl
  have hf110 : F140 110 = e110a := rfl
  have hf111 : F140 111 = e111 := rfl
  have hf114 : F140 114 = e114 := rfl
  have hf115 : F140 115 = e115 := rfl
  have hf116 : F140 116 = e116 := rfl
  have hG := (Gf_ok F140_ok)
  have hfs := And.intro @hf33 (And.intro @e33.eq_1 (And.intro @hf38 (And.intro @e38b.eq_1 (And.intro @hf39 (And.intro @e39.eq_1 (And.intro @hf63 (And.intro @e63.eq_1 (And.intro @hf89 (And.intro @e89.eq_1 (And.intro @hf90 (And.intro @e90.eq_1 (And.intro @hf91 (And.intro @e91.eq_1 (And.intro @hf99 (And.intro @e99.eq_1 (And.intro @hf110 (And.intro @e110a.eq_1 (And.intro @hf111 (And.intro @e111.eq_1 (And.intro @hf114 (And.intro @e114.eq_1 (And.intro @hf115 (And.intro @e115.eq_1 (And.intro @hf116 (And.intro @e116.eq_1 (And.intro @evP @evTb))))))))))))))))))))))))))
  have hxs := @Nat.add_zero
  refine spec_of_awp (Gf_ok F140_ok) Try.func78 rfl (Nat.le_of_ble_eq_true rfl) fun E hps hN _ => ?_
  simp only [begin, List.zipIdx_cons, List.zipIdx_nil, List.map_cons, List.map_nil, Option.toList, Nat.zero_add, Nat.reduceAdd]
  have hl6 : l.length ≤ 1000000 := by omega
  have hperm : (srtT l).Perm l := srtT_perm
  repeat refine AWP.nest ?_
  first | refine rsa hG [] [0] fun K hK => ?_ | refine rna hG [] [0] fun K hK => ?_
  repeat first | ((with_reducible refine shN ?_); refine sL ?_) | ((with_reducible refine shG ?_); refine sG ?_)
  refine Eq.mpr evalL_nil (hK _ ?_)
  clear hK K
  simp only [evU, St.keep, List.map_cons, look, reduceIte, Nat.reduceEqDiff]
  try show AWP _ _ _ _ _
  repeat refine AWP.nest ?_
  first | refine rsa hG [] [0] fun K hK => ?_ | refine rna hG [] [0] fun K hK => ?_
  repeat first | ((with_reducible refine shN ?_); refine sL ?_) | ((with_reducible refine shG ?_); refine sG ?_)
  refine Eq.mpr evalL_nil (hK _ ?_)
  clear hK K
  simp only [evU, St.keep, List.map_cons, look, reduceIte, Nat.reduceEqDiff]
  try show AWP _ _ _ _ _
  repeat refine AWP.nest ?_
  first | refine AWP.rs (Gf_ok F140_ok) [] [0] (by rw [hN]; decide) fun K hK => ?_ | refine AWP.rn (Gf_ok F140_ok) [] [0] (by rw [hN]; decide) fun K hK => ?_
  repeat
    first | apply eL | (apply eG; (case ht => exact rfl); (case hef => exact rfl))
    case e => (simp only [evB, evG, evGR, Q.evalR, boolOf, opQ, opMove, opPick, opBinK, opBin, opMakeMap, opLookup, opMapUpdate, keyA, keyI, keyEq, opUn, opConvS, convSB, convBS, lazy_app, lazyO_app, opConv, opExtract, opNil, opAlloc, opBox, opBuild, opBuildSlice, opMakeSlice, opLoad, opStore, opSlice, opFieldAddr, opField, opIndexAddr, opIndex, opLen, opMinMax, opAppend, opAppendZ, opCall, opCallF, callK_none, callK_some, opCallS, callS_none, opCopy, opMakeFunc, Q.opnd, Q.opndW, Q.eval, Q.ret, Q.elems, Q.cells, Q.parts, Q.args, Q.src, Q.optInt, intOf?, placeOf, fillA, setAll, mkAgg, datas, loadSel, ofCells, pickV, binI, binS, look, Value.oneCell', normD, smallNil, KD.known, KD.agg, T, TI.z, Dat.wd, Dat.cells, Dat.nagg, AV.ren, renL, AV.renT, AV.hi, AV.hi1, Ob.isRow, Ob.inn, Ob.out, Ob.gam, Ob.data, Ob.alike, loL, Gf, Mu, KE, Dat.flat, Dat.isV, List.contains, List.elem, Option.isSome, Nat.reduceAdd, Nat.reduceSub, Nat.reduceMul, Nat.reduceEqDiff, Nat.reduceLeDiff, Nat.reduceBEq, reduceIte, reduceCtorEq, Int.reduceLT, Int.reduceLE, Int.reduceNeg, Int.reduceEq, Int.reduceToNat, Int.reducePow, Nat.reducePow, Nat.reduceLT, IntKind.bits, hf33, e33, hf38, e38b, hf39, e39, hf63, e63, hf89, e89, hf90, e90, hf91, e91, hf99, e99, hf110, e110a, hf111, e111, hf114, e114, hf115, e115, hf116, e116, evP, evTb]; (try simp (disch := omega) only [evA]); exact rfl)
    case s => ((try simp only [evU]); exact rfl)
    case hp => (first | exact True.intro | ((intros; and_intros <;> first | exact True.intro | rfl | exact hl | omega)) | (intro hg; (intros; and_intros <;> first | exact True.intro | rfl | exact hl | omega)) | (intro hg; simp at hg; (intros; and_intros <;> first | exact True.intro | rfl | exact hl | omega)))
  rw [evalL_nil]
  refine hK _ ?_
  clear hK K
  simp only [evU, St.keep, List.map_cons, look, reduceIte, Nat.reduceEqDiff]
  try show AWP _ _ _ _ _
  unfold bldT
  obtain ⟨S, hS⟩ : ∃ S, srtT l = S := ⟨_, rfl⟩
  rw [hS] at hperm hr ⊢
  have hSl : S.length ≤ 1000 := by rw [hperm.length_eq]; omega
  have hSs : ∀ t ∈ S, t.2.length ≤ 60000 := fun t ht => hs t (hperm.mem_iff.1 ht)
  have hSb : DatB S := fun t ht => hb t (hperm.mem_iff.1 ht)
  have hSw : rightT S = true → ∀ t ∈ S, wholeT t = false := fun h t ht => by
    rcases hr with hr | hr
    · rw [hr] at h; cases h
    · exact hr t (hperm.mem_iff.1 ht)
  repeat refine AWP.nest ?_
  first | refine rsa hG [] [0, 21] fun K hK => ?_ | refine rna hG [] [0, 21] fun K hK => ?_
  repeat first | ((with_reducible refine shN ?_); refine sL ?_) | ((with_reducible refine shG ?_); refine sG ?_)
  refine Eq.mpr evalL_nil (hK _ ?_)
  clear hK K
  simp only [evU, St.keep, List.map_cons, look, reduceIte, Nat.reduceEqDiff]
  try show AWP _ _ _ _ _
  repeat refine AWP.nest ?_
  first | refine AWP.seq (AWP.cond (b := _) rfl (fun hc => ?_) (fun hc => ?_)) | refine AWP.cond (b := _) rfl (fun hc => ?_) (fun hc => ?_)
  all_goals try simp only [evC] at hc
  · have hf : rightT S = false := by simpa using hc
    rw [if_neg (by rw [hf]; exact Bool.false_ne_true)]
    repeat refine AWP.nest ?_
    first | refine rsa hG [] [2] fun K hK => ?_ | refine rna hG [] [2] fun K hK => ?_
    repeat first | ((with_reducible refine shN ?_); refine sL ?_) | ((with_reducible refine shG ?_); refine sG ?_)
    refine Eq.mpr evalL_nil (hK _ ?_)
    clear hK K
    simp only [evU, St.keep, List.map_cons, look, reduceIte, Nat.reduceEqDiff]
    try show AWP _ _ _ _ _
    refine AWP.ret ?_
    refine ⟨.inl rfl, ⟨⟨_, rfl, ?_⟩, fun ob hob => by cases hob⟩⟩
    simp only [look, reduceIte, Nat.reduceEqDiff]
    exact .nil _ _ _
  refine AWP.skip ?_
  show AWP _ _ _ _ _
  have hrt : rightT S = true := by simpa using hc
  clear hc hr hs hb hl hl6 hperm hS
  rw [if_pos hrt]
  have hSw := hSw hrt
  obtain ⟨hn1, hn64, ht4, hup⟩ := rightT_iff.1 hrt
  obtain ⟨q1, q2, q3, q4⟩ := log_64 (n := S.length) (by omega) hn64
  have hn2 : 1 ≤ (S.length : Int) ∧ (S.length : Int) ≤ 64 := by omega
  have w1 : 0 ≤ tA (S.length : Int) ∧ tA S.length < 65536 := by unfold tA; rw [if_pos hn2, Int.toNat_natCast]; omega
  have w2 : 0 ≤ tB (S.length : Int) ∧ tB S.length < 65536 := by unfold tB; rw [if_pos hn2, Int.toNat_natCast]; omega
  have w3 : 0 ≤ tD (S.length : Int) ∧ tD S.length < 65536 := by unfold tD; rw [if_pos hn2, Int.toNat_natCast]; omega
  clear q1 q2 q3 q4
  have ti0 : toInts [] = [] := rfl
  repeat refine AWP.nest ?_
  first | refine rsa hG [] [0, 3, 4] fun K hK => ?_ | refine rna hG [] [0, 3, 4] fun K hK => ?_
  repeat first | ((with_reducible refine shN ?_); refine sL ?_) | ((with_reducible refine shG ?_); refine sG ?_)
  refine Eq.mpr evalL_nil (hK _ ?_)
  clear hK K
  simp only [evU, St.keep, List.map_cons, look, reduceIte, Nat.reduceEqDiff]
  try show AWP _ _ _ _ _
  refine AWP.tobuf 3 1 5 (by rw [hps]; decide) rfl rfl ?_
  refine AWP.tobuf 4 2 5 (by rw [hps]; decide) rfl rfl ?_
  simp only [List.set_cons_zero, List.set_cons_succ, List.cons_append, List.nil_append, List.length_cons, List.length_nil, Nat.reduceAdd]
  repeat refine AWP.nest ?_
  first | refine rsa hG [] [0, 3, 4, 5, 6, 7] fun K hK => ?_ | refine rna hG [] [0, 3, 4, 5, 6, 7] fun K hK => ?_
  repeat first | ((with_reducible refine shN ?_); refine sL ?_) | ((with_reducible refine shG ?_); refine sG ?_)
  refine Eq.mpr evalL_nil (hK _ ?_)
  clear hK K
  simp only [evU, St.keep, List.map_cons, look, reduceIte, Nat.reduceEqDiff]
  try show AWP _ _ _ _ _
  have em : (S.length : Int) % 65536 = S.length := by omega
  repeat refine AWP.nest ?_
  have hxs := And.intro @ti0 (And.intro @em (And.intro @ints_nil @b4_len4))
  first | refine rsa hG [] [0, 3, 4] fun K hK => ?_ | refine rna hG [] [0, 3, 4] fun K hK => ?_
  repeat first | ((with_reducible refine shN ?_); refine sL ?_) | ((with_reducible refine shG ?_); refine sG ?_)
  refine Eq.mpr evalL_nil (hK _ ?_)
  clear hK K hxs
  simp only [evU, St.keep, List.map_cons, look, reduceIte, Nat.reduceEqDiff]
  try show AWP _ _ _ _ _
  have hX0 : b4 65536 ++ [(S.length : Int) / 256, (S.length : Int) % 256] ++ [tA (S.length : Int) / 256, tA (S.length : Int) % 256] ++ [tB (S.length : Int) / 256, tB (S.length : Int) % 256] ++ [tD (S.length : Int) / 256, tD (S.length : Int) % 256] = hdrF S.length := by
    simp [hdrF, b2F, b4]
  rw [hX0]
  have c16 : 16 * (S.length : Int) + 12 = ((12 + 16 * S.length : Nat) : Int) := by omega
  have c12 : 12 + 16 * (S.length : Int) = ((12 + 16 * S.length : Nat) : Int) := by omega
  repeat refine AWP.nest ?_
  have hxs := @c12
  first | refine rsa hG [] [0, 3, 4, 8, 9] fun K hK => ?_ | refine rna hG [] [0, 3, 4, 8, 9] fun K hK => ?_
  repeat first | ((with_reducible refine shN ?_); refine sL ?_) | ((with_reducible refine shG ?_); refine sG ?_)
  refine Eq.mpr evalL_nil (hK _ ?_)
  clear hK K hxs
  simp only [evU, St.keep, List.map_cons, look, reduceIte, Nat.reduceEqDiff]
  try show AWP _ _ _ _ _
  repeat refine AWP.nest ?_
  first | refine rsa hG [] [0, 3, 4, 8, 9, 44, 45, 46] fun K hK => ?_ | refine rna hG [] [0, 3, 4, 8, 9, 44, 45, 46] fun K hK => ?_
  repeat first | ((with_reducible refine shN ?_); refine sL ?_) | ((with_reducible refine shG ?_); refine sG ?_)
  refine Eq.mpr evalL_nil (hK _ ?_)
  clear hK K
  simp only [evU, St.keep, List.map_cons, look, reduceIte, Nat.reduceEqDiff]
  try show AWP _ _ _ _ _
  clear c12 c16 w1 w2 w3 hn2 em hX0
  have hhb := hdrF_byt hn1 hn64
  repeat refine AWP.nest ?_
  first | refine AWP.seq (AWP.block ?_) | refine AWP.block ?_
  refine AWP.loop (fun k st => ∃ (i : Nat), i ≤ S.length ∧ k = S.length - i ∧ st = ⟨[(0, .own 0 1), (3, .ptr 3 0), (4, .ptr 4 0), (8, .d true (.v (.int .i64 (atF S i : Int)))), (9, .d true (.v (.int .i64 0))), (44, .own 0 1), (45, .d true (.v (.int .i64 (S.length : Int)))), (46, .d true (.v (.int .i64 (i : Int))))], [some (.row 106 2 1 false (tbs S)), none, none, some (.buf 134 5 1 (ints .u8 (hdrF S.length ++ rowsF (12 + 16 * S.length) (S.take i)))), some (.buf 134 5 1 (ints .u8 (datF (S.take i))))]⟩) (S.length) ?_ ?_
  · refine ⟨0, Nat.zero_le _, rfl, ?_⟩
    simp only [List.take_zero, rowsF, datF, List.map_nil, List.flatten_nil, List.append_nil, ints_nil, atF, List.length_nil, Nat.add_zero]
    rfl
  rintro k st ⟨i, hi, hk, rfl⟩
  have ht4i : Tags4 (S.take i) := fun t ht => ht4 t (List.mem_of_mem_take ht)
  have hdl := datF_le hSs i hi
  have hrl : (hdrF S.length ++ rowsF (12 + 16 * S.length) (S.take i)).length = 12 + 16 * i := by
    rw [List.length_append, hdrF_len, rowsF_len ht4i, List.length_take]
    omega
  have hrb : ∀ q, q ≤ S.length → Byt (rowsF (12 + 16 * S.length) (S.take q)) := fun q => by
    induction q with
    | zero => intro _; exact Byt.nil
    | succ q ih =>
      intro hq
      rw [rowsF_step (by omega)]
      refine (ih (by omega)).append (rowF_byt ?_ ?_)
      · have := datF_le hSs q (by omega); omega
      · rw [List.getD_eq_getElem?_getD, List.getElem?_eq_getElem (by omega)]
        exact hSs _ (List.getElem_mem _)
  have hXb : Byt (hdrF S.length ++ rowsF (12 + 16 * S.length) (S.take i)) := hhb.append (hrb i hi)
  have hrbi := hrb i hi
  have hh12 : (hdrF S.length).length = 12 := hdrF_len
  have hrl2 : (rowsF (12 + 16 * S.length) (S.take i)).length = 16 * i := by rw [List.length_append] at hrl; omega
  have hDb : Byt (datF (S.take i)) := datF_byt fun t ht => hSb t (List.mem_of_mem_take ht)
  repeat refine AWP.nest ?_
  first | refine rsa hG [] [0, 3, 4, 8, 9, 44, 45, 46, 47] fun K hK => ?_ | refine rna hG [] [0, 3, 4, 8, 9, 44, 45, 46, 47] fun K hK => ?_
  repeat first | ((with_reducible refine shN ?_); refine sL ?_) | ((with_reducible refine shG ?_); refine sG ?_)
  refine Eq.mpr evalL_nil (hK _ ?_)
  clear hK K
  simp only [evU, St.keep, List.map_cons, look, reduceIte, Nat.reduceEqDiff]
  try show AWP _ _ _ _ _
  first | refine AWP.seq (AWP.cond (b := _) rfl (fun hc => ?_) (fun hc => ?_)) | refine AWP.cond (b := _) rfl (fun hc => ?_) (fun hc => ?_)
  rotate_left
  · refine AWP.exit ?_
    show AWP _ _ _ _ _
    simp only [evC, Int.not_lt] at hc
    obtain rfl : i = S.length := by omega
    rw [List.take_length] at hrl hXb hDb hdl hrbi hrl2 ⊢
    have hraw : hdrF S.length ++ rowsF (12 + 16 * S.length) S ++ datF S = fileF S := by
      rcases adjF_at (l := S) (a := 12 + 16 * S.length) (by omega) with ⟨h1, _⟩ | ⟨h, hh, h1, _⟩
      · unfold fileF
        rw [if_pos h1, rawF, List.append_assoc]
      · rw [hSw _ (List.getElem_mem hh)] at h1; cases h1
    have hXl : (hdrF S.length ++ rowsF (12 + 16 * S.length) S).length ≤ 2000 := by omega
    have hFl : (fileF S).length ≤ 10000000 := by rw [← hraw, List.length_append]; omega
    have hFb : Byt (fileF S) := by rw [← hraw]; exact hXb.append hDb
    clear hc hrb
    repeat refine AWP.nest ?_
    have hxs := @hraw
    first | refine rsa hG [] [9, 13] fun K hK => ?_ | refine rna hG [] [9, 13] fun K hK => ?_
    repeat first | ((with_reducible refine shN ?_); refine sL ?_) | ((with_reducible refine shG ?_); refine sG ?_)
    refine Eq.mpr evalL_nil (hK _ ?_)
    clear hK K hxs
    simp only [evU, St.keep, List.map_cons, look, reduceIte, Nat.reduceEqDiff]
    try show AWP _ _ _ _ _
    repeat refine AWP.nest ?_
    first | refine rsa hG [] [13, 94] fun K hK => ?_ | refine rna hG [] [13, 94] fun K hK => ?_
    repeat first | ((with_reducible refine shN ?_); refine sL ?_) | ((with_reducible refine shG ?_); refine sG ?_)
    refine Eq.mpr evalL_nil (hK _ ?_)
    clear hK K
    simp only [evU, St.keep, List.map_cons, look, reduceIte, Nat.reduceEqDiff]
    try show AWP _ _ _ _ _
    repeat refine AWP.nest ?_
    first | refine AWP.seq (AWP.cond (b := _) rfl (fun hc => ?_) (fun hc => ?_)) | refine AWP.cond (b := _) rfl (fun hc => ?_) (fun hc => ?_)
    all_goals try simp only [evC] at hc
    · exfalso
      omega
    refine AWP.skip ?_
    show AWP _ _ _ _ _
    repeat refine AWP.nest ?_
    first | refine rsa hG [] [2] fun K hK => ?_ | refine rna hG [] [2] fun K hK => ?_
    repeat first | ((with_reducible refine shN ?_); refine sL ?_) | ((with_reducible refine shG ?_); refine sG ?_)
    refine Eq.mpr evalL_nil (hK _ ?_)
    clear hK K
    simp only [evU, St.keep, List.map_cons, look, reduceIte, Nat.reduceEqDiff]
    try show AWP _ _ _ _ _
    refine AWP.ret ?_
    refine ⟨.inl rfl, ⟨⟨_, rfl, ?_⟩, fun ob hob => by cases hob⟩⟩
    simp only [look, reduceIte, Nat.reduceEqDiff]
    exact sub1_of rfl
  simp only [evC, Int.not_lt] at hc
  refine AWP.skip ?_
  show AWP _ _ _ _ _
  have hi' : i < S.length := by omega
  clear hc
  have hat : ∀ z, (tbs S).getD i z = .agg [.v (.string (S.getD i tb0).1), .sl 1 (ints .u8 (S.getD i tb0).2)] := fun z => tbs_at hi'
  have hmem : S.getD i tb0 ∈ S := by
    rw [List.getD_eq_getElem?_getD, List.getElem?_eq_getElem hi']
    exact List.getElem_mem _
  have hgw : wholeT ((S.getD i tb0).1, (S.getD i tb0).2) = false := hSw _ hmem
  have hbi := hSb.at i
  have hsi := hSs _ hmem
  have hti := ht4 _ hmem
  have hsm : (S.getD i tb0).1.size ≤ maxLen := by rw [hti]; decide
  have hbb := bytesL_byt (S.getD i tb0).1
  have hbl : (bytesL (S.getD i tb0).1).length = 4 := by rw [bytesL_len, hti]
  have hsd := sumT_bd ((S.getD i tb0).1, (S.getD i tb0).2)
  have hpm := padB_mod (S.getD i tb0).2
  have hpb := padB_byt hbi
  have hatl : atF S i ≤ 12 + 16 * 64 + 60003 * 64 := by unfold atF; omega
  have eat : (atF S i : Int) % 4294967296 = (atF S i : Int) := by omega
  have eln : ((S.getD i tb0).2.length : Int) % 4294967296 = ((S.getD i tb0).2.length : Int) := by omega
  have hzer : zerT (S.getD i tb0) = (S.getD i tb0).2 := zer_not (hSw _ hmem)
  repeat refine AWP.nest ?_
  first | refine AWP.seq (AWP.block ?_) | refine AWP.block ?_
  repeat refine AWP.nest ?_
  have hxs := @hat
  first | refine rsa hG [] [0, 3, 4, 8, 9, 10, 11, 44, 45, 46] fun K hK => ?_ | refine rna hG [] [0, 3, 4, 8, 9, 10, 11, 44, 45, 46] fun K hK => ?_
  repeat first | ((with_reducible refine shN ?_); refine sL ?_) | ((with_reducible refine shG ?_); refine sG ?_)
  refine Eq.mpr evalL_nil (hK _ ?_)
  clear hK K hxs
  simp only [evU, St.keep, List.map_cons, look, reduceIte, Nat.reduceEqDiff]
  try show AWP _ _ _ _ _
  repeat refine AWP.nest ?_
  have hxs := @hgw
  first | refine rsa hG [] [0, 3, 4, 8, 9, 10, 11, 44, 45, 46, 52] fun K hK => ?_ | refine rna hG [] [0, 3, 4, 8, 9, 10, 11, 44, 45, 46, 52] fun K hK => ?_
  repeat first | ((with_reducible refine shN ?_); refine sL ?_) | ((with_reducible refine shG ?_); refine sG ?_)
  refine Eq.mpr evalL_nil (hK _ ?_)
  clear hK K hxs
  simp only [evU, St.keep, List.map_cons, look, reduceIte, Nat.reduceEqDiff]
  try show AWP _ _ _ _ _
  repeat refine AWP.nest ?_
  first | refine AWP.seq (AWP.cond (b := _) rfl (fun hc => ?_) (fun hc => ?_)) | refine AWP.cond (b := _) rfl (fun hc => ?_) (fun hc => ?_)
  all_goals try simp only [evC] at hc
  · exfalso
    revert hc
    simp
  refine AWP.skip ?_
  show AWP _ _ _ _ _
  clear hc
  repeat refine AWP.nest ?_
  have hxs := And.intro @b4_len4 (And.intro @hbl (And.intro @eat @eln))
  first | refine rda hG [] [0, 3, 4, 8, 9, 10, 44, 45, 46] Try.mixed fun K hK => ?_ | refine dna hG [] [0, 3, 4, 8, 9, 10, 44, 45, 46] Try.mixed fun K hK => ?_
  repeat first | ((with_reducible refine shD ?_); refine sD ?_) | ((with_reducible refine shDG ?_); refine sDG ?_)
  refine evalD_done (by kernel_rfl) (hK _ ?_)
  clear hK K hxs
  simp only [evU, St.keep, List.map_cons, look, reduceIte, Nat.reduceEqDiff]
  try show AWP _ _ _ _ _
  repeat refine AWP.nest ?_
  have hxs := @hat
  first | refine rsa hG [] [0, 3, 4, 8, 9, 12, 44, 45, 46] fun K hK => ?_ | refine rna hG [] [0, 3, 4, 8, 9, 12, 44, 45, 46] fun K hK => ?_
  repeat first | ((with_reducible refine shN ?_); refine sL ?_) | ((with_reducible refine shG ?_); refine sG ?_)
  refine Eq.mpr evalL_nil (hK _ ?_)
  clear hK K hxs
  simp only [evU, St.keep, List.map_cons, look, reduceIte, Nat.reduceEqDiff]
  try show AWP _ _ _ _ _
  repeat refine AWP.nest ?_
  first | refine rsa hG [] [0, 3, 4, 8, 9, 12, 44, 45, 46] fun K hK => ?_ | refine rna hG [] [0, 3, 4, 8, 9, 12, 44, 45, 46] fun K hK => ?_
  repeat first | ((with_reducible refine shN ?_); refine sL ?_) | ((with_reducible refine shG ?_); refine sG ?_)
  refine Eq.mpr evalL_nil (hK _ ?_)
  clear hK K
  simp only [evU, St.keep, List.map_cons, look, reduceIte, Nat.reduceEqDiff]
  try show AWP _ _ _ _ _
  repeat refine AWP.nest ?_
  first | refine rsa hG [] [0, 3, 4, 8, 9, 44, 45, 46] fun K hK => ?_ | refine rna hG [] [0, 3, 4, 8, 9, 44, 45, 46] fun K hK => ?_
  repeat first | ((with_reducible refine shN ?_); refine sL ?_) | ((with_reducible refine shG ?_); refine sG ?_)
  refine Eq.mpr evalL_nil (hK _ ?_)
  clear hK K
  simp only [evU, St.keep, List.map_cons, look, reduceIte, Nat.reduceEqDiff]
  try show AWP _ _ _ _ _
  refine AWP.keep [0, 3, 4, 8, 9, 44, 45, 46] ?_
  simp only [St.keep, List.map_cons, List.map_nil, look, reduceIte, Nat.reduceEqDiff]
  refine AWP.trunc 5 (by rw [hps]; decide) rfl ?_
  simp only [St.trunc, List.take_zero, List.take_succ_cons]
  repeat refine AWP.nest ?_
  first | refine rsa hG [] [0, 3, 4, 8, 9, 44, 45, 46] fun K hK => ?_ | refine rna hG [] [0, 3, 4, 8, 9, 44, 45, 46] fun K hK => ?_
  repeat first | ((with_reducible refine shN ?_); refine sL ?_) | ((with_reducible refine shG ?_); refine sG ?_)
  refine Eq.mpr evalL_nil (hK _ ?_)
  clear hK K
  simp only [evU, St.keep, List.map_cons, look, reduceIte, Nat.reduceEqDiff]
  try show AWP _ _ _ _ _
  refine ⟨S.length - (i + 1), by omega, i + 1, by omega, rfl, ?_⟩
  have e1 : atF S (i + 1) = atF S i + (padB (S.getD i tb0).2).length := by
    unfold atF
    rw [datF_step hi', List.length_append, hzer]
    omega
  rw [rowsF_step hi', datF_step hi', hzer, e1]
  have eX : hdrF S.length ++ rowsF (12 + 16 * S.length) (S.take i) ++ bytesL (S.getD i tb0).1 ++ b4 (sumT ((S.getD i tb0).1, (S.getD i tb0).2)) ++ b4 (atF S i : Int) ++ b4 ((S.getD i tb0).2.length : Int) =
      hdrF S.length ++ (rowsF (12 + 16 * S.length) (S.take i) ++ rowF (12 + 16 * S.length + (datF (S.take i)).length) (S.getD i tb0)) := by
    simp only [rowF, atF, List.append_assoc]
  rw [eX]
  rfl
def e78r : List AV → Option Ob → Option Res := fun args i => match args, i with
  | [.d false (.sl 2 xs)], none => some ⟨xs = tbs (toTbs xs) ∧ ((toTbs xs).length < 20 ∨ ((toTbs xs).length ≤ 1000 ∧ Asc ltT tb0 (toTbs xs) 0 (toTbs xs).length)) ∧ DatB (toTbs xs) ∧ (∀ t ∈ toTbs xs, t.2.length ≤ 60000) ∧ (rightT (srtT (toTbs xs)) = false ∨ ∀ t ∈ toTbs xs, wholeT t = false), .d true (.sl 1 (ints .u8 (bldT (toTbs xs)))), none⟩
  | _, _ => none
def F141 : FT := F140.upd 78 e78r
theorem F141_ok : FOK Try.prog F141 := FOK.upd F140_ok Try.func78 (by kernel_rfl) rfl fun args i R h => by
  unfold e78r at h
  split at h
  · rename_i xs
    cases h
    refine Spec.pre fun h => ?_
    have := s78r (toTbs xs) h.2.1 h.2.2.1 h.2.2.2.1 h.2.2.2.2
    rw [← h.1] at this
    exact this
  · cases h
end Go.AM

