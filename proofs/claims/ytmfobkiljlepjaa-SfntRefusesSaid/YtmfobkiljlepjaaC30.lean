/- AM: package seg, part 1: ref09.at; the searches. -/
import Derived.Test.YtmfobkiljlepjaaC13
set_option maxRecDepth 100000
set_option maxHeartbeats 8000000
set_option linter.unusedSimpArgs false
set_option linter.unusedVariables false
namespace Go.AM
open Go Go.Proofs

theorem sub1_n {fr : Bool} {k : IntKind} {x y : Int} (h : x = y) : AV.Sub1 (.d fr (.v (.int k x))) (.d fr (.v (.int k y))) := sub1_of (by rw [h])

/-! ### ref09.at -/
theorem s103 (l : List Int) (hb : Byt l) (q : Int) (hq : -1000000000 ≤ q) (hq2 : q ≤ 1000000000) : Spec Try.prog 103 [.d false (.sl 1 (ints .u8 l)), .d true (.v (.int .i64 q))] none ⟨True, .d true (.v (.int .i64 (n2V l q))), none⟩ := by
  have hf106 : F25 106 = e106 := rfl
  have hG := (Gf_ok F25_ok)
  have hfs := And.intro @hf106 (And.intro @e106.eq_1 @evP)
  have hxs := @Nat.add_zero
  refine spec_of_awp (Gf_ok F25_ok) Try.func103 rfl (Nat.le_of_ble_eq_true rfl) fun E hps hN _ => ?_
  simp only [begin, List.zipIdx_cons, List.zipIdx_nil, List.map_cons, List.map_nil, Option.toList, Nat.zero_add, Nat.reduceAdd]
  have hn := n2V_bound hb q
  repeat refine AWP.nest ?_
  first | refine rsa hG [] [0, 1] fun K hK => ?_ | refine rna hG [] [0, 1] fun K hK => ?_
  repeat first | ((with_reducible refine shN ?_); refine sL ?_) | ((with_reducible refine shG ?_); refine sG ?_)
  refine Eq.mpr evalL_nil (hK _ ?_)
  clear hK K
  simp only [evU, St.keep, List.map_cons, look, reduceIte, Nat.reduceEqDiff]
  try show AWP _ _ _ _ _
  repeat refine AWP.nest ?_
  first | refine rsa hG [] [5] fun K hK => ?_ | refine rna hG [] [5] fun K hK => ?_
  repeat first | ((with_reducible refine shN ?_); refine sL ?_) | ((with_reducible refine shG ?_); refine sG ?_)
  refine Eq.mpr evalL_nil (hK _ ?_)
  clear hK K
  simp only [evU, St.keep, List.map_cons, look, reduceIte, Nat.reduceEqDiff]
  try show AWP _ _ _ _ _
  repeat refine AWP.nest ?_
  first | refine rsa hG [] [4] fun K hK => ?_ | refine rna hG [] [4] fun K hK => ?_
  repeat first | ((with_reducible refine shN ?_); refine sL ?_) | ((with_reducible refine shG ?_); refine sG ?_)
  refine Eq.mpr evalL_nil (hK _ ?_)
  clear hK K
  simp only [evU, St.keep, List.map_cons, look, reduceIte, Nat.reduceEqDiff]
  try show AWP _ _ _ _ _
  refine AWP.ret ?_
  refine ⟨.inl rfl, ⟨⟨_, rfl, ?_⟩, fun ob hob => by cases hob⟩⟩
  simp only [look, reduceIte, Nat.reduceEqDiff]
  exact sub1_of rfl
def e103 : List AV → Option Ob → Option Res := fun args i => match args, i with
  | [.d false (.sl 1 xs), .d true (.v (.int .i64 q))], none => some ⟨IsB xs ∧ -1000000000 ≤ q ∧ q ≤ 1000000000, .d true (.v (.int .i64 (n2V (toInts xs) q))), none⟩
  | _, _ => none
def F50 : FT := F25.upd 103 e103
theorem F50_ok : FOK Try.prog F50 := FOK.upd F25_ok Try.func103 (by kernel_rfl) rfl fun args i R h => by
  unfold e103 at h
  split at h
  · rename_i xs q
    cases h
    refine Spec.pre fun h => ?_
    obtain ⟨⟨h1, h2⟩, h3, h4⟩ := h
    rw [h1, toInts_ints]
    exact s103 (toInts xs) h2 q h3 h4
  · cases h

/-! ### bits.Len -/
/-- How many bits. -/
def blen (n : Nat) : Nat := if n = 0 then 0 else Nat.log2 n + 1
theorem tab_of {s : ByteArray} {k : Int} (h : ((List.range 256).all fun j : Nat => byteAt s (j : Int) == (blen j : Int)) = true) (h0 : 0 ≤ k) (h1 : k < 256) : byteAt s k = (blen k.toNat : Int) := by
  rw [List.all_eq_true] at h
  have := h k.toNat (List.mem_range.2 (by omega))
  rw [show ((k.toNat : Nat) : Int) = k by omega] at this
  exact beq_iff_eq.1 this
theorem log2_at {n e : Nat} (h0 : 2 ^ e ≤ n) (h1 : n < 2 * 2 ^ e) : Nat.log2 n = e := by
  have hp : 0 < 2 ^ e := Nat.pow_pos (by decide)
  exact (Nat.log2_eq_iff (by omega)).2 ⟨h0, by rw [Nat.pow_succ]; omega⟩
theorem log2_bd {n : Nat} (h : n ≠ 0) : 2 ^ Nat.log2 n ≤ n ∧ n < 2 * 2 ^ Nat.log2 n := by
  have := (Nat.log2_eq_iff h).1 rfl
  rw [Nat.pow_succ] at this
  omega
theorem blen_256 {n : Nat} (h : 256 ≤ n) : blen n = 8 + blen (n / 256) := by
  have h1 : n / 256 ≠ 0 := by omega
  have h2 := log2_bd h1
  unfold blen
  rw [if_neg h1, if_neg (by omega), log2_at (n := n) (e := Nat.log2 (n / 256) + 8)]
  · omega
  · rw [Nat.pow_add, show 2 ^ 8 = 256 from rfl]; omega
  · rw [Nat.pow_add, show 2 ^ 8 = 256 from rfl]; omega
theorem blen_le (n : Nat) : blen n ≤ n := by
  unfold blen
  split
  · omega
  · rename_i h
    have h1 := (log2_bd h).1
    have h2 : Nat.log2 n < 2 ^ Nat.log2 n := Nat.lt_two_pow_self
    omega
theorem blen_8 {n : Nat} (h : n < 256) : blen n ≤ 8 := by
  unfold blen
  split
  · omega
  · rename_i h0
    have h1 := (log2_bd h0).1
    rcases Nat.lt_or_ge (Nat.log2 n) 8 with h2 | h2
    · omega
    · have := Nat.pow_le_pow_right (show 0 < 2 by decide) h2
      omega
theorem blen_log {n : Nat} (h : n ≠ 0) : blen n = Nat.log2 n + 1 := by unfold blen; rw [if_neg h]

theorem s127 (x : Int) (h0 : 0 ≤ x) (h1 : x < 65536) : Spec Try.prog 127 [.d true (.v (.int .u64 x))] none ⟨True, .d true (.v (.int .i64 (blen x.toNat : Int))), none⟩ := by
  have hG := (Gf_ok F50_ok)
  have hfs := @evP
  have hxs := @Nat.add_zero
  refine spec_of_awp (Gf_ok F50_ok) Try.func127 rfl (Nat.le_of_ble_eq_true rfl) fun E hps hN _ => ?_
  simp only [begin, List.zipIdx_cons, List.zipIdx_nil, List.map_cons, List.map_nil, Option.toList, Nat.zero_add, Nat.reduceAdd]
  repeat refine AWP.nest ?_
  first | refine rsa hG [] [0, 2] fun K hK => ?_ | refine rna hG [] [0, 2] fun K hK => ?_
  repeat first | ((with_reducible refine shN ?_); refine sL ?_) | ((with_reducible refine shG ?_); refine sG ?_)
  refine Eq.mpr evalL_nil (hK _ ?_)
  clear hK K
  simp only [evU, St.keep, List.map_cons, look, reduceIte, Nat.reduceEqDiff]
  try show AWP _ _ _ _ _
  repeat refine AWP.nest ?_
  first | refine rsa hG [] [0, 2, 4] fun K hK => ?_ | refine rna hG [] [0, 2, 4] fun K hK => ?_
  repeat first | ((with_reducible refine shN ?_); refine sL ?_) | ((with_reducible refine shG ?_); refine sG ?_)
  refine Eq.mpr evalL_nil (hK _ ?_)
  clear hK K
  simp only [evU, St.keep, List.map_cons, look, reduceIte, Nat.reduceEqDiff]
  try show AWP _ _ _ _ _
  repeat refine AWP.nest ?_
  first | refine AWP.seq (AWP.cond (b := _) rfl (fun hc => ?_) (fun hc => ?_)) | refine AWP.cond (b := _) rfl (fun hc => ?_) (fun hc => ?_)
  all_goals try simp only [evC] at hc
  · omega
  refine AWP.skip ?_
  show AWP _ _ _ _ _
  repeat refine AWP.nest ?_
  first | refine rsa hG [] [0, 2, 8] fun K hK => ?_ | refine rna hG [] [0, 2, 8] fun K hK => ?_
  repeat first | ((with_reducible refine shN ?_); refine sL ?_) | ((with_reducible refine shG ?_); refine sG ?_)
  refine Eq.mpr evalL_nil (hK _ ?_)
  clear hK K
  simp only [evU, St.keep, List.map_cons, look, reduceIte, Nat.reduceEqDiff]
  try show AWP _ _ _ _ _
  clear hc
  repeat refine AWP.nest ?_
  first | refine AWP.seq (AWP.cond (b := _) rfl (fun hc => ?_) (fun hc => ?_)) | refine AWP.cond (b := _) rfl (fun hc => ?_) (fun hc => ?_)
  all_goals try simp only [evC] at hc
  · omega
  refine AWP.skip ?_
  show AWP _ _ _ _ _
  repeat refine AWP.nest ?_
  first | refine rsa hG [] [0, 2, 14] fun K hK => ?_ | refine rna hG [] [0, 2, 14] fun K hK => ?_
  repeat first | ((with_reducible refine shN ?_); refine sL ?_) | ((with_reducible refine shG ?_); refine sG ?_)
  refine Eq.mpr evalL_nil (hK _ ?_)
  clear hK K
  simp only [evU, St.keep, List.map_cons, look, reduceIte, Nat.reduceEqDiff]
  try show AWP _ _ _ _ _
  clear hc
  repeat refine AWP.nest ?_
  first | refine AWP.seq (AWP.cond (b := _) rfl (fun hc => ?_) (fun hc => ?_)) | refine AWP.cond (b := _) rfl (fun hc => ?_) (fun hc => ?_)
  all_goals try simp only [evC] at hc
  · have e := blen_256 (n := x.toNat) (by omega)
    have ef : x.fdiv 256 = x / 256 := Int.fdiv_eq_ediv_of_nonneg _ (by decide)
    have et : (x / 256 % 256).toNat = x.toNat / 256 := by omega
    have b8 := blen_8 (n := x.toNat / 256) (by omega)
    repeat refine AWP.nest ?_
    first | refine rsa hG [] [0, 2] fun K hK => ?_ | refine rna hG [] [0, 2] fun K hK => ?_
    repeat first | ((with_reducible refine shN ?_); refine sL ?_) | ((with_reducible refine shG ?_); refine sG ?_)
    refine Eq.mpr evalL_nil (hK _ ?_)
    clear hK K
    simp only [evU, St.keep, List.map_cons, look, reduceIte, Nat.reduceEqDiff]
    try show AWP _ _ _ _ _
    repeat refine AWP.nest ?_
    first | refine rsa hG [] [0, 2] fun K hK => ?_ | refine rna hG [] [0, 2] fun K hK => ?_
    repeat first | ((with_reducible refine shN ?_); refine sL ?_) | ((with_reducible refine shG ?_); refine sG ?_)
    refine Eq.mpr evalL_nil (hK _ ?_)
    clear hK K
    simp only [evU, St.keep, List.map_cons, look, reduceIte, Nat.reduceEqDiff]
    try show AWP _ _ _ _ _
    rw [ef]
    repeat refine AWP.nest ?_
    first | refine AWP.rs (Gf_ok F50_ok) [] [2] (by rw [hN]; decide) fun K hK => ?_ | refine AWP.rn (Gf_ok F50_ok) [] [2] (by rw [hN]; decide) fun K hK => ?_
    repeat
      first | apply eL | (apply eG; (case ht => exact rfl); (case hef => exact rfl))
      case e => (simp only [evB, evG, evGR, Q.evalR, boolOf, opQ, opMove, opPick, opBinK, opBin, opMakeMap, opLookup, opMapUpdate, keyA, keyI, keyEq, opUn, opConvS, convSB, convBS, lazy_app, lazyO_app, opConv, opExtract, opNil, opAlloc, opBox, opBuild, opBuildSlice, opMakeSlice, opLoad, opStore, opSlice, opFieldAddr, opField, opIndexAddr, opIndex, opLen, opMinMax, opAppend, opAppendZ, opCall, opCallF, callK_none, callK_some, opCallS, callS_none, opCopy, opMakeFunc, Q.opnd, Q.opndW, Q.eval, Q.ret, Q.elems, Q.cells, Q.parts, Q.args, Q.src, Q.optInt, intOf?, placeOf, fillA, setAll, mkAgg, datas, loadSel, ofCells, pickV, binI, binS, look, Value.oneCell', normD, smallNil, KD.known, KD.agg, T, TI.z, Dat.wd, Dat.cells, Dat.nagg, AV.ren, renL, AV.renT, AV.hi, AV.hi1, Ob.isRow, Ob.inn, Ob.out, Ob.gam, Ob.data, Ob.alike, loL, Gf, Mu, KE, Dat.flat, Dat.isV, List.contains, List.elem, Option.isSome, Nat.reduceAdd, Nat.reduceSub, Nat.reduceMul, Nat.reduceEqDiff, Nat.reduceLeDiff, Nat.reduceBEq, reduceIte, reduceCtorEq, Int.reduceLT, Int.reduceLE, Int.reduceNeg, Int.reduceEq, Int.reduceToNat, Int.reducePow, Nat.reducePow, Nat.reduceLT, IntKind.bits, evP]; (try simp (disch := omega) only [evA]); exact rfl)
      case s => ((try simp only [evU]); exact rfl)
      case hp => (first | exact True.intro | (exact ⟨by omega, Int.lt_of_lt_of_le (b := 256) (by omega) (of_decide_eq_true (by kernel_rfl))⟩) | (intro hg; exact ⟨by omega, Int.lt_of_lt_of_le (b := 256) (by omega) (of_decide_eq_true (by kernel_rfl))⟩) | (intro hg; simp at hg; exact ⟨by omega, Int.lt_of_lt_of_le (b := 256) (by omega) (of_decide_eq_true (by kernel_rfl))⟩))
    rw [evalL_nil]
    refine hK _ ?_
    clear hK K
    simp only [evU, St.keep, List.map_cons, look, reduceIte, Nat.reduceEqDiff]
    try show AWP _ _ _ _ _
    refine AWP.ret ?_
    refine ⟨.inl rfl, ⟨⟨_, rfl, ?_⟩, fun ob hob => by cases hob⟩⟩
    simp only [look, reduceIte, Nat.reduceEqDiff]
    refine sub1_n ?_
    rw [tab_of ?_ (by omega) (by omega), et, e, w_i64 (x := (blen (x.toNat / 256) : Int)) (by omega) (by omega), w_i64 (by omega) (by omega)]
    · omega
    · kernel_rfl
  refine AWP.skip ?_
  show AWP _ _ _ _ _
  have b8 := blen_8 (n := x.toNat) (by omega)
  repeat refine AWP.nest ?_
  first | refine AWP.rs (Gf_ok F50_ok) [] [2] (by rw [hN]; decide) fun K hK => ?_ | refine AWP.rn (Gf_ok F50_ok) [] [2] (by rw [hN]; decide) fun K hK => ?_
  repeat
    first | apply eL | (apply eG; (case ht => exact rfl); (case hef => exact rfl))
    case e => (simp only [evB, evG, evGR, Q.evalR, boolOf, opQ, opMove, opPick, opBinK, opBin, opMakeMap, opLookup, opMapUpdate, keyA, keyI, keyEq, opUn, opConvS, convSB, convBS, lazy_app, lazyO_app, opConv, opExtract, opNil, opAlloc, opBox, opBuild, opBuildSlice, opMakeSlice, opLoad, opStore, opSlice, opFieldAddr, opField, opIndexAddr, opIndex, opLen, opMinMax, opAppend, opAppendZ, opCall, opCallF, callK_none, callK_some, opCallS, callS_none, opCopy, opMakeFunc, Q.opnd, Q.opndW, Q.eval, Q.ret, Q.elems, Q.cells, Q.parts, Q.args, Q.src, Q.optInt, intOf?, placeOf, fillA, setAll, mkAgg, datas, loadSel, ofCells, pickV, binI, binS, look, Value.oneCell', normD, smallNil, KD.known, KD.agg, T, TI.z, Dat.wd, Dat.cells, Dat.nagg, AV.ren, renL, AV.renT, AV.hi, AV.hi1, Ob.isRow, Ob.inn, Ob.out, Ob.gam, Ob.data, Ob.alike, loL, Gf, Mu, KE, Dat.flat, Dat.isV, List.contains, List.elem, Option.isSome, Nat.reduceAdd, Nat.reduceSub, Nat.reduceMul, Nat.reduceEqDiff, Nat.reduceLeDiff, Nat.reduceBEq, reduceIte, reduceCtorEq, Int.reduceLT, Int.reduceLE, Int.reduceNeg, Int.reduceEq, Int.reduceToNat, Int.reducePow, Nat.reducePow, Nat.reduceLT, IntKind.bits, evP]; (try simp (disch := omega) only [evA]); exact rfl)
    case s => ((try simp only [evU]); exact rfl)
    case hp => (first | exact True.intro | (exact ⟨by omega, Int.lt_of_lt_of_le (b := 256) (by omega) (of_decide_eq_true (by kernel_rfl))⟩) | (intro hg; exact ⟨by omega, Int.lt_of_lt_of_le (b := 256) (by omega) (of_decide_eq_true (by kernel_rfl))⟩) | (intro hg; simp at hg; exact ⟨by omega, Int.lt_of_lt_of_le (b := 256) (by omega) (of_decide_eq_true (by kernel_rfl))⟩))
  rw [evalL_nil]
  refine hK _ ?_
  clear hK K
  simp only [evU, St.keep, List.map_cons, look, reduceIte, Nat.reduceEqDiff]
  try show AWP _ _ _ _ _
  refine AWP.ret ?_
  refine ⟨.inl rfl, ⟨⟨_, rfl, ?_⟩, fun ob hob => by cases hob⟩⟩
  simp only [look, reduceIte, Nat.reduceEqDiff]
  refine sub1_n ?_
  rw [tab_of ?_ (by omega) (by omega), show (x % 256).toNat = x.toNat by omega, w_i64 (x := (blen x.toNat : Int)) (by omega) (by omega), w_i64 (by omega) (by omega)]
  · omega
  · kernel_rfl
def e127 : List AV → Option Ob → Option Res := fun args i => match args, i with
  | [.d true (.v (.int .u64 x))], none => some ⟨0 ≤ x ∧ x < 65536, .d true (.v (.int .i64 (blen x.toNat : Int))), none⟩
  | _, _ => none
def F51 : FT := F50.upd 127 e127
theorem F51_ok : FOK Try.prog F51 := FOK.upd F50_ok Try.func127 (by kernel_rfl) rfl fun args i R h => by
  unfold e127 at h
  split at h
  · cases h
    exact Spec.pre fun h => s127 _ h.1 h.2
  · cases h

theorem s104 (x : Int) (h0 : 0 ≤ x) (h1 : x < 65536) : Spec Try.prog 104 [.d true (.v (.int .u64 x))] none ⟨True, .d true (.v (.int .i64 (blen x.toNat : Int))), none⟩ := by
  have hf127 : F51 127 = e127 := rfl
  have hG := (Gf_ok F51_ok)
  have hfs := And.intro @hf127 (And.intro @e127.eq_1 @evP)
  have hxs := @Nat.add_zero
  refine spec_of_awp (Gf_ok F51_ok) Try.func104 rfl (Nat.le_of_ble_eq_true rfl) fun E hps hN _ => ?_
  simp only [begin, List.zipIdx_cons, List.zipIdx_nil, List.map_cons, List.map_nil, Option.toList, Nat.zero_add, Nat.reduceAdd]
  repeat refine AWP.nest ?_
  first | refine rsa hG [] [0] fun K hK => ?_ | refine rna hG [] [0] fun K hK => ?_
  repeat first | ((with_reducible refine shN ?_); refine sL ?_) | ((with_reducible refine shG ?_); refine sG ?_)
  refine Eq.mpr evalL_nil (hK _ ?_)
  clear hK K
  simp only [evU, St.keep, List.map_cons, look, reduceIte, Nat.reduceEqDiff]
  try show AWP _ _ _ _ _
  repeat refine AWP.nest ?_
  first | refine AWP.seq (AWP.cond (b := _) rfl (fun hc => ?_) (fun hc => ?_)) | refine AWP.cond (b := _) rfl (fun hc => ?_) (fun hc => ?_)
  all_goals try simp only [evC] at hc
  · cases hc
  refine AWP.skip ?_
  show AWP _ _ _ _ _
  repeat refine AWP.nest ?_
  first | refine rsa hG [] [2] fun K hK => ?_ | refine rna hG [] [2] fun K hK => ?_
  repeat first | ((with_reducible refine shN ?_); refine sL ?_) | ((with_reducible refine shG ?_); refine sG ?_)
  refine Eq.mpr evalL_nil (hK _ ?_)
  clear hK K
  simp only [evU, St.keep, List.map_cons, look, reduceIte, Nat.reduceEqDiff]
  try show AWP _ _ _ _ _
  refine AWP.ret ?_
  refine ⟨.inl rfl, ⟨⟨_, rfl, ?_⟩, fun ob hob => by cases hob⟩⟩
  simp only [look, reduceIte, Nat.reduceEqDiff]
  exact sub1_of rfl
def e104 : List AV → Option Ob → Option Res := fun args i => match args, i with
  | [.d true (.v (.int .u64 x))], none => some ⟨0 ≤ x ∧ x < 65536, .d true (.v (.int .i64 (blen x.toNat : Int))), none⟩
  | _, _ => none
def F52 : FT := F51.upd 104 e104
theorem F52_ok : FOK Try.prog F52 := FOK.upd F51_ok Try.func104 (by kernel_rfl) rfl fun args i R h => by
  unfold e104 at h
  split at h
  · cases h
    exact Spec.pre fun h => s104 _ h.1 h.2
  · cases h

/-! ### seg.search -/
theorem pow_lg {n : Nat} (h : 0 < n) (h1 : n ≤ 32767) : 2 ^ Nat.log2 n ≤ 16384 ∧ 0 < 2 ^ Nat.log2 n ∧ Nat.log2 n ≤ 14 := by
  have h2 := (log2_bd (n := n) (by omega)).1
  have h3 : Nat.log2 n ≤ 14 := by
    rcases Nat.lt_or_ge 14 (Nat.log2 n) with h4 | h4
    · have := Nat.pow_le_pow_right (show 0 < 2 by decide) (show 15 ≤ Nat.log2 n by omega)
      omega
    · exact h4
  exact ⟨Nat.pow_le_pow_right (by decide) h3, Nat.pow_pos (by decide), h3⟩
def sA (n : Nat) : Nat := 2 * 2 ^ Nat.log2 n
def sB (n : Nat) : Nat := Nat.log2 n
def sC (n : Nat) : Nat := 2 * n - sA n
theorem srch_bd {n : Nat} (h : 0 < n) (h1 : n ≤ 32767) : sA n ≤ 32768 ∧ sB n ≤ 14 ∧ sC n ≤ 32767 ∧ sA n ≤ 2 * n := by
  have h2 := pow_lg h h1
  have h3 := log2_bd (n := n) (by omega)
  unfold sA sB sC sA
  omega
theorem s98 (n : Nat) (h0 : 0 < n) (h1 : n ≤ 32767) : Spec Try.prog 98 [.d true (.v (.int .i64 (n : Int)))] none ⟨True, .tup [.d true (.v (.int .u16 (sA n : Int))), .d true (.v (.int .u16 (sB n : Int))), .d true (.v (.int .u16 (sC n : Int)))], none⟩ := by
  have hp := pow_lg h0 h1
  have hb := log2_bd (n := n) (by omega)
  have e := blen_log (n := n) (by omega)
  have hf104 : F52 104 = e104 := rfl
  have hG := (Gf_ok F52_ok)
  have hfs := And.intro @hf104 (And.intro @e104.eq_1 @evP)
  have hxs := @Nat.add_zero
  refine spec_of_awp (Gf_ok F52_ok) Try.func98 rfl (Nat.le_of_ble_eq_true rfl) fun E hps hN _ => ?_
  simp only [begin, List.zipIdx_cons, List.zipIdx_nil, List.map_cons, List.map_nil, Option.toList, Nat.zero_add, Nat.reduceAdd]
  repeat refine AWP.nest ?_
  first | refine rsa hG [] [0] fun K hK => ?_ | refine rna hG [] [0] fun K hK => ?_
  repeat first | ((with_reducible refine shN ?_); refine sL ?_) | ((with_reducible refine shG ?_); refine sG ?_)
  refine Eq.mpr evalL_nil (hK _ ?_)
  clear hK K
  simp only [evU, St.keep, List.map_cons, look, reduceIte, Nat.reduceEqDiff]
  try show AWP _ _ _ _ _
  repeat refine AWP.nest ?_
  have hxs := @e
  first | refine rsa hG [] [0, 5] fun K hK => ?_ | refine rna hG [] [0, 5] fun K hK => ?_
  repeat first | ((with_reducible refine shN ?_); refine sL ?_) | ((with_reducible refine shG ?_); refine sG ?_)
  refine Eq.mpr evalL_nil (hK _ ?_)
  clear hK K hxs
  simp only [evU, St.keep, List.map_cons, look, reduceIte, Nat.reduceEqDiff]
  try show AWP _ _ _ _ _
  have em : min (Nat.log2 n) 16 = Nat.log2 n := by omega
  have em2 : min (Nat.log2 n) 64 = Nat.log2 n := by omega
  have e5 : IntKind.i64.wrap ((blen ((n : Int) % 18446744073709551616).toNat : Int) - 1) = (Nat.log2 n : Int) := by
    rw [show ((n : Int) % 18446744073709551616).toNat = n by omega, e, w_i64 (by omega) (by omega)]
    omega
  rw [e5]
  have ep : (2 : Int) ^ Nat.log2 n = (2 ^ Nat.log2 n : Nat) := by simp
  repeat refine AWP.nest ?_
  have hxs := And.intro @em (And.intro @em2 @ep)
  first | refine rda hG [] [2, 3, 4] Try.mixed fun K hK => ?_ | refine dna hG [] [2, 3, 4] Try.mixed fun K hK => ?_
  repeat first | ((with_reducible refine shD ?_); refine sD ?_) | ((with_reducible refine shDG ?_); refine sDG ?_)
  refine evalD_done (by kernel_rfl) (hK _ ?_)
  clear hK K hxs
  simp only [evU, St.keep, List.map_cons, look, reduceIte, Nat.reduceEqDiff]
  try show AWP _ _ _ _ _
  refine AWP.ret ?_
  refine ⟨.inl rfl, ⟨⟨_, rfl, ?_⟩, fun ob hob => by cases hob⟩⟩
  simp only [look, reduceIte, Nat.reduceEqDiff]
  refine ⟨_, rfl, (.cons ?_ (.cons ?_ (.cons ?_ .nil)))⟩
  · exact sub1_n (by unfold sA; omega)
  · exact sub1_n (by unfold sB; omega)
  · exact sub1_n (by unfold sC sA; omega)
def e98 : List AV → Option Ob → Option Res := fun args i => match args, i with
  | [.d true (.v (.int .i64 x))], none => some ⟨0 < x ∧ x ≤ 32767, .tup [.d true (.v (.int .u16 (sA x.toNat : Int))), .d true (.v (.int .u16 (sB x.toNat : Int))), .d true (.v (.int .u16 (sC x.toNat : Int)))], none⟩
  | _, _ => none
def F53 : FT := F52.upd 98 e98
theorem F53_ok : FOK Try.prog F53 := FOK.upd F52_ok Try.func98 (by kernel_rfl) rfl fun args i R h => by
  unfold e98 at h
  split at h
  · rename_i x
    cases h
    refine Spec.pre fun h => ?_
    have := s98 x.toNat (by omega) (by omega)
    rwa [show ((x.toNat : Nat) : Int) = x by omega] at this
  · cases h

/-! ### ref09.Search -/
def b2 (n : Int) : List Int := [n / 256 % 256, n % 256]
def enc2 (l : List Int) : List Int := l.flatMap b2
theorem b2_byt (n : Int) : Byt (b2 n) := by
  intro b hb
  simp only [b2, List.mem_cons, List.not_mem_nil, or_false] at hb
  rcases hb with rfl | rfl <;> omega
theorem enc2_byt (l : List Int) : Byt (enc2 l) := by
  intro b hb
  simp only [enc2, List.mem_flatMap] at hb
  obtain ⟨n, _, hn⟩ := hb
  exact b2_byt n b hn
theorem enc2_len (l : List Int) : (enc2 l).length = 2 * l.length := by
  induction l with
  | nil => rfl
  | cons a l ih => simp only [enc2, List.flatMap_cons, List.length_append, List.length_cons] at ih ⊢; rw [ih]; simp [b2]; omega
theorem enc2_append (a b : List Int) : enc2 (a ++ b) = enc2 a ++ enc2 b := by simp [enc2]
theorem enc2_cons (a : Int) (b : List Int) : enc2 (a :: b) = b2 a ++ enc2 b := by simp [enc2]
def srch (n : Nat) : List Int := enc2 [(sA n : Int), (sB n : Int), (sC n : Int)]
theorem s60 (n : Nat) (h0 : 0 < n) (h1 : n ≤ 32767) : Spec Try.prog 60 [.d true (.v (.int .i64 (n : Int)))] none ⟨True, .d true (.sl 1 (ints .u8 (srch n))), none⟩ := by
  have hp := pow_lg h0 h1
  have hf32 : F53 32 = e32 := rfl
  have hf59 : F53 59 = e59 := rfl
  have hG := (Gf_ok F53_ok)
  have hfs := And.intro @hf32 (And.intro @e32.eq_1 (And.intro @hf59 (And.intro @e59.eq_1 @evP)))
  have hxs := @Nat.add_zero
  refine spec_of_awp (Gf_ok F53_ok) Try.func60 rfl (Nat.le_of_ble_eq_true rfl) fun E hps hN _ => ?_
  simp only [begin, List.zipIdx_cons, List.zipIdx_nil, List.map_cons, List.map_nil, Option.toList, Nat.zero_add, Nat.reduceAdd]
  repeat refine AWP.nest ?_
  first | refine rsa hG [] [0] fun K hK => ?_ | refine rna hG [] [0] fun K hK => ?_
  repeat first | ((with_reducible refine shN ?_); refine sL ?_) | ((with_reducible refine shG ?_); refine sG ?_)
  refine Eq.mpr evalL_nil (hK _ ?_)
  clear hK K
  simp only [evU, St.keep, List.map_cons, look, reduceIte, Nat.reduceEqDiff]
  try show AWP _ _ _ _ _
  repeat refine AWP.nest ?_
  first | refine rsa hG [] [0, 3, 4] fun K hK => ?_ | refine rna hG [] [0, 3, 4] fun K hK => ?_
  repeat first | ((with_reducible refine shN ?_); refine sL ?_) | ((with_reducible refine shG ?_); refine sG ?_)
  refine Eq.mpr evalL_nil (hK _ ?_)
  clear hK K
  simp only [evU, St.keep, List.map_cons, look, reduceIte, Nat.reduceEqDiff]
  try show AWP _ _ _ _ _
  repeat refine AWP.nest ?_
  first | refine AWP.seq (AWP.block ?_) | refine AWP.block ?_
  refine AWP.loop (fun k st => ∃ (e p : Nat), p = 2 ^ e ∧ p ≤ n ∧ k = n - p ∧ st = ⟨[(0, .d true (.v (.int .i64 (n : Int)))), (3, .d true (.v (.int .i64 (p : Int)))), (4, .d true (.v (.int .i64 (e : Int))))], []⟩) (n - 1) ?_ ?_
  · exact ⟨0, 1, rfl, h0, rfl, rfl⟩
  rintro k st ⟨e, p, hpe, hpn, hk, rfl⟩
  have hp0 : 0 < p := by rw [hpe]; exact Nat.pow_pos (by decide)
  have hep : e < p := by rw [hpe]; exact Nat.lt_two_pow_self
  repeat refine AWP.nest ?_
  first | refine rsa hG [] [0, 3, 4, 8] fun K hK => ?_ | refine rna hG [] [0, 3, 4, 8] fun K hK => ?_
  repeat first | ((with_reducible refine shN ?_); refine sL ?_) | ((with_reducible refine shG ?_); refine sG ?_)
  refine Eq.mpr evalL_nil (hK _ ?_)
  clear hK K
  simp only [evU, St.keep, List.map_cons, look, reduceIte, Nat.reduceEqDiff]
  try show AWP _ _ _ _ _
  first | refine AWP.seq (AWP.cond (b := _) rfl (fun hc => ?_) (fun hc => ?_)) | refine AWP.cond (b := _) rfl (fun hc => ?_) (fun hc => ?_)
  rotate_left
  · refine AWP.exit ?_
    show AWP _ _ _ _ _
    simp only [evC, Int.not_lt] at hc
    have hlog : Nat.log2 n = e := log2_at (by omega) (by omega)
    repeat refine AWP.nest ?_
    first | refine rsa hG [] [2] fun K hK => ?_ | refine rna hG [] [2] fun K hK => ?_
    repeat first | ((with_reducible refine shN ?_); refine sL ?_) | ((with_reducible refine shG ?_); refine sG ?_)
    refine Eq.mpr evalL_nil (hK _ ?_)
    clear hK K
    simp only [evU, St.keep, List.map_cons, look, reduceIte, Nat.reduceEqDiff]
    try show AWP _ _ _ _ _
    refine AWP.ret ?_
    refine ⟨.inl rfl, ⟨⟨_, rfl, ?_⟩, fun ob hob => by cases hob⟩⟩
    simp only [look, reduceIte, Nat.reduceEqDiff]
    have e1 : ((sA n : Nat) : Int) = 2 * p := by unfold sA; rw [hlog, ← hpe]; omega
    have e2 : ((sB n : Nat) : Int) = e := by unfold sB; rw [hlog]
    have e3 : ((sC n : Nat) : Int) = 2 * n - 2 * p := by unfold sC sA; rw [hlog, ← hpe]; omega
    unfold srch
    rw [e1, e2, e3]
    exact sub1_of rfl
  simp only [evC, Int.not_lt] at hc
  refine AWP.skip ?_
  show AWP _ _ _ _ _
  have hc' := hc
  clear hc
  repeat refine AWP.nest ?_
  first | refine AWP.seq (AWP.block ?_) | refine AWP.block ?_
  repeat refine AWP.nest ?_
  first | refine rsa hG [] [0, 3, 4] fun K hK => ?_ | refine rna hG [] [0, 3, 4] fun K hK => ?_
  repeat first | ((with_reducible refine shN ?_); refine sL ?_) | ((with_reducible refine shG ?_); refine sG ?_)
  refine Eq.mpr evalL_nil (hK _ ?_)
  clear hK K
  simp only [evU, St.keep, List.map_cons, look, reduceIte, Nat.reduceEqDiff]
  try show AWP _ _ _ _ _
  repeat refine AWP.nest ?_
  first | refine rsa hG [] [0, 3, 4] fun K hK => ?_ | refine rna hG [] [0, 3, 4] fun K hK => ?_
  repeat first | ((with_reducible refine shN ?_); refine sL ?_) | ((with_reducible refine shG ?_); refine sG ?_)
  refine Eq.mpr evalL_nil (hK _ ?_)
  clear hK K
  simp only [evU, St.keep, List.map_cons, look, reduceIte, Nat.reduceEqDiff]
  try show AWP _ _ _ _ _
  exact ⟨n - 2 * p, by omega, e + 1, 2 * p, by rw [Nat.pow_succ, hpe]; omega, by omega, rfl, by
    rw [show ((2 * p : Nat) : Int) = (p : Int) * 2 by omega]; rfl⟩
def e60 : List AV → Option Ob → Option Res := fun args i => match args, i with
  | [.d true (.v (.int .i64 x))], none => some ⟨0 < x ∧ x ≤ 32767, .d true (.sl 1 (ints .u8 (srch x.toNat))), none⟩
  | _, _ => none
def F54 : FT := F53.upd 60 e60
theorem F54_ok : FOK Try.prog F54 := FOK.upd F53_ok Try.func60 (by kernel_rfl) rfl fun args i R h => by
  unfold e60 at h
  split at h
  · rename_i x
    cases h
    refine Spec.pre fun h => ?_
    have := s60 x.toNat (by omega) (by omega)
    rwa [show ((x.toNat : Nat) : Int) = x by omega] at this
  · cases h
end Go.AM

