/- AM: the law SfntParses. -/
import Derived.Test.YtmfobkiljlepjaaC89
import Derived.Test.YtmfobkiljlepjaaC83
set_option maxRecDepth 100000
set_option maxHeartbeats 8000000
set_option linter.unusedSimpArgs false
set_option linter.unusedVariables false
namespace Go.AM
open Go Go.Proofs

theorem parT_okt {l : List Int} (hb : Byt l) (hl : l.length ≤ 1000000) : OKT (parT l).1 := by
  have h0 : OKT [] := ⟨by simp, fun i hi => by simp at hi⟩
  unfold parT
  split
  · rename_i h
    rw [Bool.and_eq_true] at h
    obtain ⟨h12, _, h1, h64, hn⟩ := begT_nums h.1
    split
    · refine ⟨by show (tabsT l _).length ≤ _; rw [tabsT_length]; omega, fun i hi => ?_⟩
      have hi' : i < (nB l).toNat := by
        have : i < (tabsT l (nB l).toNat).length := hi
        rwa [tabsT_length] at this
      show Byt ((tabsT l _).getD i tb0).2 ∧ _
      rw [tabsT_at hi']
      constructor
      · show Byt (subV _ _ _)
        unfold subV
        split
        · exact (hb.drop _).take _
        · exact Byt.nil
      · show (subV _ _ _).length ≤ _
        unfold subV
        split
        · simp only [List.length_take, List.length_drop]; omega
        · simp
    · exact h0
  · exact h0
theorem take_tb {S : List Tb} {i : Nat} (h : i < S.length) : S.take (i + 1) = S.take i ++ [S.getD i tb0] := by
  rw [List.take_add_one, List.getElem?_eq_getElem h, List.getD_eq_getElem?_getD, List.getElem?_eq_getElem h]
  rfl

def F124 : FT := F123.upd 62 e62
theorem F124_ok : FOK Try.prog F124 := FOK.upd F123_ok Try.func62 (by kernel_rfl) rfl fun args i R h => (F115_ok 62 args i R h).2

theorem s28 (l : List Int) (hb : Byt l) : Spec Try.prog 28 [.d false (.sl 1 (ints .u8 l))] none ⟨True, .d true (.v (.bool true)), none⟩ := by
  have hf31 : F124 31 = e31 := rfl
  have hf62 : F124 62 = e62 := rfl
  have hf80 : F124 80 = e80 := rfl
  have hf83 : F124 83 = e83 := rfl
  have hf84 : F124 84 = e84 := rfl
  have hG := (Gf_ok F124_ok)
  have hfs := And.intro @hf31 (And.intro @e31.eq_1 (And.intro @hf62 (And.intro @e62.eq_1 (And.intro @hf80 (And.intro @e80.eq_1 (And.intro @hf83 (And.intro @e83.eq_1 (And.intro @hf84 (And.intro @e84.eq_1 (And.intro @evP @evTb))))))))))
  have hxs := @Nat.add_zero
  refine spec_of_awp (Gf_ok F124_ok) Try.func28 rfl (Nat.le_of_ble_eq_true rfl) fun E hps hN _ => ?_
  simp only [begin, List.zipIdx_cons, List.zipIdx_nil, List.map_cons, List.map_nil, Option.toList, Nat.zero_add, Nat.reduceAdd]
  repeat refine AWP.nest ?_
  first | refine rsa hG [] [0] fun K hK => ?_ | refine rna hG [] [0] fun K hK => ?_
  repeat first | ((with_reducible refine shN ?_); refine sL ?_) | ((with_reducible refine shG ?_); refine sG ?_)
  refine Eq.mpr evalL_nil (hK _ ?_)
  clear hK K
  simp only [evU, St.keep, List.map_cons, look, reduceIte, Nat.reduceEqDiff]
  try show AWP _ _ _ _ _
  repeat refine AWP.nest ?_
  first | refine rsa hG [] [0, 11] fun K hK => ?_ | refine rna hG [] [0, 11] fun K hK => ?_
  repeat first | ((with_reducible refine shN ?_); refine sL ?_) | ((with_reducible refine shG ?_); refine sG ?_)
  refine Eq.mpr evalL_nil (hK _ ?_)
  clear hK K
  simp only [evU, St.keep, List.map_cons, look, reduceIte, Nat.reduceEqDiff]
  try show AWP _ _ _ _ _
  repeat refine AWP.nest ?_
  first | refine AWP.seq (AWP.cond (b := _) rfl (fun hc => ?_) (fun hc => ?_)) | refine AWP.cond (b := _) rfl (fun hc => ?_) (fun hc => ?_)
  all_goals try simp only [evC] at hc
  · cases hc
  refine AWP.skip ?_
  show AWP _ _ _ _ _
  clear hc
  have hnat : Int.toNat 500 = 500 := rfl
  repeat refine AWP.nest ?_
  have hxs := @hnat
  first | refine rsa hG [] [0] fun K hK => ?_ | refine rna hG [] [0] fun K hK => ?_
  repeat first | ((with_reducible refine shN ?_); refine sL ?_) | ((with_reducible refine shG ?_); refine sG ?_)
  refine Eq.mpr evalL_nil (hK _ ?_)
  clear hK K hxs
  simp only [evU, St.keep, List.map_cons, look, reduceIte, Nat.reduceEqDiff]
  try show AWP _ _ _ _ _
  have hb2 : Byt (l.take 500) := hb.take _
  have hl2 : (l.take 500).length ≤ 1000000 := by rw [List.length_take]; omega
  generalize l.take 500 = q at hb2 hl2 ⊢
  have hokt := parT_okt hb2 hl2
  repeat refine AWP.nest ?_
  first | refine rsa hG [] [0, 3, 4] fun K hK => ?_ | refine rna hG [] [0, 3, 4] fun K hK => ?_
  repeat first | ((with_reducible refine shN ?_); refine sL ?_) | ((with_reducible refine shG ?_); refine sG ?_)
  refine Eq.mpr evalL_nil (hK _ ?_)
  clear hK K
  simp only [evU, St.keep, List.map_cons, look, reduceIte, Nat.reduceEqDiff]
  try show AWP _ _ _ _ _
  repeat refine AWP.nest ?_
  first | refine rsa hG [] [3, 4, 5, 6] fun K hK => ?_ | refine rna hG [] [3, 4, 5, 6] fun K hK => ?_
  repeat first | ((with_reducible refine shN ?_); refine sL ?_) | ((with_reducible refine shG ?_); refine sG ?_)
  refine Eq.mpr evalL_nil (hK _ ?_)
  clear hK K
  simp only [evU, St.keep, List.map_cons, look, reduceIte, Nat.reduceEqDiff]
  try show AWP _ _ _ _ _
  generalize (parT q).2 = er
  generalize (parT q).1 = S at hokt ⊢
  have hS := hokt.1
  repeat refine AWP.nest ?_
  first | refine rsa hG [] [3, 4, 5, 6, 7] fun K hK => ?_ | refine rna hG [] [3, 4, 5, 6, 7] fun K hK => ?_
  repeat first | ((with_reducible refine shN ?_); refine sL ?_) | ((with_reducible refine shG ?_); refine sG ?_)
  refine Eq.mpr evalL_nil (hK _ ?_)
  clear hK K
  simp only [evU, St.keep, List.map_cons, look, reduceIte, Nat.reduceEqDiff]
  try show AWP _ _ _ _ _
  repeat refine AWP.nest ?_
  first | refine rsa hG [] [4, 5, 6, 7, 24, 25, 26] fun K hK => ?_ | refine rna hG [] [4, 5, 6, 7, 24, 25, 26] fun K hK => ?_
  repeat first | ((with_reducible refine shN ?_); refine sL ?_) | ((with_reducible refine shG ?_); refine sG ?_)
  refine Eq.mpr evalL_nil (hK _ ?_)
  clear hK K
  simp only [evU, St.keep, List.map_cons, look, reduceIte, Nat.reduceEqDiff]
  try show AWP _ _ _ _ _
  refine AWP.adopt 7 110 2 (by decide) rfl ?_
  refine AWP.keep [4, 5, 6, 7, 24, 25, 26] ?_
  simp only [St.adopt, St.keep, List.map_cons, List.map_nil, look, reduceIte, Nat.reduceEqDiff, List.nil_append, List.length_nil, List.cons_append, List.length_cons, Nat.reduceAdd]
  repeat refine AWP.nest ?_
  first | refine AWP.seq (AWP.block ?_) | refine AWP.block ?_
  refine AWP.loop (fun k st => ∃ (i : Nat), i ≤ S.length ∧ k = S.length - i ∧ st = ⟨[(4, .d true (.v (.int .i64 er))), (5, .d true (.sl 2 (tbs S))), (6, .d true (.v (.int .i64 er))), (7, .own 0 i), (24, .d true (.sl 2 (tbs S))), (25, .d true (.v (.int .i64 (S.length : Int)))), (26, .d true (.v (.int .i64 (i : Int))))], [some (.row 110 2 i true (tbs (S.take i)))]⟩) (S.length) ?_ ?_
  · exact ⟨0, Nat.zero_le _, rfl, rfl⟩
  rintro k st ⟨i, hi, hk, rfl⟩
  repeat refine AWP.nest ?_
  first | refine rsa hG [] [4, 5, 6, 7, 24, 25, 26, 27] fun K hK => ?_ | refine rna hG [] [4, 5, 6, 7, 24, 25, 26, 27] fun K hK => ?_
  repeat first | ((with_reducible refine shN ?_); refine sL ?_) | ((with_reducible refine shG ?_); refine sG ?_)
  refine Eq.mpr evalL_nil (hK _ ?_)
  clear hK K
  simp only [evU, St.keep, List.map_cons, look, reduceIte, Nat.reduceEqDiff]
  try show AWP _ _ _ _ _
  first | refine AWP.seq (AWP.cond (b := _) rfl (fun hc => ?_) (fun hc => ?_)) | refine AWP.cond (b := _) rfl (fun hc => ?_) (fun hc => ?_)
  rotate_left
  · refine AWP.exit ?_
    show AWP _ _ _ _ _
    simp only [evC, Int.not_lt] at hc
    obtain rfl : i = S.length := by omega
    rw [List.take_length]
    clear hc
    repeat refine AWP.nest ?_
    first | refine rsa hG [] [2] fun K hK => ?_ | refine rna hG [] [2] fun K hK => ?_
    repeat first | ((with_reducible refine shN ?_); refine sL ?_) | ((with_reducible refine shG ?_); refine sG ?_)
    refine Eq.mpr evalL_nil (hK _ ?_)
    clear hK K
    simp only [evU, St.keep, List.map_cons, look, reduceIte, Nat.reduceEqDiff]
    try show AWP _ _ _ _ _
    refine AWP.ret ?_
    refine ⟨.inl rfl, ⟨⟨_, rfl, ?_⟩, fun ob hob => by cases hob⟩⟩
    simp only [look, reduceIte, Nat.reduceEqDiff]
    exact sub1_of (by simp)
  simp only [evC, Int.not_lt] at hc
  refine AWP.skip ?_
  show AWP _ _ _ _ _
  have hi' : i < S.length := by omega
  clear hc
  have hat : ∀ z, (tbs S).getD i z = .agg [.v (.string (S.getD i tb0).1), .sl 1 (ints .u8 (S.getD i tb0).2)] := fun z => tbs_at hi'
  have htl : (tbs (S.take i)).length = i := by rw [tbs_length, List.length_take]; omega
  have hti : (S.take i).length = i := by rw [List.length_take]; omega
  repeat refine AWP.nest ?_
  first | refine AWP.seq (AWP.block ?_) | refine AWP.block ?_
  repeat refine AWP.nest ?_
  have hxs := @hat
  first | refine rsa hG [] [4, 5, 6, 7, 9, 24, 25, 26] fun K hK => ?_ | refine rna hG [] [4, 5, 6, 7, 9, 24, 25, 26] fun K hK => ?_
  repeat first | ((with_reducible refine shN ?_); refine sL ?_) | ((with_reducible refine shG ?_); refine sG ?_)
  refine Eq.mpr evalL_nil (hK _ ?_)
  clear hK K hxs
  simp only [evU, St.keep, List.map_cons, look, reduceIte, Nat.reduceEqDiff]
  try show AWP _ _ _ _ _
  repeat refine AWP.nest ?_
  first | refine rsa hG [] [4, 5, 6, 7, 24, 25, 26] fun K hK => ?_ | refine rna hG [] [4, 5, 6, 7, 24, 25, 26] fun K hK => ?_
  repeat first | ((with_reducible refine shN ?_); refine sL ?_) | ((with_reducible refine shG ?_); refine sG ?_)
  refine Eq.mpr evalL_nil (hK _ ?_)
  clear hK K
  simp only [evU, St.keep, List.map_cons, look, reduceIte, Nat.reduceEqDiff]
  try show AWP _ _ _ _ _
  refine AWP.trunc 1 (by rw [hps]; decide) rfl ?_
  simp only [St.trunc, List.take_zero, List.take_succ_cons]
  repeat refine AWP.nest ?_
  first | refine rsa hG [] [4, 5, 6, 7, 24, 25, 26] fun K hK => ?_ | refine rna hG [] [4, 5, 6, 7, 24, 25, 26] fun K hK => ?_
  repeat first | ((with_reducible refine shN ?_); refine sL ?_) | ((with_reducible refine shG ?_); refine sG ?_)
  refine Eq.mpr evalL_nil (hK _ ?_)
  clear hK K
  simp only [evU, St.keep, List.map_cons, look, reduceIte, Nat.reduceEqDiff]
  try show AWP _ _ _ _ _
  refine ⟨S.length - (i + 1), by omega, i + 1, by omega, rfl, ?_⟩
  rw [take_tb hi']
  rfl
theorem law28 (x : Dat) (h : (AT.sl 5 (.int .u8)).holds x) : Spec Try.prog 28 [.d x.flat x] none ⟨True, .d true (.v (.bool true)), none⟩ := by
  obtain ⟨xs, rfl, hx⟩ := h
  obtain ⟨l, rfl, hl⟩ := ints_of hx
  exact s28 l fun n hn => by have := bounds_u8 (hl n hn); omega
end Go.AM

