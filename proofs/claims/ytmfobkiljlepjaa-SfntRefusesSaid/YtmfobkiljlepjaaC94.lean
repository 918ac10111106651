/- AM: few. -/
import Derived.Test.YtmfobkiljlepjaaC92
import Derived.Test.YtmfobkiljlepjaaC93
import Derived.Test.YtmfobkiljlepjaaD4
set_option maxRecDepth 100000
set_option maxHeartbeats 8000000
set_option linter.unusedSimpArgs false
set_option linter.unusedVariables false
namespace Go.AM
open Go Go.Proofs

theorem F128_ok : FOK Try.prog F128 := F128_okH F126_ok


theorem s74 (l : List Tb) (hb : DatB l) : Spec Try.prog 74 [.d false (.sl 2 (tbs l))] none ⟨True, .tup [.d true (.sl 2 (tbs (fewT l (min l.length 9)))), .d true (.sl 2 (tbs (fewT l (min l.length 9))))], none⟩ := by
  have hf31 : F128 31 = e31 := rfl
  have hG := (Gf_ok F128_ok)
  have hfs := And.intro @hf31 (And.intro @e31.eq_1 (And.intro @evP @evTb))
  have hxs := @Nat.add_zero
  refine spec_of_awp (Gf_ok F128_ok) Try.func74 rfl (Nat.le_of_ble_eq_true rfl) fun E hps hN _ => ?_
  simp only [begin, List.zipIdx_cons, List.zipIdx_nil, List.map_cons, List.map_nil, Option.toList, Nat.zero_add, Nat.reduceAdd]
  repeat refine AWP.nest ?_
  first | refine rsa hG [] [0] fun K hK => ?_ | refine rna hG [] [0] fun K hK => ?_
  repeat first | ((with_reducible refine shN ?_); refine sL ?_) | ((with_reducible refine shG ?_); refine sG ?_)
  refine Eq.mpr evalL_nil (hK _ ?_)
  clear hK K
  simp only [evU, St.keep, List.map_cons, look, reduceIte, Nat.reduceEqDiff]
  try show AWP _ _ _ _ _
  repeat refine AWP.nest ?_
  first | refine rsa hG [] [0, 4] fun K hK => ?_ | refine rna hG [] [0, 4] fun K hK => ?_
  repeat first | ((with_reducible refine shN ?_); refine sL ?_) | ((with_reducible refine shG ?_); refine sG ?_)
  refine Eq.mpr evalL_nil (hK _ ?_)
  clear hK K
  simp only [evU, St.keep, List.map_cons, look, reduceIte, Nat.reduceEqDiff]
  try show AWP _ _ _ _ _
  repeat refine AWP.nest ?_
  first | refine rsa hG [] [0, 4, 5] fun K hK => ?_ | refine rna hG [] [0, 4, 5] fun K hK => ?_
  repeat first | ((with_reducible refine shN ?_); refine sL ?_) | ((with_reducible refine shG ?_); refine sG ?_)
  refine Eq.mpr evalL_nil (hK _ ?_)
  clear hK K
  simp only [evU, St.keep, List.map_cons, look, reduceIte, Nat.reduceEqDiff]
  try show AWP _ _ _ _ _
  repeat refine AWP.nest ?_
  first | refine rsa hG [] [4, 5, 11, 12, 13] fun K hK => ?_ | refine rna hG [] [4, 5, 11, 12, 13] fun K hK => ?_
  repeat first | ((with_reducible refine shN ?_); refine sL ?_) | ((with_reducible refine shG ?_); refine sG ?_)
  refine Eq.mpr evalL_nil (hK _ ?_)
  clear hK K
  simp only [evU, St.keep, List.map_cons, look, reduceIte, Nat.reduceEqDiff]
  try show AWP _ _ _ _ _
  refine AWP.len 11 rfl fun hlen => ?_
  rw [tbs_length] at hlen
  refine AWP.adopt 4 106 2 (by decide) rfl ?_
  refine AWP.adopt 5 110 2 (by decide) rfl ?_
  simp only [St.adopt, St.keep, List.map_cons, List.map_nil, look, reduceIte, Nat.reduceEqDiff, List.nil_append, List.length_nil, List.cons_append, List.length_cons, Nat.reduceAdd]
  refine AWP.keep [4, 5, 11, 12, 13] ?_
  simp only [St.adopt, St.keep, List.map_cons, List.map_nil, look, reduceIte, Nat.reduceEqDiff, List.nil_append, List.length_nil, List.cons_append, List.length_cons, Nat.reduceAdd]
  repeat refine AWP.nest ?_
  first | refine AWP.seq (AWP.block ?_) | refine AWP.block ?_
  refine AWP.loop (fun k st => ∃ (i : Nat), i ≤ l.length ∧ i ≤ 9 ∧ k = l.length - i ∧ st = ⟨[(4, .own 0 (fewT l i).length), (5, .own 1 (fewT l i).length), (11, .d false (.sl 2 (tbs l))), (12, .d true (.v (.int .i64 (l.length : Int)))), (13, .d true (.v (.int .i64 (i : Int))))], [some (.row 106 2 (fewT l i).length true (tbs (fewT l i))), some (.row 110 2 (fewT l i).length true (tbs (fewT l i)))]⟩) (l.length) ?_ ?_
  · exact ⟨0, Nat.zero_le _, Nat.zero_le _, rfl, rfl⟩
  rintro k st ⟨i, hi, hi9, hk, rfl⟩
  repeat refine AWP.nest ?_
  first | refine rsa hG [] [4, 5, 11, 12, 13, 14] fun K hK => ?_ | refine rna hG [] [4, 5, 11, 12, 13, 14] fun K hK => ?_
  repeat first | ((with_reducible refine shN ?_); refine sL ?_) | ((with_reducible refine shG ?_); refine sG ?_)
  refine Eq.mpr evalL_nil (hK _ ?_)
  clear hK K
  simp only [evU, St.keep, List.map_cons, look, reduceIte, Nat.reduceEqDiff]
  try show AWP _ _ _ _ _
  first | refine AWP.seq (AWP.cond (b := _) rfl (fun hc => ?_) (fun hc => ?_)) | refine AWP.cond (b := _) rfl (fun hc => ?_) (fun hc => ?_)
  rotate_left
  · refine AWP.exit ?_
    show AWP _ _ _ _ _
    simp only [evC, Int.not_lt] at hc
    have e : min l.length 9 = i := by omega
    rw [e]
    repeat refine AWP.nest ?_
    first | refine rsa hG [] [2, 3] fun K hK => ?_ | refine rna hG [] [2, 3] fun K hK => ?_
    repeat first | ((with_reducible refine shN ?_); refine sL ?_) | ((with_reducible refine shG ?_); refine sG ?_)
    refine Eq.mpr evalL_nil (hK _ ?_)
    clear hK K
    simp only [evU, St.keep, List.map_cons, look, reduceIte, Nat.reduceEqDiff]
    try show AWP _ _ _ _ _
    refine AWP.frz 0 (by rw [hps]; decide) rfl ?_
    simp only [St.frz, Ob.frz, AV.frz, AV.frz1, Option.map_none, mkAgg, datas, Dat.nagg, List.map_cons, List.map_nil, Option.map_some, and_self, true_and, and_true, reduceIte, Nat.reduceEqDiff, List.set_cons_zero, List.set_cons_succ, Bool.and_true, Bool.true_and]
    refine AWP.frz 1 (by rw [hps]; decide) rfl ?_
    simp only [St.frz, Ob.frz, AV.frz, AV.frz1, Option.map_none, mkAgg, datas, Dat.nagg, List.map_cons, List.map_nil, Option.map_some, and_self, true_and, and_true, reduceIte, Nat.reduceEqDiff, List.set_cons_zero, List.set_cons_succ, Bool.and_true, Bool.true_and]
    refine AWP.ret ?_
    refine ⟨.inl rfl, ⟨⟨_, rfl, ?_⟩, fun ob hob => by cases hob⟩⟩
    simp only [look, reduceIte, Nat.reduceEqDiff]
    refine ⟨_, rfl, (.cons ?_ (.cons ?_ .nil))⟩
    · exact sub1_of rfl
    · exact sub1_of rfl
  simp only [evC, Int.not_lt] at hc
  refine AWP.skip ?_
  show AWP _ _ _ _ _
  have hi' : i < l.length := by omega
  clear hc
  have hat : ∀ z, (tbs l).getD i z = .agg [.v (.string (l.getD i tb0).1), .sl 1 (ints .u8 (l.getD i tb0).2)] := fun z => tbs_at hi'
  obtain ⟨_, _, _, _, hRl⟩ := fewT_ok hb i hi
  have hbi : Byt (l.getD i tb0).2 := by
    rw [List.getD_eq_getElem?_getD, List.getElem?_eq_getElem hi']
    exact hb _ (List.getElem_mem _)
  obtain ⟨G, hGe⟩ : ∃ G, fewG (l.getD i tb0) i = G := ⟨_, rfl⟩
  obtain ⟨X, hX⟩ : ∃ X, (tbs (fewT l i)).getD (((fewT l i).length : Int) - 1).toNat (.agg [.v (.string ⟨#[]⟩), .v (.slice none 0 0)]) = .agg [.v (.string ((fewT l i).getD ((fewT l i).length - 1) tb0).1), X] := by
    rcases Nat.eq_zero_or_pos (fewT l i).length with h | h
    · rw [List.length_eq_zero_iff.1 h]
      exact ⟨_, rfl⟩
    · exact ⟨_, tbs_at' (by omega) (by omega) _⟩
  have h60 : Int.toNat 60 = 60 := rfl
  repeat refine AWP.nest ?_
  first | refine AWP.seq (AWP.block ?_) | refine AWP.block ?_
  repeat refine AWP.nest ?_
  have hxs := @hat
  first | refine rsa hG [] [4, 5, 6, 7, 11, 12, 13] fun K hK => ?_ | refine rna hG [] [4, 5, 6, 7, 11, 12, 13] fun K hK => ?_
  repeat first | ((with_reducible refine shN ?_); refine sL ?_) | ((with_reducible refine shG ?_); refine sG ?_)
  refine Eq.mpr evalL_nil (hK _ ?_)
  clear hK K hxs
  simp only [evU, St.keep, List.map_cons, look, reduceIte, Nat.reduceEqDiff]
  try show AWP _ _ _ _ _
  repeat refine AWP.nest ?_
  first | refine rsa hG [] [4, 5, 6, 7, 11, 12, 13, 19] fun K hK => ?_ | refine rna hG [] [4, 5, 6, 7, 11, 12, 13, 19] fun K hK => ?_
  repeat first | ((with_reducible refine shN ?_); refine sL ?_) | ((with_reducible refine shG ?_); refine sG ?_)
  refine Eq.mpr evalL_nil (hK _ ?_)
  clear hK K
  simp only [evU, St.keep, List.map_cons, look, reduceIte, Nat.reduceEqDiff]
  try show AWP _ _ _ _ _
  repeat refine AWP.nest ?_
  first | refine AWP.seq (AWP.cond (b := _) rfl (fun hc => ?_) (fun hc => ?_)) | refine AWP.cond (b := _) rfl (fun hc => ?_) (fun hc => ?_)
  all_goals try simp only [evC] at hc
  · have e : min l.length 9 = i := by omega
    rw [e]
    refine AWP.exit ?_
    show AWP _ _ _ _ _
    repeat refine AWP.nest ?_
    first | refine rsa hG [] [2, 3] fun K hK => ?_ | refine rna hG [] [2, 3] fun K hK => ?_
    repeat first | ((with_reducible refine shN ?_); refine sL ?_) | ((with_reducible refine shG ?_); refine sG ?_)
    refine Eq.mpr evalL_nil (hK _ ?_)
    clear hK K
    simp only [evU, St.keep, List.map_cons, look, reduceIte, Nat.reduceEqDiff]
    try show AWP _ _ _ _ _
    refine AWP.frz 0 (by rw [hps]; decide) rfl ?_
    simp only [St.frz, Ob.frz, AV.frz, AV.frz1, Option.map_none, mkAgg, datas, Dat.nagg, List.map_cons, List.map_nil, Option.map_some, and_self, true_and, and_true, reduceIte, Nat.reduceEqDiff, List.set_cons_zero, List.set_cons_succ, Bool.and_true, Bool.true_and]
    refine AWP.frz 1 (by rw [hps]; decide) rfl ?_
    simp only [St.frz, Ob.frz, AV.frz, AV.frz1, Option.map_none, mkAgg, datas, Dat.nagg, List.map_cons, List.map_nil, Option.map_some, and_self, true_and, and_true, reduceIte, Nat.reduceEqDiff, List.set_cons_zero, List.set_cons_succ, Bool.and_true, Bool.true_and]
    refine AWP.ret ?_
    refine ⟨.inl rfl, ⟨⟨_, rfl, ?_⟩, fun ob hob => by cases hob⟩⟩
    simp only [look, reduceIte, Nat.reduceEqDiff]
    refine ⟨_, rfl, (.cons ?_ (.cons ?_ .nil))⟩
    · exact sub1_of rfl
    · exact sub1_of rfl
  refine AWP.skip ?_
  show AWP _ _ _ _ _
  have hi8 : i ≤ 8 := by omega
  clear hc
  have f97 : (97 + (i : Int) % 256) % 256 = 97 + (i : Int) := by omega
  repeat refine AWP.nest ?_
  have hxs := @f97
  first | refine rsa hG [] [4, 5, 6, 7, 8, 11, 12, 13] fun K hK => ?_ | refine rna hG [] [4, 5, 6, 7, 8, 11, 12, 13] fun K hK => ?_
  repeat first | ((with_reducible refine shN ?_); refine sL ?_) | ((with_reducible refine shG ?_); refine sG ?_)
  refine Eq.mpr evalL_nil (hK _ ?_)
  clear hK K hxs
  simp only [evU, St.keep, List.map_cons, look, reduceIte, Nat.reduceEqDiff]
  try show AWP _ _ _ _ _
  repeat refine AWP.nest ?_
  first | refine rsa hG [] [4, 5, 6, 7, 8, 11, 12, 13, 31] fun K hK => ?_ | refine rna hG [] [4, 5, 6, 7, 8, 11, 12, 13, 31] fun K hK => ?_
  repeat first | ((with_reducible refine shN ?_); refine sL ?_) | ((with_reducible refine shG ?_); refine sG ?_)
  refine Eq.mpr evalL_nil (hK _ ?_)
  clear hK K
  simp only [evU, St.keep, List.map_cons, look, reduceIte, Nat.reduceEqDiff]
  try show AWP _ _ _ _ _
  repeat refine AWP.nest ?_
  first | refine AWP.seq (AWP.cond (b := _) rfl (fun hc => ?_) (fun hc => ?_)) | refine AWP.cond (b := _) rfl (fun hc => ?_) (fun hc => ?_)
  all_goals try simp only [evC] at hc
  · have e : (⟨#[104, 101, 97, 100]⟩ : ByteArray) = G := by
      rw [← hGe]
      unfold fewG
      rw [if_pos]
      · rfl
      · refine ⟨?_, by omega⟩
        rw [beq_iff_eq]
        exact hc.1
    clear hc
    repeat refine AWP.nest ?_
    first | refine rsa hG [] [4, 5, 6, 7, 8, 11, 12, 13] fun K hK => ?_ | refine rna hG [] [4, 5, 6, 7, 8, 11, 12, 13] fun K hK => ?_
    repeat first | ((with_reducible refine shN ?_); refine sL ?_) | ((with_reducible refine shG ?_); refine sG ?_)
    refine Eq.mpr evalL_nil (hK _ ?_)
    clear hK K
    simp only [evU, St.keep, List.map_cons, look, reduceIte, Nat.reduceEqDiff]
    try show AWP _ _ _ _ _
    rw [e]
    repeat refine AWP.nest ?_
    first | refine rsa hG [] [4, 5, 6, 7, 8, 9, 11, 12, 13] fun K hK => ?_ | refine rna hG [] [4, 5, 6, 7, 8, 9, 11, 12, 13] fun K hK => ?_
    repeat first | ((with_reducible refine shN ?_); refine sL ?_) | ((with_reducible refine shG ?_); refine sG ?_)
    refine Eq.mpr evalL_nil (hK _ ?_)
    clear hK K
    simp only [evU, St.keep, List.map_cons, look, reduceIte, Nat.reduceEqDiff]
    try show AWP _ _ _ _ _
    repeat refine AWP.nest ?_
    have hxs := And.intro @hX @hRl
    first | refine rsa hG [] [4, 5, 7, 8, 11, 12, 13, 45] fun K hK => ?_ | refine rna hG [] [4, 5, 7, 8, 11, 12, 13, 45] fun K hK => ?_
    repeat first | ((with_reducible refine shN ?_); refine sL ?_) | ((with_reducible refine shG ?_); refine sG ?_)
    refine Eq.mpr evalL_nil (hK _ ?_)
    clear hK K hxs
    simp only [evU, St.keep, List.map_cons, look, reduceIte, Nat.reduceEqDiff]
    try show AWP _ _ _ _ _
    repeat refine AWP.nest ?_
    first | refine AWP.seq (AWP.cond (b := _) rfl (fun hc => ?_) (fun hc => ?_)) | refine AWP.cond (b := _) rfl (fun hc => ?_) (fun hc => ?_)
    all_goals try simp only [evC] at hc
    · have hf : fewT l (i + 1) = fewT l i := by
        show fewS _ _ _ = _
        unfold fewS
        rw [hGe, if_pos]
        refine ⟨fun e => ?_, ?_⟩
        · have := hc.1
          rw [e] at this
          simp at this
        · rw [leS, Bool.or_eq_true, beq_iff_eq]
          exact hc.2
      clear hc
      refine AWP.exit ?_
      show AWP _ _ _ _ _
      refine AWP.keep [4, 5, 11, 12, 13] ?_
      simp only [St.keep, List.map_cons, List.map_nil, look, reduceIte, Nat.reduceEqDiff]
      refine AWP.trunc 2 (by rw [hps]; decide) rfl ?_
      simp only [St.trunc, List.take_zero, List.take_succ_cons]
      repeat refine AWP.nest ?_
      first | refine rsa hG [] [4, 5, 11, 12, 13] fun K hK => ?_ | refine rna hG [] [4, 5, 11, 12, 13] fun K hK => ?_
      repeat first | ((with_reducible refine shN ?_); refine sL ?_) | ((with_reducible refine shG ?_); refine sG ?_)
      refine Eq.mpr evalL_nil (hK _ ?_)
      clear hK K
      simp only [evU, St.keep, List.map_cons, look, reduceIte, Nat.reduceEqDiff]
      try show AWP _ _ _ _ _
      refine ⟨l.length - (i + 1), by omega, i + 1, by omega, by omega, rfl, ?_⟩
      rw [hf]
      rfl
    refine AWP.skip ?_
    show AWP _ _ _ _ _
    have hf : fewT l (i + 1) = fewT l i ++ [(G, (l.getD i tb0).2.take 60)] := by
      show fewS _ _ _ = _
      unfold fewS
      rw [hGe, if_neg]
      rintro ⟨e1, e2⟩
      rw [leS, Bool.or_eq_true, beq_iff_eq] at e2
      have hpos : 0 < (fewT l i).length := List.length_pos_iff.2 e1
      rcases hc with h | h
      · omega
      · rcases e2 with e2 | e2
        · rw [h.1] at e2; cases e2
        · exact h.2 e2
    clear hc
    repeat refine AWP.nest ?_
    have hxs := @h60
    first | refine rsa hG [] [4, 5, 7, 8, 10, 11, 12, 13] fun K hK => ?_ | refine rna hG [] [4, 5, 7, 8, 10, 11, 12, 13] fun K hK => ?_
    repeat first | ((with_reducible refine shN ?_); refine sL ?_) | ((with_reducible refine shG ?_); refine sG ?_)
    refine Eq.mpr evalL_nil (hK _ ?_)
    clear hK K hxs
    simp only [evU, St.keep, List.map_cons, look, reduceIte, Nat.reduceEqDiff]
    try show AWP _ _ _ _ _
    repeat refine AWP.nest ?_
    have hxs := @hRl
    first | refine rsa hG [] [4, 5, 11, 12, 13] fun K hK => ?_ | refine rna hG [] [4, 5, 11, 12, 13] fun K hK => ?_
    repeat first | ((with_reducible refine shN ?_); refine sL ?_) | ((with_reducible refine shG ?_); refine sG ?_)
    refine Eq.mpr evalL_nil (hK _ ?_)
    clear hK K hxs
    simp only [evU, St.keep, List.map_cons, look, reduceIte, Nat.reduceEqDiff]
    try show AWP _ _ _ _ _
    refine AWP.trunc 2 (by rw [hps]; decide) rfl ?_
    simp only [St.trunc, List.take_zero, List.take_succ_cons]
    repeat refine AWP.nest ?_
    first | refine rsa hG [] [4, 5, 11, 12, 13] fun K hK => ?_ | refine rna hG [] [4, 5, 11, 12, 13] fun K hK => ?_
    repeat first | ((with_reducible refine shN ?_); refine sL ?_) | ((with_reducible refine shG ?_); refine sG ?_)
    refine Eq.mpr evalL_nil (hK _ ?_)
    clear hK K
    simp only [evU, St.keep, List.map_cons, look, reduceIte, Nat.reduceEqDiff]
    try show AWP _ _ _ _ _
    refine ⟨l.length - (i + 1), by omega, i + 1, by omega, by omega, rfl, ?_⟩
    rw [hf, List.length_append, List.length_singleton]
    rfl
  refine AWP.skip ?_
  show AWP _ _ _ _ _
  have e : strL [97 + (i : Int), 98, 99, 100] = G := by
    rw [← hGe]
    unfold fewG
    rw [if_neg]
    · rfl
    · rintro ⟨e1, e2⟩
      rw [beq_iff_eq] at e1
      rcases hc with h | h
      · exact h e1
      · omega
  clear hc
  rw [e]
  repeat refine AWP.nest ?_
  first | refine rsa hG [] [4, 5, 6, 7, 8, 9, 11, 12, 13] fun K hK => ?_ | refine rna hG [] [4, 5, 6, 7, 8, 9, 11, 12, 13] fun K hK => ?_
  repeat first | ((with_reducible refine shN ?_); refine sL ?_) | ((with_reducible refine shG ?_); refine sG ?_)
  refine Eq.mpr evalL_nil (hK _ ?_)
  clear hK K
  simp only [evU, St.keep, List.map_cons, look, reduceIte, Nat.reduceEqDiff]
  try show AWP _ _ _ _ _
  repeat refine AWP.nest ?_
  have hxs := And.intro @hX @hRl
  first | refine rsa hG [] [4, 5, 7, 8, 11, 12, 13, 45] fun K hK => ?_ | refine rna hG [] [4, 5, 7, 8, 11, 12, 13, 45] fun K hK => ?_
  repeat first | ((with_reducible refine shN ?_); refine sL ?_) | ((with_reducible refine shG ?_); refine sG ?_)
  refine Eq.mpr evalL_nil (hK _ ?_)
  clear hK K hxs
  simp only [evU, St.keep, List.map_cons, look, reduceIte, Nat.reduceEqDiff]
  try show AWP _ _ _ _ _
  repeat refine AWP.nest ?_
  first | refine AWP.seq (AWP.cond (b := _) rfl (fun hc => ?_) (fun hc => ?_)) | refine AWP.cond (b := _) rfl (fun hc => ?_) (fun hc => ?_)
  all_goals try simp only [evC] at hc
  · have hf : fewT l (i + 1) = fewT l i := by
      show fewS _ _ _ = _
      unfold fewS
      rw [hGe, if_pos]
      refine ⟨fun e => ?_, ?_⟩
      · have := hc.1
        rw [e] at this
        simp at this
      · rw [leS, Bool.or_eq_true, beq_iff_eq]
        exact hc.2
    clear hc
    refine AWP.exit ?_
    show AWP _ _ _ _ _
    refine AWP.keep [4, 5, 11, 12, 13] ?_
    simp only [St.keep, List.map_cons, List.map_nil, look, reduceIte, Nat.reduceEqDiff]
    refine AWP.trunc 2 (by rw [hps]; decide) rfl ?_
    simp only [St.trunc, List.take_zero, List.take_succ_cons]
    repeat refine AWP.nest ?_
    first | refine rsa hG [] [4, 5, 11, 12, 13] fun K hK => ?_ | refine rna hG [] [4, 5, 11, 12, 13] fun K hK => ?_
    repeat first | ((with_reducible refine shN ?_); refine sL ?_) | ((with_reducible refine shG ?_); refine sG ?_)
    refine Eq.mpr evalL_nil (hK _ ?_)
    clear hK K
    simp only [evU, St.keep, List.map_cons, look, reduceIte, Nat.reduceEqDiff]
    try show AWP _ _ _ _ _
    refine ⟨l.length - (i + 1), by omega, i + 1, by omega, by omega, rfl, ?_⟩
    rw [hf]
    rfl
  refine AWP.skip ?_
  show AWP _ _ _ _ _
  have hf : fewT l (i + 1) = fewT l i ++ [(G, (l.getD i tb0).2.take 60)] := by
    show fewS _ _ _ = _
    unfold fewS
    rw [hGe, if_neg]
    rintro ⟨e1, e2⟩
    rw [leS, Bool.or_eq_true, beq_iff_eq] at e2
    have hpos : 0 < (fewT l i).length := List.length_pos_iff.2 e1
    rcases hc with h | h
    · omega
    · rcases e2 with e2 | e2
      · rw [h.1] at e2; cases e2
      · exact h.2 e2
  clear hc
  repeat refine AWP.nest ?_
  have hxs := @h60
  first | refine rsa hG [] [4, 5, 7, 8, 10, 11, 12, 13] fun K hK => ?_ | refine rna hG [] [4, 5, 7, 8, 10, 11, 12, 13] fun K hK => ?_
  repeat first | ((with_reducible refine shN ?_); refine sL ?_) | ((with_reducible refine shG ?_); refine sG ?_)
  refine Eq.mpr evalL_nil (hK _ ?_)
  clear hK K hxs
  simp only [evU, St.keep, List.map_cons, look, reduceIte, Nat.reduceEqDiff]
  try show AWP _ _ _ _ _
  repeat refine AWP.nest ?_
  have hxs := @hRl
  first | refine rsa hG [] [4, 5, 11, 12, 13] fun K hK => ?_ | refine rna hG [] [4, 5, 11, 12, 13] fun K hK => ?_
  repeat first | ((with_reducible refine shN ?_); refine sL ?_) | ((with_reducible refine shG ?_); refine sG ?_)
  refine Eq.mpr evalL_nil (hK _ ?_)
  clear hK K hxs
  simp only [evU, St.keep, List.map_cons, look, reduceIte, Nat.reduceEqDiff]
  try show AWP _ _ _ _ _
  refine AWP.trunc 2 (by rw [hps]; decide) rfl ?_
  simp only [St.trunc, List.take_zero, List.take_succ_cons]
  repeat refine AWP.nest ?_
  first | refine rsa hG [] [4, 5, 11, 12, 13] fun K hK => ?_ | refine rna hG [] [4, 5, 11, 12, 13] fun K hK => ?_
  repeat first | ((with_reducible refine shN ?_); refine sL ?_) | ((with_reducible refine shG ?_); refine sG ?_)
  refine Eq.mpr evalL_nil (hK _ ?_)
  clear hK K
  simp only [evU, St.keep, List.map_cons, look, reduceIte, Nat.reduceEqDiff]
  try show AWP _ _ _ _ _
  refine ⟨l.length - (i + 1), by omega, i + 1, by omega, by omega, rfl, ?_⟩
  rw [hf, List.length_append, List.length_singleton]
  rfl
def e74 : List AV → Option Ob → Option Res := fun args i => match args, i with
  | [.d false (.sl 2 xs)], none => some ⟨xs = tbs (toTbs xs) ∧ DatB (toTbs xs), .tup [.d true (.sl 2 (tbs (fewT (toTbs xs) (min (toTbs xs).length 9)))), .d true (.sl 2 (tbs (fewT (toTbs xs) (min (toTbs xs).length 9))))], none⟩
  | _, _ => none
def F129 : FT := F128.upd 74 e74
theorem F129_ok : FOK Try.prog F129 := FOK.upd F128_ok Try.func74 (by kernel_rfl) rfl fun args i R h => by
  unfold e74 at h
  split at h
  · rename_i xs
    cases h
    refine Spec.pre fun h => ?_
    have := s74 (toTbs xs) h.2
    rw [← h.1] at this
    exact this
  · cases h
end Go.AM

