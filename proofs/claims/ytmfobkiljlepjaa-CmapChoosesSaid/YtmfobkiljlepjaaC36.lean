/- AM: seg.Build. -/
import Derived.Test.YtmfobkiljlepjaaC35
set_option maxRecDepth 100000
set_option maxHeartbeats 8000000
set_option linter.unusedSimpArgs false
set_option linter.unusedVariables false
namespace Go.AM
open Go Go.Proofs



theorem s51 (l : List (Int × Int)) (hp : PrOK l) (hl : l.length ≤ 7000) : Spec Try.prog 51 [.d false (.sl 2 (prs l))] none ⟨True, .d true (.sl 1 (ints .u8 (buildS l))), none⟩ := by
  have hf61 : F63 61 = e61 := rfl
  have hf89 : F63 89 = e89 := rfl
  have hf91 : F63 91 = e91 := rfl
  have hf97 : F63 97 = e97 := rfl
  have hf98 : F63 98 = e98 := rfl
  have hf99 : F63 99 = e99 := rfl
  have hG := (Gf_ok F63_ok)
  have hfs := And.intro @hf61 (And.intro @e61.eq_1 (And.intro @hf89 (And.intro @e89.eq_1 (And.intro @hf91 (And.intro @e91.eq_1 (And.intro @hf97 (And.intro @e97.eq_1 (And.intro @hf98 (And.intro @e98.eq_1 (And.intro @hf99 (And.intro @e99.eq_1 (And.intro @evP (And.intro @evS (And.intro @toPrs_prs (And.intro @toSgs_sgs (And.intro @toInts_nil0 @ints_nil))))))))))))))))
  have hxs := @Nat.add_zero
  refine spec_of_awp (Gf_ok F63_ok) Try.func51 rfl (Nat.le_of_ble_eq_true rfl) fun E hps hN _ => ?_
  simp only [begin, List.zipIdx_cons, List.zipIdx_nil, List.map_cons, List.map_nil, Option.toList, Nat.zero_add, Nat.reduceAdd]
  repeat refine AWP.nest ?_
  first | refine rsa hG [] [0] fun K hK => ?_ | refine rna hG [] [0] fun K hK => ?_
  repeat first | ((with_reducible refine shN ?_); refine sL ?_) | ((with_reducible refine shG ?_); refine sG ?_)
  refine Eq.mpr evalL_nil (hK _ ?_)
  clear hK K
  simp only [evU, St.keep, List.map_cons, look, reduceIte, Nat.reduceEqDiff]
  try show AWP _ _ _ _ _
  repeat refine AWP.nest ?_
  first | refine rsa hG [] [0, 16] fun K hK => ?_ | refine rna hG [] [0, 16] fun K hK => ?_
  repeat first | ((with_reducible refine shN ?_); refine sL ?_) | ((with_reducible refine shG ?_); refine sG ?_)
  refine Eq.mpr evalL_nil (hK _ ?_)
  clear hK K
  simp only [evU, St.keep, List.map_cons, look, reduceIte, Nat.reduceEqDiff]
  try show AWP _ _ _ _ _
  repeat refine AWP.nest ?_
  first | refine AWP.seq (AWP.cond (b := _) rfl (fun hc => ?_) (fun hc => ?_)) | refine AWP.cond (b := _) rfl (fun hc => ?_) (fun hc => ?_)
  all_goals try simp only [evC] at hc
  · have h0 : risesB l 65534 = false := by simpa using hc
    have e0 : buildS l = [] := by unfold buildS; rw [h0]; rfl
    rw [e0]
    repeat refine AWP.nest ?_
    first | refine rsa hG [] [2] fun K hK => ?_ | refine rna hG [] [2] fun K hK => ?_
    repeat first | ((with_reducible refine shN ?_); refine sL ?_) | ((with_reducible refine shG ?_); refine sG ?_)
    refine Eq.mpr evalL_nil (hK _ ?_)
    clear hK K
    simp only [evU, St.keep, List.map_cons, look, reduceIte, Nat.reduceEqDiff]
    try show AWP _ _ _ _ _
    refine AWP.ret ?_
    exact ⟨.inl rfl, ⟨⟨_, rfl, .nil true true 1⟩, fun ob hob => by cases hob⟩⟩
  refine AWP.skip ?_
  show AWP _ _ _ _ _
  have hr : risesB l 65534 = true := by simpa using hc
  clear hc
  have e0 : buildS l = tabS (allQ l) := by unfold buildS; rw [hr]; rfl
  rw [e0]
  have hl6 : l.length ≤ 1000000 := by omega
  repeat refine AWP.nest ?_
  first | refine rsa hG [] [3] fun K hK => ?_ | refine rna hG [] [3] fun K hK => ?_
  repeat first | ((with_reducible refine shN ?_); refine sL ?_) | ((with_reducible refine shG ?_); refine sG ?_)
  refine Eq.mpr evalL_nil (hK _ ?_)
  clear hK K
  simp only [evU, St.keep, List.map_cons, look, reduceIte, Nat.reduceEqDiff]
  try show AWP _ _ _ _ _
  obtain ⟨hall, hln⟩ : (∀ s ∈ allQ l, SqOK s) ∧ 0 < (allQ l).length ∧ (allQ l).length ≤ 7001 := by
    have h1 := runsQ_ok hr hp (Nat.le_refl l.length)
    have h2 := runsQ_len l l.length
    refine ⟨fun s hs => ?_, by unfold allQ; rw [List.length_append, List.length_singleton]; omega⟩
    unfold allQ at hs
    rcases List.mem_append.1 hs with hs | hs
    · exact (h1.1 s hs).1
    · simp only [List.mem_singleton] at hs; subst hs; exact sq_mk (by omega) (by omega) (by omega) (by omega) (by omega)
  generalize allQ l = S at hall hln ⊢
  clear hr hp hl hl6 e0
  repeat refine AWP.nest ?_
  first | refine rsa hG [] [3, 21] fun K hK => ?_ | refine rna hG [] [3, 21] fun K hK => ?_
  repeat first | ((with_reducible refine shN ?_); refine sL ?_) | ((with_reducible refine shG ?_); refine sG ?_)
  refine Eq.mpr evalL_nil (hK _ ?_)
  clear hK K
  simp only [evU, St.keep, List.map_cons, look, reduceIte, Nat.reduceEqDiff]
  try show AWP _ _ _ _ _
  repeat refine AWP.nest ?_
  first | refine AWP.seq (AWP.cond (b := _) rfl (fun hc => ?_) (fun hc => ?_)) | refine AWP.cond (b := _) rfl (fun hc => ?_) (fun hc => ?_)
  all_goals try simp only [evC] at hc
  · omega
  refine AWP.skip ?_
  show AWP _ _ _ _ _
  clear hc
  repeat refine AWP.nest ?_
  first | refine rsa hG [] [3, 4, 5, 6] fun K hK => ?_ | refine rna hG [] [3, 4, 5, 6] fun K hK => ?_
  repeat first | ((with_reducible refine shN ?_); refine sL ?_) | ((with_reducible refine shG ?_); refine sG ?_)
  refine Eq.mpr evalL_nil (hK _ ?_)
  clear hK K
  simp only [evU, St.keep, List.map_cons, look, reduceIte, Nat.reduceEqDiff]
  try show AWP _ _ _ _ _
  have hsr := srch_bd (n := S.length) (by omega) (by omega)
  repeat refine AWP.nest ?_
  first | refine rsa hG [] [3, 4, 5, 6, 7, 8, 9, 10] fun K hK => ?_ | refine rna hG [] [3, 4, 5, 6, 7, 8, 9, 10] fun K hK => ?_
  repeat first | ((with_reducible refine shN ?_); refine sL ?_) | ((with_reducible refine shG ?_); refine sG ?_)
  refine Eq.mpr evalL_nil (hK _ ?_)
  clear hK K
  simp only [evU, St.keep, List.map_cons, look, reduceIte, Nat.reduceEqDiff]
  try show AWP _ _ _ _ _
  refine AWP.tobuf 7 0 5 (by rw [hps]; decide) rfl rfl ?_
  refine AWP.tobuf 8 1 5 (by rw [hps]; decide) rfl rfl ?_
  refine AWP.tobuf 9 2 5 (by rw [hps]; decide) rfl rfl ?_
  refine AWP.tobuf 10 3 5 (by rw [hps]; decide) rfl rfl ?_
  simp only [List.set_cons_zero, List.set_cons_succ, List.cons_append, List.nil_append, List.length_cons, List.length_nil, Nat.reduceAdd]
  repeat refine AWP.nest ?_
  first | refine rsa hG [] [3, 4, 5, 6, 7, 8, 9, 10, 29, 30, 31] fun K hK => ?_ | refine rna hG [] [3, 4, 5, 6, 7, 8, 9, 10, 29, 30, 31] fun K hK => ?_
  repeat first | ((with_reducible refine shN ?_); refine sL ?_) | ((with_reducible refine shG ?_); refine sG ?_)
  refine Eq.mpr evalL_nil (hK _ ?_)
  clear hK K
  simp only [evU, St.keep, List.map_cons, look, reduceIte, Nat.reduceEqDiff]
  try show AWP _ _ _ _ _
  repeat refine AWP.nest ?_
  first | refine AWP.seq (AWP.block ?_) | refine AWP.block ?_
  refine AWP.loop (fun k st => ∃ (j : Nat), j ≤ S.length ∧ k = S.length - j ∧ st = ⟨[(3, .d true (.sl 4 (sgs S))), (4, .d true (.v (.int .u16 (sA S.length : Int)))), (5, .d true (.v (.int .u16 (sB S.length : Int)))), (6, .d true (.v (.int .u16 (sC S.length : Int)))), (7, .ptr 4 0), (8, .ptr 5 0), (9, .ptr 6 0), (10, .ptr 7 0), (29, .d true (.sl 4 (sgs S))), (30, .d true (.v (.int .i64 (S.length : Int)))), (31, .d true (.v (.int .i64 (j : Int))))], [none, none, none, none, some (.buf 134 5 1 (ints .u8 (enc2 ((S.take j).map fun s => s.2.1)))), some (.buf 134 5 1 (ints .u8 (enc2 ((S.take j).map fun s => s.1)))), some (.buf 134 5 1 (ints .u8 (enc2 ((S.take j).map fun s => s.2.2.1)))), some (.buf 134 5 1 (ints .u8 (enc2 (List.replicate j 0))))]⟩) (S.length) ?_ ?_
  · exact ⟨0, Nat.zero_le _, rfl, rfl⟩
  rintro k st ⟨j, hj, hk, rfl⟩
  have hT : (S.take j).length = j := by simp only [List.length_take]; omega
  have l1 : (enc2 ((S.take j).map fun s => s.2.1)).length = 2 * j := by rw [enc2_len, List.length_map, hT]
  have l2 : (enc2 ((S.take j).map fun s => s.1)).length = 2 * j := by rw [enc2_len, List.length_map, hT]
  have l3 : (enc2 ((S.take j).map fun s => s.2.2.1)).length = 2 * j := by rw [enc2_len, List.length_map, hT]
  have l4 : (enc2 (List.replicate j 0)).length = 2 * j := by rw [enc2_len, List.length_replicate]
  repeat refine AWP.nest ?_
  first | refine rsa hG [] [3, 4, 5, 6, 7, 8, 9, 10, 29, 30, 31, 32] fun K hK => ?_ | refine rna hG [] [3, 4, 5, 6, 7, 8, 9, 10, 29, 30, 31, 32] fun K hK => ?_
  repeat first | ((with_reducible refine shN ?_); refine sL ?_) | ((with_reducible refine shG ?_); refine sG ?_)
  refine Eq.mpr evalL_nil (hK _ ?_)
  clear hK K
  simp only [evU, St.keep, List.map_cons, look, reduceIte, Nat.reduceEqDiff]
  try show AWP _ _ _ _ _
  first | refine AWP.seq (AWP.cond (b := _) rfl (fun hc => ?_) (fun hc => ?_)) | refine AWP.cond (b := _) rfl (fun hc => ?_) (fun hc => ?_)
  rotate_left
  · refine AWP.exit ?_
    show AWP _ _ _ _ _
    simp only [evC, Int.not_lt] at hc
    obtain rfl : j = S.length := by omega
    rw [List.take_length] at l1 l2 l3 ⊢
    repeat refine AWP.nest ?_
    first | refine rsa hG [] [3, 4, 5, 6, 7, 8, 9, 10, 13] fun K hK => ?_ | refine rna hG [] [3, 4, 5, 6, 7, 8, 9, 10, 13] fun K hK => ?_
    repeat first | ((with_reducible refine shN ?_); refine sL ?_) | ((with_reducible refine shG ?_); refine sG ?_)
    refine Eq.mpr evalL_nil (hK _ ?_)
    clear hK K
    simp only [evU, St.keep, List.map_cons, look, reduceIte, Nat.reduceEqDiff]
    try show AWP _ _ _ _ _
    refine AWP.tobuf 13 8 5 (by rw [hps]; decide) rfl rfl ?_
    simp only [List.set_cons_zero, List.set_cons_succ, List.cons_append, List.nil_append, List.length_cons, List.length_nil, Nat.reduceAdd]
    have em1 : (16 + 8 * (S.length : Int)) % 65536 = 16 + 8 * (S.length : Int) := by omega
    have em2 : (2 * (S.length : Int)) % 65536 = 2 * (S.length : Int) := by omega
    repeat refine AWP.nest ?_
    have hxs := And.intro @em1 @em2
    first | refine rsa hG [] [7, 8, 9, 10, 13] fun K hK => ?_ | refine rna hG [] [7, 8, 9, 10, 13] fun K hK => ?_
    repeat first | ((with_reducible refine shN ?_); refine sL ?_) | ((with_reducible refine shG ?_); refine sG ?_)
    refine Eq.mpr evalL_nil (hK _ ?_)
    clear hK K hxs
    simp only [evU, St.keep, List.map_cons, look, reduceIte, Nat.reduceEqDiff]
    try show AWP _ _ _ _ _
    have hH : [0, 4, (16 + 8 * (S.length : Int)) / 256, (16 + 8 * (S.length : Int)) % 256, 0, 0, 2 * (S.length : Int) / 256, 2 * (S.length : Int) % 256, (sA S.length : Int) / 256, (sA S.length : Int) % 256, (sB S.length : Int) / 256, (sB S.length : Int) % 256, (sC S.length : Int) / 256, (sC S.length : Int) % 256] = enc2 [4, 16 + 8 * (S.length : Int), 0, 2 * (S.length : Int), (sA S.length : Int), (sB S.length : Int), (sC S.length : Int)] := by
      simp [enc2, b2]
      omega
    rw [hH]
    have eT : tabS S = enc2 [4, 16 + 8 * (S.length : Int), 0, 2 * (S.length : Int), (sA S.length : Int), (sB S.length : Int), (sC S.length : Int)] ++ (enc2 (S.map fun s => s.2.1) ++ (enc2 [0] ++ (enc2 (S.map fun s => s.1) ++ (enc2 (S.map fun s => s.2.2.1) ++ enc2 (List.replicate S.length 0))))) := by
      unfold tabS wS
      simp only [enc2_append]
    rw [eT]
    have h0 : enc2 [0] = [0, 0] := by decide
    rw [h0]
    have b0 := enc2_byt [4, 16 + 8 * (S.length : Int), 0, 2 * (S.length : Int), (sA S.length : Int), (sB S.length : Int), (sC S.length : Int)]
    have l0 := enc2_len [4, 16 + 8 * (S.length : Int), 0, 2 * (S.length : Int), (sA S.length : Int), (sB S.length : Int), (sC S.length : Int)]
    have b1 := enc2_byt (S.map fun s => s.2.1)
    have b2' := enc2_byt (S.map fun s => s.1)
    have b3 := enc2_byt (S.map fun s => s.2.2.1)
    have b4' := enc2_byt (List.replicate S.length 0)
    simp only [List.length_cons, List.length_nil] at l0
    clear hH eT h0 hall hsr em1 em2 hT
    generalize enc2 [4, 16 + 8 * (S.length : Int), 0, 2 * (S.length : Int), (sA S.length : Int), (sB S.length : Int), (sC S.length : Int)] = H at b0 l0 ⊢
    generalize enc2 (S.map fun s => s.2.1) = X1 at b1 l1 ⊢
    generalize enc2 (S.map fun s => s.1) = X2 at b2' l2 ⊢
    generalize enc2 (S.map fun s => s.2.2.1) = X3 at b3 l3 ⊢
    generalize enc2 (List.replicate S.length 0) = X4 at b4' l4 ⊢
    have bb : Byt [0, 0] := fun b hb => by simp at hb; omega
    have y1 := b0.append b1
    have y2 := y1.append bb
    have y3 := y2.append b2'
    have y4 := y3.append b3
    have y5 := y4.append b4'
    repeat refine AWP.nest ?_
    first | refine rsa hG [] [2] fun K hK => ?_ | refine rna hG [] [2] fun K hK => ?_
    repeat first | ((with_reducible refine shN ?_); refine sL ?_) | ((with_reducible refine shG ?_); refine sG ?_)
    refine Eq.mpr evalL_nil (hK _ ?_)
    clear hK K
    simp only [evU, St.keep, List.map_cons, look, reduceIte, Nat.reduceEqDiff]
    try show AWP _ _ _ _ _
    refine AWP.ret ?_
    refine ⟨.inl rfl, ⟨⟨_, rfl, ?_⟩, fun ob hob => by cases hob⟩⟩
    simp only [look, reduceIte, Nat.reduceEqDiff]
    refine sub1_of ?_
    simp
  simp only [evC, Int.not_lt] at hc
  refine AWP.skip ?_
  show AWP _ _ _ _ _
  have hj' := hc
  clear hc
  have hs : SqOK (S.getD j (0, 0, 0, 0)) := by
    rw [List.getD_eq_getElem?_getD, List.getElem?_eq_getElem hj']
    exact hall _ (by simp)
  obtain ⟨q1, q2, q3, q4, q5, q6⟩ := hs
  have hsn : ∀ f : Sg → Int, enc2 ((S.take (j + 1)).map f) = enc2 ((S.take j).map f) ++ b2 (f (S.getD j (0, 0, 0, 0))) := fun f => by
    rw [take_snoc' (0, 0, 0, 0) hj', List.map_append, enc2_append]
    simp [enc2]
  have hz : enc2 (List.replicate (j + 1) 0) = enc2 (List.replicate j 0) ++ b2 0 := by
    rw [List.replicate_succ', enc2_append]
    simp [enc2]
  have hb2 : ∀ n : Int, 0 ≤ n → n < 65536 → [n / 256, n % 256] = b2 n := fun n h0 h1 => by
    unfold b2
    rw [show n / 256 % 256 = n / 256 by omega]
  repeat refine AWP.nest ?_
  first | refine AWP.seq (AWP.block ?_) | refine AWP.block ?_
  repeat refine AWP.nest ?_
  first | refine rsa hG [] [3, 4, 5, 6, 7, 8, 9, 10, 12, 29, 30, 31] fun K hK => ?_ | refine rna hG [] [3, 4, 5, 6, 7, 8, 9, 10, 12, 29, 30, 31] fun K hK => ?_
  repeat first | ((with_reducible refine shN ?_); refine sL ?_) | ((with_reducible refine shG ?_); refine sG ?_)
  refine Eq.mpr evalL_nil (hK _ ?_)
  clear hK K
  simp only [evU, St.keep, List.map_cons, look, reduceIte, Nat.reduceEqDiff]
  try show AWP _ _ _ _ _
  generalize S.getD j (0, 0, 0, 0) = s at hsn q1 q2 q3 q4 q5 q6 ⊢
  have hb21 := hb2 s.2.1 (by omega) (by omega)
  have hb22 := hb2 s.1 (by omega) (by omega)
  have hb23 := hb2 s.2.2.1 (by omega) (by omega)
  repeat refine AWP.nest ?_
  have hxs := @hb21
  first | refine rsa hG [] [3, 4, 5, 6, 7, 8, 9, 10, 12, 29, 30, 31] fun K hK => ?_ | refine rna hG [] [3, 4, 5, 6, 7, 8, 9, 10, 12, 29, 30, 31] fun K hK => ?_
  repeat first | ((with_reducible refine shN ?_); refine sL ?_) | ((with_reducible refine shG ?_); refine sG ?_)
  refine Eq.mpr evalL_nil (hK _ ?_)
  clear hK K hxs
  simp only [evU, St.keep, List.map_cons, look, reduceIte, Nat.reduceEqDiff]
  try show AWP _ _ _ _ _
  repeat refine AWP.nest ?_
  have hxs := @hb22
  first | refine rsa hG [] [3, 4, 5, 6, 7, 8, 9, 10, 12, 29, 30, 31] fun K hK => ?_ | refine rna hG [] [3, 4, 5, 6, 7, 8, 9, 10, 12, 29, 30, 31] fun K hK => ?_
  repeat first | ((with_reducible refine shN ?_); refine sL ?_) | ((with_reducible refine shG ?_); refine sG ?_)
  refine Eq.mpr evalL_nil (hK _ ?_)
  clear hK K hxs
  simp only [evU, St.keep, List.map_cons, look, reduceIte, Nat.reduceEqDiff]
  try show AWP _ _ _ _ _
  repeat refine AWP.nest ?_
  have hxs := @hb23
  first | refine rsa hG [] [3, 4, 5, 6, 7, 8, 9, 10, 29, 30, 31] fun K hK => ?_ | refine rna hG [] [3, 4, 5, 6, 7, 8, 9, 10, 29, 30, 31] fun K hK => ?_
  repeat first | ((with_reducible refine shN ?_); refine sL ?_) | ((with_reducible refine shG ?_); refine sG ?_)
  refine Eq.mpr evalL_nil (hK _ ?_)
  clear hK K hxs
  simp only [evU, St.keep, List.map_cons, look, reduceIte, Nat.reduceEqDiff]
  try show AWP _ _ _ _ _
  refine AWP.trunc 8 (by rw [hps]; decide) rfl ?_
  simp only [St.trunc, List.take_zero, List.take_succ_cons]
  repeat refine AWP.nest ?_
  first | refine rsa hG [] [3, 4, 5, 6, 7, 8, 9, 10, 29, 30, 31] fun K hK => ?_ | refine rna hG [] [3, 4, 5, 6, 7, 8, 9, 10, 29, 30, 31] fun K hK => ?_
  repeat first | ((with_reducible refine shN ?_); refine sL ?_) | ((with_reducible refine shG ?_); refine sG ?_)
  refine Eq.mpr evalL_nil (hK _ ?_)
  clear hK K
  simp only [evU, St.keep, List.map_cons, look, reduceIte, Nat.reduceEqDiff]
  try show AWP _ _ _ _ _
  repeat refine AWP.nest ?_
  first | refine rsa hG [] [3, 4, 5, 6, 7, 8, 9, 10, 29, 30, 31] fun K hK => ?_ | refine rna hG [] [3, 4, 5, 6, 7, 8, 9, 10, 29, 30, 31] fun K hK => ?_
  repeat first | ((with_reducible refine shN ?_); refine sL ?_) | ((with_reducible refine shG ?_); refine sG ?_)
  refine Eq.mpr evalL_nil (hK _ ?_)
  clear hK K
  simp only [evU, St.keep, List.map_cons, look, reduceIte, Nat.reduceEqDiff]
  try show AWP _ _ _ _ _
  refine ⟨S.length - (j + 1), by omega, j + 1, by omega, rfl, ?_⟩
  rw [hsn, hsn, hsn, hz]
  rfl
def e51 : List AV → Option Ob → Option Res := fun args i => match args, i with
  | [.d false (.sl 2 xs)], none => some ⟨xs = prs (toPrs xs) ∧ PrOK (toPrs xs) ∧ (toPrs xs).length ≤ 7000, .d true (.sl 1 (ints .u8 (buildS (toPrs xs)))), none⟩
  | _, _ => none
def F64 : FT := F63.upd 51 e51
theorem F64_ok : FOK Try.prog F64 := FOK.upd F63_ok Try.func51 (by kernel_rfl) rfl fun args i R h => by
  unfold e51 at h
  split at h
  · rename_i xs
    cases h
    refine Spec.pre fun h => ?_
    have := s51 (toPrs xs) h.2.1 h.2.2
    rw [← h.1] at this
    exact this
  · cases h
end Go.AM

