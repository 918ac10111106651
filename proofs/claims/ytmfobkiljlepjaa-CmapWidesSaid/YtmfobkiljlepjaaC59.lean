/- AM: CmapWides. -/
import Derived.Test.YtmfobkiljlepjaaC54
set_option maxRecDepth 100000
set_option maxHeartbeats 8000000
set_option linter.unusedSimpArgs false
set_option linter.unusedVariables false
namespace Go.AM
open Go Go.Proofs



theorem s25 (gs hs : List Int) (hg : W16 gs) (hh : W16 hs) (c g : Int) (hc0 : -2147483648 ≤ c) (hc1 : c ≤ 2147483647) (hg0 : 0 ≤ g) (hg1 : g ≤ 65535) : Spec Try.prog 25 [.d false (.sl 1 (ints .u16 gs)), .d false (.sl 1 (ints .u16 hs)), .d true (.v (.int .i32 c)), .d true (.v (.int .u16 g))] none ⟨True, .d true (.v (.bool true)), none⟩ := by
  have hf65 : F90 65 = e65 := rfl
  have hf66 : F90 66 = e66 := rfl
  have hf67 : F90 67 = e67 := rfl
  have hf68 : F90 68 = e68 := rfl
  have hf71 : F90 71 = e71 := rfl
  have hG := (Gf_ok F90_ok)
  have hfs := And.intro @hf65 (And.intro @e65.eq_1 (And.intro @hf66 (And.intro @e66.eq_1 (And.intro @hf67 (And.intro @e67.eq_1 (And.intro @hf68 (And.intro @e68.eq_1 (And.intro @hf71 (And.intro @e71.eq_1 (And.intro @evP (And.intro @evS (And.intro @toPrs_prs (And.intro @toPrs_prs9 (And.intro @toSps_sps @toSgs_sgs))))))))))))))
  have hxs := @Nat.add_zero
  refine spec_of_awp (Gf_ok F90_ok) Try.func25 rfl (Nat.le_of_ble_eq_true rfl) fun E hps hN _ => ?_
  simp only [begin, List.zipIdx_cons, List.zipIdx_nil, List.map_cons, List.map_nil, Option.toList, Nat.zero_add, Nat.reduceAdd]
  repeat refine AWP.nest ?_
  first | refine rsa hG [] [0, 1, 2, 3] fun K hK => ?_ | refine rna hG [] [0, 1, 2, 3] fun K hK => ?_
  repeat first | ((with_reducible refine shN ?_); refine sL ?_) | ((with_reducible refine shG ?_); refine sG ?_)
  refine Eq.mpr evalL_nil (hK _ ?_)
  clear hK K
  simp only [evU, St.keep, List.map_cons, look, reduceIte, Nat.reduceEqDiff]
  try show AWP _ _ _ _ _
  repeat refine AWP.nest ?_
  first | refine rsa hG [] [0, 1, 2, 3, 19] fun K hK => ?_ | refine rna hG [] [0, 1, 2, 3, 19] fun K hK => ?_
  repeat first | ((with_reducible refine shN ?_); refine sL ?_) | ((with_reducible refine shG ?_); refine sG ?_)
  refine Eq.mpr evalL_nil (hK _ ?_)
  clear hK K
  simp only [evU, St.keep, List.map_cons, look, reduceIte, Nat.reduceEqDiff]
  try show AWP _ _ _ _ _
  repeat refine AWP.nest ?_
  first | refine AWP.seq (AWP.cond (b := _) rfl (fun hc => ?_) (fun hc => ?_)) | refine AWP.cond (b := _) rfl (fun hc => ?_) (fun hc => ?_)
  all_goals try simp only [evC] at hc
  · cases hc
  refine AWP.skip ?_
  show AWP _ _ _ _ _
  clear hc
  repeat refine AWP.nest ?_
  first | refine rsa hG [] [2, 3, 9] fun K hK => ?_ | refine rna hG [] [2, 3, 9] fun K hK => ?_
  repeat first | ((with_reducible refine shN ?_); refine sL ?_) | ((with_reducible refine shG ?_); refine sG ?_)
  refine Eq.mpr evalL_nil (hK _ ?_)
  clear hK K
  simp only [evU, St.keep, List.map_cons, look, reduceIte, Nat.reduceEqDiff]
  try show AWP _ _ _ _ _
  have hr := rsg_rises (md := 2000) (lim := 65534) (by decide) (k := 30) (a := -1) (gs := gs) hh (by decide) (by decide)
  have hp := rsg_ok (md := 2000) (lim := 65534) (by decide) (k := 30) (a := -1) (gs := gs) hh (by decide) (by decide)
  have hl := rsg_len (md := 2000) (lim := 65534) (k := 30) (a := -1) (gs := gs) (hs := hs)
  generalize rsg 2000 65534 30 (-1) gs hs = r at hr hp hl ⊢
  have hm0 : 0 ≤ maxI c 0 ∧ maxI c 0 ≤ 2147483647 := by unfold maxI; split <;> omega
  repeat refine AWP.nest ?_
  first | refine rsa hG [0] [3, 9, 11] fun K hK => ?_ | refine rna hG [0] [3, 9, 11] fun K hK => ?_
  repeat first | ((with_reducible refine shN ?_); refine sL ?_) | ((with_reducible refine shG ?_); refine sG ?_)
  refine Eq.mpr evalL_nil (hK _ ?_)
  clear hK K
  simp only [evU, St.keep, List.map_cons, look, reduceIte, Nat.reduceEqDiff]
  try show AWP _ _ _ _ _
  refine AWP.frz 0 (by rw [hps]; decide) rfl ?_
  simp only [St.frz, Ob.frz, AV.frz, AV.frz1, Option.map_none, mkAgg, datas, Dat.nagg, List.map_cons, List.map_nil, Option.map_some, and_self, true_and, and_true, reduceIte, Nat.reduceEqDiff, List.set_cons_zero, List.set_cons_succ, Bool.and_true, Bool.true_and]
  have hx : 65536 ≤ 65536 + maxI c 0 % 1048576 ∧ 65536 + maxI c 0 % 1048576 ≤ 1114111 := by omega
  generalize 65536 + maxI c 0 % 1048576 = x at hx ⊢
  clear hm0
  obtain ⟨f1, f2, f3, f4, f5⟩ := far_ok hr hp hx.1 hx.2 hg0 hg1
  have hl7 : r.length ≤ 7000 := by omega
  have hRl : (r ++ [(x, g)]).length = r.length + 1 := by simp
  have hgx : (r ++ [(x, g)]).getD r.length (0, 0) = (x, g) := by
    rw [List.getD_eq_getElem?_getD, List.getElem?_append_right (Nat.le_refl _), Nat.sub_self]
    rfl
  have hR7 : (r ++ [(x, g)]).length ≤ 7000 := by omega
  obtain ⟨B, Gx, eB, hBb, hBl0, hBl, h3, h4, h5, h6, h7, hmg, hlk⟩ := built_factsW f1 f2 hR7
  obtain ⟨B2, G2, S2, D2, eB0, eB2, hBb2, hBl02, hBl2, h32, h42, h52, h62, h72, hmg2, hms2, hlk2⟩ := built_factsC hr hp hl7 false
  have e3 : (if rightC B = true then (0 : Int) else 2) = 0 := by rw [h3]; rfl
  have e32 : (if rightC B2 = true then (0 : Int) else 2) = 0 := by rw [h32]; rfl
  have hBl9 : B.length ≤ 1000000000 := by omega
  have hBl92 : B2.length ≤ 1000000000 := by omega
  have hmsn := mapS_nil
  have ⟨n1, n2, n3⟩ := hmsn
  have ⟨m1, m2, m3⟩ := hms2
  have ⟨g1, g2, g3, g4⟩ := hmg
  have ⟨g12, g22, g32, g42⟩ := hmg2
  have q1 : lookC true Gx [] [] x = g := by rw [hlk, f4]
  have q2 : lookC false G2 S2 D2 x = 0 := by rw [hlk2]; exact lk_out hr (by omega)
  have q3 : ∀ i, i < r.length → lookC true Gx [] [] (cd r i) = gl r i := fun i hi => by rw [hlk, f5 i hi]
  have q4 : ∀ i, i < r.length → lookC false G2 S2 D2 (cd r i) = gl r i := fun i hi => by rw [hlk2, lk_at hr hi]
  generalize r ++ [(x, g)] = R2 at f2 f3 hRl hgx hR7 eB ⊢
  clear hlk hlk2 f1 f4 f5 eB0
  repeat refine AWP.nest ?_
  have hxs := And.intro @eB (And.intro @h3 (And.intro @h4 (And.intro @h5 (And.intro @h6 (And.intro @h7 @e3)))))
  first | refine rsa hG [] [3, 9, 11, 12, 13] fun K hK => ?_ | refine rna hG [] [3, 9, 11, 12, 13] fun K hK => ?_
  repeat first | ((with_reducible refine shN ?_); refine sL ?_) | ((with_reducible refine shG ?_); refine sG ?_)
  refine Eq.mpr evalL_nil (hK _ ?_)
  clear hK K hxs
  simp only [evU, St.keep, List.map_cons, look, reduceIte, Nat.reduceEqDiff]
  try show AWP _ _ _ _ _
  repeat refine AWP.nest ?_
  have hxs := And.intro @eB2 (And.intro @h32 (And.intro @h42 (And.intro @h52 (And.intro @h62 (And.intro @h72 @e32)))))
  first | refine rsa hG [] [3, 9, 11, 12, 13, 14, 15] fun K hK => ?_ | refine rna hG [] [3, 9, 11, 12, 13, 14, 15] fun K hK => ?_
  repeat first | ((with_reducible refine shN ?_); refine sL ?_) | ((with_reducible refine shG ?_); refine sG ?_)
  refine Eq.mpr evalL_nil (hK _ ?_)
  clear hK K hxs
  simp only [evU, St.keep, List.map_cons, look, reduceIte, Nat.reduceEqDiff]
  try show AWP _ _ _ _ _
  repeat refine AWP.nest ?_
  have hxs := And.intro @f3 (And.intro @hgx (And.intro @q1 @q2))
  first | refine rda hG [] [9, 12, 14, 83] Try.mixed fun K hK => ?_ | refine dna hG [] [9, 12, 14, 83] Try.mixed fun K hK => ?_
  repeat first | ((with_reducible refine shD ?_); refine sD ?_) | ((with_reducible refine shDG ?_); refine sDG ?_)
  refine evalD_done (by kernel_rfl) (hK _ ?_)
  clear hK K hxs
  simp only [evU, St.keep, List.map_cons, look, reduceIte, Nat.reduceEqDiff]
  try show AWP _ _ _ _ _
  repeat refine AWP.nest ?_
  first | refine AWP.seq (AWP.cond (b := _) rfl (fun hc => ?_) (fun hc => ?_)) | refine AWP.cond (b := _) rfl (fun hc => ?_) (fun hc => ?_)
  all_goals try simp only [evC] at hc
  · exfalso
    simp at hc
  refine AWP.skip ?_
  show AWP _ _ _ _ _
  clear hc
  repeat refine AWP.nest ?_
  first | refine rsa hG [] [12, 14, 84, 85, 86] fun K hK => ?_ | refine rna hG [] [12, 14, 84, 85, 86] fun K hK => ?_
  repeat first | ((with_reducible refine shN ?_); refine sL ?_) | ((with_reducible refine shG ?_); refine sG ?_)
  refine Eq.mpr evalL_nil (hK _ ?_)
  clear hK K
  simp only [evU, St.keep, List.map_cons, look, reduceIte, Nat.reduceEqDiff]
  try show AWP _ _ _ _ _
  repeat refine AWP.nest ?_
  first | refine AWP.seq (AWP.block ?_) | refine AWP.block ?_
  refine AWP.loop (fun k st => ∃ (i : Nat), i ≤ r.length ∧ k = r.length - i ∧ st = ⟨[(12, .ptr 1 0), (14, .ptr 2 0), (84, .d true (.sl 2 (prs r))), (85, .d true (.v (.int .i64 (r.length : Int)))), (86, .d true (.v (.int .i64 (i : Int))))], [none, some (.cells 87 [.d true (.v (.bool true)), .d true (.sl 3 (sps Gx)), .d true (.sl 4 (sgs [])), .d true (.sl 1 (ints .u8 []))]), some (.cells 87 [.d true (.v (.bool false)), .d true (.sl 3 (sps G2)), .d true (.sl 4 (sgs S2)), .d true (.sl 1 (ints .u8 D2))])]⟩) (r.length) ?_ ?_
  · exact ⟨0, Nat.zero_le _, rfl, rfl⟩
  rintro k st ⟨i, hi, hk, rfl⟩
  repeat refine AWP.nest ?_
  first | refine rsa hG [] [12, 14, 84, 85, 86, 87] fun K hK => ?_ | refine rna hG [] [12, 14, 84, 85, 86, 87] fun K hK => ?_
  repeat first | ((with_reducible refine shN ?_); refine sL ?_) | ((with_reducible refine shG ?_); refine sG ?_)
  refine Eq.mpr evalL_nil (hK _ ?_)
  clear hK K
  simp only [evU, St.keep, List.map_cons, look, reduceIte, Nat.reduceEqDiff]
  try show AWP _ _ _ _ _
  first | refine AWP.seq (AWP.cond (b := _) rfl (fun hc => ?_) (fun hc => ?_)) | refine AWP.cond (b := _) rfl (fun hc => ?_) (fun hc => ?_)
  rotate_left
  · refine AWP.exit ?_
    show AWP _ _ _ _ _
    simp only [evC, Int.not_lt] at hc
    repeat refine AWP.nest ?_
    first | refine rsa hG [] [8] fun K hK => ?_ | refine rna hG [] [8] fun K hK => ?_
    repeat first | ((with_reducible refine shN ?_); refine sL ?_) | ((with_reducible refine shG ?_); refine sG ?_)
    refine Eq.mpr evalL_nil (hK _ ?_)
    clear hK K
    simp only [evU, St.keep, List.map_cons, look, reduceIte, Nat.reduceEqDiff]
    try show AWP _ _ _ _ _
    refine AWP.ret ?_
    refine ⟨.inl rfl, ⟨⟨_, rfl, ?_⟩, fun ob hob => by cases hob⟩⟩
    simp only [look, reduceIte, Nat.reduceEqDiff]
    exact sub1_of rfl
  simp only [evC, Int.not_lt] at hc
  refine AWP.skip ?_
  show AWP _ _ _ _ _
  have hi' := hc
  clear hc
  have hy := hp i
  have hyc : -2147483648 ≤ (r.getD i (0, 0)).1 ∧ (r.getD i (0, 0)).1 ≤ 2147483647 := ⟨hy.1, hy.2.1⟩
  have p3 : lookC true Gx [] [] (r.getD i (0, 0)).1 = (r.getD i (0, 0)).2 := q3 i hi'
  have p4 : lookC false G2 S2 D2 (r.getD i (0, 0)).1 = (r.getD i (0, 0)).2 := q4 i hi'
  repeat refine AWP.nest ?_
  first | refine AWP.seq (AWP.block ?_) | refine AWP.block ?_
  repeat refine AWP.nest ?_
  first | refine rsa hG [] [12, 14, 17, 84, 85, 86] fun K hK => ?_ | refine rna hG [] [12, 14, 17, 84, 85, 86] fun K hK => ?_
  repeat first | ((with_reducible refine shN ?_); refine sL ?_) | ((with_reducible refine shG ?_); refine sG ?_)
  refine Eq.mpr evalL_nil (hK _ ?_)
  clear hK K
  simp only [evU, St.keep, List.map_cons, look, reduceIte, Nat.reduceEqDiff]
  try show AWP _ _ _ _ _
  repeat refine AWP.nest ?_
  have hxs := And.intro @p3 @p4
  first | refine rda hG [] [12, 14, 84, 85, 86, 98] Try.mixed fun K hK => ?_ | refine dna hG [] [12, 14, 84, 85, 86, 98] Try.mixed fun K hK => ?_
  repeat first | ((with_reducible refine shD ?_); refine sD ?_) | ((with_reducible refine shDG ?_); refine sDG ?_)
  refine evalD_done (by kernel_rfl) (hK _ ?_)
  clear hK K hxs
  simp only [evU, St.keep, List.map_cons, look, reduceIte, Nat.reduceEqDiff]
  try show AWP _ _ _ _ _
  repeat refine AWP.nest ?_
  first | refine AWP.seq (AWP.cond (b := _) rfl (fun hc => ?_) (fun hc => ?_)) | refine AWP.cond (b := _) rfl (fun hc => ?_) (fun hc => ?_)
  all_goals try simp only [evC] at hc
  · exfalso
    simp at hc
  refine AWP.skip ?_
  show AWP _ _ _ _ _
  refine AWP.trunc 3 (by rw [hps]; decide) rfl ?_
  simp only [St.trunc, List.take_zero, List.take_succ_cons]
  repeat refine AWP.nest ?_
  first | refine rsa hG [] [12, 14, 84, 85, 86] fun K hK => ?_ | refine rna hG [] [12, 14, 84, 85, 86] fun K hK => ?_
  repeat first | ((with_reducible refine shN ?_); refine sL ?_) | ((with_reducible refine shG ?_); refine sG ?_)
  refine Eq.mpr evalL_nil (hK _ ?_)
  clear hK K
  simp only [evU, St.keep, List.map_cons, look, reduceIte, Nat.reduceEqDiff]
  try show AWP _ _ _ _ _
  exact ⟨r.length - (i + 1), by omega, i + 1, by omega, rfl, rfl⟩
theorem law25 (x : Dat) (h : (AT.sl 53 (.int .u16)).holds x) (y : Dat) (h2 : (AT.sl 53 (.int .u16)).holds y) (z : Dat) (h3 : (AT.int .i32).holds z) (u : Dat) (h4 : (AT.int .u16).holds u) : Spec Try.prog 25 [.d x.flat x, .d y.flat y, .d z.flat z, .d u.flat u] none ⟨True, .d true (.v (.bool true)), none⟩ := by
  obtain ⟨xs, rfl, hx⟩ := h
  obtain ⟨l, rfl, hl⟩ := ints_of hx
  obtain ⟨ys, rfl, hy⟩ := h2
  obtain ⟨m, rfl, hm⟩ := ints_of hy
  obtain ⟨c, rfl, hc⟩ := h3
  obtain ⟨g, rfl, hg⟩ := h4
  have := bounds_i32 hc
  have := bounds_u16 hg
  exact s25 l m (fun n hn => by have := bounds_u16 (hl n hn); omega) (fun n hn => by have := bounds_u16 (hm n hn); omega) c g (by omega) (by omega) (by omega) (by omega)
end Go.AM

