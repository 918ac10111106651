/- AM: CmapBuilds. -/
import Derived.Test.YtmfobkiljlepjaaC54
set_option maxRecDepth 100000
set_option maxHeartbeats 8000000
set_option linter.unusedSimpArgs false
set_option linter.unusedVariables false
namespace Go.AM
open Go Go.Proofs



theorem s21 (gs hs : List Int) (hg : W16 gs) (hh : W16 hs) (w : Bool) (c : Int) (hc0 : -2147483648 ≤ c) (hc1 : c ≤ 2147483647) : Spec Try.prog 21 [.d false (.sl 1 (ints .u16 gs)), .d false (.sl 1 (ints .u16 hs)), .d true (.v (.bool w)), .d true (.v (.int .i32 c))] none ⟨True, .d true (.v (.bool true)), none⟩ := by
  have hf37 : F90 37 = e37 := rfl
  have hf65 : F90 65 = e65 := rfl
  have hf66 : F90 66 = e66 := rfl
  have hf67 : F90 67 = e67 := rfl
  have hf68 : F90 68 = e68 := rfl
  have hf69 : F90 69 = e69 := rfl
  have hf70 : F90 70 = e70 := rfl
  have hf71 : F90 71 = e71 := rfl
  have hG := (Gf_ok F90_ok)
  have hfs := And.intro @hf37 (And.intro @e37.eq_1 (And.intro @hf65 (And.intro @e65.eq_1 (And.intro @hf66 (And.intro @e66.eq_1 (And.intro @hf67 (And.intro @e67.eq_1 (And.intro @hf68 (And.intro @e68.eq_1 (And.intro @hf69 (And.intro @e69.eq_1 (And.intro @hf70 (And.intro @e70.eq_1 (And.intro @hf71 (And.intro @e71.eq_1 (And.intro @evP (And.intro @evS (And.intro @toPrs_prs (And.intro @toPrs_prs9 (And.intro @toSps_sps @toSgs_sgs))))))))))))))))))))
  have hxs := @Nat.add_zero
  refine spec_of_awp (Gf_ok F90_ok) Try.func21 rfl (Nat.le_of_ble_eq_true rfl) fun E hps hN _ => ?_
  simp only [begin, List.zipIdx_cons, List.zipIdx_nil, List.map_cons, List.map_nil, Option.toList, Nat.zero_add, Nat.reduceAdd]
  repeat refine AWP.nest ?_
  first | refine rsa hG [] [0, 1, 2, 3] fun K hK => ?_ | refine rna hG [] [0, 1, 2, 3] fun K hK => ?_
  repeat first | ((with_reducible refine shN ?_); refine sL ?_) | ((with_reducible refine shG ?_); refine sG ?_)
  refine Eq.mpr evalL_nil (hK _ ?_)
  clear hK K
  simp only [evU, St.keep, List.map_cons, look, reduceIte, Nat.reduceEqDiff]
  try show AWP _ _ _ _ _
  repeat refine AWP.nest ?_
  first | refine rsa hG [] [0, 1, 2, 3, 18] fun K hK => ?_ | refine rna hG [] [0, 1, 2, 3, 18] fun K hK => ?_
  repeat first | ((with_reducible refine shN ?_); refine sL ?_) | ((with_reducible refine shG ?_); refine sG ?_)
  refine Eq.mpr evalL_nil (hK _ ?_)
  clear hK K
  simp only [evU, St.keep, List.map_cons, look, reduceIte, Nat.reduceEqDiff]
  try show AWP _ _ _ _ _
  repeat refine AWP.nest ?_
  first | refine AWP.seq (AWP.cond (b := _) rfl (fun hc => ?_) (fun hc => ?_)) | refine AWP.cond (b := _) rfl (fun hc => ?_) (fun hc => ?_)
  all_goals try simp only [evC] at hc
  · cases hc
  refine AWP.skip ?_
  show AWP _ _ _ _ _
  clear hc
  repeat refine AWP.nest ?_
  first | refine rsa hG [] [2, 3, 9, 10] fun K hK => ?_ | refine rna hG [] [2, 3, 9, 10] fun K hK => ?_
  repeat first | ((with_reducible refine shN ?_); refine sL ?_) | ((with_reducible refine shG ?_); refine sG ?_)
  refine Eq.mpr evalL_nil (hK _ ?_)
  clear hK K
  simp only [evU, St.keep, List.map_cons, look, reduceIte, Nat.reduceEqDiff]
  try show AWP _ _ _ _ _
  have hr := rsg_rises (md := 2000) (lim := 65534) (by decide) (k := 30) (a := -1) (gs := gs) hh (by decide) (by decide)
  have hp := rsg_ok (md := 2000) (lim := 65534) (by decide) (k := 30) (a := -1) (gs := gs) hh (by decide) (by decide)
  have hl := rsg_len (md := 2000) (lim := 65534) (k := 30) (a := -1) (gs := gs) (hs := hs)
  generalize rsg 2000 65534 30 (-1) gs hs = r at hr hp hl ⊢
  have hl7 : r.length ≤ 7000 := by omega
  obtain ⟨B, Gx, Sx, Dx, eB0, eB, hBb, hBl0, hBl, h3, h4, h5, h6, h7, hmg, hms, hlk⟩ := built_factsC hr hp hl7 w
  have e3 : (if rightC B = true then (0 : Int) else 2) = 0 := by rw [h3]; rfl
  have hBl9 : B.length ≤ 1000000000 := by omega
  have ⟨m1, m2, m3⟩ := hms
  have ⟨g1, g2, g3, g4⟩ := hmg
  repeat refine AWP.nest ?_
  have hxs := @eB
  first | refine rsa hG [] [2, 3, 9, 10, 11] fun K hK => ?_ | refine rna hG [] [2, 3, 9, 10, 11] fun K hK => ?_
  repeat first | ((with_reducible refine shN ?_); refine sL ?_) | ((with_reducible refine shG ?_); refine sG ?_)
  refine Eq.mpr evalL_nil (hK _ ?_)
  clear hK K hxs
  simp only [evU, St.keep, List.map_cons, look, reduceIte, Nat.reduceEqDiff]
  try show AWP _ _ _ _ _
  repeat refine AWP.nest ?_
  have hxs := And.intro @h3 (And.intro @h4 (And.intro @h5 (And.intro @h6 (And.intro @h7 @e3))))
  first | refine rsa hG [] [2, 3, 9, 10, 11, 12, 13] fun K hK => ?_ | refine rna hG [] [2, 3, 9, 10, 11, 12, 13] fun K hK => ?_
  repeat first | ((with_reducible refine shN ?_); refine sL ?_) | ((with_reducible refine shG ?_); refine sG ?_)
  refine Eq.mpr evalL_nil (hK _ ?_)
  clear hK K hxs
  simp only [evU, St.keep, List.map_cons, look, reduceIte, Nat.reduceEqDiff]
  try show AWP _ _ _ _ _
  repeat refine AWP.nest ?_
  have hxs := @eB0
  first | refine rsa hG [] [3, 9, 12, 48] fun K hK => ?_ | refine rna hG [] [3, 9, 12, 48] fun K hK => ?_
  repeat first | ((with_reducible refine shN ?_); refine sL ?_) | ((with_reducible refine shG ?_); refine sG ?_)
  refine Eq.mpr evalL_nil (hK _ ?_)
  clear hK K hxs
  simp only [evU, St.keep, List.map_cons, look, reduceIte, Nat.reduceEqDiff]
  try show AWP _ _ _ _ _
  repeat refine AWP.nest ?_
  first | refine AWP.seq (AWP.cond (b := _) rfl (fun hc => ?_) (fun hc => ?_)) | refine AWP.cond (b := _) rfl (fun hc => ?_) (fun hc => ?_)
  all_goals try simp only [evC] at hc
  · exfalso
    simp at hc
  refine AWP.skip ?_
  show AWP _ _ _ _ _
  clear hc
  repeat refine AWP.nest ?_
  first | refine rsa hG [] [3, 9, 12, 14] fun K hK => ?_ | refine rna hG [] [3, 9, 12, 14] fun K hK => ?_
  repeat first | ((with_reducible refine shN ?_); refine sL ?_) | ((with_reducible refine shG ?_); refine sG ?_)
  refine Eq.mpr evalL_nil (hK _ ?_)
  clear hK K
  simp only [evU, St.keep, List.map_cons, look, reduceIte, Nat.reduceEqDiff]
  try show AWP _ _ _ _ _
  repeat refine AWP.nest ?_
  first | refine rsa hG [] [3, 12, 14, 49, 50, 51] fun K hK => ?_ | refine rna hG [] [3, 12, 14, 49, 50, 51] fun K hK => ?_
  repeat first | ((with_reducible refine shN ?_); refine sL ?_) | ((with_reducible refine shG ?_); refine sG ?_)
  refine Eq.mpr evalL_nil (hK _ ?_)
  clear hK K
  simp only [evU, St.keep, List.map_cons, look, reduceIte, Nat.reduceEqDiff]
  try show AWP _ _ _ _ _
  repeat refine AWP.nest ?_
  first | refine AWP.seq (AWP.block ?_) | refine AWP.block ?_
  refine AWP.loop (fun k st => ∃ (i : Nat), i ≤ r.length ∧ k = r.length - i ∧ st = ⟨[(3, .d true (.v (.int .i32 c))), (12, .ptr 0 0), (14, .d true (.v (.int .u16 (lkP (r.take i) c)))), (49, .d true (.sl 2 (prs r))), (50, .d true (.v (.int .i64 (r.length : Int)))), (51, .d true (.v (.int .i64 (i : Int))))], [some (.cells 87 [.d true (.v (.bool w)), .d true (.sl 3 (sps Gx)), .d true (.sl 4 (sgs Sx)), .d true (.sl 1 (ints .u8 Dx))])]⟩) (r.length) ?_ ?_
  · exact ⟨0, Nat.zero_le _, rfl, rfl⟩
  rintro k st ⟨i, hi, hk, rfl⟩
  repeat refine AWP.nest ?_
  first | refine rsa hG [] [3, 12, 14, 49, 50, 51, 52] fun K hK => ?_ | refine rna hG [] [3, 12, 14, 49, 50, 51, 52] fun K hK => ?_
  repeat first | ((with_reducible refine shN ?_); refine sL ?_) | ((with_reducible refine shG ?_); refine sG ?_)
  refine Eq.mpr evalL_nil (hK _ ?_)
  clear hK K
  simp only [evU, St.keep, List.map_cons, look, reduceIte, Nat.reduceEqDiff]
  try show AWP _ _ _ _ _
  first | refine AWP.seq (AWP.cond (b := _) rfl (fun hc => ?_) (fun hc => ?_)) | refine AWP.cond (b := _) rfl (fun hc => ?_) (fun hc => ?_)
  rotate_left
  · refine AWP.exit ?_
    show AWP _ _ _ _ _
    simp only [evC, Int.not_lt] at hc
    obtain rfl : i = r.length := by omega
    rw [List.take_length]
    have q1 := hlk c
    repeat refine AWP.nest ?_
    have hxs := @q1
    first | refine rsa hG [] [8] fun K hK => ?_ | refine rna hG [] [8] fun K hK => ?_
    repeat first | ((with_reducible refine shN ?_); refine sL ?_) | ((with_reducible refine shG ?_); refine sG ?_)
    refine Eq.mpr evalL_nil (hK _ ?_)
    clear hK K hxs
    simp only [evU, St.keep, List.map_cons, look, reduceIte, Nat.reduceEqDiff]
    try show AWP _ _ _ _ _
    refine AWP.ret ?_
    refine ⟨.inl rfl, ⟨⟨_, rfl, ?_⟩, fun ob hob => by cases hob⟩⟩
    simp only [look, reduceIte, Nat.reduceEqDiff]
    refine sub1_of ?_
    simp
  simp only [evC, Int.not_lt] at hc
  refine AWP.skip ?_
  show AWP _ _ _ _ _
  have hi' := hc
  clear hc
  have hx := rises_at hr hi'
  have hy := hp i
  have hyc : -2147483648 ≤ (r.getD i (0, 0)).1 ∧ (r.getD i (0, 0)).1 ≤ 2147483647 := ⟨hy.1, hy.2.1⟩
  have hat := lk_at hr hi'
  have htk := lk_take hr hi' c
  have hla : lookC w Gx Sx Dx (cd r i) = gl r i := by rw [hlk, hat]
  repeat refine AWP.nest ?_
  first | refine AWP.seq (AWP.block ?_) | refine AWP.block ?_
  repeat refine AWP.nest ?_
  first | refine rsa hG [] [3, 12, 14, 16, 49, 50, 51] fun K hK => ?_ | refine rna hG [] [3, 12, 14, 16, 49, 50, 51] fun K hK => ?_
  repeat first | ((with_reducible refine shN ?_); refine sL ?_) | ((with_reducible refine shG ?_); refine sG ?_)
  refine Eq.mpr evalL_nil (hK _ ?_)
  clear hK K
  simp only [evU, St.keep, List.map_cons, look, reduceIte, Nat.reduceEqDiff]
  try show AWP _ _ _ _ _
  repeat refine AWP.nest ?_
  first | refine rda hG [] [3, 12, 14, 16, 49, 50, 51, 61] Try.mixed fun K hK => ?_ | refine dna hG [] [3, 12, 14, 16, 49, 50, 51, 61] Try.mixed fun K hK => ?_
  repeat first | ((with_reducible refine shD ?_); refine sD ?_) | ((with_reducible refine shDG ?_); refine sDG ?_)
  refine evalD_done (by kernel_rfl) (hK _ ?_)
  clear hK K
  simp only [evU, St.keep, List.map_cons, look, reduceIte, Nat.reduceEqDiff]
  try show AWP _ _ _ _ _
  repeat refine AWP.nest ?_
  first | refine AWP.seq (AWP.cond (b := _) rfl (fun hc => ?_) (fun hc => ?_)) | refine AWP.cond (b := _) rfl (fun hc => ?_) (fun hc => ?_)
  all_goals try simp only [evC] at hc
  · exfalso
    exact hc hla
  refine AWP.skip ?_
  show AWP _ _ _ _ _
  clear hc
  repeat refine AWP.nest ?_
  first | refine rsa hG [] [3, 12, 14, 16, 49, 50, 51, 65] fun K hK => ?_ | refine rna hG [] [3, 12, 14, 16, 49, 50, 51, 65] fun K hK => ?_
  repeat first | ((with_reducible refine shN ?_); refine sL ?_) | ((with_reducible refine shG ?_); refine sG ?_)
  refine Eq.mpr evalL_nil (hK _ ?_)
  clear hK K
  simp only [evU, St.keep, List.map_cons, look, reduceIte, Nat.reduceEqDiff]
  try show AWP _ _ _ _ _
  repeat refine AWP.nest ?_
  first | refine AWP.seq (AWP.cond (b := _) rfl (fun hc => ?_) (fun hc => ?_)) | refine AWP.cond (b := _) rfl (fun hc => ?_) (fun hc => ?_)
  all_goals try simp only [evC] at hc
  · have e : (r.getD i (0, 0)).2 = lkP (r.take (i + 1)) c := by rw [htk, if_pos (show cd r i = c from hc)]; rfl
    repeat refine AWP.nest ?_
    first | refine rsa hG [] [3, 12, 14, 49, 50, 51] fun K hK => ?_ | refine rna hG [] [3, 12, 14, 49, 50, 51] fun K hK => ?_
    repeat first | ((with_reducible refine shN ?_); refine sL ?_) | ((with_reducible refine shG ?_); refine sG ?_)
    refine Eq.mpr evalL_nil (hK _ ?_)
    clear hK K
    simp only [evU, St.keep, List.map_cons, look, reduceIte, Nat.reduceEqDiff]
    try show AWP _ _ _ _ _
    refine AWP.trunc 1 (by rw [hps]; decide) rfl ?_
    simp only [St.trunc, List.take_zero, List.take_succ_cons]
    repeat refine AWP.nest ?_
    first | refine rsa hG [] [3, 12, 14, 49, 50, 51] fun K hK => ?_ | refine rna hG [] [3, 12, 14, 49, 50, 51] fun K hK => ?_
    repeat first | ((with_reducible refine shN ?_); refine sL ?_) | ((with_reducible refine shG ?_); refine sG ?_)
    refine Eq.mpr evalL_nil (hK _ ?_)
    clear hK K
    simp only [evU, St.keep, List.map_cons, look, reduceIte, Nat.reduceEqDiff]
    try show AWP _ _ _ _ _
    exact ⟨r.length - (i + 1), by omega, i + 1, by omega, rfl, by rw [e]; rfl⟩
  refine AWP.skip ?_
  show AWP _ _ _ _ _
  have e : lkP (r.take i) c = lkP (r.take (i + 1)) c := by rw [htk, if_neg (show ¬ cd r i = c from hc)]
  refine AWP.keep [3, 12, 14, 49, 50, 51] ?_
  simp only [St.keep, List.map_cons, List.map_nil, look, reduceIte, Nat.reduceEqDiff]
  refine AWP.trunc 1 (by rw [hps]; decide) rfl ?_
  simp only [St.trunc, List.take_zero, List.take_succ_cons]
  repeat refine AWP.nest ?_
  first | refine rsa hG [] [3, 12, 14, 49, 50, 51] fun K hK => ?_ | refine rna hG [] [3, 12, 14, 49, 50, 51] fun K hK => ?_
  repeat first | ((with_reducible refine shN ?_); refine sL ?_) | ((with_reducible refine shG ?_); refine sG ?_)
  refine Eq.mpr evalL_nil (hK _ ?_)
  clear hK K
  simp only [evU, St.keep, List.map_cons, look, reduceIte, Nat.reduceEqDiff]
  try show AWP _ _ _ _ _
  exact ⟨r.length - (i + 1), by omega, i + 1, by omega, rfl, by rw [e]; rfl⟩
theorem law21 (x : Dat) (h : (AT.sl 53 (.int .u16)).holds x) (y : Dat) (h2 : (AT.sl 53 (.int .u16)).holds y) (u : Dat) (h4 : AT.bool.holds u) (z : Dat) (h3 : (AT.int .i32).holds z) : Spec Try.prog 21 [.d x.flat x, .d y.flat y, .d u.flat u, .d z.flat z] none ⟨True, .d true (.v (.bool true)), none⟩ := by
  obtain ⟨xs, rfl, hx⟩ := h
  obtain ⟨l, rfl, hl⟩ := ints_of hx
  obtain ⟨ys, rfl, hy⟩ := h2
  obtain ⟨m, rfl, hm⟩ := ints_of hy
  obtain ⟨w, rfl⟩ := h4
  obtain ⟨c, rfl, hc⟩ := h3
  have := bounds_i32 hc
  exact s21 l m (fun n hn => by have := bounds_u16 (hl n hn); omega) (fun n hn => by have := bounds_u16 (hm n hn); omega) w c (by omega) (by omega)
end Go.AM

