/- AM: GroupAgrees. -/
import Derived.Test.YtmfobkiljlepjaaC48
import Derived.Test.YtmfobkiljlepjaaG4
import Derived.Test.YtmfobkiljlepjaaG8
import Derived.Test.YtmfobkiljlepjaaG12
set_option maxRecDepth 100000
set_option maxHeartbeats 8000000
set_option linter.unusedSimpArgs false
set_option linter.unusedVariables false
namespace Go.AM
open Go Go.Proofs



theorem s19 (gs hs : List Int) (hg : W32 gs) (hh : W16 hs) (c : Int) (hc0 : -2147483648 ≤ c) (hc1 : c ≤ 2147483647) : Spec Try.prog 19 [.d false (.sl 1 (ints .u32 gs)), .d false (.sl 1 (ints .u16 hs)), .d true (.v (.int .i32 c))] none ⟨True, .d true (.v (.bool true)), none⟩ := by
  have hf40 : F74 40 = e40 := rfl
  have hf41 : F74 41 = e41 := rfl
  have hf42 : F74 42 = e42 := rfl
  have hf43 : F74 43 = e43 := rfl
  have hf46 : F74 46 = e46 := rfl
  have hf51 : F74 51 = e51 := rfl
  have hf52 : F74 52 = e52 := rfl
  have hf56 : F74 56 = e56 := rfl
  have hG := (Gf_ok F74_ok)
  have hfs := And.intro @hf40 (And.intro @e40.eq_1 (And.intro @hf41 (And.intro @e41.eq_1 (And.intro @hf42 (And.intro @e42.eq_1 (And.intro @hf43 (And.intro @e43.eq_1 (And.intro @hf46 (And.intro @e46.eq_1 (And.intro @hf51 (And.intro @e51.eq_1 (And.intro @hf52 (And.intro @e52.eq_1 (And.intro @hf56 (And.intro @e56.eq_1 (And.intro @evP (And.intro @evS (And.intro @toPrs_prs (And.intro @toPrs_prs9 (And.intro @toSps_sps @toSgs_sgs))))))))))))))))))))
  have hxs := @Nat.add_zero
  refine spec_of_awp (Gf_ok F74_ok) Try.func19 rfl (Nat.le_of_ble_eq_true rfl) fun E hps hN _ => ?_
  simp only [begin, List.zipIdx_cons, List.zipIdx_nil, List.map_cons, List.map_nil, Option.toList, Nat.zero_add, Nat.reduceAdd]
  repeat refine AWP.nest ?_
  first | refine rsa hG [] [0, 1, 2] fun K hK => ?_ | refine rna hG [] [0, 1, 2] fun K hK => ?_
  repeat first | ((with_reducible refine shN ?_); refine sL ?_) | ((with_reducible refine shG ?_); refine sG ?_)
  refine Eq.mpr evalL_nil (hK _ ?_)
  clear hK K
  simp only [evU, St.keep, List.map_cons, look, reduceIte, Nat.reduceEqDiff]
  try show AWP _ _ _ _ _
  repeat refine AWP.nest ?_
  first | refine rsa hG [] [0, 1, 2, 19] fun K hK => ?_ | refine rna hG [] [0, 1, 2, 19] fun K hK => ?_
  repeat first | ((with_reducible refine shN ?_); refine sL ?_) | ((with_reducible refine shG ?_); refine sG ?_)
  refine Eq.mpr evalL_nil (hK _ ?_)
  clear hK K
  simp only [evU, St.keep, List.map_cons, look, reduceIte, Nat.reduceEqDiff]
  try show AWP _ _ _ _ _
  repeat refine AWP.nest ?_
  first | refine AWP.seq (AWP.cond (b := _) rfl (fun hc => ?_) (fun hc => ?_)) | refine AWP.cond (b := _) rfl (fun hc => ?_) (fun hc => ?_)
  all_goals try simp only [evC] at hc
  · cases hc
  refine AWP.skip ?_
  show AWP _ _ _ _ _
  clear hc
  repeat refine AWP.nest ?_
  first | refine rsa hG [] [2, 7] fun K hK => ?_ | refine rna hG [] [2, 7] fun K hK => ?_
  repeat first | ((with_reducible refine shN ?_); refine sL ?_) | ((with_reducible refine shG ?_); refine sG ?_)
  refine Eq.mpr evalL_nil (hK _ ?_)
  clear hK K
  simp only [evU, St.keep, List.map_cons, look, reduceIte, Nat.reduceEqDiff]
  try show AWP _ _ _ _ _
  have hr := rsg_rises (md := 60000) (lim := 1114111) (by decide) (k := 40) (a := -1) (gs := gs) hh (by decide) (by decide)
  have hp := rsg_ok (md := 60000) (lim := 1114111) (by decide) (k := 40) (a := -1) (gs := gs) hh (by decide) (by decide)
  have hl := rsg_len (md := 60000) (lim := 1114111) (k := 40) (a := -1) (gs := gs) (hs := hs)
  generalize rsg 60000 1114111 40 (-1) gs hs = r at hr hp hl ⊢
  repeat refine AWP.nest ?_
  first | refine rsa hG [] [2, 7, 9] fun K hK => ?_ | refine rna hG [] [2, 7, 9] fun K hK => ?_
  repeat first | ((with_reducible refine shN ?_); refine sL ?_) | ((with_reducible refine shG ?_); refine sG ?_)
  refine Eq.mpr evalL_nil (hK _ ?_)
  clear hK K
  simp only [evU, St.keep, List.map_cons, look, reduceIte, Nat.reduceEqDiff]
  try show AWP _ _ _ _ _
  repeat refine AWP.nest ?_
  first | refine rsa hG [] [2, 9, 26, 27, 28] fun K hK => ?_ | refine rna hG [] [2, 9, 26, 27, 28] fun K hK => ?_
  repeat first | ((with_reducible refine shN ?_); refine sL ?_) | ((with_reducible refine shG ?_); refine sG ?_)
  refine Eq.mpr evalL_nil (hK _ ?_)
  clear hK K
  simp only [evU, St.keep, List.map_cons, look, reduceIte, Nat.reduceEqDiff]
  try show AWP _ _ _ _ _
  refine AWP.adopt 9 55 2 (by decide) rfl ?_
  refine AWP.keep [2, 9, 26, 27, 28] ?_
  simp only [St.keep, List.map_cons, List.map_nil, look, reduceIte, Nat.reduceEqDiff]
  simp only [St.adopt, List.nil_append, List.length_nil]
  repeat refine AWP.nest ?_
  first | refine AWP.seq (AWP.block ?_) | refine AWP.block ?_
  refine AWP.loop (fun k st => ∃ (i : Nat), i ≤ r.length ∧ k = r.length - i ∧ st = ⟨[(2, .d true (.v (.int .i32 c))), (9, .own 0 (below (r.take i)).length), (26, .d true (.sl 2 (prs r))), (27, .d true (.v (.int .i64 (r.length : Int)))), (28, .d true (.v (.int .i64 (i : Int))))], [some (.row 55 2 (below (r.take i)).length true (prs (below (r.take i))))]⟩) (r.length) ?_ ?_
  · exact ⟨0, Nat.zero_le _, rfl, rfl⟩
  rintro k st ⟨i, hi, hk, rfl⟩
  have hbl := below_len (r.take i)
  have htl : (r.take i).length ≤ r.length := by rw [List.length_take]; omega
  repeat refine AWP.nest ?_
  first | refine rsa hG [] [2, 9, 26, 27, 28, 29] fun K hK => ?_ | refine rna hG [] [2, 9, 26, 27, 28, 29] fun K hK => ?_
  repeat first | ((with_reducible refine shN ?_); refine sL ?_) | ((with_reducible refine shG ?_); refine sG ?_)
  refine Eq.mpr evalL_nil (hK _ ?_)
  clear hK K
  simp only [evU, St.keep, List.map_cons, look, reduceIte, Nat.reduceEqDiff]
  try show AWP _ _ _ _ _
  first | refine AWP.seq (AWP.cond (b := _) rfl (fun hc => ?_) (fun hc => ?_)) | refine AWP.cond (b := _) rfl (fun hc => ?_) (fun hc => ?_)
  rotate_left
  · refine AWP.exit ?_
    show AWP _ _ _ _ _
    simp only [evC, Int.not_lt] at hc
    obtain rfl : i = r.length := by omega
    rw [List.take_length] at hbl ⊢
    clear hk hi hc htl
    obtain ⟨hb1, hb2⟩ := below_rises hr
    have hbp := below_pr hp
    generalize below r = s at hbl hb1 hb2 hbp ⊢
    have hsl : s.length ≤ 1000000 := by omega
    have hsl2 : s.length ≤ 7000 := by omega
    obtain ⟨R, B, eR, eB, hB, hBb, hBl, h3, h4, hmap, hRl, hlk⟩ := built_facts hb2 hbp hsl
    obtain ⟨M, D, eD0, hM, hDb, hMl, hDl, h5, h6, h7, hmapS, hlkS⟩ := built_factsS hb1 hbp hsl2
    have hsame : ∀ x, lookS M D x = lookG R x := fun x => by
      rw [hlkS, hlk]
      by_cases hx : x < 0 ∨ 65535 < x
      · rw [if_pos hx, lk_out hb1 (by omega)]
      · rw [if_neg hx]
    have hbd : ∀ x, 0 ≤ lookG R x ∧ lookG R x ≤ 65535 := fun x => lookG_bd hmap x
    have eI : (if rightG B = true then (0 : Int) else 2) = 0 := by rw [h3]; rfl
    have eJ : (if rightS D = true then (0 : Int) else 2) = 0 := by rw [h5]; rfl
    have ⟨m1, m2, m3⟩ := hmapS
    have ⟨g1, g2, g3, g4⟩ := hmap
    clear eR hB hM hMl hlk hlkS
    refine AWP.frz 0 (by rw [hps]; decide) rfl ?_
    simp only [St.frz, Ob.frz, AV.frz, AV.frz1, Option.map_none, mkAgg, datas, Dat.nagg, List.map_cons, List.map_nil, Option.map_some, and_self, true_and, and_true, reduceIte, Nat.reduceEqDiff, List.set_cons_zero, List.set_cons_succ, Bool.and_true, Bool.true_and]
    repeat refine AWP.nest ?_
    have hxs := And.intro @eB (And.intro @h3 (And.intro @h4 @eI))
    first | refine rsa hG [] [2, 9, 12, 13] fun K hK => ?_ | refine rna hG [] [2, 9, 12, 13] fun K hK => ?_
    repeat first | ((with_reducible refine shN ?_); refine sL ?_) | ((with_reducible refine shG ?_); refine sG ?_)
    refine Eq.mpr evalL_nil (hK _ ?_)
    clear hK K hxs
    simp only [evU, St.keep, List.map_cons, look, reduceIte, Nat.reduceEqDiff]
    try show AWP _ _ _ _ _
    repeat refine AWP.nest ?_
    have hxs := And.intro @eD0 (And.intro @h6 (And.intro @h7 @eJ))
    first | refine rsa hG [] [2, 9, 12, 13, 14, 15] fun K hK => ?_ | refine rna hG [] [2, 9, 12, 13, 14, 15] fun K hK => ?_
    repeat first | ((with_reducible refine shN ?_); refine sL ?_) | ((with_reducible refine shG ?_); refine sG ?_)
    refine Eq.mpr evalL_nil (hK _ ?_)
    clear hK K hxs
    simp only [evU, St.keep, List.map_cons, look, reduceIte, Nat.reduceEqDiff]
    try show AWP _ _ _ _ _
    repeat refine AWP.nest ?_
    first | refine rsa hG [] [2, 9, 12, 14, 57] fun K hK => ?_ | refine rna hG [] [2, 9, 12, 14, 57] fun K hK => ?_
    repeat first | ((with_reducible refine shN ?_); refine sL ?_) | ((with_reducible refine shG ?_); refine sG ?_)
    refine Eq.mpr evalL_nil (hK _ ?_)
    clear hK K
    simp only [evU, St.keep, List.map_cons, look, reduceIte, Nat.reduceEqDiff]
    try show AWP _ _ _ _ _
    repeat refine AWP.nest ?_
    first | refine AWP.seq (AWP.cond (b := _) rfl (fun hc => ?_) (fun hc => ?_)) | refine AWP.cond (b := _) rfl (fun hc => ?_) (fun hc => ?_)
    all_goals try simp only [evC] at hc
    · exfalso
      simp at hc
    refine AWP.skip ?_
    show AWP _ _ _ _ _
    clear hc
    repeat refine AWP.nest ?_
    first | refine rsa hG [] [2, 12, 14, 58, 59, 60] fun K hK => ?_ | refine rna hG [] [2, 12, 14, 58, 59, 60] fun K hK => ?_
    repeat first | ((with_reducible refine shN ?_); refine sL ?_) | ((with_reducible refine shG ?_); refine sG ?_)
    refine Eq.mpr evalL_nil (hK _ ?_)
    clear hK K
    simp only [evU, St.keep, List.map_cons, look, reduceIte, Nat.reduceEqDiff]
    try show AWP _ _ _ _ _
    repeat refine AWP.nest ?_
    first | refine AWP.seq (AWP.block ?_) | refine AWP.block ?_
    refine AWP.loop (fun k st => ∃ (i : Nat), i ≤ s.length ∧ k = s.length - i ∧ st = ⟨[(2, .d true (.v (.int .i32 c))), (12, .ptr 1 0), (14, .ptr 2 0), (58, .d true (.sl 2 (prs s))), (59, .d true (.v (.int .i64 (s.length : Int)))), (60, .d true (.v (.int .i64 (i : Int))))], [none, some (.cells 47 [.d true (.sl 3 (sps R))]), some (.cells 69 [.d true (.sl 4 (sgs M)), .d true (.sl 1 (ints .u8 D))])]⟩) (s.length) ?_ ?_
    · exact ⟨0, Nat.zero_le _, rfl, rfl⟩
    rintro k st ⟨i, hi, hk, rfl⟩
    repeat refine AWP.nest ?_
    first | refine rsa hG [] [2, 12, 14, 58, 59, 60, 61] fun K hK => ?_ | refine rna hG [] [2, 12, 14, 58, 59, 60, 61] fun K hK => ?_
    repeat first | ((with_reducible refine shN ?_); refine sL ?_) | ((with_reducible refine shG ?_); refine sG ?_)
    refine Eq.mpr evalL_nil (hK _ ?_)
    clear hK K
    simp only [evU, St.keep, List.map_cons, look, reduceIte, Nat.reduceEqDiff]
    try show AWP _ _ _ _ _
    first | refine AWP.seq (AWP.cond (b := _) rfl (fun hc => ?_) (fun hc => ?_)) | refine AWP.cond (b := _) rfl (fun hc => ?_) (fun hc => ?_)
    rotate_left
    · refine AWP.exit ?_
      show AWP _ _ _ _ _
      simp only [evC, Int.not_lt] at hc
      repeat refine AWP.nest ?_
      have hxs := @hsame
      first | refine rda hG [] [6] Try.mixed fun K hK => ?_ | refine dna hG [] [6] Try.mixed fun K hK => ?_
      repeat first | ((with_reducible refine shD ?_); refine sD ?_) | ((with_reducible refine shDG ?_); refine sDG ?_)
      refine evalD_done (by kernel_rfl) (hK _ ?_)
      clear hK K hxs
      simp only [evU, St.keep, List.map_cons, look, reduceIte, Nat.reduceEqDiff]
      try show AWP _ _ _ _ _
      refine AWP.ret ?_
      refine ⟨.inl rfl, ⟨⟨_, rfl, ?_⟩, fun ob hob => by cases hob⟩⟩
      simp only [look, reduceIte, Nat.reduceEqDiff]
      refine sub1_of ?_
      simp
    simp only [evC, Int.not_lt] at hc
    refine AWP.skip ?_
    show AWP _ _ _ _ _
    have hi' := hc
    clear hc
    have hx := rises_at hb2 hi'
    have hxc : 0 ≤ (s.getD i (0, 0)).1 ∧ (s.getD i (0, 0)).1 ≤ 1114111 := ⟨hx.1, hx.2.1⟩
    repeat refine AWP.nest ?_
    first | refine AWP.seq (AWP.block ?_) | refine AWP.block ?_
    repeat refine AWP.nest ?_
    first | refine rsa hG [] [2, 12, 14, 17, 58, 59, 60] fun K hK => ?_ | refine rna hG [] [2, 12, 14, 17, 58, 59, 60] fun K hK => ?_
    repeat first | ((with_reducible refine shN ?_); refine sL ?_) | ((with_reducible refine shG ?_); refine sG ?_)
    refine Eq.mpr evalL_nil (hK _ ?_)
    clear hK K
    simp only [evU, St.keep, List.map_cons, look, reduceIte, Nat.reduceEqDiff]
    try show AWP _ _ _ _ _
    generalize s.getD i (0, 0) = x at hxc ⊢
    repeat refine AWP.nest ?_
    have hxs := @hsame
    first | refine rda hG [] [2, 12, 14, 58, 59, 60, 85] Try.mixed fun K hK => ?_ | refine dna hG [] [2, 12, 14, 58, 59, 60, 85] Try.mixed fun K hK => ?_
    repeat first | ((with_reducible refine shD ?_); refine sD ?_) | ((with_reducible refine shDG ?_); refine sDG ?_)
    refine evalD_done (by kernel_rfl) (hK _ ?_)
    clear hK K hxs
    simp only [evU, St.keep, List.map_cons, look, reduceIte, Nat.reduceEqDiff]
    try show AWP _ _ _ _ _
    repeat refine AWP.nest ?_
    first | refine AWP.seq (AWP.cond (b := _) rfl (fun hc => ?_) (fun hc => ?_)) | refine AWP.cond (b := _) rfl (fun hc => ?_) (fun hc => ?_)
    all_goals try simp only [evC] at hc
    · exfalso
      simp at hc
    refine AWP.skip ?_
    show AWP _ _ _ _ _
    refine AWP.trunc 3 (by rw [hps]; decide) rfl ?_
    simp only [St.trunc, List.take_zero, List.take_succ_cons]
    repeat refine AWP.nest ?_
    first | refine rsa hG [] [2, 12, 14, 58, 59, 60] fun K hK => ?_ | refine rna hG [] [2, 12, 14, 58, 59, 60] fun K hK => ?_
    repeat first | ((with_reducible refine shN ?_); refine sL ?_) | ((with_reducible refine shG ?_); refine sG ?_)
    refine Eq.mpr evalL_nil (hK _ ?_)
    clear hK K
    simp only [evU, St.keep, List.map_cons, look, reduceIte, Nat.reduceEqDiff]
    try show AWP _ _ _ _ _
    exact ⟨s.length - (i + 1), by omega, i + 1, by omega, rfl, rfl⟩
  simp only [evC, Int.not_lt] at hc
  refine AWP.skip ?_
  show AWP _ _ _ _ _
  have hi' := hc
  clear hc
  have hsn := below_snoc hi'
  repeat refine AWP.nest ?_
  first | refine AWP.seq (AWP.block ?_) | refine AWP.block ?_
  repeat refine AWP.nest ?_
  first | refine rsa hG [] [2, 9, 11, 26, 27, 28] fun K hK => ?_ | refine rna hG [] [2, 9, 11, 26, 27, 28] fun K hK => ?_
  repeat first | ((with_reducible refine shN ?_); refine sL ?_) | ((with_reducible refine shG ?_); refine sG ?_)
  refine Eq.mpr evalL_nil (hK _ ?_)
  clear hK K
  simp only [evU, St.keep, List.map_cons, look, reduceIte, Nat.reduceEqDiff]
  try show AWP _ _ _ _ _
  repeat refine AWP.nest ?_
  first | refine rsa hG [] [2, 9, 11, 26, 27, 28, 34] fun K hK => ?_ | refine rna hG [] [2, 9, 11, 26, 27, 28, 34] fun K hK => ?_
  repeat first | ((with_reducible refine shN ?_); refine sL ?_) | ((with_reducible refine shG ?_); refine sG ?_)
  refine Eq.mpr evalL_nil (hK _ ?_)
  clear hK K
  simp only [evU, St.keep, List.map_cons, look, reduceIte, Nat.reduceEqDiff]
  try show AWP _ _ _ _ _
  repeat refine AWP.nest ?_
  first | refine AWP.seq (AWP.cond (b := _) rfl (fun hc => ?_) (fun hc => ?_)) | refine AWP.cond (b := _) rfl (fun hc => ?_) (fun hc => ?_)
  all_goals try simp only [evC] at hc
  · rw [if_pos hc] at hsn
    repeat refine AWP.nest ?_
    first | refine rsa hG [] [2, 9, 26, 27, 28] fun K hK => ?_ | refine rna hG [] [2, 9, 26, 27, 28] fun K hK => ?_
    repeat first | ((with_reducible refine shN ?_); refine sL ?_) | ((with_reducible refine shG ?_); refine sG ?_)
    refine Eq.mpr evalL_nil (hK _ ?_)
    clear hK K
    simp only [evU, St.keep, List.map_cons, look, reduceIte, Nat.reduceEqDiff]
    try show AWP _ _ _ _ _
    refine AWP.trunc 1 (by rw [hps]; decide) rfl ?_
    simp only [St.trunc, List.take_zero, List.take_succ_cons]
    repeat refine AWP.nest ?_
    first | refine rsa hG [] [2, 9, 26, 27, 28] fun K hK => ?_ | refine rna hG [] [2, 9, 26, 27, 28] fun K hK => ?_
    repeat first | ((with_reducible refine shN ?_); refine sL ?_) | ((with_reducible refine shG ?_); refine sG ?_)
    refine Eq.mpr evalL_nil (hK _ ?_)
    clear hK K
    simp only [evU, St.keep, List.map_cons, look, reduceIte, Nat.reduceEqDiff]
    try show AWP _ _ _ _ _
    refine ⟨r.length - (i + 1), by omega, i + 1, by omega, rfl, ?_⟩
    rw [hsn, List.length_append]
    rfl
  refine AWP.skip ?_
  show AWP _ _ _ _ _
  rw [if_neg hc] at hsn
  refine AWP.keep [2, 9, 26, 27, 28] ?_
  simp only [St.keep, List.map_cons, List.map_nil, look, reduceIte, Nat.reduceEqDiff]
  refine AWP.trunc 1 (by rw [hps]; decide) rfl ?_
  simp only [St.trunc, List.take_zero, List.take_succ_cons]
  repeat refine AWP.nest ?_
  first | refine rsa hG [] [2, 9, 26, 27, 28] fun K hK => ?_ | refine rna hG [] [2, 9, 26, 27, 28] fun K hK => ?_
  repeat first | ((with_reducible refine shN ?_); refine sL ?_) | ((with_reducible refine shG ?_); refine sG ?_)
  refine Eq.mpr evalL_nil (hK _ ?_)
  clear hK K
  simp only [evU, St.keep, List.map_cons, look, reduceIte, Nat.reduceEqDiff]
  try show AWP _ _ _ _ _
  refine ⟨r.length - (i + 1), by omega, i + 1, by omega, rfl, ?_⟩
  rw [hsn]
  rfl
theorem law19 (x : Dat) (h : (AT.sl 25 (.int .u32)).holds x) (y : Dat) (h2 : (AT.sl 53 (.int .u16)).holds y) (z : Dat) (h3 : (AT.int .i32).holds z) : Spec Try.prog 19 [.d x.flat x, .d y.flat y, .d z.flat z] none ⟨True, .d true (.v (.bool true)), none⟩ := by
  obtain ⟨xs, rfl, hx⟩ := h
  obtain ⟨l, rfl, hl⟩ := ints_of hx
  obtain ⟨ys, rfl, hy⟩ := h2
  obtain ⟨m, rfl, hm⟩ := ints_of hy
  obtain ⟨c, rfl, hc⟩ := h3
  have := bounds_i32 hc
  exact s19 l m (fun n hn => by have := bounds_u32 (hl n hn); omega) (fun n hn => by have := bounds_u16 (hm n hn); omega) c (by omega) (by omega)
end Go.AM

