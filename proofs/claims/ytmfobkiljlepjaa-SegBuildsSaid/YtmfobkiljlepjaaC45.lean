/- AM: SegBuilds. -/
import Derived.Test.YtmfobkiljlepjaaC43
import Derived.Test.YtmfobkiljlepjaaC42
import Derived.Test.YtmfobkiljlepjaaG8
set_option maxRecDepth 100000
set_option maxHeartbeats 8000000
set_option linter.unusedSimpArgs false
set_option linter.unusedVariables false
namespace Go.AM
open Go Go.Proofs

def F68 : FT := F67.upd 53 e53
theorem F68_ok : FOK Try.prog F68 := FOK.upd F67_ok Try.func53 (by kernel_rfl) rfl fun args i R h => (F92_ok 53 args i R h).2


theorem s13 (gs hs : List Int) (hg : W16 gs) (hh : W16 hs) (c : Int) (hc0 : -2147483648 ≤ c) (hc1 : c ≤ 2147483647) : Spec Try.prog 13 [.d false (.sl 1 (ints .u16 gs)), .d false (.sl 1 (ints .u16 hs)), .d true (.v (.int .i32 c))] none ⟨True, .d true (.v (.bool true)), none⟩ := by
  have hf37 : F68 37 = e37 := rfl
  have hf49 : F68 49 = e49 := rfl
  have hf50 : F68 50 = e50 := rfl
  have hf51 : F68 51 = e51 := rfl
  have hf52 : F68 52 = e52 := rfl
  have hf53 : F68 53 = e53 := rfl
  have hf54 : F68 54 = e54 := rfl
  have hf55 : F68 55 = e55 := rfl
  have hf56 : F68 56 = e56 := rfl
  have hG := (Gf_ok F68_ok)
  have hfs := And.intro @hf37 (And.intro @e37.eq_1 (And.intro @hf49 (And.intro @e49.eq_1 (And.intro @hf50 (And.intro @e50.eq_1 (And.intro @hf51 (And.intro @e51.eq_1 (And.intro @hf52 (And.intro @e52.eq_1 (And.intro @hf53 (And.intro @e53.eq_1 (And.intro @hf54 (And.intro @e54.eq_1 (And.intro @hf55 (And.intro @e55.eq_1 (And.intro @hf56 (And.intro @e56.eq_1 (And.intro @evP (And.intro @evS (And.intro @toPrs_prs (And.intro @toPrs_prs9 @toSgs_sgs)))))))))))))))))))))
  have hxs := @Nat.add_zero
  refine spec_of_awp (Gf_ok F68_ok) Try.func13 rfl (Nat.le_of_ble_eq_true rfl) fun E hps hN _ => ?_
  simp only [begin, List.zipIdx_cons, List.zipIdx_nil, List.map_cons, List.map_nil, Option.toList, Nat.zero_add, Nat.reduceAdd]
  repeat refine AWP.nest ?_
  first | refine rsa hG [] [0, 1, 2] fun K hK => ?_ | refine rna hG [] [0, 1, 2] fun K hK => ?_
  repeat first | ((with_reducible refine shN ?_); refine sL ?_) | ((with_reducible refine shG ?_); refine sG ?_)
  refine Eq.mpr evalL_nil (hK _ ?_)
  clear hK K
  simp only [evU, St.keep, List.map_cons, look, reduceIte, Nat.reduceEqDiff]
  try show AWP _ _ _ _ _
  repeat refine AWP.nest ?_
  first | refine rsa hG [] [0, 1, 2, 16] fun K hK => ?_ | refine rna hG [] [0, 1, 2, 16] fun K hK => ?_
  repeat first | ((with_reducible refine shN ?_); refine sL ?_) | ((with_reducible refine shG ?_); refine sG ?_)
  refine Eq.mpr evalL_nil (hK _ ?_)
  clear hK K
  simp only [evU, St.keep, List.map_cons, look, reduceIte, Nat.reduceEqDiff]
  try show AWP _ _ _ _ _
  repeat refine AWP.nest ?_
  first | refine AWP.seq (AWP.cond (b := _) rfl (fun hc => ?_) (fun hc => ?_)) | refine AWP.cond (b := _) rfl (fun hc => ?_) (fun hc => ?_)
  all_goals try simp only [evC] at hc
  · cases hc
  refine AWP.skip ?_
  show AWP _ _ _ _ _
  clear hc
  repeat refine AWP.nest ?_
  first | refine rsa hG [] [2, 7, 8] fun K hK => ?_ | refine rna hG [] [2, 7, 8] fun K hK => ?_
  repeat first | ((with_reducible refine shN ?_); refine sL ?_) | ((with_reducible refine shG ?_); refine sG ?_)
  refine Eq.mpr evalL_nil (hK _ ?_)
  clear hK K
  simp only [evU, St.keep, List.map_cons, look, reduceIte, Nat.reduceEqDiff]
  try show AWP _ _ _ _ _
  have hr := rsg_rises (md := 2000) (lim := 65534) (by decide) (k := 40) (a := -1) (gs := gs) hh (by decide) (by decide)
  have hp := rsg_ok (md := 2000) (lim := 65534) (by decide) (k := 40) (a := -1) (gs := gs) hh (by decide) (by decide)
  have hl := rsg_len (md := 2000) (lim := 65534) (k := 40) (a := -1) (gs := gs) (hs := hs)
  generalize rsg 2000 65534 40 (-1) gs hs = r at hr hp hl ⊢
  have hl6 : r.length ≤ 1000000 := by omega
  have hl7 : r.length ≤ 7000 := by omega
  obtain ⟨M, B, eB, hM, hBb, hMl, hBl, h3, h4, h5, hmap, hlk⟩ := built_factsS hr hp hl7
  have eB2 : tabS (allQ r) = B := by rw [← eB]; unfold buildS; rw [if_pos hr]
  have eI : (if rightS B = true then (0 : Int) else 2) = 0 := by rw [h3]; rfl
  have ⟨m1, m2, m3⟩ := hmap
  have hML : (M.length : Int) = ((runsQ r r.length).length : Int) + 1 := by omega
  have hrl := runsQ_len r r.length
  clear hM hMl
  repeat refine AWP.nest ?_
  have hxs := @eB
  first | refine rsa hG [] [2, 7, 8, 9] fun K hK => ?_ | refine rna hG [] [2, 7, 8, 9] fun K hK => ?_
  repeat first | ((with_reducible refine shN ?_); refine sL ?_) | ((with_reducible refine shG ?_); refine sG ?_)
  refine Eq.mpr evalL_nil (hK _ ?_)
  clear hK K hxs
  simp only [evU, St.keep, List.map_cons, look, reduceIte, Nat.reduceEqDiff]
  try show AWP _ _ _ _ _
  repeat refine AWP.nest ?_
  have hxs := And.intro @h4 (And.intro @h5 @eI)
  first | refine rsa hG [] [2, 7, 8, 9, 10, 11] fun K hK => ?_ | refine rna hG [] [2, 7, 8, 9, 10, 11] fun K hK => ?_
  repeat first | ((with_reducible refine shN ?_); refine sL ?_) | ((with_reducible refine shG ?_); refine sG ?_)
  refine Eq.mpr evalL_nil (hK _ ?_)
  clear hK K hxs
  simp only [evU, St.keep, List.map_cons, look, reduceIte, Nat.reduceEqDiff]
  try show AWP _ _ _ _ _
  repeat refine AWP.nest ?_
  have hxs := And.intro @eB2 @hML
  first | refine rsa hG [] [2, 7, 10, 46] fun K hK => ?_ | refine rna hG [] [2, 7, 10, 46] fun K hK => ?_
  repeat first | ((with_reducible refine shN ?_); refine sL ?_) | ((with_reducible refine shG ?_); refine sG ?_)
  refine Eq.mpr evalL_nil (hK _ ?_)
  clear hK K hxs
  simp only [evU, St.keep, List.map_cons, look, reduceIte, Nat.reduceEqDiff]
  try show AWP _ _ _ _ _
  repeat refine AWP.nest ?_
  first | refine AWP.seq (AWP.cond (b := _) rfl (fun hc => ?_) (fun hc => ?_)) | refine AWP.cond (b := _) rfl (fun hc => ?_) (fun hc => ?_)
  all_goals try simp only [evC] at hc
  · exfalso
    simp at hc
  refine AWP.skip ?_
  show AWP _ _ _ _ _
  clear hc
  repeat refine AWP.nest ?_
  first | refine rsa hG [] [2, 7, 10, 12] fun K hK => ?_ | refine rna hG [] [2, 7, 10, 12] fun K hK => ?_
  repeat first | ((with_reducible refine shN ?_); refine sL ?_) | ((with_reducible refine shG ?_); refine sG ?_)
  refine Eq.mpr evalL_nil (hK _ ?_)
  clear hK K
  simp only [evU, St.keep, List.map_cons, look, reduceIte, Nat.reduceEqDiff]
  try show AWP _ _ _ _ _
  repeat refine AWP.nest ?_
  first | refine rsa hG [] [2, 10, 12, 47, 48, 49] fun K hK => ?_ | refine rna hG [] [2, 10, 12, 47, 48, 49] fun K hK => ?_
  repeat first | ((with_reducible refine shN ?_); refine sL ?_) | ((with_reducible refine shG ?_); refine sG ?_)
  refine Eq.mpr evalL_nil (hK _ ?_)
  clear hK K
  simp only [evU, St.keep, List.map_cons, look, reduceIte, Nat.reduceEqDiff]
  try show AWP _ _ _ _ _
  repeat refine AWP.nest ?_
  first | refine AWP.seq (AWP.block ?_) | refine AWP.block ?_
  refine AWP.loop (fun k st => ∃ (i : Nat), i ≤ r.length ∧ k = r.length - i ∧ st = ⟨[(2, .d true (.v (.int .i32 c))), (10, .ptr 0 0), (12, .d true (.v (.int .u16 (lkP (r.take i) c)))), (47, .d true (.sl 2 (prs r))), (48, .d true (.v (.int .i64 (r.length : Int)))), (49, .d true (.v (.int .i64 (i : Int))))], [some (.cells 69 [.d true (.sl 4 (sgs M)), .d true (.sl 1 (ints .u8 B))])]⟩) (r.length) ?_ ?_
  · exact ⟨0, Nat.zero_le _, rfl, rfl⟩
  rintro k st ⟨i, hi, hk, rfl⟩
  repeat refine AWP.nest ?_
  first | refine rsa hG [] [2, 10, 12, 47, 48, 49, 50] fun K hK => ?_ | refine rna hG [] [2, 10, 12, 47, 48, 49, 50] fun K hK => ?_
  repeat first | ((with_reducible refine shN ?_); refine sL ?_) | ((with_reducible refine shG ?_); refine sG ?_)
  refine Eq.mpr evalL_nil (hK _ ?_)
  clear hK K
  simp only [evU, St.keep, List.map_cons, look, reduceIte, Nat.reduceEqDiff]
  try show AWP _ _ _ _ _
  first | refine AWP.seq (AWP.cond (b := _) rfl (fun hc => ?_) (fun hc => ?_)) | refine AWP.cond (b := _) rfl (fun hc => ?_) (fun hc => ?_)
  rotate_left
  · refine AWP.exit ?_
    show AWP _ _ _ _ _
    simp only [evC, Int.not_lt] at hc
    obtain rfl : i = r.length := by omega
    rw [List.take_length]
    have q1 : lookS M B c = lkP r c := by
      rw [hlk]
      by_cases hx : c < 0 ∨ 65535 < c
      · rw [if_pos hx, lk_out hr (by omega)]
      · rw [if_neg hx]
    have q2 : lookS M B (-1) = 0 := by rw [hlk, if_pos (by omega)]
    have q3 : lookS M B 65535 = 0 := by rw [hlk, if_neg (by omega)]; exact lk_out hr (by omega)
    have q4 : lookS M B 65536 = 0 := by rw [hlk, if_pos (by omega)]
    repeat refine AWP.nest ?_
    have hxs := And.intro @q1 (And.intro @q2 (And.intro @q3 @q4))
    first | refine rsa hG [] [6] fun K hK => ?_ | refine rna hG [] [6] fun K hK => ?_
    repeat first | ((with_reducible refine shN ?_); refine sL ?_) | ((with_reducible refine shG ?_); refine sG ?_)
    refine Eq.mpr evalL_nil (hK _ ?_)
    clear hK K hxs
    simp only [evU, St.keep, List.map_cons, look, reduceIte, Nat.reduceEqDiff]
    try show AWP _ _ _ _ _
    refine AWP.ret ?_
    refine ⟨.inl rfl, ⟨⟨_, rfl, ?_⟩, fun ob hob => by cases hob⟩⟩
    simp only [look, reduceIte, Nat.reduceEqDiff]
    refine sub1_of ?_
    simp
  simp only [evC, Int.not_lt] at hc
  refine AWP.skip ?_
  show AWP _ _ _ _ _
  have hi' := hc
  clear hc
  have hx := rises_at hr hi'
  have hy := hp i
  have hyc : 0 ≤ (r.getD i (0, 0)).1 ∧ (r.getD i (0, 0)).1 ≤ 65534 := ⟨hx.1, hx.2.1⟩
  have hat := lk_at hr hi'
  have htk := lk_take hr hi' c
  have hla : lookS M B (cd r i) = gl r i := by rw [hlk, if_neg (by omega), hat]
  repeat refine AWP.nest ?_
  first | refine AWP.seq (AWP.block ?_) | refine AWP.block ?_
  repeat refine AWP.nest ?_
  first | refine rsa hG [] [2, 10, 12, 14, 47, 48, 49] fun K hK => ?_ | refine rna hG [] [2, 10, 12, 14, 47, 48, 49] fun K hK => ?_
  repeat first | ((with_reducible refine shN ?_); refine sL ?_) | ((with_reducible refine shG ?_); refine sG ?_)
  refine Eq.mpr evalL_nil (hK _ ?_)
  clear hK K
  simp only [evU, St.keep, List.map_cons, look, reduceIte, Nat.reduceEqDiff]
  try show AWP _ _ _ _ _
  repeat refine AWP.nest ?_
  first | refine rda hG [] [2, 10, 12, 14, 47, 48, 49, 59] Try.mixed fun K hK => ?_ | refine dna hG [] [2, 10, 12, 14, 47, 48, 49, 59] Try.mixed fun K hK => ?_
  repeat first | ((with_reducible refine shD ?_); refine sD ?_) | ((with_reducible refine shDG ?_); refine sDG ?_)
  refine evalD_done (by kernel_rfl) (hK _ ?_)
  clear hK K
  simp only [evU, St.keep, List.map_cons, look, reduceIte, Nat.reduceEqDiff]
  try show AWP _ _ _ _ _
  repeat refine AWP.nest ?_
  first | refine AWP.seq (AWP.cond (b := _) rfl (fun hc => ?_) (fun hc => ?_)) | refine AWP.cond (b := _) rfl (fun hc => ?_) (fun hc => ?_)
  all_goals try simp only [evC] at hc
  · exfalso
    exact hc hla
  refine AWP.skip ?_
  show AWP _ _ _ _ _
  clear hc
  repeat refine AWP.nest ?_
  first | refine rsa hG [] [2, 10, 12, 14, 47, 48, 49, 63] fun K hK => ?_ | refine rna hG [] [2, 10, 12, 14, 47, 48, 49, 63] fun K hK => ?_
  repeat first | ((with_reducible refine shN ?_); refine sL ?_) | ((with_reducible refine shG ?_); refine sG ?_)
  refine Eq.mpr evalL_nil (hK _ ?_)
  clear hK K
  simp only [evU, St.keep, List.map_cons, look, reduceIte, Nat.reduceEqDiff]
  try show AWP _ _ _ _ _
  repeat refine AWP.nest ?_
  first | refine AWP.seq (AWP.cond (b := _) rfl (fun hc => ?_) (fun hc => ?_)) | refine AWP.cond (b := _) rfl (fun hc => ?_) (fun hc => ?_)
  all_goals try simp only [evC] at hc
  · have e : (r.getD i (0, 0)).2 = lkP (r.take (i + 1)) c := by rw [htk, if_pos (show cd r i = c from hc)]; rfl
    repeat refine AWP.nest ?_
    first | refine rsa hG [] [2, 10, 12, 47, 48, 49] fun K hK => ?_ | refine rna hG [] [2, 10, 12, 47, 48, 49] fun K hK => ?_
    repeat first | ((with_reducible refine shN ?_); refine sL ?_) | ((with_reducible refine shG ?_); refine sG ?_)
    refine Eq.mpr evalL_nil (hK _ ?_)
    clear hK K
    simp only [evU, St.keep, List.map_cons, look, reduceIte, Nat.reduceEqDiff]
    try show AWP _ _ _ _ _
    refine AWP.trunc 1 (by rw [hps]; decide) rfl ?_
    simp only [St.trunc, List.take_zero, List.take_succ_cons]
    repeat refine AWP.nest ?_
    first | refine rsa hG [] [2, 10, 12, 47, 48, 49] fun K hK => ?_ | refine rna hG [] [2, 10, 12, 47, 48, 49] fun K hK => ?_
    repeat first | ((with_reducible refine shN ?_); refine sL ?_) | ((with_reducible refine shG ?_); refine sG ?_)
    refine Eq.mpr evalL_nil (hK _ ?_)
    clear hK K
    simp only [evU, St.keep, List.map_cons, look, reduceIte, Nat.reduceEqDiff]
    try show AWP _ _ _ _ _
    exact ⟨r.length - (i + 1), by omega, i + 1, by omega, rfl, by rw [e]; rfl⟩
  refine AWP.skip ?_
  show AWP _ _ _ _ _
  have e : lkP (r.take i) c = lkP (r.take (i + 1)) c := by rw [htk, if_neg (show ¬ cd r i = c from hc)]
  refine AWP.keep [2, 10, 12, 47, 48, 49] ?_
  simp only [St.keep, List.map_cons, List.map_nil, look, reduceIte, Nat.reduceEqDiff]
  refine AWP.trunc 1 (by rw [hps]; decide) rfl ?_
  simp only [St.trunc, List.take_zero, List.take_succ_cons]
  repeat refine AWP.nest ?_
  first | refine rsa hG [] [2, 10, 12, 47, 48, 49] fun K hK => ?_ | refine rna hG [] [2, 10, 12, 47, 48, 49] fun K hK => ?_
  repeat first | ((with_reducible refine shN ?_); refine sL ?_) | ((with_reducible refine shG ?_); refine sG ?_)
  refine Eq.mpr evalL_nil (hK _ ?_)
  clear hK K
  simp only [evU, St.keep, List.map_cons, look, reduceIte, Nat.reduceEqDiff]
  try show AWP _ _ _ _ _
  exact ⟨r.length - (i + 1), by omega, i + 1, by omega, rfl, by rw [e]; rfl⟩
theorem law13 (x : Dat) (h : (AT.sl 53 (.int .u16)).holds x) (y : Dat) (h2 : (AT.sl 53 (.int .u16)).holds y) (z : Dat) (h3 : (AT.int .i32).holds z) : Spec Try.prog 13 [.d x.flat x, .d y.flat y, .d z.flat z] none ⟨True, .d true (.v (.bool true)), none⟩ := by
  obtain ⟨xs, rfl, hx⟩ := h
  obtain ⟨l, rfl, hl⟩ := ints_of hx
  obtain ⟨ys, rfl, hy⟩ := h2
  obtain ⟨m, rfl, hm⟩ := ints_of hy
  obtain ⟨c, rfl, hc⟩ := h3
  have := bounds_i32 hc
  exact s13 l m (fun n hn => by have := bounds_u16 (hl n hn); omega) (fun n hn => by have := bounds_u16 (hm n hn); omega) c (by omega) (by omega)
end Go.AM

