/- AM: the laws of seg: rising; ref09.Runs. -/
import Derived.Test.YtmfobkiljlepjaaC37
import Derived.Test.YtmfobkiljlepjaaG11
set_option maxRecDepth 100000
set_option maxHeartbeats 8000000
set_option linter.unusedSimpArgs false
set_option linter.unusedVariables false
namespace Go.AM
open Go Go.Proofs



theorem s50 (gs hs : List Int) (hg : W16 gs) (hh : W16 hs) : Spec Try.prog 50 [.d false (.sl 1 (ints .u16 gs)), .d false (.sl 1 (ints .u16 hs))] none
    ⟨True, .tup [.d true (.sl 2 (prs (rsg 2000 65534 40 (-1) gs hs))), .d true (.sl 2 (prs9 (rsg 2000 65534 40 (-1) gs hs)))], none⟩ := by
  have hG := (Gf_ok F65_ok)
  have hfs := And.intro @evP (And.intro @evS (And.intro @toPrs_prs (And.intro @toPrs_prs9 @toSgs_sgs)))
  have hxs := @Nat.add_zero
  refine spec_of_awp (Gf_ok F65_ok) Try.func50 rfl (Nat.le_of_ble_eq_true rfl) fun E hps hN _ => ?_
  simp only [begin, List.zipIdx_cons, List.zipIdx_nil, List.map_cons, List.map_nil, Option.toList, Nat.zero_add, Nat.reduceAdd]
  repeat refine AWP.nest ?_
  first | refine rsa hG [] [0, 1] fun K hK => ?_ | refine rna hG [] [0, 1] fun K hK => ?_
  repeat first | ((with_reducible refine shN ?_); refine sL ?_) | ((with_reducible refine shG ?_); refine sG ?_)
  refine Eq.mpr evalL_nil (hK _ ?_)
  clear hK K
  simp only [evU, St.keep, List.map_cons, look, reduceIte, Nat.reduceEqDiff]
  try show AWP _ _ _ _ _
  repeat refine AWP.nest ?_
  first | refine rsa hG [] [0, 1, 6] fun K hK => ?_ | refine rna hG [] [0, 1, 6] fun K hK => ?_
  repeat first | ((with_reducible refine shN ?_); refine sL ?_) | ((with_reducible refine shG ?_); refine sG ?_)
  refine Eq.mpr evalL_nil (hK _ ?_)
  clear hK K
  simp only [evU, St.keep, List.map_cons, look, reduceIte, Nat.reduceEqDiff]
  try show AWP _ _ _ _ _
  repeat refine AWP.nest ?_
  first | refine rsa hG [] [0, 1, 6, 7] fun K hK => ?_ | refine rna hG [] [0, 1, 6, 7] fun K hK => ?_
  repeat first | ((with_reducible refine shN ?_); refine sL ?_) | ((with_reducible refine shG ?_); refine sG ?_)
  refine Eq.mpr evalL_nil (hK _ ?_)
  clear hK K
  simp only [evU, St.keep, List.map_cons, look, reduceIte, Nat.reduceEqDiff]
  try show AWP _ _ _ _ _
  repeat refine AWP.nest ?_
  first | refine rsa hG [] [0, 1, 6, 7, 8] fun K hK => ?_ | refine rna hG [] [0, 1, 6, 7, 8] fun K hK => ?_
  repeat first | ((with_reducible refine shN ?_); refine sL ?_) | ((with_reducible refine shG ?_); refine sG ?_)
  refine Eq.mpr evalL_nil (hK _ ?_)
  clear hK K
  simp only [evU, St.keep, List.map_cons, look, reduceIte, Nat.reduceEqDiff]
  try show AWP _ _ _ _ _
  refine AWP.len 0 rfl fun hlen => ?_
  refine AWP.len 1 rfl fun hlen2 => ?_
  rw [ints_length] at hlen hlen2
  repeat refine AWP.nest ?_
  first | refine rsa hG [] [1, 6, 7, 8, 11, 12, 13] fun K hK => ?_ | refine rna hG [] [1, 6, 7, 8, 11, 12, 13] fun K hK => ?_
  repeat first | ((with_reducible refine shN ?_); refine sL ?_) | ((with_reducible refine shG ?_); refine sG ?_)
  refine Eq.mpr evalL_nil (hK _ ?_)
  clear hK K
  simp only [evU, St.keep, List.map_cons, look, reduceIte, Nat.reduceEqDiff]
  try show AWP _ _ _ _ _
  refine AWP.adopt 6 55 2 (by decide) rfl ?_
  refine AWP.adopt 7 96 2 (by decide) rfl ?_
  refine AWP.keep [1, 6, 7, 8, 11, 12, 13] ?_
  simp only [St.adopt, St.keep, List.map_cons, List.map_nil, look, reduceIte, Nat.reduceEqDiff, List.nil_append, List.length_nil, List.cons_append, List.length_cons, Nat.reduceAdd]
  repeat refine AWP.nest ?_
  first | refine AWP.seq (AWP.block ?_) | refine AWP.block ?_
  refine AWP.loop (fun k st => ∃ (i : Nat) (a : Int) (r : List (Int × Int)), i ≤ gs.length ∧ k = gs.length - i ∧ -1 ≤ a ∧ a ≤ 65534 ∧ r.length = i ∧ i ≤ 40 ∧ r ++ rsg 2000 65534 (40 - i) a (gs.drop i) (hs.drop i) = rsg 2000 65534 40 (-1) gs hs ∧ st = ⟨[(1, .d false (.sl 1 (ints .u16 hs))), (6, .own 0 i), (7, .own 1 i), (8, .d true (.v (.int .i64 a))), (11, .d false (.sl 1 (ints .u16 gs))), (12, .d true (.v (.int .i64 (gs.length : Int)))), (13, .d true (.v (.int .i64 (i : Int))))], [some (.row 55 2 i true (prs r)), some (.row 96 2 i true (prs9 r))]⟩) (gs.length) ?_ ?_
  · exact ⟨0, -1, [], Nat.zero_le _, rfl, by decide, by decide, rfl, by decide, rfl, rfl⟩
  rintro k st ⟨i, a, r, hi, hk, ha0, ha1, hrl, hi40, hr, rfl⟩
  repeat refine AWP.nest ?_
  first | refine rsa hG [] [1, 6, 7, 8, 11, 12, 13, 14] fun K hK => ?_ | refine rna hG [] [1, 6, 7, 8, 11, 12, 13, 14] fun K hK => ?_
  repeat first | ((with_reducible refine shN ?_); refine sL ?_) | ((with_reducible refine shG ?_); refine sG ?_)
  refine Eq.mpr evalL_nil (hK _ ?_)
  clear hK K
  simp only [evU, St.keep, List.map_cons, look, reduceIte, Nat.reduceEqDiff]
  try show AWP _ _ _ _ _
  first | refine AWP.seq (AWP.cond (b := _) rfl (fun hc => ?_) (fun hc => ?_)) | refine AWP.cond (b := _) rfl (fun hc => ?_) (fun hc => ?_)
  rotate_left
  · refine AWP.exit ?_
    show AWP _ _ _ _ _
    simp only [evC, Int.not_lt] at hc
    have e : rsg 2000 65534 (40 - i) a (gs.drop i) (hs.drop i) = [] := rsg_stop (.inr (.inl (List.drop_eq_nil_of_le (by omega))))
    rw [e, List.append_nil] at hr
    subst hr
    repeat refine AWP.nest ?_
    first | refine rsa hG [] [4, 5] fun K hK => ?_ | refine rna hG [] [4, 5] fun K hK => ?_
    repeat first | ((with_reducible refine shN ?_); refine sL ?_) | ((with_reducible refine shG ?_); refine sG ?_)
    refine Eq.mpr evalL_nil (hK _ ?_)
    clear hK K
    simp only [evU, St.keep, List.map_cons, look, reduceIte, Nat.reduceEqDiff]
    try show AWP _ _ _ _ _
    refine AWP.frz 0 (by rw [hps]; decide) rfl ?_
    simp only [St.frz, Ob.frz, AV.frz, AV.frz1, Option.map_none, mkAgg, datas, Dat.nagg, List.map_cons, List.map_nil, Option.map_some, and_self, true_and, and_true, reduceIte, Nat.reduceEqDiff, List.set_cons_zero, List.set_cons_succ, Bool.and_true, Bool.true_and]
    refine AWP.frz 1 (by rw [hps]; decide) rfl ?_
    simp only [St.frz, Ob.frz, AV.frz, AV.frz1, Option.map_none, mkAgg, datas, Dat.nagg, List.map_cons, List.map_nil, Option.map_some, and_self, true_and, and_true, reduceIte, Nat.reduceEqDiff, List.set_cons_zero, List.set_cons_succ, Bool.and_true, Bool.true_and]
    refine AWP.ret ?_
    refine ⟨.inl rfl, ⟨⟨_, rfl, ?_⟩, fun ob hob => by cases hob⟩⟩
    simp only [look, reduceIte, Nat.reduceEqDiff]
    refine ⟨_, rfl, (.cons ?_ (.cons ?_ .nil))⟩
    · exact sub1_of rfl
    · exact sub1_of rfl
  simp only [evC, Int.not_lt] at hc
  refine AWP.skip ?_
  show AWP _ _ _ _ _
  have hi' := hc
  clear hc
  repeat refine AWP.nest ?_
  first | refine AWP.seq (AWP.block ?_) | refine AWP.block ?_
  repeat refine AWP.nest ?_
  first | refine rsa hG [] [1, 6, 7, 8, 9, 10, 11, 12, 13] fun K hK => ?_ | refine rna hG [] [1, 6, 7, 8, 9, 10, 11, 12, 13] fun K hK => ?_
  repeat first | ((with_reducible refine shN ?_); refine sL ?_) | ((with_reducible refine shG ?_); refine sG ?_)
  refine Eq.mpr evalL_nil (hK _ ?_)
  clear hK K
  simp only [evU, St.keep, List.map_cons, look, reduceIte, Nat.reduceEqDiff]
  try show AWP _ _ _ _ _
  repeat refine AWP.nest ?_
  first | refine rsa hG [] [1, 6, 7, 8, 9, 10, 11, 12, 13, 25] fun K hK => ?_ | refine rna hG [] [1, 6, 7, 8, 9, 10, 11, 12, 13, 25] fun K hK => ?_
  repeat first | ((with_reducible refine shN ?_); refine sL ?_) | ((with_reducible refine shG ?_); refine sG ?_)
  refine Eq.mpr evalL_nil (hK _ ?_)
  clear hK K
  simp only [evU, St.keep, List.map_cons, look, reduceIte, Nat.reduceEqDiff]
  try show AWP _ _ _ _ _
  repeat refine AWP.nest ?_
  first | refine AWP.seq (AWP.cond (b := _) rfl (fun hc => ?_) (fun hc => ?_)) | refine AWP.cond (b := _) rfl (fun hc => ?_) (fun hc => ?_)
  all_goals try simp only [evC] at hc
  · have e : rsg 2000 65534 (40 - i) a (gs.drop i) (hs.drop i) = [] := by
      rcases hc with h | h
      · exact rsg_stop (.inl (by omega))
      · exact rsg_stop (.inr (.inr (List.drop_eq_nil_of_le (by omega))))
    rw [e, List.append_nil] at hr
    subst hr
    refine AWP.exit ?_
    show AWP _ _ _ _ _
    repeat refine AWP.nest ?_
    first | refine rsa hG [] [4, 5] fun K hK => ?_ | refine rna hG [] [4, 5] fun K hK => ?_
    repeat first | ((with_reducible refine shN ?_); refine sL ?_) | ((with_reducible refine shG ?_); refine sG ?_)
    refine Eq.mpr evalL_nil (hK _ ?_)
    clear hK K
    simp only [evU, St.keep, List.map_cons, look, reduceIte, Nat.reduceEqDiff]
    try show AWP _ _ _ _ _
    refine AWP.frz 0 (by rw [hps]; decide) rfl ?_
    simp only [St.frz, Ob.frz, AV.frz, AV.frz1, Option.map_none, mkAgg, datas, Dat.nagg, List.map_cons, List.map_nil, Option.map_some, and_self, true_and, and_true, reduceIte, Nat.reduceEqDiff, List.set_cons_zero, List.set_cons_succ, Bool.and_true, Bool.true_and]
    refine AWP.frz 1 (by rw [hps]; decide) rfl ?_
    simp only [St.frz, Ob.frz, AV.frz, AV.frz1, Option.map_none, mkAgg, datas, Dat.nagg, List.map_cons, List.map_nil, Option.map_some, and_self, true_and, and_true, reduceIte, Nat.reduceEqDiff, List.set_cons_zero, List.set_cons_succ, Bool.and_true, Bool.true_and]
    refine AWP.ret ?_
    refine ⟨.inl rfl, ⟨⟨_, rfl, ?_⟩, fun ob hob => by cases hob⟩⟩
    simp only [look, reduceIte, Nat.reduceEqDiff]
    refine ⟨_, rfl, (.cons ?_ (.cons ?_ .nil))⟩
    · exact sub1_of rfl
    · exact sub1_of rfl
  refine AWP.skip ?_
  show AWP _ _ _ _ _
  have hst := rsg_step (md := 2000) (lim := 65534) (n := 40) (a := a) (gs := gs) (hs := hs) (i := i) (by omega) hi' (by omega)
  have g1 := hg.getD i
  have g2 := hh.getD i
  repeat refine AWP.nest ?_
  first | refine rsa hG [] [1, 6, 7, 8, 9, 11, 12, 13] fun K hK => ?_ | refine rna hG [] [1, 6, 7, 8, 9, 11, 12, 13] fun K hK => ?_
  repeat first | ((with_reducible refine shN ?_); refine sL ?_) | ((with_reducible refine shG ?_); refine sG ?_)
  refine Eq.mpr evalL_nil (hK _ ?_)
  clear hK K
  simp only [evU, St.keep, List.map_cons, look, reduceIte, Nat.reduceEqDiff]
  try show AWP _ _ _ _ _
  repeat refine AWP.nest ?_
  first | refine rsa hG [] [1, 6, 7, 8, 9, 11, 12, 13, 33] fun K hK => ?_ | refine rna hG [] [1, 6, 7, 8, 9, 11, 12, 13, 33] fun K hK => ?_
  repeat first | ((with_reducible refine shN ?_); refine sL ?_) | ((with_reducible refine shG ?_); refine sG ?_)
  refine Eq.mpr evalL_nil (hK _ ?_)
  clear hK K
  simp only [evU, St.keep, List.map_cons, look, reduceIte, Nat.reduceEqDiff]
  try show AWP _ _ _ _ _
  repeat refine AWP.nest ?_
  first | refine AWP.seq (AWP.cond (b := _) rfl (fun hc => ?_) (fun hc => ?_)) | refine AWP.cond (b := _) rfl (fun hc => ?_) (fun hc => ?_)
  all_goals try simp only [evC] at hc
  · rw [hst, if_pos hc, List.append_nil] at hr
    subst hr
    refine AWP.exit ?_
    show AWP _ _ _ _ _
    repeat refine AWP.nest ?_
    first | refine rsa hG [] [4, 5] fun K hK => ?_ | refine rna hG [] [4, 5] fun K hK => ?_
    repeat first | ((with_reducible refine shN ?_); refine sL ?_) | ((with_reducible refine shG ?_); refine sG ?_)
    refine Eq.mpr evalL_nil (hK _ ?_)
    clear hK K
    simp only [evU, St.keep, List.map_cons, look, reduceIte, Nat.reduceEqDiff]
    try show AWP _ _ _ _ _
    refine AWP.frz 0 (by rw [hps]; decide) rfl ?_
    simp only [St.frz, Ob.frz, AV.frz, AV.frz1, Option.map_none, mkAgg, datas, Dat.nagg, List.map_cons, List.map_nil, Option.map_some, and_self, true_and, and_true, reduceIte, Nat.reduceEqDiff, List.set_cons_zero, List.set_cons_succ, Bool.and_true, Bool.true_and]
    refine AWP.frz 1 (by rw [hps]; decide) rfl ?_
    simp only [St.frz, Ob.frz, AV.frz, AV.frz1, Option.map_none, mkAgg, datas, Dat.nagg, List.map_cons, List.map_nil, Option.map_some, and_self, true_and, and_true, reduceIte, Nat.reduceEqDiff, List.set_cons_zero, List.set_cons_succ, Bool.and_true, Bool.true_and]
    refine AWP.ret ?_
    refine ⟨.inl rfl, ⟨⟨_, rfl, ?_⟩, fun ob hob => by cases hob⟩⟩
    simp only [look, reduceIte, Nat.reduceEqDiff]
    refine ⟨_, rfl, (.cons ?_ (.cons ?_ .nil))⟩
    · exact sub1_of rfl
    · exact sub1_of rfl
  · rw [hst, if_neg hc] at hr
    refine AWP.skip ?_
    show AWP _ _ _ _ _
    repeat refine AWP.nest ?_
    first | refine rda hG [] [1, 6, 7, 8, 11, 12, 13] Try.mixed fun K hK => ?_ | refine dna hG [] [1, 6, 7, 8, 11, 12, 13] Try.mixed fun K hK => ?_
    repeat first | ((with_reducible refine shD ?_); refine sD ?_) | ((with_reducible refine shDG ?_); refine sDG ?_)
    refine evalD_done (by kernel_rfl) (hK _ ?_)
    clear hK K
    simp only [evU, St.keep, List.map_cons, look, reduceIte, Nat.reduceEqDiff]
    try show AWP _ _ _ _ _
    repeat refine AWP.nest ?_
    first | refine rsa hG [] [1, 6, 7, 8, 11, 12, 13] fun K hK => ?_ | refine rna hG [] [1, 6, 7, 8, 11, 12, 13] fun K hK => ?_
    repeat first | ((with_reducible refine shN ?_); refine sL ?_) | ((with_reducible refine shG ?_); refine sG ?_)
    refine Eq.mpr evalL_nil (hK _ ?_)
    clear hK K
    simp only [evU, St.keep, List.map_cons, look, reduceIte, Nat.reduceEqDiff]
    try show AWP _ _ _ _ _
    refine ⟨gs.length - (i + 1), by omega, i + 1, a + (1 + gs.getD i 0 % 2000), r ++ [(a + (1 + gs.getD i 0 % 2000), hs.getD i 0)], by omega, rfl, by omega, by omega, by simp [hrl], by omega, by rw [List.append_assoc]; exact hr, rfl⟩
def e50 : List AV → Option Ob → Option Res := fun args i => match args, i with
  | [.d false (.sl 1 xs), .d false (.sl 1 ys)], none => some ⟨xs = ints .u16 (toInts xs) ∧ W16 (toInts xs) ∧ ys = ints .u16 (toInts ys) ∧ W16 (toInts ys), .tup [.d true (.sl 2 (prs (rsg 2000 65534 40 (-1) (toInts xs) (toInts ys)))), .d true (.sl 2 (prs9 (rsg 2000 65534 40 (-1) (toInts xs) (toInts ys))))], none⟩
  | _, _ => none
def F66 : FT := F65.upd 50 e50
theorem F66_ok : FOK Try.prog F66 := FOK.upd F65_ok Try.func50 (by kernel_rfl) rfl fun args i R h => by
  unfold e50 at h
  split at h
  · rename_i xs ys
    cases h
    refine Spec.pre fun h => ?_
    have := s50 (toInts xs) (toInts ys) h.2.1 h.2.2.2
    rw [← h.1, ← h.2.2.1] at this
    exact this
  · cases h

/-! ### ref09.Runs -/
theorem s55 (l : List (Int × Int)) (hp : PrOK l) (hr : risesB l 65534 = true) (hl : l.length ≤ 1000000) : Spec Try.prog 55 [.d false (.sl 2 (prs9 l))] none ⟨True, .d true (.v (.int .i64 ((runsQ l l.length).length : Int))), none⟩ := by
  have hG := (Gf_ok F66_ok)
  have hfs := And.intro @evP (And.intro @evS (And.intro @toPrs_prs (And.intro @toPrs_prs9 @toSgs_sgs)))
  have hxs := @Nat.add_zero
  refine spec_of_awp (Gf_ok F66_ok) Try.func55 rfl (Nat.le_of_ble_eq_true rfl) fun E hps hN _ => ?_
  simp only [begin, List.zipIdx_cons, List.zipIdx_nil, List.map_cons, List.map_nil, Option.toList, Nat.zero_add, Nat.reduceAdd]
  repeat refine AWP.nest ?_
  first | refine rsa hG [] [0] fun K hK => ?_ | refine rna hG [] [0] fun K hK => ?_
  repeat first | ((with_reducible refine shN ?_); refine sL ?_) | ((with_reducible refine shG ?_); refine sG ?_)
  refine Eq.mpr evalL_nil (hK _ ?_)
  clear hK K
  simp only [evU, St.keep, List.map_cons, look, reduceIte, Nat.reduceEqDiff]
  try show AWP _ _ _ _ _
  repeat refine AWP.nest ?_
  first | refine rsa hG [] [0, 3] fun K hK => ?_ | refine rna hG [] [0, 3] fun K hK => ?_
  repeat first | ((with_reducible refine shN ?_); refine sL ?_) | ((with_reducible refine shG ?_); refine sG ?_)
  refine Eq.mpr evalL_nil (hK _ ?_)
  clear hK K
  simp only [evU, St.keep, List.map_cons, look, reduceIte, Nat.reduceEqDiff]
  try show AWP _ _ _ _ _
  repeat refine AWP.nest ?_
  first | refine rsa hG [] [0, 3, 6, 7, 8] fun K hK => ?_ | refine rna hG [] [0, 3, 6, 7, 8] fun K hK => ?_
  repeat first | ((with_reducible refine shN ?_); refine sL ?_) | ((with_reducible refine shG ?_); refine sG ?_)
  refine Eq.mpr evalL_nil (hK _ ?_)
  clear hK K
  simp only [evU, St.keep, List.map_cons, look, reduceIte, Nat.reduceEqDiff]
  try show AWP _ _ _ _ _
  repeat refine AWP.nest ?_
  first | refine AWP.seq (AWP.block ?_) | refine AWP.block ?_
  refine AWP.loop (fun k st => ∃ (i : Nat), i ≤ l.length ∧ k = l.length - i ∧ st = ⟨[(0, .d false (.sl 2 (prs9 l))), (3, .d true (.v (.int .i64 ((runsQ l i).length : Int)))), (6, .d false (.sl 2 (prs9 l))), (7, .d true (.v (.int .i64 (l.length : Int)))), (8, .d true (.v (.int .i64 (i : Int))))], []⟩) (l.length) ?_ ?_
  · exact ⟨0, Nat.zero_le _, rfl, rfl⟩
  rintro k st ⟨i, hi, hk, rfl⟩
  have hql := runsQ_len l i
  repeat refine AWP.nest ?_
  first | refine rsa hG [] [0, 3, 6, 7, 8, 9] fun K hK => ?_ | refine rna hG [] [0, 3, 6, 7, 8, 9] fun K hK => ?_
  repeat first | ((with_reducible refine shN ?_); refine sL ?_) | ((with_reducible refine shG ?_); refine sG ?_)
  refine Eq.mpr evalL_nil (hK _ ?_)
  clear hK K
  simp only [evU, St.keep, List.map_cons, look, reduceIte, Nat.reduceEqDiff]
  try show AWP _ _ _ _ _
  first | refine AWP.seq (AWP.cond (b := _) rfl (fun hc => ?_) (fun hc => ?_)) | refine AWP.cond (b := _) rfl (fun hc => ?_) (fun hc => ?_)
  rotate_left
  · refine AWP.exit ?_
    show AWP _ _ _ _ _
    simp only [evC, Int.not_lt] at hc
    obtain rfl : i = l.length := by omega
    repeat refine AWP.nest ?_
    first | refine rsa hG [] [2] fun K hK => ?_ | refine rna hG [] [2] fun K hK => ?_
    repeat first | ((with_reducible refine shN ?_); refine sL ?_) | ((with_reducible refine shG ?_); refine sG ?_)
    refine Eq.mpr evalL_nil (hK _ ?_)
    clear hK K
    simp only [evU, St.keep, List.map_cons, look, reduceIte, Nat.reduceEqDiff]
    try show AWP _ _ _ _ _
    refine AWP.ret ?_
    refine ⟨.inl rfl, ⟨⟨_, rfl, ?_⟩, fun ob hob => by cases hob⟩⟩
    simp only [look, reduceIte, Nat.reduceEqDiff]
    exact sub1_of rfl
  simp only [evC, Int.not_lt] at hc
  refine AWP.skip ?_
  show AWP _ _ _ _ _
  have hi' := hc
  clear hc
  have hx := rises_at hr hi'
  have hy := hp i
  have hy1 := hp (i - 1)
  have hx1 : 0 < i → 0 ≤ cd l (i - 1) ∧ cd l (i - 1) ≤ 65534 := fun h => by
    have := rises_at hr (show i - 1 < l.length by omega)
    exact ⟨this.1, this.2.1⟩
  repeat refine AWP.nest ?_
  first | refine AWP.seq (AWP.block ?_) | refine AWP.block ?_
  repeat refine AWP.nest ?_
  first | refine rsa hG [] [0, 3, 4, 5, 6, 7, 8] fun K hK => ?_ | refine rna hG [] [0, 3, 4, 5, 6, 7, 8] fun K hK => ?_
  repeat first | ((with_reducible refine shN ?_); refine sL ?_) | ((with_reducible refine shG ?_); refine sG ?_)
  refine Eq.mpr evalL_nil (hK _ ?_)
  clear hK K
  simp only [evU, St.keep, List.map_cons, look, reduceIte, Nat.reduceEqDiff]
  try show AWP _ _ _ _ _
  repeat refine AWP.nest ?_
  first | refine rda hG [] [0, 3, 6, 7, 8, 39] Try.mixed fun K hK => ?_ | refine dna hG [] [0, 3, 6, 7, 8, 39] Try.mixed fun K hK => ?_
  repeat first | ((with_reducible refine shD ?_); refine sD ?_) | ((with_reducible refine shDG ?_); refine sDG ?_)
  refine evalD_done (by kernel_rfl) (hK _ ?_)
  clear hK K
  simp only [evU, St.keep, List.map_cons, look, reduceIte, Nat.reduceEqDiff]
  try show AWP _ _ _ _ _
  have hkey : ((i : Int) == 0 || (l.getD i (0, 0)).1 != IntKind.i64.wrap ((l.getD ((i : Int) - 1).toNat (0, 0)).1 + 1) || (l.getD i (0, 0)).2 != (IntKind.i64.wrap ((l.getD ((i : Int) - 1).toNat (0, 0)).2 + 1)).tmod 65536) = !decide (0 < i ∧ cd l i = cd l (i - 1) + 1 ∧ gl l i = (gl l (i - 1) + 1) % 65536) := by
    change ((i : Int) == 0 || cd l i != IntKind.i64.wrap (cd l ((i : Int) - 1).toNat + 1) || gl l i != (IntKind.i64.wrap (gl l ((i : Int) - 1).toNat + 1)).tmod 65536) = _
    rw [Bool.eq_iff_iff]
    simp only [Bool.or_eq_true, beq_iff_eq, bne_iff_ne, ne_eq, Bool.not_eq_true', decide_eq_false_iff_not]
    by_cases h0 : 0 < i
    · have h1 := hx1 h0
      rw [show ((i : Int) - 1).toNat = i - 1 by omega, w_i64 (x := cd l (i - 1) + 1) (by omega) (by omega), w_i64 (x := gl l (i - 1) + 1) (by omega) (by omega), Int.tmod_eq_emod_of_nonneg (by omega)]
      omega
    · constructor
      · intro _; omega
      · intro _; left; left; omega
  rw [hkey]
  repeat refine AWP.nest ?_
  first | refine AWP.seq (AWP.cond (b := _) rfl (fun hc => ?_) (fun hc => ?_)) | refine AWP.cond (b := _) rfl (fun hc => ?_) (fun hc => ?_)
  all_goals try simp only [evC] at hc
  · have hk2 : ¬(0 < i ∧ cd l i = cd l (i - 1) + 1 ∧ gl l i = (gl l (i - 1) + 1) % 65536) := by
      have h := hc
      simp at h
      omega
    have es : (runsQ l (i + 1)).length = (runsQ l i).length + 1 := by
      show (stepQ l i (runsQ l i)).length = _
      unfold stepQ
      rw [if_neg hk2, List.length_append]
      rfl
    repeat refine AWP.nest ?_
    first | refine rsa hG [] [0, 3, 6, 7, 8] fun K hK => ?_ | refine rna hG [] [0, 3, 6, 7, 8] fun K hK => ?_
    repeat first | ((with_reducible refine shN ?_); refine sL ?_) | ((with_reducible refine shG ?_); refine sG ?_)
    refine Eq.mpr evalL_nil (hK _ ?_)
    clear hK K
    simp only [evU, St.keep, List.map_cons, look, reduceIte, Nat.reduceEqDiff]
    try show AWP _ _ _ _ _
    refine AWP.trunc 0 (by rw [hps]; decide) rfl ?_
    simp only [St.trunc, List.take_zero, List.take_succ_cons]
    repeat refine AWP.nest ?_
    first | refine rsa hG [] [0, 3, 6, 7, 8] fun K hK => ?_ | refine rna hG [] [0, 3, 6, 7, 8] fun K hK => ?_
    repeat first | ((with_reducible refine shN ?_); refine sL ?_) | ((with_reducible refine shG ?_); refine sG ?_)
    refine Eq.mpr evalL_nil (hK _ ?_)
    clear hK K
    simp only [evU, St.keep, List.map_cons, look, reduceIte, Nat.reduceEqDiff]
    try show AWP _ _ _ _ _
    exact ⟨l.length - (i + 1), by omega, i + 1, by omega, rfl, by rw [es]; rfl⟩
  refine AWP.skip ?_
  show AWP _ _ _ _ _
  have hk2 : 0 < i ∧ cd l i = cd l (i - 1) + 1 ∧ gl l i = (gl l (i - 1) + 1) % 65536 := by simpa using hc
  have es : (runsQ l (i + 1)).length = (runsQ l i).length := by
    show (stepQ l i (runsQ l i)).length = _
    unfold stepQ
    rw [if_pos hk2, List.length_set]
  refine AWP.trunc 0 (by rw [hps]; decide) rfl ?_
  simp only [St.trunc, List.take_zero, List.take_succ_cons]
  repeat refine AWP.nest ?_
  first | refine rsa hG [] [0, 3, 6, 7, 8] fun K hK => ?_ | refine rna hG [] [0, 3, 6, 7, 8] fun K hK => ?_
  repeat first | ((with_reducible refine shN ?_); refine sL ?_) | ((with_reducible refine shG ?_); refine sG ?_)
  refine Eq.mpr evalL_nil (hK _ ?_)
  clear hK K
  simp only [evU, St.keep, List.map_cons, look, reduceIte, Nat.reduceEqDiff]
  try show AWP _ _ _ _ _
  exact ⟨l.length - (i + 1), by omega, i + 1, by omega, rfl, by rw [es]; rfl⟩
def e55 : List AV → Option Ob → Option Res := fun args i => match args, i with
  | [.d false (.sl 2 xs)], none => some ⟨xs = prs9 (toPrs xs) ∧ PrOK (toPrs xs) ∧ risesB (toPrs xs) 65534 = true ∧ (toPrs xs).length ≤ 1000000, .d true (.v (.int .i64 ((runsQ (toPrs xs) (toPrs xs).length).length : Int))), none⟩
  | _, _ => none
def F67 : FT := F66.upd 55 e55
theorem F67_ok : FOK Try.prog F67 := FOK.upd F66_ok Try.func55 (by kernel_rfl) rfl fun args i R h => by
  unfold e55 at h
  split at h
  · rename_i xs
    cases h
    refine Spec.pre fun h => ?_
    have := s55 (toPrs xs) h.2.1 h.2.2.1 h.2.2.2
    rw [← h.1] at this
    exact this
  · cases h
end Go.AM

