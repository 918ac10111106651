/- AM: sfnt.Build of one table without data; the laws of sfnt: awake; SfntSearches. -/
import Derived.Test.YtmfobkiljlepjaaC82
import Derived.Test.YtmfobkiljlepjaaB2
set_option maxRecDepth 100000
set_option maxHeartbeats 8000000
set_option linter.unusedSimpArgs false
set_option linter.unusedVariables false
namespace Go.AM
open Go Go.Proofs



theorem s114a (s : ByteArray) (hs : s.size = 4) : Spec Try.prog 114 [.d false (.sl 2 (tbs [(s, [])]))] none ⟨True, .d true (.v (.bool true)), none⟩ := by
  have hG := (Gf_ok F112_ok)
  have hfs := And.intro @evP @evTb
  have hxs := @Nat.add_zero
  refine spec_of_awp (Gf_ok F112_ok) Try.func114 rfl (Nat.le_of_ble_eq_true rfl) fun E hps hN _ => ?_
  simp only [begin, List.zipIdx_cons, List.zipIdx_nil, List.map_cons, List.map_nil, Option.toList, Nat.zero_add, Nat.reduceAdd]
  have hl1 : (tbs [(s, [])]).length = 1 := rfl
  have hg0 : ∀ z, (tbs [(s, [])]).getD 0 z = .agg [.v (.string s), .sl 1 (ints .u8 [])] := fun z => rfl
  have hs4 : (s.size : Int) = 4 := by omega
  repeat refine AWP.nest ?_
  first | refine rsa hG [] [0] fun K hK => ?_ | refine rna hG [] [0] fun K hK => ?_
  repeat first | ((with_reducible refine shN ?_); refine sL ?_) | ((with_reducible refine shG ?_); refine sG ?_)
  refine Eq.mpr evalL_nil (hK _ ?_)
  clear hK K
  simp only [evU, St.keep, List.map_cons, look, reduceIte, Nat.reduceEqDiff]
  try show AWP _ _ _ _ _
  repeat refine AWP.nest ?_
  first | refine rsa hG [] [0, 3] fun K hK => ?_ | refine rna hG [] [0, 3] fun K hK => ?_
  repeat first | ((with_reducible refine shN ?_); refine sL ?_) | ((with_reducible refine shG ?_); refine sG ?_)
  refine Eq.mpr evalL_nil (hK _ ?_)
  clear hK K
  simp only [evU, St.keep, List.map_cons, look, reduceIte, Nat.reduceEqDiff]
  try show AWP _ _ _ _ _
  repeat refine AWP.nest ?_
  have hxs := @hl1
  first | refine rsa hG [] [0, 3, 6, 7, 8] fun K hK => ?_ | refine rna hG [] [0, 3, 6, 7, 8] fun K hK => ?_
  repeat first | ((with_reducible refine shN ?_); refine sL ?_) | ((with_reducible refine shG ?_); refine sG ?_)
  refine Eq.mpr evalL_nil (hK _ ?_)
  clear hK K hxs
  simp only [evU, St.keep, List.map_cons, look, reduceIte, Nat.reduceEqDiff]
  try show AWP _ _ _ _ _
  repeat refine AWP.nest ?_
  first | refine AWP.seq (AWP.block ?_) | refine AWP.block ?_
  refine AWP.loop (fun k st => ∃ (i : Nat), i ≤ 1 ∧ k = 1 - i ∧ st = ⟨[(0, .d false (.sl 2 (tbs [(s, [])]))), (3, .d true (.v (.int .i64 0))), (6, .d false (.sl 2 (tbs [(s, [])]))), (7, .d true (.v (.int .i64 1))), (8, .d true (.v (.int .i64 (i : Int))))], []⟩) (1) ?_ ?_
  · exact ⟨0, by decide, rfl, rfl⟩
  rintro k st ⟨i, hi, hk, rfl⟩
  repeat refine AWP.nest ?_
  first | refine rsa hG [] [0, 3, 6, 7, 8, 9] fun K hK => ?_ | refine rna hG [] [0, 3, 6, 7, 8, 9] fun K hK => ?_
  repeat first | ((with_reducible refine shN ?_); refine sL ?_) | ((with_reducible refine shG ?_); refine sG ?_)
  refine Eq.mpr evalL_nil (hK _ ?_)
  clear hK K
  simp only [evU, St.keep, List.map_cons, look, reduceIte, Nat.reduceEqDiff]
  try show AWP _ _ _ _ _
  first | refine AWP.seq (AWP.cond (b := _) rfl (fun hc => ?_) (fun hc => ?_)) | refine AWP.cond (b := _) rfl (fun hc => ?_) (fun hc => ?_)
  rotate_left
  · refine AWP.exit ?_
    show AWP _ _ _ _ _
    simp only [evC, Int.not_lt] at hc
    repeat refine AWP.nest ?_
    have hxs := @hl1
    first | refine rsa hG [] [2] fun K hK => ?_ | refine rna hG [] [2] fun K hK => ?_
    repeat first | ((with_reducible refine shN ?_); refine sL ?_) | ((with_reducible refine shG ?_); refine sG ?_)
    refine Eq.mpr evalL_nil (hK _ ?_)
    clear hK K hxs
    simp only [evU, St.keep, List.map_cons, look, reduceIte, Nat.reduceEqDiff]
    try show AWP _ _ _ _ _
    refine AWP.ret ?_
    refine ⟨.inl rfl, ⟨⟨_, rfl, ?_⟩, fun ob hob => by cases hob⟩⟩
    simp only [look, reduceIte, Nat.reduceEqDiff]
    exact sub1_of (by simp)
  simp only [evC, Int.not_lt] at hc
  refine AWP.skip ?_
  show AWP _ _ _ _ _
  obtain rfl : i = 0 := by omega
  clear hc
  change AWP _ _ _ _ ⟨[(0, .d false (.sl 2 (tbs [(s, [])]))), (3, .d true (.v (.int .i64 0))), (6, .d false (.sl 2 (tbs [(s, [])]))), (7, .d true (.v (.int .i64 1))), (8, .d true (.v (.int .i64 0))), (9, _)], []⟩
  repeat refine AWP.nest ?_
  first | refine AWP.seq (AWP.block ?_) | refine AWP.block ?_
  repeat refine AWP.nest ?_
  have hxs := And.intro @hg0 @hl1
  first | refine rsa hG [] [0, 3, 4, 5, 6, 7, 8] fun K hK => ?_ | refine rna hG [] [0, 3, 4, 5, 6, 7, 8] fun K hK => ?_
  repeat first | ((with_reducible refine shN ?_); refine sL ?_) | ((with_reducible refine shG ?_); refine sG ?_)
  refine Eq.mpr evalL_nil (hK _ ?_)
  clear hK K hxs
  simp only [evU, St.keep, List.map_cons, look, reduceIte, Nat.reduceEqDiff]
  try show AWP _ _ _ _ _
  repeat refine AWP.nest ?_
  first | refine rsa hG [] [0, 3, 4, 5, 6, 7, 8] fun K hK => ?_ | refine rna hG [] [0, 3, 4, 5, 6, 7, 8] fun K hK => ?_
  repeat first | ((with_reducible refine shN ?_); refine sL ?_) | ((with_reducible refine shG ?_); refine sG ?_)
  refine Eq.mpr evalL_nil (hK _ ?_)
  clear hK K
  simp only [evU, St.keep, List.map_cons, look, reduceIte, Nat.reduceEqDiff]
  try show AWP _ _ _ _ _
  repeat refine AWP.nest ?_
  have hxs := @hs4
  first | refine rda hG [] [0, 3, 6, 7, 8, 40] Try.mixed fun K hK => ?_ | refine dna hG [] [0, 3, 6, 7, 8, 40] Try.mixed fun K hK => ?_
  repeat first | ((with_reducible refine shD ?_); refine sD ?_) | ((with_reducible refine shDG ?_); refine sDG ?_)
  refine evalD_done (by kernel_rfl) (hK _ ?_)
  clear hK K hxs
  simp only [evU, St.keep, List.map_cons, look, reduceIte, Nat.reduceEqDiff]
  try show AWP _ _ _ _ _
  repeat refine AWP.nest ?_
  first | refine AWP.seq (AWP.cond (b := _) rfl (fun hc => ?_) (fun hc => ?_)) | refine AWP.cond (b := _) rfl (fun hc => ?_) (fun hc => ?_)
  all_goals try simp only [evC] at hc
  · exfalso
    revert hc
    simp
  refine AWP.skip ?_
  show AWP _ _ _ _ _
  clear hc
  refine AWP.keep [0, 3, 6, 7, 8] ?_
  simp only [St.keep, List.map_cons, List.map_nil, look, reduceIte, Nat.reduceEqDiff]
  refine AWP.trunc 0 (by rw [hps]; decide) rfl ?_
  simp only [St.trunc, List.take_zero, List.take_succ_cons]
  repeat refine AWP.nest ?_
  first | refine rsa hG [] [0, 3, 6, 7, 8] fun K hK => ?_ | refine rna hG [] [0, 3, 6, 7, 8] fun K hK => ?_
  repeat first | ((with_reducible refine shN ?_); refine sL ?_) | ((with_reducible refine shG ?_); refine sG ?_)
  refine Eq.mpr evalL_nil (hK _ ?_)
  clear hK K
  simp only [evU, St.keep, List.map_cons, look, reduceIte, Nat.reduceEqDiff]
  try show AWP _ _ _ _ _
  exact ⟨0, by omega, 1, by omega, rfl, rfl⟩
def e114a : List AV → Option Ob → Option Res := fun args i => match args, i with
  | [.d false (.sl 2 xs)], none => some ⟨∃ s : ByteArray, xs = tbs [(s, [])] ∧ s.size = 4, .d true (.v (.bool true)), none⟩
  | _, _ => none
def F113 : FT := F112.upd 114 e114a
theorem F113_ok : FOK Try.prog F113 := FOK.upd F112_ok Try.func114 (by kernel_rfl) rfl fun args i R h => by
  unfold e114a at h
  split at h
  · cases h
    refine Spec.pre fun h => ?_
    obtain ⟨s, rfl, hs⟩ := h
    exact s114a s hs
  · cases h
/-- The file of one table without data. -/
def oneF (s : ByteArray) : List Int := [0, 1, 0, 0, 0, 1, 0, 16, 0, 0, 0, 0] ++ (bytesL s ++ [0, 0, 0, 0, 0, 0, 0, 28, 0, 0, 0, 0])
theorem b4_len4 {n : Int} : (b4 n).length = 4 := rfl
theorem bytesL_byt (s : ByteArray) : Byt (bytesL s) := by
  intro b hb
  unfold bytesL at hb
  obtain ⟨x, _, rfl⟩ := List.mem_map.1 hb
  have := x.toNat_lt
  omega
theorem bytesL_len (s : ByteArray) : (bytesL s).length = s.size := by simp [bytesL]

theorem s78a (s : ByteArray) (hs : s.size = 4) : Spec Try.prog 78 [.d false (.sl 2 (tbs [(s, [])]))] none ⟨True, .d true (.sl 1 (ints .u8 (oneF s))), none⟩ := by
  have hf33 : F113 33 = e33 := rfl
  have hf38 : F113 38 = e38b := rfl
  have hf39 : F113 39 = e39 := rfl
  have hf63 : F113 63 = e63 := rfl
  have hf89 : F113 89 = e89 := rfl
  have hf90 : F113 90 = e90 := rfl
  have hf91 : F113 91 = e91 := rfl
  have hf99 : F113 99 = e99 := rfl
  have hf110 : F113 110 = e110 := rfl
  have hf111 : F113 111 = e111a := rfl
  have hf114 : F113 114 = e114a := rfl
  have hf115 : F113 115 = e115 := rfl
  have hf116 : F113 116 = e116 := rfl
  have hG := (Gf_ok F113_ok)
  have hfs := And.intro @hf33 (And.intro @e33.eq_1 (And.intro @hf38 (And.intro @e38b.eq_1 (And.intro @hf39 (And.intro @e39.eq_1 (And.intro @hf63 (And.intro @e63.eq_1 (And.intro @hf89 (And.intro @e89.eq_1 (And.intro @hf90 (And.intro @e90.eq_1 (And.intro @hf91 (And.intro @e91.eq_1 (And.intro @hf99 (And.intro @e99.eq_1 (And.intro @hf110 (And.intro @e110.eq_1 (And.intro @hf111 (And.intro @e111a.eq_1 (And.intro @hf114 (And.intro @e114a.eq_1 (And.intro @hf115 (And.intro @e115.eq_1 (And.intro @hf116 (And.intro @e116.eq_1 (And.intro @evP @evTb))))))))))))))))))))))))))
  have hxs := @Nat.add_zero
  refine spec_of_awp (Gf_ok F113_ok) Try.func78 rfl (Nat.le_of_ble_eq_true rfl) fun E hps hN _ => ?_
  simp only [begin, List.zipIdx_cons, List.zipIdx_nil, List.map_cons, List.map_nil, Option.toList, Nat.zero_add, Nat.reduceAdd]
  have hl1 : (tbs [(s, [])]).length = 1 := rfl
  have hg0 : ∀ z, (tbs [(s, [])]).getD 0 z = .agg [.v (.string s), .sl 1 (ints .u8 [])] := fun z => rfl
  have hne : [(s, ([] : List Int))] ≠ [] := by simp
  have hln : [(s, ([] : List Int))].length ≤ 1 := by simp
  have hln6 : [(s, ([] : List Int))].length ≤ 1000000 := by simp
  have hex : ∃ s' : ByteArray, tbs [(s, [])] = tbs [(s', [])] ∧ s'.size = 4 := ⟨s, rfl, hs⟩
  have hw : wholeT (s, []) = false := by unfold wholeT; simp
  have hsum : sumT (s, []) = 0 := by unfold sumT zerT; rw [hw]; rfl
  have hpad : padB [] = [] := rfl
  have hsm : s.size ≤ maxLen := by rw [hs]; decide
  have hbb := bytesL_byt s
  have hbl : (bytesL s).length = 4 := by rw [bytesL_len, hs]
  have ta : tA 1 = 16 := by decide
  have tb' : tB 1 = 0 := by decide
  have td : tD 1 = 0 := by decide
  have ti0 : toInts [] = [] := rfl
  repeat refine AWP.nest ?_
  first | refine rsa hG [] [0] fun K hK => ?_ | refine rna hG [] [0] fun K hK => ?_
  repeat first | ((with_reducible refine shN ?_); refine sL ?_) | ((with_reducible refine shG ?_); refine sG ?_)
  refine Eq.mpr evalL_nil (hK _ ?_)
  clear hK K
  simp only [evU, St.keep, List.map_cons, look, reduceIte, Nat.reduceEqDiff]
  try show AWP _ _ _ _ _
  repeat refine AWP.nest ?_
  first | refine rsa hG [] [0] fun K hK => ?_ | refine rna hG [] [0] fun K hK => ?_
  repeat first | ((with_reducible refine shN ?_); refine sL ?_) | ((with_reducible refine shG ?_); refine sG ?_)
  refine Eq.mpr evalL_nil (hK _ ?_)
  clear hK K
  simp only [evU, St.keep, List.map_cons, look, reduceIte, Nat.reduceEqDiff]
  try show AWP _ _ _ _ _
  repeat refine AWP.nest ?_
  first | refine rsa hG [] [0] fun K hK => ?_ | refine rna hG [] [0] fun K hK => ?_
  repeat first | ((with_reducible refine shN ?_); refine sL ?_) | ((with_reducible refine shG ?_); refine sG ?_)
  refine Eq.mpr evalL_nil (hK _ ?_)
  clear hK K
  simp only [evU, St.keep, List.map_cons, look, reduceIte, Nat.reduceEqDiff]
  try show AWP _ _ _ _ _
  repeat refine AWP.nest ?_
  first | refine rsa hG [] [0, 21] fun K hK => ?_ | refine rna hG [] [0, 21] fun K hK => ?_
  repeat first | ((with_reducible refine shN ?_); refine sL ?_) | ((with_reducible refine shG ?_); refine sG ?_)
  refine Eq.mpr evalL_nil (hK _ ?_)
  clear hK K
  simp only [evU, St.keep, List.map_cons, look, reduceIte, Nat.reduceEqDiff]
  try show AWP _ _ _ _ _
  repeat refine AWP.nest ?_
  first | refine AWP.seq (AWP.cond (b := _) rfl (fun hc => ?_) (fun hc => ?_)) | refine AWP.cond (b := _) rfl (fun hc => ?_) (fun hc => ?_)
  all_goals try simp only [evC] at hc
  · exfalso
    revert hc
    simp
  refine AWP.skip ?_
  show AWP _ _ _ _ _
  clear hc
  have c1 : ((1 : Nat) : Int) = 1 := rfl
  have c0 : ((0 : Nat) : Int) = 0 := rfl
  repeat refine AWP.nest ?_
  first | refine rsa hG [] [0, 3, 4] fun K hK => ?_ | refine rna hG [] [0, 3, 4] fun K hK => ?_
  repeat first | ((with_reducible refine shN ?_); refine sL ?_) | ((with_reducible refine shG ?_); refine sG ?_)
  refine Eq.mpr evalL_nil (hK _ ?_)
  clear hK K
  simp only [evU, St.keep, List.map_cons, look, reduceIte, Nat.reduceEqDiff]
  try show AWP _ _ _ _ _
  refine AWP.tobuf 3 1 5 (by rw [hps]; decide) rfl rfl ?_
  refine AWP.tobuf 4 2 5 (by rw [hps]; decide) rfl rfl ?_
  simp only [List.set_cons_zero, List.set_cons_succ, List.cons_append, List.nil_append, List.length_cons, List.length_nil, Nat.reduceAdd]
  repeat refine AWP.nest ?_
  have hxs := And.intro @hl1 (And.intro @c1 (And.intro @ta (And.intro @tb' @td)))
  first | refine rsa hG [] [0, 3, 4, 5, 6, 7] fun K hK => ?_ | refine rna hG [] [0, 3, 4, 5, 6, 7] fun K hK => ?_
  repeat first | ((with_reducible refine shN ?_); refine sL ?_) | ((with_reducible refine shG ?_); refine sG ?_)
  refine Eq.mpr evalL_nil (hK _ ?_)
  clear hK K hxs
  simp only [evU, St.keep, List.map_cons, look, reduceIte, Nat.reduceEqDiff]
  try show AWP _ _ _ _ _
  repeat refine AWP.nest ?_
  have hxs := And.intro @hl1 (And.intro @c1 (And.intro @ti0 (And.intro @ints_nil @b4_len4)))
  first | refine rsa hG [] [0, 3, 4] fun K hK => ?_ | refine rna hG [] [0, 3, 4] fun K hK => ?_
  repeat first | ((with_reducible refine shN ?_); refine sL ?_) | ((with_reducible refine shG ?_); refine sG ?_)
  refine Eq.mpr evalL_nil (hK _ ?_)
  clear hK K hxs
  simp only [evU, St.keep, List.map_cons, look, reduceIte, Nat.reduceEqDiff]
  try show AWP _ _ _ _ _
  repeat refine AWP.nest ?_
  have hxs := And.intro @hl1 @c1
  first | refine rsa hG [] [0, 3, 4, 8, 9] fun K hK => ?_ | refine rna hG [] [0, 3, 4, 8, 9] fun K hK => ?_
  repeat first | ((with_reducible refine shN ?_); refine sL ?_) | ((with_reducible refine shG ?_); refine sG ?_)
  refine Eq.mpr evalL_nil (hK _ ?_)
  clear hK K hxs
  simp only [evU, St.keep, List.map_cons, look, reduceIte, Nat.reduceEqDiff]
  try show AWP _ _ _ _ _
  repeat refine AWP.nest ?_
  have hxs := And.intro @hl1 @c1
  first | refine rsa hG [] [0, 3, 4, 8, 9, 44, 45, 46] fun K hK => ?_ | refine rna hG [] [0, 3, 4, 8, 9, 44, 45, 46] fun K hK => ?_
  repeat first | ((with_reducible refine shN ?_); refine sL ?_) | ((with_reducible refine shG ?_); refine sG ?_)
  refine Eq.mpr evalL_nil (hK _ ?_)
  clear hK K hxs
  simp only [evU, St.keep, List.map_cons, look, reduceIte, Nat.reduceEqDiff]
  try show AWP _ _ _ _ _
  repeat refine AWP.nest ?_
  first | refine AWP.seq (AWP.block ?_) | refine AWP.block ?_
  refine AWP.loop (fun k st => ∃ (i : Nat) (X : List Int), i ≤ 1 ∧ k = 1 - i ∧ (i = 0 → X = [0, 1, 0, 0, 0, 1, 0, 16, 0, 0, 0, 0]) ∧ (i = 1 → X = oneF s) ∧ Byt X ∧ X.length ≤ 1000 ∧ st = ⟨[(0, .own 0 1), (3, .ptr 3 0), (4, .ptr 4 0), (8, .d true (.v (.int .i64 28))), (9, .d true (.v (.int .i64 0))), (44, .own 0 1), (45, .d true (.v (.int .i64 1))), (46, .d true (.v (.int .i64 (i : Int))))], [some (.row 106 2 1 false (tbs [(s, [])])), none, none, some (.buf 134 5 1 (ints .u8 X)), some (.buf 134 5 1 (ints .u8 []))]⟩) (1) ?_ ?_
  · refine ⟨0, [0, 1, 0, 0, 0, 1, 0, 16, 0, 0, 0, 0], by decide, rfl, (fun _ => rfl), (fun h => by cases h), ?_, by decide, ?_⟩
    · intro b hb
      simp at hb
      omega
    · rfl
  rintro k st ⟨i, X, hi, hk, hX0, hX1, hXb, hXl, rfl⟩
  repeat refine AWP.nest ?_
  first | refine rsa hG [] [0, 3, 4, 8, 9, 44, 45, 46, 47] fun K hK => ?_ | refine rna hG [] [0, 3, 4, 8, 9, 44, 45, 46, 47] fun K hK => ?_
  repeat first | ((with_reducible refine shN ?_); refine sL ?_) | ((with_reducible refine shG ?_); refine sG ?_)
  refine Eq.mpr evalL_nil (hK _ ?_)
  clear hK K
  simp only [evU, St.keep, List.map_cons, look, reduceIte, Nat.reduceEqDiff]
  try show AWP _ _ _ _ _
  first | refine AWP.seq (AWP.cond (b := _) rfl (fun hc => ?_) (fun hc => ?_)) | refine AWP.cond (b := _) rfl (fun hc => ?_) (fun hc => ?_)
  rotate_left
  · refine AWP.exit ?_
    show AWP _ _ _ _ _
    simp only [evC, Int.not_lt] at hc
    obtain rfl : i = 1 := by omega
    have hX := hX1 rfl
    have hXl2 : X.length ≤ 1000000 := by omega
    repeat refine AWP.nest ?_
    have hxs := And.intro @ti0 @ints_nil
    first | refine rsa hG [] [0, 3, 4, 8, 9, 13] fun K hK => ?_ | refine rna hG [] [0, 3, 4, 8, 9, 13] fun K hK => ?_
    repeat first | ((with_reducible refine shN ?_); refine sL ?_) | ((with_reducible refine shG ?_); refine sG ?_)
    refine Eq.mpr evalL_nil (hK _ ?_)
    clear hK K hxs
    simp only [evU, St.keep, List.map_cons, look, reduceIte, Nat.reduceEqDiff]
    try show AWP _ _ _ _ _
    repeat refine AWP.nest ?_
    first | refine rsa hG [] [0, 13, 94] fun K hK => ?_ | refine rna hG [] [0, 13, 94] fun K hK => ?_
    repeat first | ((with_reducible refine shN ?_); refine sL ?_) | ((with_reducible refine shG ?_); refine sG ?_)
    refine Eq.mpr evalL_nil (hK _ ?_)
    clear hK K
    simp only [evU, St.keep, List.map_cons, look, reduceIte, Nat.reduceEqDiff]
    try show AWP _ _ _ _ _
    repeat refine AWP.nest ?_
    first | refine AWP.seq (AWP.cond (b := _) rfl (fun hc => ?_) (fun hc => ?_)) | refine AWP.cond (b := _) rfl (fun hc => ?_) (fun hc => ?_)
    all_goals try simp only [evC] at hc
    · exfalso
      revert hc
      simp
    refine AWP.skip ?_
    show AWP _ _ _ _ _
    repeat refine AWP.nest ?_
    first | refine rsa hG [] [2] fun K hK => ?_ | refine rna hG [] [2] fun K hK => ?_
    repeat first | ((with_reducible refine shN ?_); refine sL ?_) | ((with_reducible refine shG ?_); refine sG ?_)
    refine Eq.mpr evalL_nil (hK _ ?_)
    clear hK K
    simp only [evU, St.keep, List.map_cons, look, reduceIte, Nat.reduceEqDiff]
    try show AWP _ _ _ _ _
    refine AWP.ret ?_
    refine ⟨.inl rfl, ⟨⟨_, rfl, ?_⟩, fun ob hob => by cases hob⟩⟩
    simp only [look, reduceIte, Nat.reduceEqDiff]
    exact sub1_of (by simp [hX])
  simp only [evC, Int.not_lt] at hc
  refine AWP.skip ?_
  show AWP _ _ _ _ _
  obtain rfl : i = 0 := by omega
  have hX := hX0 rfl
  clear hc hX0 hX1 hi
  change AWP _ _ _ _ ⟨[(0, .own 0 1), (3, .ptr 3 0), (4, .ptr 4 0), (8, .d true (.v (.int .i64 28))), (9, .d true (.v (.int .i64 0))), (44, .own 0 1), (45, .d true (.v (.int .i64 1))), (46, .d true (.v (.int .i64 0))), (47, _)], _⟩
  repeat refine AWP.nest ?_
  first | refine AWP.seq (AWP.block ?_) | refine AWP.block ?_
  repeat refine AWP.nest ?_
  have hxs := And.intro @hg0 @hl1
  first | refine rsa hG [] [0, 3, 4, 8, 9, 10, 11, 44, 45, 46] fun K hK => ?_ | refine rna hG [] [0, 3, 4, 8, 9, 10, 11, 44, 45, 46] fun K hK => ?_
  repeat first | ((with_reducible refine shN ?_); refine sL ?_) | ((with_reducible refine shG ?_); refine sG ?_)
  refine Eq.mpr evalL_nil (hK _ ?_)
  clear hK K hxs
  simp only [evU, St.keep, List.map_cons, look, reduceIte, Nat.reduceEqDiff]
  try show AWP _ _ _ _ _
  repeat refine AWP.nest ?_
  have hxs := And.intro @ti0 @hw
  first | refine rsa hG [] [0, 3, 4, 8, 9, 10, 11, 44, 45, 46, 52] fun K hK => ?_ | refine rna hG [] [0, 3, 4, 8, 9, 10, 11, 44, 45, 46, 52] fun K hK => ?_
  repeat first | ((with_reducible refine shN ?_); refine sL ?_) | ((with_reducible refine shG ?_); refine sG ?_)
  refine Eq.mpr evalL_nil (hK _ ?_)
  clear hK K hxs
  simp only [evU, St.keep, List.map_cons, look, reduceIte, Nat.reduceEqDiff]
  try show AWP _ _ _ _ _
  repeat refine AWP.nest ?_
  first | refine AWP.seq (AWP.cond (b := _) rfl (fun hc => ?_) (fun hc => ?_)) | refine AWP.cond (b := _) rfl (fun hc => ?_) (fun hc => ?_)
  all_goals try simp only [evC] at hc
  · exfalso
    revert hc
    simp
  refine AWP.skip ?_
  show AWP _ _ _ _ _
  clear hc
  repeat refine AWP.nest ?_
  have hxs := And.intro @ti0 (And.intro @hsum (And.intro @b4_len4 @hbl))
  first | refine rda hG [] [0, 3, 4, 8, 9, 10, 44, 45, 46] Try.mixed fun K hK => ?_ | refine dna hG [] [0, 3, 4, 8, 9, 10, 44, 45, 46] Try.mixed fun K hK => ?_
  repeat first | ((with_reducible refine shD ?_); refine sD ?_) | ((with_reducible refine shDG ?_); refine sDG ?_)
  refine evalD_done (by kernel_rfl) (hK _ ?_)
  clear hK K hxs
  simp only [evU, St.keep, List.map_cons, look, reduceIte, Nat.reduceEqDiff]
  try show AWP _ _ _ _ _
  repeat refine AWP.nest ?_
  have hxs := And.intro @hg0 (And.intro @hl1 (And.intro @ti0 @hpad))
  first | refine rsa hG [] [0, 3, 4, 8, 9, 12, 44, 45, 46] fun K hK => ?_ | refine rna hG [] [0, 3, 4, 8, 9, 12, 44, 45, 46] fun K hK => ?_
  repeat first | ((with_reducible refine shN ?_); refine sL ?_) | ((with_reducible refine shG ?_); refine sG ?_)
  refine Eq.mpr evalL_nil (hK _ ?_)
  clear hK K hxs
  simp only [evU, St.keep, List.map_cons, look, reduceIte, Nat.reduceEqDiff]
  try show AWP _ _ _ _ _
  repeat refine AWP.nest ?_
  have hxs := @ti0
  first | refine rsa hG [] [0, 3, 4, 8, 9, 12, 44, 45, 46] fun K hK => ?_ | refine rna hG [] [0, 3, 4, 8, 9, 12, 44, 45, 46] fun K hK => ?_
  repeat first | ((with_reducible refine shN ?_); refine sL ?_) | ((with_reducible refine shG ?_); refine sG ?_)
  refine Eq.mpr evalL_nil (hK _ ?_)
  clear hK K hxs
  simp only [evU, St.keep, List.map_cons, look, reduceIte, Nat.reduceEqDiff]
  try show AWP _ _ _ _ _
  repeat refine AWP.nest ?_
  first | refine rsa hG [] [0, 3, 4, 8, 9, 44, 45, 46] fun K hK => ?_ | refine rna hG [] [0, 3, 4, 8, 9, 44, 45, 46] fun K hK => ?_
  repeat first | ((with_reducible refine shN ?_); refine sL ?_) | ((with_reducible refine shG ?_); refine sG ?_)
  refine Eq.mpr evalL_nil (hK _ ?_)
  clear hK K
  simp only [evU, St.keep, List.map_cons, look, reduceIte, Nat.reduceEqDiff]
  try show AWP _ _ _ _ _
  refine AWP.keep [0, 3, 4, 8, 9, 44, 45, 46] ?_
  simp only [St.keep, List.map_cons, List.map_nil, look, reduceIte, Nat.reduceEqDiff]
  refine AWP.trunc 5 (by rw [hps]; decide) rfl ?_
  simp only [St.trunc, List.take_zero, List.take_succ_cons]
  repeat refine AWP.nest ?_
  first | refine rsa hG [] [0, 3, 4, 8, 9, 44, 45, 46] fun K hK => ?_ | refine rna hG [] [0, 3, 4, 8, 9, 44, 45, 46] fun K hK => ?_
  repeat first | ((with_reducible refine shN ?_); refine sL ?_) | ((with_reducible refine shG ?_); refine sG ?_)
  refine Eq.mpr evalL_nil (hK _ ?_)
  clear hK K
  simp only [evU, St.keep, List.map_cons, look, reduceIte, Nat.reduceEqDiff]
  try show AWP _ _ _ _ _
  refine ⟨0, by omega, 1, X ++ bytesL s ++ b4 0 ++ b4 28 ++ b4 (((0 : Nat) : Int) % 4294967296), by omega, rfl, (fun h => by cases h), (fun _ => ?_), ?_, ?_, rfl⟩
  · rw [hX]
    simp [oneF, b4]
  · refine (((hXb.append hbb).append ?_).append ?_).append ?_ <;> (intro b hb; simp [b4] at hb; omega)
  · rw [hX]
    simp only [List.length_append, b4_len4, hbl, List.length_cons, List.length_nil]
    omega
/-- The same for arguments that say as much. -/
theorem Spec.args {P : Program} {f : FuncId} {xs bs : List AV} {i : Option Ob} {R : Res} (h : Spec P f xs i R) (hc : ∀ C vals, AV.VL C bs vals → AV.VL C xs vals) : Spec P f bs i R :=
  fun w old hs vals hw hv hp => h w old hs vals hw (hc _ _ hv) hp
theorem one_args {C : Cx} {s : ByteArray} {vals : List Value} (h : AV.VL C [.d false (.sl 2 [.agg [.v (.string s), .v (.slice none 0 0)]])] vals) : AV.VL C [.d false (.sl 2 (tbs [(s, [])]))] vals := by
  unfold AV.VL at h ⊢
  obtain ⟨v, rest, e, h1, h2⟩ := h
  unfold AV.VL at h2 ⊢
  refine ⟨v, rest, e, ?_, h2⟩
  unfold AV.VR at h1 ⊢
  have h1 : Dat.R C.w (C.Sh false) (.sl 2 [.agg [.v (.string s), .v (.slice none 0 0)]]) [v] := h1
  show Dat.R C.w (C.Sh false) (.sl 2 (tbs [(s, [])])) [v]
  unfold Dat.R at h1 ⊢
  obtain ⟨A, c, e1, h3, h4, h5, h6⟩ := h1
  refine ⟨A, c, e1, h3, h4, ?_, ?_⟩
  · intro x hx
    simp only [tbs, tb, List.map_cons, List.map_nil, List.mem_singleton] at hx
    subst hx
    rfl
  · rcases h6 with h6 | ⟨b, o, fl, h7, h8, h9, h10⟩
    · cases h6
    · refine .inr ⟨b, o, fl, h7, h8, ?_, h10⟩
      show Dat.RL C.w (C.Sh false) [.agg [.v (.string s), .sl 1 []]] fl
      unfold Dat.RL at h9 ⊢
      obtain ⟨c1, c2, e2, g1, g2⟩ := h9
      unfold Dat.RL at g2 ⊢
      refine ⟨c1, c2, e2, ?_, g2⟩
      unfold Dat.R at g1 ⊢
      unfold Dat.RF at g1 ⊢
      obtain ⟨x, xs, e3, n1, k1, k2⟩ := g1
      refine ⟨x, xs, e3, n1, k1, ?_⟩
      unfold Dat.RF at k2 ⊢
      obtain ⟨y, ys, e4, n2, m1, m2⟩ := k2
      refine ⟨y, ys, e4, rfl, ?_, m2⟩
      unfold Dat.R at m1 ⊢
      refine ⟨none, 0, m1.1, Nat.le_refl _, Nat.zero_le _, by simp, .inl rfl⟩
def e78a : List AV → Option Ob → Option Res := fun args i => match args, i with
  | [.d false (.sl 2 [.agg [.v (.string s), .v (.slice none 0 0)]])], none => some ⟨s.size = 4, .d true (.sl 1 (ints .u8 (oneF s))), none⟩
  | _, _ => none
def F114 : FT := F113.upd 78 e78a
theorem F114_ok : FOK Try.prog F114 := FOK.upd F113_ok Try.func78 (by kernel_rfl) rfl fun args i R h => by
  unfold e78a at h
  split at h
  · cases h
    exact Spec.pre fun h => (s78a _ h).args fun C vals => one_args
  · cases h

/-! ### awake -/
theorem oneF_len {s : ByteArray} (h : s.size = 4) : (oneF s).length = 28 := by
  unfold oneF
  simp [bytesL_len, h]

theorem s62 : Spec Try.prog 62 [] none ⟨True, .d true (.v (.bool true)), none⟩ := by
  have hf63 : F114 63 = e63 := rfl
  have hf78 : F114 78 = e78a := rfl
  have hG := (Gf_ok F114_ok)
  have hfs := And.intro @hf63 (And.intro @e63.eq_1 (And.intro @hf78 (And.intro @e78a.eq_1 (And.intro @evP @evTb))))
  have hxs := @Nat.add_zero
  refine spec_of_awp (Gf_ok F114_ok) Try.func62 rfl (Nat.le_of_ble_eq_true rfl) fun E hps hN _ => ?_
  simp only [begin, List.zipIdx_cons, List.zipIdx_nil, List.map_cons, List.map_nil, Option.toList, Nat.zero_add, Nat.reduceAdd]
  have ta : tA 7 = 64 := by decide
  have tb' : tB 7 = 2 := by decide
  have td : tD 7 = 48 := by decide
  have hsz : (⟨#[97, 98, 99, 100]⟩ : ByteArray).size = 4 := rfl
  have hlen := oneF_len hsz
  have c28 : ((28 : Nat) : Int) = 28 := rfl
  repeat refine AWP.nest ?_
  first | refine rsa hG [] [] fun K hK => ?_ | refine rna hG [] [] fun K hK => ?_
  repeat first | ((with_reducible refine shN ?_); refine sL ?_) | ((with_reducible refine shG ?_); refine sG ?_)
  refine Eq.mpr evalL_nil (hK _ ?_)
  clear hK K
  simp only [evU, St.keep, List.map_cons, look, reduceIte, Nat.reduceEqDiff]
  try show AWP _ _ _ _ _
  repeat refine AWP.nest ?_
  have hxs := And.intro @ta (And.intro @tb' @td)
  first | refine rsa hG [] [1, 2, 3] fun K hK => ?_ | refine rna hG [] [1, 2, 3] fun K hK => ?_
  repeat first | ((with_reducible refine shN ?_); refine sL ?_) | ((with_reducible refine shG ?_); refine sG ?_)
  refine Eq.mpr evalL_nil (hK _ ?_)
  clear hK K hxs
  simp only [evU, St.keep, List.map_cons, look, reduceIte, Nat.reduceEqDiff]
  try show AWP _ _ _ _ _
  repeat refine AWP.nest ?_
  have hxs := And.intro @hlen @c28
  first | refine rsa hG [] [0] fun K hK => ?_ | refine rna hG [] [0] fun K hK => ?_
  repeat first | ((with_reducible refine shN ?_); refine sL ?_) | ((with_reducible refine shG ?_); refine sG ?_)
  refine Eq.mpr evalL_nil (hK _ ?_)
  clear hK K hxs
  simp only [evU, St.keep, List.map_cons, look, reduceIte, Nat.reduceEqDiff]
  try show AWP _ _ _ _ _
  refine AWP.ret ?_
  refine ⟨.inl rfl, ⟨⟨_, rfl, ?_⟩, fun ob hob => by cases hob⟩⟩
  simp only [look, reduceIte, Nat.reduceEqDiff]
  exact sub1_of rfl
def e62 : List AV → Option Ob → Option Res := fun args i => match args, i with
  | [], none => some ⟨True, .d true (.v (.bool true)), none⟩
  | _, _ => none
def F115 : FT := F114.upd 62 e62
theorem F115_ok : FOK Try.prog F115 := FOK.upd F114_ok Try.func62 (by kernel_rfl) rfl fun args i R h => by
  unfold e62 at h
  split at h
  · cases h; exact s62
  · cases h

/-! ### SfntSearches -/

theorem s20 (x : Int) (h0 : -9223372036854775808 ≤ x) (h1 : x ≤ 9223372036854775807) : Spec Try.prog 20 [.d true (.v (.int .i64 x))] none ⟨True, .d true (.v (.bool true)), none⟩ := by
  have hf62 : F115 62 = e62 := rfl
  have hf63 : F115 63 = e63 := rfl
  have hf64 : F115 64 = e64 := rfl
  have hG := (Gf_ok F115_ok)
  have hfs := And.intro @hf62 (And.intro @e62.eq_1 (And.intro @hf63 (And.intro @e63.eq_1 (And.intro @hf64 (And.intro @e64.eq_1 @evP)))))
  have hxs := @Nat.add_zero
  refine spec_of_awp (Gf_ok F115_ok) Try.func20 rfl (Nat.le_of_ble_eq_true rfl) fun E hps hN _ => ?_
  simp only [begin, List.zipIdx_cons, List.zipIdx_nil, List.map_cons, List.map_nil, Option.toList, Nat.zero_add, Nat.reduceAdd]
  repeat refine AWP.nest ?_
  first | refine rsa hG [] [0] fun K hK => ?_ | refine rna hG [] [0] fun K hK => ?_
  repeat first | ((with_reducible refine shN ?_); refine sL ?_) | ((with_reducible refine shG ?_); refine sG ?_)
  refine Eq.mpr evalL_nil (hK _ ?_)
  clear hK K
  simp only [evU, St.keep, List.map_cons, look, reduceIte, Nat.reduceEqDiff]
  try show AWP _ _ _ _ _
  repeat refine AWP.nest ?_
  first | refine rsa hG [] [0, 10] fun K hK => ?_ | refine rna hG [] [0, 10] fun K hK => ?_
  repeat first | ((with_reducible refine shN ?_); refine sL ?_) | ((with_reducible refine shG ?_); refine sG ?_)
  refine Eq.mpr evalL_nil (hK _ ?_)
  clear hK K
  simp only [evU, St.keep, List.map_cons, look, reduceIte, Nat.reduceEqDiff]
  try show AWP _ _ _ _ _
  repeat refine AWP.nest ?_
  first | refine AWP.seq (AWP.cond (b := _) rfl (fun hc => ?_) (fun hc => ?_)) | refine AWP.cond (b := _) rfl (fun hc => ?_) (fun hc => ?_)
  all_goals try simp only [evC] at hc
  · cases hc
  refine AWP.skip ?_
  show AWP _ _ _ _ _
  clear hc
  repeat refine AWP.nest ?_
  first | refine rsa hG [] [0, 3, 4, 5] fun K hK => ?_ | refine rna hG [] [0, 3, 4, 5] fun K hK => ?_
  repeat first | ((with_reducible refine shN ?_); refine sL ?_) | ((with_reducible refine shG ?_); refine sG ?_)
  refine Eq.mpr evalL_nil (hK _ ?_)
  clear hK K
  simp only [evU, St.keep, List.map_cons, look, reduceIte, Nat.reduceEqDiff]
  try show AWP _ _ _ _ _
  repeat refine AWP.nest ?_
  first | refine rsa hG [] [0, 3, 4, 5, 22] fun K hK => ?_ | refine rna hG [] [0, 3, 4, 5, 22] fun K hK => ?_
  repeat first | ((with_reducible refine shN ?_); refine sL ?_) | ((with_reducible refine shG ?_); refine sG ?_)
  refine Eq.mpr evalL_nil (hK _ ?_)
  clear hK K
  simp only [evU, St.keep, List.map_cons, look, reduceIte, Nat.reduceEqDiff]
  try show AWP _ _ _ _ _
  repeat refine AWP.nest ?_
  first | refine AWP.seq (AWP.cond (b := _) rfl (fun hc => ?_) (fun hc => ?_)) | refine AWP.cond (b := _) rfl (fun hc => ?_) (fun hc => ?_)
  all_goals try simp only [evC] at hc
  · have hn : ¬ (1 ≤ x ∧ x ≤ 64) := by omega
    have e1 : tA x = 0 := if_neg hn
    have e2 : tB x = 0 := if_neg hn
    have e3 : tD x = 0 := if_neg hn
    rw [e1, e2, e3]
    repeat refine AWP.nest ?_
    first | refine rsa hG [] [2] fun K hK => ?_ | refine rna hG [] [2] fun K hK => ?_
    repeat first | ((with_reducible refine shN ?_); refine sL ?_) | ((with_reducible refine shG ?_); refine sG ?_)
    refine Eq.mpr evalL_nil (hK _ ?_)
    clear hK K
    simp only [evU, St.keep, List.map_cons, look, reduceIte, Nat.reduceEqDiff]
    try show AWP _ _ _ _ _
    refine AWP.ret ?_
    refine ⟨.inl rfl, ⟨⟨_, rfl, ?_⟩, fun ob hob => by cases hob⟩⟩
    simp only [look, reduceIte, Nat.reduceEqDiff]
    exact sub1_of rfl
  refine AWP.skip ?_
  show AWP _ _ _ _ _
  have hn : 1 ≤ x ∧ x ≤ 64 := by omega
  clear hc
  have e1 : tA x = 16 * (2 ^ Nat.log2 x.toNat : Nat) := if_pos hn
  have e2 : tB x = (Nat.log2 x.toNat : Int) := if_pos hn
  have e3 : tD x = 16 * x - 16 * (2 ^ Nat.log2 x.toNat : Nat) := if_pos hn
  obtain ⟨hp1, hp2, hp3, hp4⟩ := log_64 (n := x.toNat) (by omega) (by omega)
  have ep : (2 : Int) ^ Nat.log2 x.toNat = (2 ^ Nat.log2 x.toNat : Nat) := by simp
  repeat refine AWP.nest ?_
  first | refine rsa hG [] [0, 3, 4, 5, 6, 7, 8] fun K hK => ?_ | refine rna hG [] [0, 3, 4, 5, 6, 7, 8] fun K hK => ?_
  repeat first | ((with_reducible refine shN ?_); refine sL ?_) | ((with_reducible refine shG ?_); refine sG ?_)
  refine Eq.mpr evalL_nil (hK _ ?_)
  clear hK K
  simp only [evU, St.keep, List.map_cons, look, reduceIte, Nat.reduceEqDiff]
  try show AWP _ _ _ _ _
  rw [e1, e2, e3]
  generalize 2 ^ Nat.log2 x.toNat = p at hp1 hp2 hp4 ep ⊢
  generalize Nat.log2 x.toNat = j at hp3 ep ⊢
  have em : min j 64 = j := by omega
  clear e1 e2 e3
  have hfin : (16 * (p : Int) + (16 * x - 16 * (p : Int)) == 16 * x && decide (16 * x - 16 * (p : Int) < 16 * (p : Int))) = true := by
    simp
    omega
  repeat refine AWP.nest ?_
  have hxs := And.intro @em @ep
  first | refine rsa hG [] [2] fun K hK => ?_ | refine rna hG [] [2] fun K hK => ?_
  repeat first | ((with_reducible refine shN ?_); refine sL ?_) | ((with_reducible refine shG ?_); refine sG ?_)
  refine Eq.mpr evalL_nil (hK _ ?_)
  clear hK K hxs
  simp only [evU, St.keep, List.map_cons, look, reduceIte, Nat.reduceEqDiff]
  try show AWP _ _ _ _ _
  refine AWP.ret ?_
  refine ⟨.inl rfl, ⟨⟨_, rfl, ?_⟩, fun ob hob => by cases hob⟩⟩
  simp only [look, reduceIte, Nat.reduceEqDiff]
  refine sub1_of ?_
  rw [hfin]
theorem law20 (x : Dat) (h : (AT.int .i64).holds x) : Spec Try.prog 20 [.d x.flat x] none ⟨True, .d true (.v (.bool true)), none⟩ := by
  obtain ⟨n, rfl, hn⟩ := h
  have := bounds_i64 hn
  exact s20 n (by omega) (by omega)
end Go.AM

