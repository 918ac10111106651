/- AM: ref01.Same, tally.Zeroed. -/
import Derived.Test.YtmfobkiljlepjaaC4
set_option maxRecDepth 100000
set_option maxHeartbeats 8000000
set_option linter.unusedSimpArgs false
set_option linter.unusedVariables false
namespace Go.AM
open Go Go.Proofs


/-! ### ref01.Same -/
theorem take_same {l m : List Int} {i : Nat} (h : l.take i = m.take i) (hl : i < l.length) (hm : i < m.length) (e : l.getD i 0 = m.getD i 0) : l.take (i + 1) = m.take (i + 1) := by
  rw [List.take_add_one, List.take_add_one, h, List.getElem?_eq_getElem hl, List.getElem?_eq_getElem hm]
  simp only [List.getD_eq_getElem?_getD, List.getElem?_eq_getElem hl, List.getElem?_eq_getElem hm, Option.getD_some] at e
  rw [e]
theorem s37 (l m : List Int) (hb : Byt l) (hbm : Byt m) : Spec Try.prog 37 [.d false (.sl 1 (ints .u8 l)), .d false (.sl 1 (ints .u8 m))] none ⟨True, .d true (.v (.bool (decide (l = m)))), none⟩ := by
  have hG := (Gf_ok F11_ok)
  have hfs := @Nat.add_zero
  have hxs := @Nat.add_zero
  refine spec_of_awp (Gf_ok F11_ok) Try.func37 rfl (Nat.le_of_ble_eq_true rfl) fun E hps hN _ => ?_
  simp only [begin, List.zipIdx_cons, List.zipIdx_nil, List.map_cons, List.map_nil, Option.toList, Nat.zero_add, Nat.reduceAdd]
  repeat refine AWP.nest ?_
  first | refine rsa hG [] [0, 1] fun K hK => ?_ | refine rna hG [] [0, 1] fun K hK => ?_
  repeat first | ((with_reducible refine shN ?_); refine sL ?_) | ((with_reducible refine shG ?_); refine sG ?_)
  refine Eq.mpr evalL_nil (hK _ ?_)
  clear hK K
  simp only [evU, St.keep, List.map_cons, look, reduceIte, Nat.reduceEqDiff]
  try show AWP _ _ _ _ _
  refine AWP.len 0 rfl fun hlen => ?_
  refine AWP.len 1 rfl fun hlen2 => ?_
  rw [ints_length] at hlen hlen2
  repeat refine AWP.nest ?_
  first | refine rsa hG [] [0, 1, 10] fun K hK => ?_ | refine rna hG [] [0, 1, 10] fun K hK => ?_
  repeat first | ((with_reducible refine shN ?_); refine sL ?_) | ((with_reducible refine shG ?_); refine sG ?_)
  refine Eq.mpr evalL_nil (hK _ ?_)
  clear hK K
  simp only [evU, St.keep, List.map_cons, look, reduceIte, Nat.reduceEqDiff]
  try show AWP _ _ _ _ _
  repeat refine AWP.nest ?_
  first | refine AWP.seq (AWP.cond (b := _) rfl (fun hc => ?_) (fun hc => ?_)) | refine AWP.cond (b := _) rfl (fun hc => ?_) (fun hc => ?_)
  all_goals try simp only [evC] at hc
  · have e : l ≠ m := by rintro rfl; exact hc rfl
    repeat refine AWP.nest ?_
    first | refine rsa hG [] [4] fun K hK => ?_ | refine rna hG [] [4] fun K hK => ?_
    repeat first | ((with_reducible refine shN ?_); refine sL ?_) | ((with_reducible refine shG ?_); refine sG ?_)
    refine Eq.mpr evalL_nil (hK _ ?_)
    clear hK K
    simp only [evU, St.keep, List.map_cons, look, reduceIte, Nat.reduceEqDiff]
    try show AWP _ _ _ _ _
    refine AWP.ret ?_
    refine ⟨.inl rfl, ⟨⟨_, rfl, ?_⟩, fun ob hob => by cases hob⟩⟩
    simp only [look, reduceIte, Nat.reduceEqDiff]
    exact sub1_of (by simp [e])
  refine AWP.skip ?_
  show AWP _ _ _ _ _
  have hlm : l.length = m.length := by
    have : (l.length : Int) = m.length := by simpa using hc
    omega
  repeat refine AWP.nest ?_
  first | refine rsa hG [] [0, 1, 12, 13] fun K hK => ?_ | refine rna hG [] [0, 1, 12, 13] fun K hK => ?_
  repeat first | ((with_reducible refine shN ?_); refine sL ?_) | ((with_reducible refine shG ?_); refine sG ?_)
  refine Eq.mpr evalL_nil (hK _ ?_)
  clear hK K
  simp only [evU, St.keep, List.map_cons, look, reduceIte, Nat.reduceEqDiff]
  try show AWP _ _ _ _ _
  repeat refine AWP.nest ?_
  first | refine AWP.seq (AWP.block ?_) | refine AWP.block ?_
  refine AWP.loop (fun k st => ∃ (i : Nat), i ≤ l.length ∧ k = l.length - i ∧ l.take i = m.take i ∧ st = ⟨[(0, .d false (.sl 1 (ints .u8 l))), (1, .d false (.sl 1 (ints .u8 m))), (12, .d true (.v (.int .i64 (l.length : Int)))), (13, .d true (.v (.int .i64 (i : Int))))], []⟩) (l.length) ?_ ?_
  · exact ⟨0, Nat.zero_le _, rfl, rfl, rfl⟩
  rintro k st ⟨i, hi, hk, ht, rfl⟩
  repeat refine AWP.nest ?_
  first | refine rsa hG [] [0, 1, 12, 13, 14] fun K hK => ?_ | refine rna hG [] [0, 1, 12, 13, 14] fun K hK => ?_
  repeat first | ((with_reducible refine shN ?_); refine sL ?_) | ((with_reducible refine shG ?_); refine sG ?_)
  refine Eq.mpr evalL_nil (hK _ ?_)
  clear hK K
  simp only [evU, St.keep, List.map_cons, look, reduceIte, Nat.reduceEqDiff]
  try show AWP _ _ _ _ _
  first | refine AWP.seq (AWP.cond (b := _) rfl (fun hc => ?_) (fun hc => ?_)) | refine AWP.cond (b := _) rfl (fun hc => ?_) (fun hc => ?_)
  rotate_left
  · refine AWP.exit ?_
    show AWP _ _ _ _ _
    simp only [evC, Int.not_lt] at hc
    obtain rfl : i = l.length := by omega
    have e : l = m := by rw [List.take_length, hlm, List.take_length] at ht; exact ht
    repeat refine AWP.nest ?_
    first | refine rsa hG [] [4] fun K hK => ?_ | refine rna hG [] [4] fun K hK => ?_
    repeat first | ((with_reducible refine shN ?_); refine sL ?_) | ((with_reducible refine shG ?_); refine sG ?_)
    refine Eq.mpr evalL_nil (hK _ ?_)
    clear hK K
    simp only [evU, St.keep, List.map_cons, look, reduceIte, Nat.reduceEqDiff]
    try show AWP _ _ _ _ _
    refine AWP.ret ?_
    refine ⟨.inl rfl, ⟨⟨_, rfl, ?_⟩, fun ob hob => by cases hob⟩⟩
    simp only [look, reduceIte, Nat.reduceEqDiff]
    exact sub1_of (by simp [e])
  simp only [evC, Int.not_lt] at hc
  refine AWP.skip ?_
  show AWP _ _ _ _ _
  have hi' := hc
  clear hc
  repeat refine AWP.nest ?_
  first | refine AWP.seq (AWP.block ?_) | refine AWP.block ?_
  repeat refine AWP.nest ?_
  first | refine rsa hG [] [0, 1, 12, 13, 5] fun K hK => ?_ | refine rna hG [] [0, 1, 12, 13, 5] fun K hK => ?_
  repeat first | ((with_reducible refine shN ?_); refine sL ?_) | ((with_reducible refine shG ?_); refine sG ?_)
  refine Eq.mpr evalL_nil (hK _ ?_)
  clear hK K
  simp only [evU, St.keep, List.map_cons, look, reduceIte, Nat.reduceEqDiff]
  try show AWP _ _ _ _ _
  repeat refine AWP.nest ?_
  first | refine rda hG [] [0, 1, 12, 13, 24] Try.mixed fun K hK => ?_ | refine dna hG [] [0, 1, 12, 13, 24] Try.mixed fun K hK => ?_
  repeat first | ((with_reducible refine shD ?_); refine sD ?_) | ((with_reducible refine shDG ?_); refine sDG ?_)
  refine evalD_done (by kernel_rfl) (hK _ ?_)
  clear hK K
  simp only [evU, St.keep, List.map_cons, look, reduceIte, Nat.reduceEqDiff]
  try show AWP _ _ _ _ _
  repeat refine AWP.nest ?_
  first | refine AWP.seq (AWP.cond (b := _) rfl (fun hc => ?_) (fun hc => ?_)) | refine AWP.cond (b := _) rfl (fun hc => ?_) (fun hc => ?_)
  all_goals try simp only [evC] at hc
  · have e : l ≠ m := by rintro rfl; exact hc rfl
    repeat refine AWP.nest ?_
    first | refine rsa hG [] [4] fun K hK => ?_ | refine rna hG [] [4] fun K hK => ?_
    repeat first | ((with_reducible refine shN ?_); refine sL ?_) | ((with_reducible refine shG ?_); refine sG ?_)
    refine Eq.mpr evalL_nil (hK _ ?_)
    clear hK K
    simp only [evU, St.keep, List.map_cons, look, reduceIte, Nat.reduceEqDiff]
    try show AWP _ _ _ _ _
    refine AWP.ret ?_
    refine ⟨.inl rfl, ⟨⟨_, rfl, ?_⟩, fun ob hob => by cases hob⟩⟩
    simp only [look, reduceIte, Nat.reduceEqDiff]
    exact sub1_of (by simp [e])
  · have e : l.getD i 0 = m.getD i 0 := by simpa using hc
    refine AWP.skip ?_
    show AWP _ _ _ _ _
    repeat refine AWP.nest ?_
    first | refine rsa hG [] [0, 1, 12, 13] fun K hK => ?_ | refine rna hG [] [0, 1, 12, 13] fun K hK => ?_
    repeat first | ((with_reducible refine shN ?_); refine sL ?_) | ((with_reducible refine shG ?_); refine sG ?_)
    refine Eq.mpr evalL_nil (hK _ ?_)
    clear hK K
    simp only [evU, St.keep, List.map_cons, look, reduceIte, Nat.reduceEqDiff]
    try show AWP _ _ _ _ _
    exact ⟨l.length - (i + 1), by omega, i + 1, by omega, rfl, take_same ht hi' (by omega) e, rfl⟩
def e37 : List AV → Option Ob → Option Res := fun args i => match args, i with
  | [.d false (.sl 1 xs), .d false (.sl 1 ys)], none => some ⟨IsB xs ∧ IsB ys, .d true (.v (.bool (decide (toInts xs = toInts ys)))), none⟩
  | _, _ => none
def F12 : FT := F11.upd 37 e37
theorem F12_ok : FOK Try.prog F12 := FOK.upd F11_ok Try.func37 (by kernel_rfl) rfl fun args i R h => by
  unfold e37 at h
  split at h
  · cases h
    refine Spec.pre fun h => ?_
    obtain ⟨l, rfl, hb⟩ := h.1.elim
    obtain ⟨m, rfl, hbm⟩ := h.2.elim
    rw [toInts_ints, toInts_ints]
    exact s37 l m hb hbm
  · cases h


/-! ### tally.Zeroed -/
/-- The bytes from q on, n of them, are noughts. -/
def zeroB (l : List Int) (q n : Int) : List Int := l.zipIdx.map fun p => if q ≤ (p.2 : Int) ∧ (p.2 : Int) - q < n then 0 else p.1
theorem zeroB_length (l : List Int) (q n : Int) : (zeroB l q n).length = l.length := by simp [zeroB]
theorem zeroB_take (l : List Int) (q n : Int) (i : Nat) (hi : i < l.length) : zeroB (l.take (i + 1)) q n = zeroB (l.take i) q n ++ [if q ≤ (i : Int) ∧ (i : Int) - q < n then 0 else l.getD i 0] := by
  rw [List.take_add_one, List.getElem?_eq_getElem hi, List.getD_eq_getElem?_getD, List.getElem?_eq_getElem hi]
  simp only [zeroB, Option.toList, List.zipIdx_append, List.map_append, List.zipIdx_cons, List.zipIdx_nil, List.map_cons, List.map_nil, List.length_take, Nat.min_eq_left (Nat.le_of_lt hi), Nat.zero_add, Option.getD_some]
theorem s39 (l : List Int) (hb : Byt l) (hl : l.length ≤ 1099511627776) (q n : Int) (hq : -1099511627776 ≤ q) (hq2 : q ≤ 1099511627776) :
    Spec Try.prog 39 [.d false (.sl 1 (ints .u8 l)), .d true (.v (.int .i64 q)), .d true (.v (.int .i64 n))] none ⟨True, .d true (.sl 1 (ints .u8 (zeroB l q n))), none⟩ := by
  have hf85 : F12 85 = e85 := rfl
  have hG := (Gf_ok F12_ok)
  have hfs := And.intro @hf85 @e85.eq_1
  have hxs := @Nat.add_zero
  refine spec_of_awp (Gf_ok F12_ok) Try.func39 rfl (Nat.le_of_ble_eq_true rfl) fun E hps hN _ => ?_
  simp only [begin, List.zipIdx_cons, List.zipIdx_nil, List.map_cons, List.map_nil, Option.toList, Nat.zero_add, Nat.reduceAdd]
  repeat refine AWP.nest ?_
  first | refine rsa hG [] [0, 1, 2] fun K hK => ?_ | refine rna hG [] [0, 1, 2] fun K hK => ?_
  repeat first | ((with_reducible refine shN ?_); refine sL ?_) | ((with_reducible refine shG ?_); refine sG ?_)
  refine Eq.mpr evalL_nil (hK _ ?_)
  clear hK K
  simp only [evU, St.keep, List.map_cons, look, reduceIte, Nat.reduceEqDiff]
  try show AWP _ _ _ _ _
  repeat refine AWP.nest ?_
  first | refine rsa hG [] [1, 2, 7] fun K hK => ?_ | refine rna hG [] [1, 2, 7] fun K hK => ?_
  repeat first | ((with_reducible refine shN ?_); refine sL ?_) | ((with_reducible refine shG ?_); refine sG ?_)
  refine Eq.mpr evalL_nil (hK _ ?_)
  clear hK K
  simp only [evU, St.keep, List.map_cons, look, reduceIte, Nat.reduceEqDiff]
  try show AWP _ _ _ _ _
  repeat refine AWP.nest ?_
  first | refine rsa hG [] [1, 2, 7, 12, 13] fun K hK => ?_ | refine rna hG [] [1, 2, 7, 12, 13] fun K hK => ?_
  repeat first | ((with_reducible refine shN ?_); refine sL ?_) | ((with_reducible refine shG ?_); refine sG ?_)
  refine Eq.mpr evalL_nil (hK _ ?_)
  clear hK K
  simp only [evU, St.keep, List.map_cons, look, reduceIte, Nat.reduceEqDiff]
  try show AWP _ _ _ _ _
  repeat refine AWP.nest ?_
  first | refine AWP.seq (AWP.block ?_) | refine AWP.block ?_
  refine AWP.loop (fun k st => ∃ (i : Nat), i ≤ l.length ∧ k = l.length - i ∧ st = ⟨[(1, .d true (.v (.int .i64 q))), (2, .d true (.v (.int .i64 n))), (7, .own 0 1), (12, .d true (.v (.int .i64 (l.length : Int)))), (13, .d true (.v (.int .i64 (i : Int))))], [some (.row 5 1 1 true (ints .u8 (zeroB (l.take i) q n ++ l.drop i)))]⟩) (l.length) ?_ ?_
  · exact ⟨0, Nat.zero_le _, rfl, rfl⟩
  rintro k st ⟨i, hi, hk, rfl⟩
  repeat refine AWP.nest ?_
  first | refine rsa hG [] [1, 2, 7, 12, 13, 14] fun K hK => ?_ | refine rna hG [] [1, 2, 7, 12, 13, 14] fun K hK => ?_
  repeat first | ((with_reducible refine shN ?_); refine sL ?_) | ((with_reducible refine shG ?_); refine sG ?_)
  refine Eq.mpr evalL_nil (hK _ ?_)
  clear hK K
  simp only [evU, St.keep, List.map_cons, look, reduceIte, Nat.reduceEqDiff]
  try show AWP _ _ _ _ _
  first | refine AWP.seq (AWP.cond (b := _) rfl (fun hc => ?_) (fun hc => ?_)) | refine AWP.cond (b := _) rfl (fun hc => ?_) (fun hc => ?_)
  rotate_left
  · refine AWP.exit ?_
    show AWP _ _ _ _ _
    simp only [evC, Int.not_lt] at hc
    obtain rfl : i = l.length := by omega
    rw [List.take_length, List.drop_length, List.append_nil]
    refine AWP.frz 0 (by rw [hps]; decide) rfl ?_
    simp only [St.frz, Ob.frz, AV.frz, AV.frz1, Option.map_none, mkAgg, datas, Dat.nagg, List.map_cons, List.map_nil, Option.map_some, and_self, true_and, and_true, reduceIte, Nat.reduceEqDiff, List.set_cons_zero, List.set_cons_succ, Bool.and_true, Bool.true_and]
    repeat refine AWP.nest ?_
    first | refine rsa hG [] [6] fun K hK => ?_ | refine rna hG [] [6] fun K hK => ?_
    repeat first | ((with_reducible refine shN ?_); refine sL ?_) | ((with_reducible refine shG ?_); refine sG ?_)
    refine Eq.mpr evalL_nil (hK _ ?_)
    clear hK K
    simp only [evU, St.keep, List.map_cons, look, reduceIte, Nat.reduceEqDiff]
    try show AWP _ _ _ _ _
    refine AWP.ret ?_
    refine ⟨.inl rfl, ⟨⟨_, rfl, ?_⟩, fun ob hob => by cases hob⟩⟩
    simp only [look, reduceIte, Nat.reduceEqDiff]
    exact sub1_of rfl
  simp only [evC, Int.not_lt] at hc
  refine AWP.skip ?_
  show AWP _ _ _ _ _
  have hi' := hc
  clear hc
  repeat refine AWP.nest ?_
  first | refine AWP.seq (AWP.block ?_) | refine AWP.block ?_
  repeat refine AWP.nest ?_
  first | refine rsa hG [] [1, 2, 7, 12, 13, 8] fun K hK => ?_ | refine rna hG [] [1, 2, 7, 12, 13, 8] fun K hK => ?_
  repeat first | ((with_reducible refine shN ?_); refine sL ?_) | ((with_reducible refine shG ?_); refine sG ?_)
  refine Eq.mpr evalL_nil (hK _ ?_)
  clear hK K
  simp only [evU, St.keep, List.map_cons, look, reduceIte, Nat.reduceEqDiff]
  try show AWP _ _ _ _ _
  repeat refine AWP.nest ?_
  first | refine rsa hG [] [1, 2, 7, 12, 13, 8, 25] fun K hK => ?_ | refine rna hG [] [1, 2, 7, 12, 13, 8, 25] fun K hK => ?_
  repeat first | ((with_reducible refine shN ?_); refine sL ?_) | ((with_reducible refine shG ?_); refine sG ?_)
  refine Eq.mpr evalL_nil (hK _ ?_)
  clear hK K
  simp only [evU, St.keep, List.map_cons, look, reduceIte, Nat.reduceEqDiff]
  try show AWP _ _ _ _ _
  have hdrop : l.drop i = l.getD i 0 :: l.drop (i + 1) := by
    rw [List.drop_eq_getElem_cons hi', List.getD_eq_getElem?_getD, List.getElem?_eq_getElem hi']; rfl
  have hlz : (zeroB (l.take i) q n).length = i := by rw [zeroB_length, List.length_take]; omega
  repeat refine AWP.nest ?_
  first | refine AWP.seq (AWP.cond (b := _) rfl (fun hc => ?_) (fun hc => ?_)) | refine AWP.cond (b := _) rfl (fun hc => ?_) (fun hc => ?_)
  all_goals try simp only [evC] at hc
  · have hz := zeroB_take l q n i hi'
    rw [if_pos (by omega)] at hz
    have hset : (zeroB (l.take i) q n ++ l.drop i).set i 0 = zeroB (l.take (i + 1)) q n ++ l.drop (i + 1) := by
      rw [hz, hdrop, List.set_append_right _ _ (by omega), hlz]
      simp
    have hll : (zeroB (l.take i) q n).length + (l.drop i).length = l.length := by rw [hlz, List.length_drop]; omega
    repeat refine AWP.nest ?_
    first | refine rsa hG [] [1, 2, 7, 12, 13] fun K hK => ?_ | refine rna hG [] [1, 2, 7, 12, 13] fun K hK => ?_
    repeat first | ((with_reducible refine shN ?_); refine sL ?_) | ((with_reducible refine shG ?_); refine sG ?_)
    refine Eq.mpr evalL_nil (hK _ ?_)
    clear hK K
    simp only [evU, St.keep, List.map_cons, look, reduceIte, Nat.reduceEqDiff]
    try show AWP _ _ _ _ _
    repeat refine AWP.nest ?_
    first | refine rsa hG [] [1, 2, 7, 12, 13] fun K hK => ?_ | refine rna hG [] [1, 2, 7, 12, 13] fun K hK => ?_
    repeat first | ((with_reducible refine shN ?_); refine sL ?_) | ((with_reducible refine shG ?_); refine sG ?_)
    refine Eq.mpr evalL_nil (hK _ ?_)
    clear hK K
    simp only [evU, St.keep, List.map_cons, look, reduceIte, Nat.reduceEqDiff]
    try show AWP _ _ _ _ _
    refine ⟨l.length - (i + 1), by omega, i + 1, by omega, rfl, ?_⟩
    rw [hset]; rfl
  · have hz := zeroB_take l q n i hi'
    rw [if_neg (by omega)] at hz
    have hset : zeroB (l.take i) q n ++ l.drop i = zeroB (l.take (i + 1)) q n ++ l.drop (i + 1) := by
      rw [hz, hdrop]; simp
    refine AWP.skip ?_
    show AWP _ _ _ _ _
    repeat refine AWP.nest ?_
    first | refine rsa hG [] [1, 2, 7, 12, 13] fun K hK => ?_ | refine rna hG [] [1, 2, 7, 12, 13] fun K hK => ?_
    repeat first | ((with_reducible refine shN ?_); refine sL ?_) | ((with_reducible refine shG ?_); refine sG ?_)
    refine Eq.mpr evalL_nil (hK _ ?_)
    clear hK K
    simp only [evU, St.keep, List.map_cons, look, reduceIte, Nat.reduceEqDiff]
    try show AWP _ _ _ _ _
    refine ⟨l.length - (i + 1), by omega, i + 1, by omega, rfl, ?_⟩
    rw [hset]; rfl
def e39 : List AV → Option Ob → Option Res := fun args i => match args, i with
  | [.d false (.sl 1 xs), .d true (.v (.int .i64 q)), .d true (.v (.int .i64 n))], none =>
    some ⟨IsB xs ∧ (toInts xs).length ≤ 1099511627776 ∧ -1099511627776 ≤ q ∧ q ≤ 1099511627776, .d true (.sl 1 (ints .u8 (zeroB (toInts xs) q n))), none⟩
  | _, _ => none
def F13 : FT := F12.upd 39 e39
theorem F13_ok : FOK Try.prog F13 := FOK.upd F12_ok Try.func39 (by kernel_rfl) rfl fun args i R h => by
  unfold e39 at h
  split at h
  · cases h
    refine Spec.pre fun h => ?_
    obtain ⟨l, rfl, hb⟩ := h.1.elim
    rw [toInts_ints] at h ⊢
    exact s39 l hb h.2.1 _ _ h.2.2.1 h.2.2.2
  · cases h
end Go.AM

