/- AM: word.Sub, ref01.Part, ref03.Zeroed. -/
import Derived.Test.YtmfobkiljlepjaaC81
set_option maxRecDepth 100000
set_option maxHeartbeats 8000000
set_option linter.unusedSimpArgs false
set_option linter.unusedVariables false
namespace Go.AM
open Go Go.Proofs



/-- Some bytes, where they are there. -/
def subV (l : List Int) (a n : Int) : List Int := if a + n ≤ (l.length : Int) then (l.drop a.toNat).take n.toNat else []
theorem s121 (l : List Int) (hb : Byt l) (hl : l.length ≤ 1000000000000) (a n : Int) (ha0 : 0 ≤ a) (ha1 : a < 4294967296) (hn0 : 0 ≤ n) (hn1 : n < 4294967296) :
    Spec Try.prog 121 [.d false (.sl 1 (ints .u8 l)), .d true (.v (.int .u32 a)), .d true (.v (.int .u32 n))] none ⟨True, .tup [.d true (.sl 1 (ints .u8 (subV l a n))), .d true (.v (.bool (decide (a + n ≤ (l.length : Int)))))], none⟩ := by
  have hf85 : F108 85 = e85 := rfl
  have hG := (Gf_ok F108_ok)
  have hfs := And.intro @hf85 (And.intro @e85.eq_1 (And.intro @evP @evTb))
  have hxs := @Nat.add_zero
  refine spec_of_awp (Gf_ok F108_ok) Try.func121 rfl (Nat.le_of_ble_eq_true rfl) fun E hps hN _ => ?_
  simp only [begin, List.zipIdx_cons, List.zipIdx_nil, List.map_cons, List.map_nil, Option.toList, Nat.zero_add, Nat.reduceAdd]
  repeat refine AWP.nest ?_
  first | refine rsa hG [] [0, 1, 2] fun K hK => ?_ | refine rna hG [] [0, 1, 2] fun K hK => ?_
  repeat first | ((with_reducible refine shN ?_); refine sL ?_) | ((with_reducible refine shG ?_); refine sG ?_)
  refine Eq.mpr evalL_nil (hK _ ?_)
  clear hK K
  simp only [evU, St.keep, List.map_cons, look, reduceIte, Nat.reduceEqDiff]
  try show AWP _ _ _ _ _
  have em : (a % 18446744073709551616 + n % 18446744073709551616) % 18446744073709551616 = a + n := by omega
  repeat refine AWP.nest ?_
  first | refine rsa hG [] [0, 1, 8] fun K hK => ?_ | refine rna hG [] [0, 1, 8] fun K hK => ?_
  repeat first | ((with_reducible refine shN ?_); refine sL ?_) | ((with_reducible refine shG ?_); refine sG ?_)
  refine Eq.mpr evalL_nil (hK _ ?_)
  clear hK K
  simp only [evU, St.keep, List.map_cons, look, reduceIte, Nat.reduceEqDiff]
  try show AWP _ _ _ _ _
  rw [em]
  repeat refine AWP.nest ?_
  first | refine rsa hG [] [0, 1, 8, 18] fun K hK => ?_ | refine rna hG [] [0, 1, 8, 18] fun K hK => ?_
  repeat first | ((with_reducible refine shN ?_); refine sL ?_) | ((with_reducible refine shG ?_); refine sG ?_)
  refine Eq.mpr evalL_nil (hK _ ?_)
  clear hK K
  simp only [evU, St.keep, List.map_cons, look, reduceIte, Nat.reduceEqDiff]
  try show AWP _ _ _ _ _
  repeat refine AWP.nest ?_
  first | refine AWP.seq (AWP.cond (b := _) rfl (fun hc => ?_) (fun hc => ?_)) | refine AWP.cond (b := _) rfl (fun hc => ?_) (fun hc => ?_)
  all_goals try simp only [evC] at hc
  · have hno : ¬ (a + n ≤ (l.length : Int)) := by omega
    have e1 : subV l a n = [] := by unfold subV; rw [if_neg hno]
    have e2 : decide (a + n ≤ (l.length : Int)) = false := by simpa using hno
    rw [e1, e2]
    repeat refine AWP.nest ?_
    first | refine rsa hG [] [6, 7] fun K hK => ?_ | refine rna hG [] [6, 7] fun K hK => ?_
    repeat first | ((with_reducible refine shN ?_); refine sL ?_) | ((with_reducible refine shG ?_); refine sG ?_)
    refine Eq.mpr evalL_nil (hK _ ?_)
    clear hK K
    simp only [evU, St.keep, List.map_cons, look, reduceIte, Nat.reduceEqDiff]
    try show AWP _ _ _ _ _
    refine AWP.ret ?_
    refine ⟨.inl rfl, ⟨⟨_, rfl, ?_⟩, fun ob hob => by cases hob⟩⟩
    simp only [look, reduceIte, Nat.reduceEqDiff]
    refine ⟨_, rfl, (.cons ?_ (.cons ?_ .nil))⟩
    · exact .nil _ _ _
    · exact sub1_of rfl
  have hyes : a + n ≤ (l.length : Int) := by omega
  have e1 : subV l a n = (l.drop a.toNat).take n.toNat := by unfold subV; rw [if_pos hyes]
  have e2 : decide (a + n ≤ (l.length : Int)) = true := by simpa using hyes
  have e3 : (a + n).toNat - a.toNat = n.toNat := by omega
  have hln : ((l.drop a.toNat).take n.toNat).length ≤ 1099511627776 := by simp only [List.length_take, List.length_drop]; omega
  have hbs : Byt ((l.drop a.toNat).take n.toNat) := (hb.drop _).take _
  rw [e1, e2]
  clear hc
  refine AWP.skip ?_
  show AWP _ _ _ _ _
  repeat refine AWP.nest ?_
  have hxs := @e3
  first | refine rsa hG [] [6, 7] fun K hK => ?_ | refine rna hG [] [6, 7] fun K hK => ?_
  repeat first | ((with_reducible refine shN ?_); refine sL ?_) | ((with_reducible refine shG ?_); refine sG ?_)
  refine Eq.mpr evalL_nil (hK _ ?_)
  clear hK K hxs
  simp only [evU, St.keep, List.map_cons, look, reduceIte, Nat.reduceEqDiff]
  try show AWP _ _ _ _ _
  refine AWP.frz 0 (by rw [hps]; decide) rfl ?_
  simp only [St.frz, Ob.frz, AV.frz, AV.frz1, Option.map_none, mkAgg, datas, Dat.nagg, List.map_cons, List.map_nil, Option.map_some, and_self, true_and, and_true, reduceIte, Nat.reduceEqDiff, List.set_cons_zero, List.set_cons_succ, Bool.and_true, Bool.true_and]
  refine AWP.ret ?_
  refine ⟨.inl rfl, ⟨⟨_, rfl, ?_⟩, fun ob hob => by cases hob⟩⟩
  simp only [look, reduceIte, Nat.reduceEqDiff]
  refine ⟨_, rfl, (.cons ?_ (.cons ?_ .nil))⟩
  · exact sub1_of rfl
  · exact sub1_of rfl
def e121 : List AV → Option Ob → Option Res := fun args i => match args, i with
  | [.d false (.sl 1 xs), .d true (.v (.int .u32 a)), .d true (.v (.int .u32 n))], none => some ⟨IsB xs ∧ (toInts xs).length ≤ 1000000000000 ∧ 0 ≤ a ∧ a < 4294967296 ∧ 0 ≤ n ∧ n < 4294967296, .tup [.d true (.sl 1 (ints .u8 (subV (toInts xs) a n))), .d true (.v (.bool (decide (a + n ≤ ((toInts xs).length : Int)))))], none⟩
  | _, _ => none
def F116 : FT := F108.upd 121 e121
theorem F116_ok : FOK Try.prog F116 := FOK.upd F108_ok Try.func121 (by kernel_rfl) rfl fun args i R h => by
  unfold e121 at h
  split at h
  · cases h
    refine Spec.pre fun h => ?_
    obtain ⟨l, rfl, hb⟩ := h.1.elim
    rw [toInts_ints] at h ⊢
    exact s121 l hb h.2.1 _ _ h.2.2.1 h.2.2.2.1 h.2.2.2.2.1 h.2.2.2.2.2
  · cases h

/-! ### ref01.Part -/
theorem take_snocB {l : List Int} {i : Nat} (h : i < l.length) : l.take (i + 1) = l.take i ++ [l.getD i 0] := by
  rw [List.take_add_one, List.getElem?_eq_getElem h, List.getD_eq_getElem?_getD, List.getElem?_eq_getElem h]
  rfl
def mn (i b : Nat) : Nat := min i b
theorem part_step {l : List Int} {a b i : Nat} (hi : i < l.length) : (l.take (mn (i + 1) b)).drop a = if a ≤ i ∧ i < b then (l.take (mn i b)).drop a ++ [l.getD i 0] else (l.take (mn i b)).drop a := by
  unfold mn
  by_cases hb : i < b
  · rw [show min (i + 1) b = i + 1 by omega, show min i b = i by omega, take_snocB hi]
    by_cases ha : a ≤ i
    · rw [if_pos ⟨ha, hb⟩, List.drop_append_of_le_length (by rw [List.length_take]; omega)]
    · rw [if_neg (fun h => ha h.1), List.drop_eq_nil_of_le (by rw [List.length_append, List.length_take]; simp; omega), List.drop_eq_nil_of_le (by rw [List.length_take]; omega)]
  · rw [show min (i + 1) b = b by omega, show min i b = b by omega, if_neg (fun h => hb h.2)]

theorem s122 (l : List Int) (hb : Byt l) (a b : Nat) (ha : a ≤ 1099511627776) (hbb : b ≤ 1099511627776) : Spec Try.prog 122 [.d false (.sl 1 (ints .u8 l)), .d true (.v (.int .i64 (a : Int))), .d true (.v (.int .i64 (b : Int)))] none ⟨True, .d true (.sl 1 (ints .u8 ((l.take b).drop a))), none⟩ := by
  have hG := (Gf_ok F116_ok)
  have hfs := And.intro @evP @evTb
  have hxs := @Nat.add_zero
  refine spec_of_awp (Gf_ok F116_ok) Try.func122 rfl (Nat.le_of_ble_eq_true rfl) fun E hps hN _ => ?_
  simp only [begin, List.zipIdx_cons, List.zipIdx_nil, List.map_cons, List.map_nil, Option.toList, Nat.zero_add, Nat.reduceAdd]
  refine AWP.len 0 rfl fun hlen => ?_
  rw [ints_length] at hlen
  repeat refine AWP.nest ?_
  first | refine rsa hG [] [0, 1, 2] fun K hK => ?_ | refine rna hG [] [0, 1, 2] fun K hK => ?_
  repeat first | ((with_reducible refine shN ?_); refine sL ?_) | ((with_reducible refine shG ?_); refine sG ?_)
  refine Eq.mpr evalL_nil (hK _ ?_)
  clear hK K
  simp only [evU, St.keep, List.map_cons, look, reduceIte, Nat.reduceEqDiff]
  try show AWP _ _ _ _ _
  repeat refine AWP.nest ?_
  first | refine rsa hG [] [0, 1, 2, 7] fun K hK => ?_ | refine rna hG [] [0, 1, 2, 7] fun K hK => ?_
  repeat first | ((with_reducible refine shN ?_); refine sL ?_) | ((with_reducible refine shG ?_); refine sG ?_)
  refine Eq.mpr evalL_nil (hK _ ?_)
  clear hK K
  simp only [evU, St.keep, List.map_cons, look, reduceIte, Nat.reduceEqDiff]
  try show AWP _ _ _ _ _
  repeat refine AWP.nest ?_
  first | refine rsa hG [] [1, 2, 7, 10, 11, 12] fun K hK => ?_ | refine rna hG [] [1, 2, 7, 10, 11, 12] fun K hK => ?_
  repeat first | ((with_reducible refine shN ?_); refine sL ?_) | ((with_reducible refine shG ?_); refine sG ?_)
  refine Eq.mpr evalL_nil (hK _ ?_)
  clear hK K
  simp only [evU, St.keep, List.map_cons, look, reduceIte, Nat.reduceEqDiff]
  try show AWP _ _ _ _ _
  refine AWP.adopt 7 5 1 (by decide) rfl ?_
  refine AWP.keep [1, 2, 7, 10, 11, 12] ?_
  simp only [St.keep, List.map_cons, List.map_nil, look, reduceIte, Nat.reduceEqDiff]
  simp only [St.adopt, List.nil_append, List.length_nil]
  repeat refine AWP.nest ?_
  first | refine AWP.seq (AWP.block ?_) | refine AWP.block ?_
  refine AWP.loop (fun k st => ∃ (i : Nat), i ≤ l.length ∧ k = l.length - i ∧ st = ⟨[(1, .d true (.v (.int .i64 (a : Int)))), (2, .d true (.v (.int .i64 (b : Int)))), (7, .own 0 ((l.take (mn i b)).drop a).length), (10, .d false (.sl 1 (ints .u8 l))), (11, .d true (.v (.int .i64 (l.length : Int)))), (12, .d true (.v (.int .i64 (i : Int))))], [some (.row 5 1 ((l.take (mn i b)).drop a).length true (ints .u8 ((l.take (mn i b)).drop a)))]⟩) (l.length) ?_ ?_
  · exact ⟨0, Nat.zero_le _, rfl, by rw [show mn 0 b = 0 by unfold mn; omega, List.take_zero, List.drop_nil]; rfl⟩
  rintro k st ⟨i, hi, hk, rfl⟩
  have hpl : ((l.take (mn i b)).drop a).length ≤ 1099511627776 := by unfold mn; simp only [List.length_drop, List.length_take]; omega
  repeat refine AWP.nest ?_
  first | refine rsa hG [] [1, 2, 7, 10, 11, 12, 13] fun K hK => ?_ | refine rna hG [] [1, 2, 7, 10, 11, 12, 13] fun K hK => ?_
  repeat first | ((with_reducible refine shN ?_); refine sL ?_) | ((with_reducible refine shG ?_); refine sG ?_)
  refine Eq.mpr evalL_nil (hK _ ?_)
  clear hK K
  simp only [evU, St.keep, List.map_cons, look, reduceIte, Nat.reduceEqDiff]
  try show AWP _ _ _ _ _
  first | refine AWP.seq (AWP.cond (b := _) rfl (fun hc => ?_) (fun hc => ?_)) | refine AWP.cond (b := _) rfl (fun hc => ?_) (fun hc => ?_)
  rotate_left
  · refine AWP.exit ?_
    show AWP _ _ _ _ _
    simp only [evC, Int.not_lt] at hc
    obtain rfl : i = l.length := by omega
    have e : l.take (mn l.length b) = l.take b := by
      unfold mn
      rcases Nat.le_total l.length b with h | h
      · rw [Nat.min_eq_left h, List.take_of_length_le (Nat.le_refl _), List.take_of_length_le h]
      · rw [Nat.min_eq_right h]
    rw [e]
    repeat refine AWP.nest ?_
    first | refine rsa hG [] [6] fun K hK => ?_ | refine rna hG [] [6] fun K hK => ?_
    repeat first | ((with_reducible refine shN ?_); refine sL ?_) | ((with_reducible refine shG ?_); refine sG ?_)
    refine Eq.mpr evalL_nil (hK _ ?_)
    clear hK K
    simp only [evU, St.keep, List.map_cons, look, reduceIte, Nat.reduceEqDiff]
    try show AWP _ _ _ _ _
    refine AWP.frz 0 (by rw [hps]; decide) rfl ?_
    simp only [St.frz, Ob.frz, AV.frz, AV.frz1, Option.map_none, mkAgg, datas, Dat.nagg, List.map_cons, List.map_nil, Option.map_some, and_self, true_and, and_true, reduceIte, Nat.reduceEqDiff, List.set_cons_zero, List.set_cons_succ, Bool.and_true, Bool.true_and]
    refine AWP.ret ?_
    refine ⟨.inl rfl, ⟨⟨_, rfl, ?_⟩, fun ob hob => by cases hob⟩⟩
    simp only [look, reduceIte, Nat.reduceEqDiff]
    exact sub1_of rfl
  simp only [evC, Int.not_lt] at hc
  refine AWP.skip ?_
  show AWP _ _ _ _ _
  have hi' := hc
  clear hc
  have hst := part_step (a := a) (b := b) hi'
  repeat refine AWP.nest ?_
  first | refine AWP.seq (AWP.block ?_) | refine AWP.block ?_
  repeat refine AWP.nest ?_
  first | refine rsa hG [] [1, 2, 7, 8, 9, 10, 11, 12] fun K hK => ?_ | refine rna hG [] [1, 2, 7, 8, 9, 10, 11, 12] fun K hK => ?_
  repeat first | ((with_reducible refine shN ?_); refine sL ?_) | ((with_reducible refine shG ?_); refine sG ?_)
  refine Eq.mpr evalL_nil (hK _ ?_)
  clear hK K
  simp only [evU, St.keep, List.map_cons, look, reduceIte, Nat.reduceEqDiff]
  try show AWP _ _ _ _ _
  repeat refine AWP.nest ?_
  first | refine rsa hG [] [1, 2, 7, 9, 10, 11, 12, 24] fun K hK => ?_ | refine rna hG [] [1, 2, 7, 9, 10, 11, 12, 24] fun K hK => ?_
  repeat first | ((with_reducible refine shN ?_); refine sL ?_) | ((with_reducible refine shG ?_); refine sG ?_)
  refine Eq.mpr evalL_nil (hK _ ?_)
  clear hK K
  simp only [evU, St.keep, List.map_cons, look, reduceIte, Nat.reduceEqDiff]
  try show AWP _ _ _ _ _
  repeat refine AWP.nest ?_
  first | refine AWP.seq (AWP.cond (b := _) rfl (fun hc => ?_) (fun hc => ?_)) | refine AWP.cond (b := _) rfl (fun hc => ?_) (fun hc => ?_)
  all_goals try simp only [evC] at hc
  · rw [if_pos (by omega)] at hst
    repeat refine AWP.nest ?_
    first | refine rsa hG [] [1, 2, 7, 10, 11, 12] fun K hK => ?_ | refine rna hG [] [1, 2, 7, 10, 11, 12] fun K hK => ?_
    repeat first | ((with_reducible refine shN ?_); refine sL ?_) | ((with_reducible refine shG ?_); refine sG ?_)
    refine Eq.mpr evalL_nil (hK _ ?_)
    clear hK K
    simp only [evU, St.keep, List.map_cons, look, reduceIte, Nat.reduceEqDiff]
    try show AWP _ _ _ _ _
    repeat refine AWP.nest ?_
    first | refine rsa hG [] [1, 2, 7, 10, 11, 12] fun K hK => ?_ | refine rna hG [] [1, 2, 7, 10, 11, 12] fun K hK => ?_
    repeat first | ((with_reducible refine shN ?_); refine sL ?_) | ((with_reducible refine shG ?_); refine sG ?_)
    refine Eq.mpr evalL_nil (hK _ ?_)
    clear hK K
    simp only [evU, St.keep, List.map_cons, look, reduceIte, Nat.reduceEqDiff]
    try show AWP _ _ _ _ _
    refine ⟨l.length - (i + 1), by omega, i + 1, by omega, rfl, ?_⟩
    rw [hst, List.length_append]
    rfl
  refine AWP.skip ?_
  show AWP _ _ _ _ _
  rw [if_neg (by omega)] at hst
  repeat refine AWP.nest ?_
  first | refine rsa hG [] [1, 2, 7, 10, 11, 12] fun K hK => ?_ | refine rna hG [] [1, 2, 7, 10, 11, 12] fun K hK => ?_
  repeat first | ((with_reducible refine shN ?_); refine sL ?_) | ((with_reducible refine shG ?_); refine sG ?_)
  refine Eq.mpr evalL_nil (hK _ ?_)
  clear hK K
  simp only [evU, St.keep, List.map_cons, look, reduceIte, Nat.reduceEqDiff]
  try show AWP _ _ _ _ _
  refine ⟨l.length - (i + 1), by omega, i + 1, by omega, rfl, ?_⟩
  rw [hst]
  rfl
def e122 : List AV → Option Ob → Option Res := fun args i => match args, i with
  | [.d false (.sl 1 xs), .d true (.v (.int .i64 a)), .d true (.v (.int .i64 b))], none => some ⟨IsB xs ∧ 0 ≤ a ∧ a ≤ 1099511627776 ∧ 0 ≤ b ∧ b ≤ 1099511627776, .d true (.sl 1 (ints .u8 (((toInts xs).take b.toNat).drop a.toNat))), none⟩
  | _, _ => none
def F117 : FT := F116.upd 122 e122
theorem F117_ok : FOK Try.prog F117 := FOK.upd F116_ok Try.func122 (by kernel_rfl) rfl fun args i R h => by
  unfold e122 at h
  split at h
  · rename_i xs a b
    cases h
    refine Spec.pre fun h => ?_
    obtain ⟨l, rfl, hb⟩ := h.1.elim
    rw [toInts_ints]
    have := s122 l hb a.toNat b.toNat (by omega) (by omega)
    rwa [show ((a.toNat : Nat) : Int) = a by omega, show ((b.toNat : Nat) : Int) = b by omega] at this
  · cases h
end Go.AM

