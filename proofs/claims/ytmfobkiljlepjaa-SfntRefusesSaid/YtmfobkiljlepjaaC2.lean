/- AM: functions, on. -/
import Derived.Test.YtmfobkiljlepjaaC1
set_option maxRecDepth 100000
set_option maxHeartbeats 8000000
set_option linter.unusedSimpArgs false
set_option linter.unusedVariables false
namespace Go.AM
open Go Go.Proofs


/-! ### ref02.Sum -/
def wt (i : Nat) : Int := if i % 4 = 0 then 16777216 else if i % 4 = 1 then 65536 else if i % 4 = 2 then 256 else 1
def refSum : Nat → List Int → Int
  | _, [] => 0
  | i, b :: l => b * wt i + refSum (i + 1) l
theorem refSum_append : ∀ (l m : List Int) (i : Nat), refSum i (l ++ m) = refSum i l + refSum (i + l.length) m
  | [], m, i => by simp [refSum]
  | b :: l, m, i => by
    simp only [List.cons_append, refSum, refSum_append l m (i + 1), List.length_cons]
    rw [show i + 1 + l.length = i + (l.length + 1) by omega]
    omega
theorem wt_get (i : Nat) : [16777216, 65536, 256, 1].getD (((i : Int) % 4).toNat) 0 = wt i := by
  have e : ((i : Int) % 4).toNat = i % 4 := by omega
  rw [e]
  unfold wt
  have : i % 4 = 0 ∨ i % 4 = 1 ∨ i % 4 = 2 ∨ i % 4 = 3 := by omega
  rcases this with h | h | h | h <;> rw [h] <;> rfl
theorem s36 (l : List Int) (hb : Byt l) : Spec Try.prog 36 [.d false (.sl 1 (ints .u8 l))] none ⟨True, .d true (.v (.int .u32 (refSum 0 l % 4294967296))), none⟩ := by
  have hG := (Gf_ok F4_ok)
  have hfs := @Nat.add_zero
  have hxs := @Nat.add_zero
  refine spec_of_awp (Gf_ok F4_ok) Try.func36 rfl (Nat.le_of_ble_eq_true rfl) fun E hps hN _ => ?_
  simp only [begin, List.zipIdx_cons, List.zipIdx_nil, List.map_cons, List.map_nil, Option.toList, Nat.zero_add, Nat.reduceAdd]
  repeat refine AWP.nest ?_
  first | refine rsa hG [] [0] fun K hK => ?_ | refine rna hG [] [0] fun K hK => ?_
  repeat first | ((with_reducible refine shN ?_); refine sL ?_) | ((with_reducible refine shG ?_); refine sG ?_)
  refine Eq.mpr evalL_nil (hK _ ?_)
  clear hK K
  simp only [evU, St.keep, List.map_cons, look, reduceIte, Nat.reduceEqDiff]
  try show AWP _ _ _ _ _
  repeat refine AWP.nest ?_
  first | refine rsa hG [] [0, 3] fun K hK => ?_ | refine rna hG [] [0, 3] fun K hK => ?_
  repeat first | ((with_reducible refine shN ?_); refine sL ?_) | ((with_reducible refine shG ?_); refine sG ?_)
  refine Eq.mpr evalL_nil (hK _ ?_)
  clear hK K
  simp only [evU, St.keep, List.map_cons, look, reduceIte, Nat.reduceEqDiff]
  try show AWP _ _ _ _ _
  repeat refine AWP.nest ?_
  first | refine rsa hG [] [3, 6, 7, 8] fun K hK => ?_ | refine rna hG [] [3, 6, 7, 8] fun K hK => ?_
  repeat first | ((with_reducible refine shN ?_); refine sL ?_) | ((with_reducible refine shG ?_); refine sG ?_)
  refine Eq.mpr evalL_nil (hK _ ?_)
  clear hK K
  simp only [evU, St.keep, List.map_cons, look, reduceIte, Nat.reduceEqDiff]
  try show AWP _ _ _ _ _
  refine AWP.len 6 rfl fun hlen => ?_
  rw [ints_length] at hlen
  repeat refine AWP.nest ?_
  first | refine AWP.seq (AWP.block ?_) | refine AWP.block ?_
  refine AWP.loop (fun n st => ∃ (i : Nat), i ≤ l.length ∧ n = l.length - i ∧ st = ⟨[(3, .d true (.v (.int .u64 (refSum 0 (l.take i) % 18446744073709551616)))), (6, .d false (.sl 1 (ints .u8 l))), (7, .d true (.v (.int .i64 (l.length : Int)))), (8, .d true (.v (.int .i64 (i : Int))))], []⟩) (l.length) ?_ ?_
  · exact ⟨0, Nat.zero_le _, rfl, by simp [refSum]⟩
  rintro n st ⟨i, hi, hn, rfl⟩
  repeat refine AWP.nest ?_
  first | refine rsa hG [] [3, 6, 7, 8, 9] fun K hK => ?_ | refine rna hG [] [3, 6, 7, 8, 9] fun K hK => ?_
  repeat first | ((with_reducible refine shN ?_); refine sL ?_) | ((with_reducible refine shG ?_); refine sG ?_)
  refine Eq.mpr evalL_nil (hK _ ?_)
  clear hK K
  simp only [evU, St.keep, List.map_cons, look, reduceIte, Nat.reduceEqDiff]
  try show AWP _ _ _ _ _
  first | refine AWP.seq (AWP.cond (b := _) rfl (fun hc => ?_) (fun hc => ?_)) | refine AWP.cond (b := _) rfl (fun hc => ?_) (fun hc => ?_)
  rotate_left
  · refine AWP.exit ?_
    show AWP _ _ _ _ _
    simp only [evC, Int.not_lt] at hc
    obtain rfl : i = l.length := by omega
    rw [List.take_length]
    repeat refine AWP.nest ?_
    first | refine rsa hG [] [2] fun K hK => ?_ | refine rna hG [] [2] fun K hK => ?_
    repeat first | ((with_reducible refine shN ?_); refine sL ?_) | ((with_reducible refine shG ?_); refine sG ?_)
    refine Eq.mpr evalL_nil (hK _ ?_)
    clear hK K
    simp only [evU, St.keep, List.map_cons, look, reduceIte, Nat.reduceEqDiff]
    try show AWP _ _ _ _ _
    refine AWP.ret ?_
    refine ⟨.inl rfl, ⟨⟨_, rfl, ?_⟩, fun ob hob => by cases hob⟩⟩
    simp only [look, reduceIte, Nat.reduceEqDiff]
    refine sub1_of ?_
    have : refSum 0 l % 18446744073709551616 % 4294967296 % 4294967296 = refSum 0 l % 4294967296 := by omega
    rw [this]
  simp only [evC, Int.not_lt] at hc
  refine AWP.skip ?_
  show AWP _ _ _ _ _
  have hbi := hb.getD i
  repeat refine AWP.nest ?_
  first | refine AWP.seq (AWP.block ?_) | refine AWP.block ?_
  repeat refine AWP.nest ?_
  first | refine rsa hG [] [3, 6, 7, 8, 4, 5] fun K hK => ?_ | refine rna hG [] [3, 6, 7, 8, 4, 5] fun K hK => ?_
  repeat first | ((with_reducible refine shN ?_); refine sL ?_) | ((with_reducible refine shG ?_); refine sG ?_)
  refine Eq.mpr evalL_nil (hK _ ?_)
  clear hK K
  simp only [evU, St.keep, List.map_cons, look, reduceIte, Nat.reduceEqDiff]
  try show AWP _ _ _ _ _
  have hw : [16777216, 65536, 256, 1].getD (((i : Int) % 4).toNat) 0 = wt i := wt_get i
  have hs : refSum 0 (l.take (i + 1)) = refSum 0 (l.take i) + l.getD i 0 * wt i := by
    rw [List.take_add_one, refSum_append, List.getElem?_eq_getElem hc, List.getD_eq_getElem?_getD, List.getElem?_eq_getElem hc]
    simp [refSum, Nat.min_eq_left hi]
  repeat refine AWP.nest ?_
  first | refine rsa hG [] [3, 6, 7, 8] fun K hK => ?_ | refine rna hG [] [3, 6, 7, 8] fun K hK => ?_
  repeat first | ((with_reducible refine shN ?_); refine sL ?_) | ((with_reducible refine shG ?_); refine sG ?_)
  refine Eq.mpr evalL_nil (hK _ ?_)
  clear hK K
  simp only [evU, St.keep, List.map_cons, look, reduceIte, Nat.reduceEqDiff]
  try show AWP _ _ _ _ _
  repeat refine AWP.nest ?_
  first | refine rsa hG [] [3, 6, 7, 8] fun K hK => ?_ | refine rna hG [] [3, 6, 7, 8] fun K hK => ?_
  repeat first | ((with_reducible refine shN ?_); refine sL ?_) | ((with_reducible refine shG ?_); refine sG ?_)
  refine Eq.mpr evalL_nil (hK _ ?_)
  clear hK K
  simp only [evU, St.keep, List.map_cons, look, reduceIte, Nat.reduceEqDiff]
  try show AWP _ _ _ _ _
  refine ⟨l.length - (i + 1), by omega, i + 1, by omega, rfl, ?_⟩
  rw [hw, hs]
  have e1 : (refSum 0 (List.take i l) % 18446744073709551616 + l.getD i 0 % 18446744073709551616 * wt i % 18446744073709551616) % 18446744073709551616 = (refSum 0 (List.take i l) + l.getD i 0 * wt i) % 18446744073709551616 := by
    have e2 : l.getD i 0 % 18446744073709551616 = l.getD i 0 := by omega
    rw [e2]; omega
  rw [e1]; rfl
def e36 : List AV → Option Ob → Option Res := fun args i => match args, i with
  | [.d false (.sl 1 xs)], none => some ⟨IsB xs, .d true (.v (.int .u32 (refSum 0 (toInts xs) % 4294967296))), none⟩
  | _, _ => none
def F5 : FT := F4.upd 36 e36
theorem F5_ok : FOK Try.prog F5 := FOK.upd F4_ok Try.func36 (by kernel_rfl) rfl fun args i R h => by
  unfold e36 at h
  split at h
  · cases h; exact Spec.pre fun h => by have := s36 _ h.2; rwa [← h.1] at this
  · cases h


/-! ### bytes.Clone -/
theorem s85 (l : List Int) (hl : l.length ≤ 1099511627776) : Spec Try.prog 85 [.d false (.sl 1 (ints .u8 l))] none ⟨True, .own 0 1, some (.row 5 1 1 true (ints .u8 l))⟩ := by
  have hG := (Gf_ok F5_ok)
  have hfs := @Nat.add_zero
  have hxs := @Nat.add_zero
  refine spec_of_awp (Gf_ok F5_ok) Try.func85 rfl (Nat.le_of_ble_eq_true rfl) fun E hps hN _ => ?_
  simp only [begin, List.zipIdx_cons, List.zipIdx_nil, List.map_cons, List.map_nil, Option.toList, Nat.zero_add, Nat.reduceAdd]
  repeat refine AWP.nest ?_
  first | refine rsa hG [] [0] fun K hK => ?_ | refine rna hG [] [0] fun K hK => ?_
  repeat first | ((with_reducible refine shN ?_); refine sL ?_) | ((with_reducible refine shG ?_); refine sG ?_)
  refine Eq.mpr evalL_nil (hK _ ?_)
  clear hK K
  simp only [evU, St.keep, List.map_cons, look, reduceIte, Nat.reduceEqDiff]
  try show AWP _ _ _ _ _
  refine AWP.nest ?_
  refine AWP.nilcmp (t0 := 0) (t1 := 3) (t2 := 4) (ty := 24) T_ok (e := 5) (xs := ints .u8 l) (sz := 1) (fr := false) rfl rfl ?_ ?_ fun b hb => ?_
  · rw [hN]; decide
  · rw [hN]; decide
  refine AWP.keep [0, 4] ?_
  simp only [St.keep, List.map_cons, List.map_nil, look, reduceIte, Nat.reduceEqDiff]
  repeat refine AWP.nest ?_
  first | refine AWP.seq (AWP.cond (b := _) rfl (fun hc => ?_) (fun hc => ?_)) | refine AWP.cond (b := _) rfl (fun hc => ?_) (fun hc => ?_)
  all_goals try simp only [evC] at hc
  · have e0 : l = [] := by
      have := hb hc
      simpa [ints] using this
    subst e0
    refine AWP.seq ?_
    repeat refine AWP.nest ?_
    first | refine rsa hG [] [2] fun K hK => ?_ | refine rna hG [] [2] fun K hK => ?_
    repeat first | ((with_reducible refine shN ?_); refine sL ?_) | ((with_reducible refine shG ?_); refine sG ?_)
    refine Eq.mpr evalL_nil (hK _ ?_)
    clear hK K
    simp only [evU, St.keep, List.map_cons, look, reduceIte, Nat.reduceEqDiff]
    try show AWP _ _ _ _ _
    refine AWP.adopt 2 5 1 (by decide) rfl ?_
    refine AWP.bump 2 1 rfl rfl ?_
    refine AWP.ret ?_
    refine ⟨.inl rfl, ⟨⟨_, rfl, ?_⟩, fun ob hob => ?_⟩⟩
    simp only [look, reduceIte, Nat.reduceEqDiff]
    rotate_left
    cases hob
    · rfl
    · exact sub1_of rfl
  · refine AWP.skip ?_
    show AWP _ _ _ _ _
    repeat refine AWP.nest ?_
    first | refine rsa hG [0] [2] fun K hK => ?_ | refine rna hG [0] [2] fun K hK => ?_
    repeat first | ((with_reducible refine shN ?_); refine sL ?_) | ((with_reducible refine shG ?_); refine sG ?_)
    refine Eq.mpr evalL_nil (hK _ ?_)
    clear hK K
    simp only [evU, St.keep, List.map_cons, look, reduceIte, Nat.reduceEqDiff]
    try show AWP _ _ _ _ _
    refine AWP.ret ?_
    refine ⟨.inl rfl, ⟨⟨_, rfl, ?_⟩, fun ob hob => ?_⟩⟩
    simp only [look, reduceIte, Nat.reduceEqDiff]
    rotate_left
    cases hob
    · rfl
    · exact sub1_of rfl
def e85 : List AV → Option Ob → Option Res := fun args i => match args, i with
  | [.d false (.sl 1 xs)], none => some ⟨IsB xs ∧ (toInts xs).length ≤ 1099511627776, .own 0 1, some (.row 5 1 1 true (ints .u8 (toInts xs)))⟩
  | _, _ => none
def F6 : FT := F5.upd 85 e85
theorem F6_ok : FOK Try.prog F6 := FOK.upd F5_ok Try.func85 (by kernel_rfl) rfl fun args i R h => by
  unfold e85 at h
  split at h
  · cases h
    refine Spec.pre fun h => ?_
    obtain ⟨l, rfl, hb⟩ := h.1.elim
    rw [toInts_ints] at h ⊢
    exact s85 l h.2
  · cases h


/-! ### tally.Pad -/
def padB (l : List Int) : List Int := l ++ List.replicate ((4 - l.length % 4) % 4) 0
theorem s33 (l : List Int) (hb : Byt l) (hl : l.length ≤ 1000000000000) : Spec Try.prog 33 [.d false (.sl 1 (ints .u8 l))] none ⟨True, .d true (.sl 1 (ints .u8 (padB l))), none⟩ := by
  have hf85 : F6 85 = e85 := rfl
  have hG := (Gf_ok F6_ok)
  have hfs := And.intro @hf85 @e85.eq_1
  have hxs := @Nat.add_zero
  refine spec_of_awp (Gf_ok F6_ok) Try.func33 rfl (Nat.le_of_ble_eq_true rfl) fun E hps hN _ => ?_
  simp only [begin, List.zipIdx_cons, List.zipIdx_nil, List.map_cons, List.map_nil, Option.toList, Nat.zero_add, Nat.reduceAdd]
  repeat refine AWP.nest ?_
  first | refine rsa hG [] [0] fun K hK => ?_ | refine rna hG [] [0] fun K hK => ?_
  repeat first | ((with_reducible refine shN ?_); refine sL ?_) | ((with_reducible refine shG ?_); refine sG ?_)
  refine Eq.mpr evalL_nil (hK _ ?_)
  clear hK K
  simp only [evU, St.keep, List.map_cons, look, reduceIte, Nat.reduceEqDiff]
  try show AWP _ _ _ _ _
  repeat refine AWP.nest ?_
  first | refine rsa hG [] [2] fun K hK => ?_ | refine rna hG [] [2] fun K hK => ?_
  repeat first | ((with_reducible refine shN ?_); refine sL ?_) | ((with_reducible refine shG ?_); refine sG ?_)
  refine Eq.mpr evalL_nil (hK _ ?_)
  clear hK K
  simp only [evU, St.keep, List.map_cons, look, reduceIte, Nat.reduceEqDiff]
  try show AWP _ _ _ _ _
  refine AWP.frz 0 (by rw [hps]; decide) rfl ?_
  simp only [St.frz, Ob.frz, AV.frz, AV.frz1, Option.map_none, mkAgg, datas, Dat.nagg, List.map_cons, List.map_nil, Option.map_some, and_self, true_and, and_true, reduceIte, Nat.reduceEqDiff, List.set_cons_zero, List.set_cons_succ, Bool.and_true, Bool.true_and]
  refine AWP.ret ?_
  refine ⟨.inl rfl, ⟨⟨_, rfl, ?_⟩, fun ob hob => by cases hob⟩⟩
  simp only [look, reduceIte, Nat.reduceEqDiff]
  refine sub1_of ?_
  have e1 : ((4 - (l.length : Int) % 4) % 4).toNat = (4 - l.length % 4) % 4 := by omega
  rw [e1]; rfl
def e33 : List AV → Option Ob → Option Res := fun args i => match args, i with
  | [.d false (.sl 1 xs)], none => some ⟨IsB xs ∧ (toInts xs).length ≤ 1000000000000, .d true (.sl 1 (ints .u8 (padB (toInts xs)))), none⟩
  | _, _ => none
def F7 : FT := F6.upd 33 e33
theorem F7_ok : FOK Try.prog F7 := FOK.upd F6_ok Try.func33 (by kernel_rfl) rfl fun args i R h => by
  unfold e33 at h
  split at h
  · cases h
    refine Spec.pre fun h => ?_
    obtain ⟨l, rfl, hb⟩ := h.1.elim
    rw [toInts_ints] at h ⊢
    exact s33 l hb h.2
  · cases h
end Go.AM

