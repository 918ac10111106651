/- AM: package word. -/
import Derived.Test.YtmfobkiljlepjaaC2
set_option maxRecDepth 100000
set_option maxHeartbeats 8000000
set_option linter.unusedSimpArgs false
set_option linter.unusedVariables false
namespace Go.AM
open Go Go.Proofs


/-! ### word.New -/
theorem s87 (l : List Int) (hb : Byt l) (hl : l.length ≤ 1099511627776) : Spec Try.prog 87 [.d false (.sl 1 (ints .u8 l))] none ⟨True, .ptr 0 0, some (.cells 174 [.d true (.sl 1 (ints .u8 l)), .d true (.v (.int .i64 0)), .d true (.v (.bool false))])⟩ := by
  have hf85 : F7 85 = e85 := rfl
  have hG := (Gf_ok F7_ok)
  have hfs := And.intro @hf85 @e85.eq_1
  have hxs := @Nat.add_zero
  refine spec_of_awpJ (Gf_ok F7_ok) 1 Try.func87 rfl (Nat.le_of_ble_eq_true rfl) fun E hps hN _ => ?_
  simp only [begin, List.zipIdx_cons, List.zipIdx_nil, List.map_cons, List.map_nil, Option.toList, Nat.zero_add, Nat.reduceAdd]
  repeat refine AWP.nest ?_
  first | refine rsa hG [] [0] fun K hK => ?_ | refine rna hG [] [0] fun K hK => ?_
  repeat first | ((with_reducible refine shN ?_); refine sL ?_) | ((with_reducible refine shG ?_); refine sG ?_)
  refine Eq.mpr evalL_nil (hK _ ?_)
  clear hK K
  simp only [evU, St.keep, List.map_cons, look, reduceIte, Nat.reduceEqDiff]
  try show AWP _ _ _ _ _
  repeat refine AWP.nest ?_
  first | refine rsa hG [] [2] fun K hK => ?_ | refine rna hG [] [2] fun K hK => ?_
  repeat first | ((with_reducible refine shN ?_); refine sL ?_) | ((with_reducible refine shG ?_); refine sG ?_)
  refine Eq.mpr evalL_nil (hK _ ?_)
  clear hK K
  simp only [evU, St.keep, List.map_cons, look, reduceIte, Nat.reduceEqDiff]
  try show AWP _ _ _ _ _
  refine AWP.frz 0 (by rw [hps]; decide) rfl ?_
  simp only [St.frz, Ob.frz, AV.frz, AV.frz1, Option.map_none, mkAgg, datas, Dat.nagg, List.map_cons, List.map_nil, Option.map_some, and_self, true_and, and_true, reduceIte, Nat.reduceEqDiff, List.set_cons_zero, List.set_cons_succ, Bool.and_true, Bool.true_and]
  refine AWP.ret ?_
  refine ⟨.inl rfl, ⟨_, _, rfl, rfl, ?_⟩, _, rfl, rfl, rfl⟩
  exact sub1_of rfl
def e87 : List AV → Option Ob → Option Res := fun args i => match args, i with
  | [.d false (.sl 1 xs)], none => some ⟨IsB xs ∧ (toInts xs).length ≤ 1099511627776, .ptr 0 0, some (.cells 174 [.d true (.sl 1 (ints .u8 (toInts xs))), .d true (.v (.int .i64 0)), .d true (.v (.bool false))])⟩
  | _, _ => none
def F8 : FT := F7.upd 87 e87
theorem F8_ok : FOK Try.prog F8 := FOK.upd F7_ok Try.func87 (by kernel_rfl) rfl fun args i R h => by
  unfold e87 at h
  split at h
  · cases h
    refine Spec.pre fun h => ?_
    obtain ⟨l, rfl, hb⟩ := h.1.elim
    rw [toInts_ints] at h ⊢
    exact s87 l hb h.2
  · cases h


/-! ### (*word.Reader).next -/
def nxOK (len p : Nat) (bad : Bool) (n : Int) : Bool := !bad && decide (0 ≤ n ∧ n ≤ (len : Int) - p)
theorem s125 (l : List Int) (hb : Byt l) (hl : l.length ≤ 1099511627776) (p : Nat) (hp : p ≤ l.length) (bad : Bool) (n : Int) (hn : -1099511627776 ≤ n) (hn2 : n ≤ 1099511627776) :
    Spec Try.prog 125 [.ptr 0 0, .d true (.v (.int .i64 n))] (some (.cells 174 [.d false (.sl 1 (ints .u8 l)), .d true (.v (.int .i64 (p : Int))), .d true (.v (.bool bad))]))
      ⟨True, .tup [.d false (.sl 1 (ints .u8 (if nxOK l.length p bad n = true then (l.drop p).take n.toNat else []))), .d true (.v (.bool (nxOK l.length p bad n)))],
        some (.cells 174 [.d false (.sl 1 (ints .u8 l)), .d true (.v (.int .i64 (if nxOK l.length p bad n = true then (p : Int) + n else p))), .d true (.v (.bool (bad || !nxOK l.length p bad n)))])⟩ := by
  have hG := (Gf_ok F8_ok)
  have hfs := @Nat.add_zero
  have hxs := @Nat.add_zero
  refine spec_of_awp (Gf_ok F8_ok) Try.func125 rfl (Nat.le_of_ble_eq_true rfl) fun E hps hN _ => ?_
  simp only [begin, List.zipIdx_cons, List.zipIdx_nil, List.map_cons, List.map_nil, Option.toList, Nat.zero_add, Nat.reduceAdd]
  repeat refine AWP.nest ?_
  first | refine rsa hG [] [0, 1] fun K hK => ?_ | refine rna hG [] [0, 1] fun K hK => ?_
  repeat first | ((with_reducible refine shN ?_); refine sL ?_) | ((with_reducible refine shG ?_); refine sG ?_)
  refine Eq.mpr evalL_nil (hK _ ?_)
  clear hK K
  simp only [evU, St.keep, List.map_cons, look, reduceIte, Nat.reduceEqDiff]
  try show AWP _ _ _ _ _
  repeat refine AWP.nest ?_
  first | refine AWP.seq (AWP.block ?_) | refine AWP.block ?_
  repeat refine AWP.nest ?_
  first | refine rsa hG [] [0, 1, 7] fun K hK => ?_ | refine rna hG [] [0, 1, 7] fun K hK => ?_
  repeat first | ((with_reducible refine shN ?_); refine sL ?_) | ((with_reducible refine shG ?_); refine sG ?_)
  refine Eq.mpr evalL_nil (hK _ ?_)
  clear hK K
  simp only [evU, St.keep, List.map_cons, look, reduceIte, Nat.reduceEqDiff]
  try show AWP _ _ _ _ _
  repeat refine AWP.nest ?_
  first | refine AWP.seq (AWP.cond (b := _) rfl (fun hc => ?_) (fun hc => ?_)) | refine AWP.cond (b := _) rfl (fun hc => ?_) (fun hc => ?_)
  all_goals try simp only [evC] at hc
  · subst hc
    repeat refine AWP.nest ?_
    first | refine rsa hG [] [4, 5] fun K hK => ?_ | refine rna hG [] [4, 5] fun K hK => ?_
    repeat first | ((with_reducible refine shN ?_); refine sL ?_) | ((with_reducible refine shG ?_); refine sG ?_)
    refine Eq.mpr evalL_nil (hK _ ?_)
    clear hK K
    simp only [evU, St.keep, List.map_cons, look, reduceIte, Nat.reduceEqDiff]
    try show AWP _ _ _ _ _
    refine AWP.ret ?_
    refine ⟨.inl rfl, ⟨⟨_, rfl, ?_⟩, fun ob hob => ?_⟩⟩
    rotate_left
    cases hob
    rotate_left
    simp only [look, reduceIte, Nat.reduceEqDiff]
    refine ⟨_, rfl, (.cons ?_ (.cons ?_ .nil))⟩
    · exact .nil _ _ _
    · exact sub1_of rfl
    · rfl
  · subst hc
    repeat refine AWP.nest ?_
    first | refine rda hG [] [0, 1, 16] Try.mixed fun K hK => ?_ | refine dna hG [] [0, 1, 16] Try.mixed fun K hK => ?_
    repeat first | ((with_reducible refine shD ?_); refine sD ?_) | ((with_reducible refine shDG ?_); refine sDG ?_)
    refine evalD_done (by kernel_rfl) (hK _ ?_)
    clear hK K
    simp only [evU, St.keep, List.map_cons, look, reduceIte, Nat.reduceEqDiff]
    try show AWP _ _ _ _ _
    repeat refine AWP.nest ?_
    first | refine AWP.seq (AWP.cond (b := _) rfl (fun hc => ?_) (fun hc => ?_)) | refine AWP.cond (b := _) rfl (fun hc => ?_) (fun hc => ?_)
    all_goals try simp only [evC] at hc
    · have hk : nxOK l.length p false n = false := by simp only [nxOK, Bool.not_false, Bool.true_and, decide_eq_false_iff_not]; omega
      simp only [hk]
      repeat refine AWP.nest ?_
      first | refine rsa hG [] [0, 1] fun K hK => ?_ | refine rna hG [] [0, 1] fun K hK => ?_
      repeat first | ((with_reducible refine shN ?_); refine sL ?_) | ((with_reducible refine shG ?_); refine sG ?_)
      refine Eq.mpr evalL_nil (hK _ ?_)
      clear hK K
      simp only [evU, St.keep, List.map_cons, look, reduceIte, Nat.reduceEqDiff]
      try show AWP _ _ _ _ _
      repeat refine AWP.nest ?_
      first | refine rsa hG [] [4, 5] fun K hK => ?_ | refine rna hG [] [4, 5] fun K hK => ?_
      repeat first | ((with_reducible refine shN ?_); refine sL ?_) | ((with_reducible refine shG ?_); refine sG ?_)
      refine Eq.mpr evalL_nil (hK _ ?_)
      clear hK K
      simp only [evU, St.keep, List.map_cons, look, reduceIte, Nat.reduceEqDiff]
      try show AWP _ _ _ _ _
      refine AWP.ret ?_
      refine ⟨.inl rfl, ⟨⟨_, rfl, ?_⟩, fun ob hob => ?_⟩⟩
      rotate_left
      cases hob
      rotate_left
      simp only [look, reduceIte, Nat.reduceEqDiff]
      refine ⟨_, rfl, (.cons ?_ (.cons ?_ .nil))⟩
      · exact .nil _ _ _
      · exact sub1_of rfl
      · rfl
    · refine AWP.skip ?_
      show AWP _ _ _ _ _
      have hk : nxOK l.length p false n = true := by simp only [nxOK, Bool.not_false, Bool.true_and, decide_eq_true_eq]; omega
      simp only [hk]
      repeat refine AWP.nest ?_
      first | refine rda hG [] [0, 1, 6] Try.mixed fun K hK => ?_ | refine dna hG [] [0, 1, 6] Try.mixed fun K hK => ?_
      repeat first | ((with_reducible refine shD ?_); refine sD ?_) | ((with_reducible refine shDG ?_); refine sDG ?_)
      refine evalD_done (by kernel_rfl) (hK _ ?_)
      clear hK K
      simp only [evU, St.keep, List.map_cons, look, reduceIte, Nat.reduceEqDiff]
      try show AWP _ _ _ _ _
      have et : ((p : Int) + n).toNat - p = n.toNat := by omega
      rw [et]
      repeat refine AWP.nest ?_
      first | refine rsa hG [] [0, 1, 6] fun K hK => ?_ | refine rna hG [] [0, 1, 6] fun K hK => ?_
      repeat first | ((with_reducible refine shN ?_); refine sL ?_) | ((with_reducible refine shG ?_); refine sG ?_)
      refine Eq.mpr evalL_nil (hK _ ?_)
      clear hK K
      simp only [evU, St.keep, List.map_cons, look, reduceIte, Nat.reduceEqDiff]
      try show AWP _ _ _ _ _
      repeat refine AWP.nest ?_
      first | refine rsa hG [] [4, 5] fun K hK => ?_ | refine rna hG [] [4, 5] fun K hK => ?_
      repeat first | ((with_reducible refine shN ?_); refine sL ?_) | ((with_reducible refine shG ?_); refine sG ?_)
      refine Eq.mpr evalL_nil (hK _ ?_)
      clear hK K
      simp only [evU, St.keep, List.map_cons, look, reduceIte, Nat.reduceEqDiff]
      try show AWP _ _ _ _ _
      refine AWP.ret ?_
      refine ⟨.inl rfl, ⟨⟨_, rfl, ?_⟩, fun ob hob => ?_⟩⟩
      rotate_left
      cases hob
      rotate_left
      simp only [look, reduceIte, Nat.reduceEqDiff]
      refine ⟨_, rfl, (.cons ?_ (.cons ?_ .nil))⟩
      · exact sub1_of rfl
      · exact sub1_of rfl
      · rfl
def e125 : List AV → Option Ob → Option Res := fun args i => match args, i with
  | [.ptr 0 0, .d true (.v (.int .i64 n))], some (.cells 174 [.d false (.sl 1 xs), .d true (.v (.int .i64 p)), .d true (.v (.bool bad))]) =>
    some ⟨IsB xs ∧ (toInts xs).length ≤ 1099511627776 ∧ 0 ≤ p ∧ p ≤ ((toInts xs).length : Int) ∧ -1099511627776 ≤ n ∧ n ≤ 1099511627776,
      .tup [.d false (.sl 1 (ints .u8 (if nxOK (toInts xs).length p.toNat bad n = true then ((toInts xs).drop p.toNat).take n.toNat else []))), .d true (.v (.bool (nxOK (toInts xs).length p.toNat bad n)))],
        some (.cells 174 [.d false (.sl 1 (ints .u8 (toInts xs))), .d true (.v (.int .i64 (if nxOK (toInts xs).length p.toNat bad n = true then p + n else p))), .d true (.v (.bool (bad || !nxOK (toInts xs).length p.toNat bad n)))])⟩
  | _, _ => none
def F9 : FT := F8.upd 125 e125
theorem F9_ok : FOK Try.prog F9 := FOK.upd F8_ok Try.func125 (by kernel_rfl) rfl fun args i R h => by
  unfold e125 at h
  split at h
  · rename_i n xs p bad
    cases h
    refine Spec.pre fun h => ?_
    obtain ⟨l, rfl, hb⟩ := h.1.elim
    rw [toInts_ints] at h ⊢
    obtain ⟨q, rfl⟩ : ∃ q : Nat, p = q := ⟨p.toNat, by omega⟩
    exact s125 l hb h.2.1 q (by omega) bad n (by omega) (by omega)
  · cases h
end Go.AM

