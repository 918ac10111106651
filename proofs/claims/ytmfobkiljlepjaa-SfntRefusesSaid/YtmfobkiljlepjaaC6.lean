/- AM: more of word; ref01.N2. -/
import Derived.Test.YtmfobkiljlepjaaC5
set_option maxRecDepth 100000
set_option maxHeartbeats 8000000
set_option linter.unusedSimpArgs false
set_option linter.unusedVariables false
namespace Go.AM
open Go Go.Proofs


/-! ### (*word.Reader).U16 -/
theorem s92 (l : List Int) (hb : Byt l) (hl : l.length ≤ 1099511627776) (p : Nat) (hp : p ≤ l.length) (bad : Bool) :
    Spec Try.prog 92 [.ptr 0 0] (some (.cells 174 [.d false (.sl 1 (ints .u8 l)), .d true (.v (.int .i64 (p : Int))), .d true (.v (.bool bad))]))
      ⟨True, .d true (.v (.int .u16 ((if nxOK l.length p bad 2 = true then be ((l.drop p).take 2) else 0) % 65536))),
        some (.cells 174 [.d false (.sl 1 (ints .u8 l)), .d true (.v (.int .i64 (if nxOK l.length p bad 2 = true then (p : Int) + 2 else p))), .d true (.v (.bool (bad || !nxOK l.length p bad 2)))])⟩ := by
  have hf124 : F13 124 = e124 := rfl
  have hG := (Gf_ok F13_ok)
  have hfs := And.intro @hf124 @e124.eq_1
  have hxs := @Nat.add_zero
  refine spec_of_awp (Gf_ok F13_ok) Try.func92 rfl (Nat.le_of_ble_eq_true rfl) fun E hps hN _ => ?_
  simp only [begin, List.zipIdx_cons, List.zipIdx_nil, List.map_cons, List.map_nil, Option.toList, Nat.zero_add, Nat.reduceAdd]
  repeat refine AWP.nest ?_
  first | refine rsa hG [] [0] fun K hK => ?_ | refine rna hG [] [0] fun K hK => ?_
  repeat first | ((with_reducible refine shN ?_); refine sL ?_) | ((with_reducible refine shG ?_); refine sG ?_)
  refine Eq.mpr evalL_nil (hK _ ?_)
  clear hK K
  simp only [evU, St.keep, List.map_cons, look, reduceIte, Nat.reduceEqDiff]
  try show AWP _ _ _ _ _
  repeat refine AWP.nest ?_
  first | refine rsa hG [] [2] fun K hK => ?_ | refine rna hG [] [2] fun K hK => ?_
  repeat first | ((with_reducible refine shN ?_); refine sL ?_) | ((with_reducible refine shG ?_); refine sG ?_)
  refine Eq.mpr evalL_nil (hK _ ?_)
  clear hK K
  simp only [evU, St.keep, List.map_cons, look, reduceIte, Nat.reduceEqDiff]
  try show AWP _ _ _ _ _
  refine AWP.ret ?_
  refine ⟨.inl rfl, ⟨⟨_, rfl, ?_⟩, fun ob hob => ?_⟩⟩
  simp only [look, reduceIte, Nat.reduceEqDiff]
  rotate_left
  cases hob
  · rfl
  · exact sub1_of rfl
/-! ### ref01.N2 -/
def n2OK (len : Nat) (q : Int) : Bool := decide (0 ≤ q ∧ q ≤ (len : Int) - 2)
theorem s106 (l : List Int) (hb : Byt l) (q : Int) (hq : -1099511627776 ≤ q) (hq2 : q ≤ 1099511627776) : Spec Try.prog 106 [.d false (.sl 1 (ints .u8 l)), .d true (.v (.int .i64 q))] none
    ⟨True, .tup [.d true (.v (.int .i64 (if n2OK l.length q = true then 256 * l.getD q.toNat 0 + l.getD (q.toNat + 1) 0 else 0))), .d true (.v (.bool (n2OK l.length q)))], none⟩ := by
  have hG := (Gf_ok F13_ok)
  have hfs := @Nat.add_zero
  have hxs := @Nat.add_zero
  refine spec_of_awp (Gf_ok F13_ok) Try.func106 rfl (Nat.le_of_ble_eq_true rfl) fun E hps hN _ => ?_
  simp only [begin, List.zipIdx_cons, List.zipIdx_nil, List.map_cons, List.map_nil, Option.toList, Nat.zero_add, Nat.reduceAdd]
  repeat refine AWP.nest ?_
  first | refine rsa hG [] [0, 1] fun K hK => ?_ | refine rna hG [] [0, 1] fun K hK => ?_
  repeat first | ((with_reducible refine shN ?_); refine sL ?_) | ((with_reducible refine shG ?_); refine sG ?_)
  refine Eq.mpr evalL_nil (hK _ ?_)
  clear hK K
  simp only [evU, St.keep, List.map_cons, look, reduceIte, Nat.reduceEqDiff]
  try show AWP _ _ _ _ _
  refine AWP.len 0 rfl fun hlen => ?_
  rw [ints_length] at hlen
  repeat refine AWP.nest ?_
  first | refine rsa hG [] [0, 1, 14] fun K hK => ?_ | refine rna hG [] [0, 1, 14] fun K hK => ?_
  repeat first | ((with_reducible refine shN ?_); refine sL ?_) | ((with_reducible refine shG ?_); refine sG ?_)
  refine Eq.mpr evalL_nil (hK _ ?_)
  clear hK K
  simp only [evU, St.keep, List.map_cons, look, reduceIte, Nat.reduceEqDiff]
  try show AWP _ _ _ _ _
  repeat refine AWP.nest ?_
  first | refine AWP.seq (AWP.cond (b := _) rfl (fun hc => ?_) (fun hc => ?_)) | refine AWP.cond (b := _) rfl (fun hc => ?_) (fun hc => ?_)
  all_goals try simp only [evC] at hc
  · have hk : n2OK l.length q = false := by simp only [n2OK, decide_eq_false_iff_not]; omega
    simp only [hk]
    repeat refine AWP.nest ?_
    first | refine rsa hG [] [4, 5] fun K hK => ?_ | refine rna hG [] [4, 5] fun K hK => ?_
    repeat first | ((with_reducible refine shN ?_); refine sL ?_) | ((with_reducible refine shG ?_); refine sG ?_)
    refine Eq.mpr evalL_nil (hK _ ?_)
    clear hK K
    simp only [evU, St.keep, List.map_cons, look, reduceIte, Nat.reduceEqDiff]
    try show AWP _ _ _ _ _
    refine AWP.ret ?_
    refine ⟨.inl rfl, ⟨⟨_, rfl, ?_⟩, fun ob hob => by cases hob⟩⟩
    simp only [look, reduceIte, Nat.reduceEqDiff]
    refine ⟨_, rfl, (.cons ?_ (.cons ?_ .nil))⟩
    · exact sub1_of rfl
    · exact sub1_of rfl
  · refine AWP.skip ?_
    show AWP _ _ _ _ _
    have hk : n2OK l.length q = true := by simp only [n2OK, decide_eq_true_eq]; omega
    simp only [hk]
    have g1 := hb.getD q.toNat
    have g2 := hb.getD (q + 1).toNat
    have e1 : (q + 1).toNat = q.toNat + 1 := by omega
    repeat refine AWP.nest ?_
    first | refine rda hG [] [4, 5] Try.mixed fun K hK => ?_ | refine dna hG [] [4, 5] Try.mixed fun K hK => ?_
    repeat first | ((with_reducible refine shD ?_); refine sD ?_) | ((with_reducible refine shDG ?_); refine sDG ?_)
    refine evalD_done (by kernel_rfl) (hK _ ?_)
    clear hK K
    simp only [evU, St.keep, List.map_cons, look, reduceIte, Nat.reduceEqDiff]
    try show AWP _ _ _ _ _
    refine AWP.ret ?_
    refine ⟨.inl rfl, ⟨⟨_, rfl, ?_⟩, fun ob hob => by cases hob⟩⟩
    simp only [look, reduceIte, Nat.reduceEqDiff]
    refine ⟨_, rfl, (.cons ?_ (.cons ?_ .nil))⟩
    · exact sub1_of (by rw [e1])
    · exact sub1_of rfl
def e92 : List AV → Option Ob → Option Res := fun args i => match args, i with
  | [.ptr 0 0], some (.cells 174 [.d false (.sl 1 xs), .d true (.v (.int .i64 p)), .d true (.v (.bool bad))]) =>
    some ⟨IsB xs ∧ (toInts xs).length ≤ 1099511627776 ∧ 0 ≤ p ∧ p ≤ ((toInts xs).length : Int),
      .d true (.v (.int .u16 ((if nxOK (toInts xs).length p.toNat bad 2 = true then be (((toInts xs).drop p.toNat).take 2) else 0) % 65536))),
        some (.cells 174 [.d false (.sl 1 (ints .u8 (toInts xs))), .d true (.v (.int .i64 (if nxOK (toInts xs).length p.toNat bad 2 = true then p + 2 else p))), .d true (.v (.bool (bad || !nxOK (toInts xs).length p.toNat bad 2)))])⟩
  | _, _ => none
def F14 : FT := F13.upd 92 e92
theorem F14_ok : FOK Try.prog F14 := FOK.upd F13_ok Try.func92 (by kernel_rfl) rfl fun args i R h => by
  unfold e92 at h
  split at h
  · rename_i xs p bad
    cases h
    refine Spec.pre fun h => ?_
    obtain ⟨l, rfl, hb⟩ := h.1.elim
    rw [toInts_ints] at h ⊢
    obtain ⟨q, rfl⟩ : ∃ q : Nat, p = q := ⟨p.toNat, by omega⟩
    exact s92 l hb h.2.1 q (by omega) bad
  · cases h
def n2V (l : List Int) (q : Int) : Int := if n2OK l.length q = true then 256 * l.getD q.toNat 0 + l.getD (q.toNat + 1) 0 else 0
def e106 : List AV → Option Ob → Option Res := fun args i => match args, i with
  | [.d false (.sl 1 xs), .d true (.v (.int .i64 q))], none =>
    some ⟨IsB xs ∧ -1099511627776 ≤ q ∧ q ≤ 1099511627776, .tup [.d true (.v (.int .i64 (n2V (toInts xs) q))), .d true (.v (.bool (n2OK (toInts xs).length q)))], none⟩
  | _, _ => none
def F15 : FT := F14.upd 106 e106
theorem F15_ok : FOK Try.prog F15 := FOK.upd F14_ok Try.func106 (by kernel_rfl) rfl fun args i R h => by
  unfold e106 at h
  split at h
  · cases h
    refine Spec.pre fun h => ?_
    obtain ⟨l, rfl, hb⟩ := h.1.elim
    rw [toInts_ints]
    exact s106 l hb _ h.2.1 h.2.2
  · cases h
theorem n2V_bound {l : List Int} (hb : Byt l) (q : Int) : 0 ≤ n2V l q ∧ n2V l q < 65536 := by
  unfold n2V
  have h1 := hb.getD q.toNat
  have h2 := hb.getD (q.toNat + 1)
  split <;> omega


/-! ### ref01.N4 -/
def n4OK (len : Nat) (q : Int) : Bool := decide (0 ≤ q ∧ q ≤ (len : Int) - 4)
def n4V (l : List Int) (q : Int) : Int := if q > (l.length : Int) - 4 then 0 else 65536 * n2V l q + n2V l (q + 2)
theorem s107 (l : List Int) (hb : Byt l) (q : Int) (hq : -1000000000000 ≤ q) (hq2 : q ≤ 1000000000000) : Spec Try.prog 107 [.d false (.sl 1 (ints .u8 l)), .d true (.v (.int .i64 q))] none
    ⟨True, .tup [.d true (.v (.int .u32 (n4V l q))), .d true (.v (.bool (n4OK l.length q)))], none⟩ := by
  have hf106 : F15 106 = e106 := rfl
  have hG := (Gf_ok F15_ok)
  have hfs := And.intro @hf106 @e106.eq_1
  have hxs := @Nat.add_zero
  refine spec_of_awp (Gf_ok F15_ok) Try.func107 rfl (Nat.le_of_ble_eq_true rfl) fun E hps hN _ => ?_
  simp only [begin, List.zipIdx_cons, List.zipIdx_nil, List.map_cons, List.map_nil, Option.toList, Nat.zero_add, Nat.reduceAdd]
  repeat refine AWP.nest ?_
  first | refine rsa hG [] [0, 1] fun K hK => ?_ | refine rna hG [] [0, 1] fun K hK => ?_
  repeat first | ((with_reducible refine shN ?_); refine sL ?_) | ((with_reducible refine shG ?_); refine sG ?_)
  refine Eq.mpr evalL_nil (hK _ ?_)
  clear hK K
  simp only [evU, St.keep, List.map_cons, look, reduceIte, Nat.reduceEqDiff]
  try show AWP _ _ _ _ _
  refine AWP.len 0 rfl fun hlen => ?_
  rw [ints_length] at hlen
  repeat refine AWP.nest ?_
  first | refine rsa hG [] [0, 1, 6, 7] fun K hK => ?_ | refine rna hG [] [0, 1, 6, 7] fun K hK => ?_
  repeat first | ((with_reducible refine shN ?_); refine sL ?_) | ((with_reducible refine shG ?_); refine sG ?_)
  refine Eq.mpr evalL_nil (hK _ ?_)
  clear hK K
  simp only [evU, St.keep, List.map_cons, look, reduceIte, Nat.reduceEqDiff]
  try show AWP _ _ _ _ _
  repeat refine AWP.nest ?_
  first | refine rsa hG [] [0, 1, 6, 7, 20] fun K hK => ?_ | refine rna hG [] [0, 1, 6, 7, 20] fun K hK => ?_
  repeat first | ((with_reducible refine shN ?_); refine sL ?_) | ((with_reducible refine shG ?_); refine sG ?_)
  refine Eq.mpr evalL_nil (hK _ ?_)
  clear hK K
  simp only [evU, St.keep, List.map_cons, look, reduceIte, Nat.reduceEqDiff]
  try show AWP _ _ _ _ _
  have b1 := n2V_bound hb q
  have b2 := n2V_bound hb (q + 2)
  repeat refine AWP.nest ?_
  first | refine AWP.seq (AWP.cond (b := _) rfl (fun hc => ?_) (fun hc => ?_)) | refine AWP.cond (b := _) rfl (fun hc => ?_) (fun hc => ?_)
  all_goals try simp only [evC] at hc
  · have hk : n4OK l.length q = false := by simp only [n4OK, decide_eq_false_iff_not]; omega
    simp only [hk, n4V, if_pos hc]
    repeat refine AWP.nest ?_
    first | refine rsa hG [] [4, 5] fun K hK => ?_ | refine rna hG [] [4, 5] fun K hK => ?_
    repeat first | ((with_reducible refine shN ?_); refine sL ?_) | ((with_reducible refine shG ?_); refine sG ?_)
    refine Eq.mpr evalL_nil (hK _ ?_)
    clear hK K
    simp only [evU, St.keep, List.map_cons, look, reduceIte, Nat.reduceEqDiff]
    try show AWP _ _ _ _ _
    refine AWP.ret ?_
    refine ⟨.inl rfl, ⟨⟨_, rfl, ?_⟩, fun ob hob => by cases hob⟩⟩
    simp only [look, reduceIte, Nat.reduceEqDiff]
    refine ⟨_, rfl, (.cons ?_ (.cons ?_ .nil))⟩
    · exact sub1_of rfl
    · exact sub1_of rfl
  · refine AWP.skip ?_
    show AWP _ _ _ _ _
    simp only [n4V, if_neg hc]
    repeat refine AWP.nest ?_
    first | refine rsa hG [] [6, 7, 8, 9] fun K hK => ?_ | refine rna hG [] [6, 7, 8, 9] fun K hK => ?_
    repeat first | ((with_reducible refine shN ?_); refine sL ?_) | ((with_reducible refine shG ?_); refine sG ?_)
    refine Eq.mpr evalL_nil (hK _ ?_)
    clear hK K
    simp only [evU, St.keep, List.map_cons, look, reduceIte, Nat.reduceEqDiff]
    try show AWP _ _ _ _ _
    repeat refine AWP.nest ?_
    first | refine rsa hG [] [4, 5] fun K hK => ?_ | refine rna hG [] [4, 5] fun K hK => ?_
    repeat first | ((with_reducible refine shN ?_); refine sL ?_) | ((with_reducible refine shG ?_); refine sG ?_)
    refine Eq.mpr evalL_nil (hK _ ?_)
    clear hK K
    simp only [evU, St.keep, List.map_cons, look, reduceIte, Nat.reduceEqDiff]
    try show AWP _ _ _ _ _
    refine AWP.ret ?_
    refine ⟨.inl rfl, ⟨⟨_, rfl, ?_⟩, fun ob hob => by cases hob⟩⟩
    simp only [look, reduceIte, Nat.reduceEqDiff]
    refine ⟨_, rfl, (.cons ?_ (.cons ?_ .nil))⟩
    · have e : (65536 * (n2V l q % 4294967296) % 4294967296 + n2V l (q + 2) % 4294967296) % 4294967296 = 65536 * n2V l q + n2V l (q + 2) := by omega
      exact sub1_of (by rw [e])
    · have e : (n2OK l.length q && n2OK l.length (q + 2)) = n4OK l.length q := by
        rw [Bool.eq_iff_iff]
        simp only [n2OK, n4OK, Bool.and_eq_true, decide_eq_true_eq]
        omega
      exact sub1_of (by rw [e])
def e107 : List AV → Option Ob → Option Res := fun args i => match args, i with
  | [.d false (.sl 1 xs), .d true (.v (.int .i64 q))], none =>
    some ⟨IsB xs ∧ -1000000000000 ≤ q ∧ q ≤ 1000000000000, .tup [.d true (.v (.int .u32 (n4V (toInts xs) q))), .d true (.v (.bool (n4OK (toInts xs).length q)))], none⟩
  | _, _ => none
def F16 : FT := F15.upd 107 e107
theorem F16_ok : FOK Try.prog F16 := FOK.upd F15_ok Try.func107 (by kernel_rfl) rfl fun args i R h => by
  unfold e107 at h
  split at h
  · cases h
    refine Spec.pre fun h => ?_
    obtain ⟨l, rfl, hb⟩ := h.1.elim
    rw [toInts_ints]
    exact s107 l hb _ h.2.1 h.2.2
  · cases h
end Go.AM

