/- AM: package word, on. -/
import Derived.Test.YtmfobkiljlepjaaC3
set_option maxRecDepth 100000
set_option maxHeartbeats 8000000
set_option linter.unusedSimpArgs false
set_option linter.unusedVariables false
namespace Go.AM
open Go Go.Proofs


/-! ### (*word.Reader).number -/
def be (l : List Int) : Int := l.foldl (fun a b => a * 256 + b) 0
theorem be_snoc (l : List Int) (b : Int) : be (l ++ [b]) = be l * 256 + b := by simp [be]
theorem bits_kit (op : BinOp) (k : IntKind) (a b : Int) : AM.bits op k a b = Go.bits op k a b := by
  unfold AM.bits Go.bits
  cases op <;> rfl
theorem or_low {x b : Int} (hx : 0 ≤ x) (hx2 : x < 16777216) (h0 : 0 ≤ b) (h1 : b < 256) : AM.bits .or .u32 (x * 256) b = x * 256 + b := by
  rw [bits_kit]
  exact bits_join .u32 32 (by decide) (fun n h h' => by rw [IntKind.wrap_u32]; omega) 8 _ _ (by omega) (by omega) (by omega) h0 (by omega) (by omega)
theorem be_bound : ∀ (l : List Int), Byt l → 0 ≤ be l ∧ be l < 256 ^ l.length := by
  intro l
  induction h : l.length generalizing l with
  | zero =>
    intro _
    have : l = [] := List.eq_nil_of_length_eq_zero h
    subst this
    simp [be]
  | succ k ih =>
    intro hb
    have hne : l ≠ [] := by intro e; subst e; simp at h
    obtain ⟨q, b, rfl⟩ : ∃ q b, l = q ++ [b] := ⟨l.dropLast, l.getLast hne, (List.dropLast_concat_getLast hne).symm⟩
    have hq : q.length = k := by simpa using h
    obtain ⟨g1, g2⟩ := ih q hq fun c hc => hb c (by simp [hc])
    have gb := hb b (by simp)
    rw [be_snoc, Int.pow_succ]
    omega
theorem s124 (l : List Int) (hb : Byt l) (hl : l.length ≤ 1099511627776) (p : Nat) (hp : p ≤ l.length) (bad : Bool) (n : Int) (hn : 0 ≤ n) (hn2 : n ≤ 4) :
    Spec Try.prog 124 [.ptr 0 0, .d true (.v (.int .i64 n))] (some (.cells 174 [.d false (.sl 1 (ints .u8 l)), .d true (.v (.int .i64 (p : Int))), .d true (.v (.bool bad))]))
      ⟨True, .d true (.v (.int .u32 (if nxOK l.length p bad n = true then be ((l.drop p).take n.toNat) else 0))),
        some (.cells 174 [.d false (.sl 1 (ints .u8 l)), .d true (.v (.int .i64 (if nxOK l.length p bad n = true then (p : Int) + n else p))), .d true (.v (.bool (bad || !nxOK l.length p bad n)))])⟩ := by
  have hf125 : F9 125 = e125 := rfl
  have hG := (Gf_ok F9_ok)
  have hfs := And.intro @hf125 @e125.eq_1
  have hxs := @Nat.add_zero
  refine spec_of_awp (Gf_ok F9_ok) Try.func124 rfl (Nat.le_of_ble_eq_true rfl) fun E hps hN _ => ?_
  simp only [begin, List.zipIdx_cons, List.zipIdx_nil, List.map_cons, List.map_nil, Option.toList, Nat.zero_add, Nat.reduceAdd]
  repeat refine AWP.nest ?_
  first | refine rsa hG [] [0, 1] fun K hK => ?_ | refine rna hG [] [0, 1] fun K hK => ?_
  repeat first | ((with_reducible refine shN ?_); refine sL ?_) | ((with_reducible refine shG ?_); refine sG ?_)
  refine Eq.mpr evalL_nil (hK _ ?_)
  clear hK K
  simp only [evU, St.keep, List.map_cons, look, reduceIte, Nat.reduceEqDiff]
  try show AWP _ _ _ _ _
  repeat refine AWP.nest ?_
  first | refine rsa hG [] [5, 6] fun K hK => ?_ | refine rna hG [] [5, 6] fun K hK => ?_
  repeat first | ((with_reducible refine shN ?_); refine sL ?_) | ((with_reducible refine shG ?_); refine sG ?_)
  refine Eq.mpr evalL_nil (hK _ ?_)
  clear hK K
  simp only [evU, St.keep, List.map_cons, look, reduceIte, Nat.reduceEqDiff]
  try show AWP _ _ _ _ _
  generalize hok : nxOK l.length p bad n = ok
  repeat refine AWP.nest ?_
  first | refine rsa hG [] [5, 6, 17] fun K hK => ?_ | refine rna hG [] [5, 6, 17] fun K hK => ?_
  repeat first | ((with_reducible refine shN ?_); refine sL ?_) | ((with_reducible refine shG ?_); refine sG ?_)
  refine Eq.mpr evalL_nil (hK _ ?_)
  clear hK K
  simp only [evU, St.keep, List.map_cons, look, reduceIte, Nat.reduceEqDiff]
  try show AWP _ _ _ _ _
  repeat refine AWP.nest ?_
  first | refine AWP.seq (AWP.cond (b := _) rfl (fun hc => ?_) (fun hc => ?_)) | refine AWP.cond (b := _) rfl (fun hc => ?_) (fun hc => ?_)
  all_goals try simp only [evC] at hc
  · have e : ok = false := by simpa using hc
    subst e
    repeat refine AWP.nest ?_
    first | refine rsa hG [] [4] fun K hK => ?_ | refine rna hG [] [4] fun K hK => ?_
    repeat first | ((with_reducible refine shN ?_); refine sL ?_) | ((with_reducible refine shG ?_); refine sG ?_)
    refine Eq.mpr evalL_nil (hK _ ?_)
    clear hK K
    simp only [evU, St.keep, List.map_cons, look, reduceIte, Nat.reduceEqDiff]
    try show AWP _ _ _ _ _
    refine AWP.ret ?_
    refine ⟨.inl rfl, ⟨⟨_, rfl, ?_⟩, fun ob hob => ?_⟩⟩
    simp only [look, reduceIte, Nat.reduceEqDiff]
    rotate_left
    cases hob
    · rfl
    · exact sub1_of rfl
  · have e : ok = true := by simpa using hc
    subst e
    refine AWP.skip ?_
    show AWP _ _ _ _ _
    simp only [if_true]
    generalize hm : (l.drop p).take n.toNat = m
    have hml : m.length ≤ 4 := by rw [← hm, List.length_take]; omega
    have hbm : Byt m := by rw [← hm]; exact (hb.drop p).take _
    repeat refine AWP.nest ?_
    first | refine rsa hG [] [5, 7] fun K hK => ?_ | refine rna hG [] [5, 7] fun K hK => ?_
    repeat first | ((with_reducible refine shN ?_); refine sL ?_) | ((with_reducible refine shG ?_); refine sG ?_)
    refine Eq.mpr evalL_nil (hK _ ?_)
    clear hK K
    simp only [evU, St.keep, List.map_cons, look, reduceIte, Nat.reduceEqDiff]
    try show AWP _ _ _ _ _
    repeat refine AWP.nest ?_
    first | refine rsa hG [] [7, 18, 19, 20] fun K hK => ?_ | refine rna hG [] [7, 18, 19, 20] fun K hK => ?_
    repeat first | ((with_reducible refine shN ?_); refine sL ?_) | ((with_reducible refine shG ?_); refine sG ?_)
    refine Eq.mpr evalL_nil (hK _ ?_)
    clear hK K
    simp only [evU, St.keep, List.map_cons, look, reduceIte, Nat.reduceEqDiff]
    try show AWP _ _ _ _ _
    repeat refine AWP.nest ?_
    first | refine AWP.seq (AWP.block ?_) | refine AWP.block ?_
    refine AWP.loop (fun k st => ∃ (i : Nat), i ≤ m.length ∧ k = m.length - i ∧ st = ⟨[(7, .d true (.v (.int .u32 (be (m.take i))))), (18, .d false (.sl 1 (ints .u8 m))), (19, .d true (.v (.int .i64 (m.length : Int)))), (20, .d true (.v (.int .i64 (i : Int))))], [some (.cells 174 [.d false (.sl 1 (ints .u8 l)), .d true (.v (.int .i64 ((p : Int) + n))), .d true (.v (.bool (or bad (!true))))])]⟩) (m.length) ?_ ?_
    · exact ⟨0, Nat.zero_le _, rfl, rfl⟩
    rintro k st ⟨i, hi, hk, rfl⟩
    repeat refine AWP.nest ?_
    first | refine rsa hG [] [7, 18, 19, 20, 21] fun K hK => ?_ | refine rna hG [] [7, 18, 19, 20, 21] fun K hK => ?_
    repeat first | ((with_reducible refine shN ?_); refine sL ?_) | ((with_reducible refine shG ?_); refine sG ?_)
    refine Eq.mpr evalL_nil (hK _ ?_)
    clear hK K
    simp only [evU, St.keep, List.map_cons, look, reduceIte, Nat.reduceEqDiff]
    try show AWP _ _ _ _ _
    first | refine AWP.seq (AWP.cond (b := _) rfl (fun hc => ?_) (fun hc => ?_)) | refine AWP.cond (b := _) rfl (fun hc => ?_) (fun hc => ?_)
    rotate_left
    · refine AWP.exit ?_
      show AWP _ _ _ _ _
      simp only [evC, Int.not_lt] at hc
      obtain rfl : i = m.length := by omega
      rw [List.take_length]
      repeat refine AWP.nest ?_
      first | refine rsa hG [] [4] fun K hK => ?_ | refine rna hG [] [4] fun K hK => ?_
      repeat first | ((with_reducible refine shN ?_); refine sL ?_) | ((with_reducible refine shG ?_); refine sG ?_)
      refine Eq.mpr evalL_nil (hK _ ?_)
      clear hK K
      simp only [evU, St.keep, List.map_cons, look, reduceIte, Nat.reduceEqDiff]
      try show AWP _ _ _ _ _
      refine AWP.ret ?_
      refine ⟨.inl rfl, ⟨⟨_, rfl, ?_⟩, fun ob hob => ?_⟩⟩
      simp only [look, reduceIte, Nat.reduceEqDiff]
      rotate_left
      cases hob
      · rfl
      · exact sub1_of rfl
    simp only [evC, Int.not_lt] at hc
    refine AWP.skip ?_
    show AWP _ _ _ _ _
    have hbi := hbm.getD i
    repeat refine AWP.nest ?_
    first | refine AWP.seq (AWP.block ?_) | refine AWP.block ?_
    repeat refine AWP.nest ?_
    first | refine rsa hG [] [7, 18, 19, 20, 9] fun K hK => ?_ | refine rna hG [] [7, 18, 19, 20, 9] fun K hK => ?_
    repeat first | ((with_reducible refine shN ?_); refine sL ?_) | ((with_reducible refine shG ?_); refine sG ?_)
    refine Eq.mpr evalL_nil (hK _ ?_)
    clear hK K
    simp only [evU, St.keep, List.map_cons, look, reduceIte, Nat.reduceEqDiff]
    try show AWP _ _ _ _ _
    repeat refine AWP.nest ?_
    first | refine rsa hG [] [7, 18, 19, 20] fun K hK => ?_ | refine rna hG [] [7, 18, 19, 20] fun K hK => ?_
    repeat first | ((with_reducible refine shN ?_); refine sL ?_) | ((with_reducible refine shG ?_); refine sG ?_)
    refine Eq.mpr evalL_nil (hK _ ?_)
    clear hK K
    simp only [evU, St.keep, List.map_cons, look, reduceIte, Nat.reduceEqDiff]
    try show AWP _ _ _ _ _
    have hbe := be_bound (m.take i) (hbm.take i)
    have hpow : (256 : Int) ^ (m.take i).length ≤ 16777216 := by
      have h3 : (m.take i).length = 0 ∨ (m.take i).length = 1 ∨ (m.take i).length = 2 ∨ (m.take i).length = 3 := by simp only [List.length_take]; omega
      rcases h3 with h3 | h3 | h3 | h3 <;> rw [h3] <;> decide
    have ev : AM.bits .or .u32 (be (m.take i) * 256 % 4294967296) (m.getD i 0 % 4294967296) = be (m.take (i + 1)) := by
      rw [Int.emod_eq_of_lt (by omega) (by omega), Int.emod_eq_of_lt (by omega) (by omega), or_low (by omega) (by omega) hbi.1 hbi.2, List.take_add_one, List.getElem?_eq_getElem hc]
      show _ = be (m.take i ++ [m[i]])
      rw [be_snoc, List.getD_eq_getElem?_getD, List.getElem?_eq_getElem hc]
      rfl
    rw [ev]
    repeat refine AWP.nest ?_
    first | refine rsa hG [] [7, 18, 19, 20] fun K hK => ?_ | refine rna hG [] [7, 18, 19, 20] fun K hK => ?_
    repeat first | ((with_reducible refine shN ?_); refine sL ?_) | ((with_reducible refine shG ?_); refine sG ?_)
    refine Eq.mpr evalL_nil (hK _ ?_)
    clear hK K
    simp only [evU, St.keep, List.map_cons, look, reduceIte, Nat.reduceEqDiff]
    try show AWP _ _ _ _ _
    exact ⟨m.length - (i + 1), by omega, i + 1, by omega, rfl, rfl⟩
def e124 : List AV → Option Ob → Option Res := fun args i => match args, i with
  | [.ptr 0 0, .d true (.v (.int .i64 n))], some (.cells 174 [.d false (.sl 1 xs), .d true (.v (.int .i64 p)), .d true (.v (.bool bad))]) =>
    some ⟨IsB xs ∧ (toInts xs).length ≤ 1099511627776 ∧ 0 ≤ p ∧ p ≤ ((toInts xs).length : Int) ∧ 0 ≤ n ∧ n ≤ 4,
      .d true (.v (.int .u32 (if nxOK (toInts xs).length p.toNat bad n = true then be (((toInts xs).drop p.toNat).take n.toNat) else 0))),
        some (.cells 174 [.d false (.sl 1 (ints .u8 (toInts xs))), .d true (.v (.int .i64 (if nxOK (toInts xs).length p.toNat bad n = true then p + n else p))), .d true (.v (.bool (bad || !nxOK (toInts xs).length p.toNat bad n)))])⟩
  | _, _ => none
def F10 : FT := F9.upd 124 e124
theorem F10_ok : FOK Try.prog F10 := FOK.upd F9_ok Try.func124 (by kernel_rfl) rfl fun args i R h => by
  unfold e124 at h
  split at h
  · rename_i n xs p bad
    cases h
    refine Spec.pre fun h => ?_
    obtain ⟨l, rfl, hb⟩ := h.1.elim
    rw [toInts_ints] at h ⊢
    obtain ⟨q, rfl⟩ : ∃ q : Nat, p = q := ⟨p.toNat, by omega⟩
    exact s124 l hb h.2.1 q (by omega) bad n (by omega) (by omega)
  · cases h


/-! ### (*word.Reader).U32 -/
theorem s88 (l : List Int) (hb : Byt l) (hl : l.length ≤ 1099511627776) (p : Nat) (hp : p ≤ l.length) (bad : Bool) :
    Spec Try.prog 88 [.ptr 0 0] (some (.cells 174 [.d false (.sl 1 (ints .u8 l)), .d true (.v (.int .i64 (p : Int))), .d true (.v (.bool bad))]))
      ⟨True, .d true (.v (.int .u32 (if nxOK l.length p bad 4 = true then be ((l.drop p).take 4) else 0))),
        some (.cells 174 [.d false (.sl 1 (ints .u8 l)), .d true (.v (.int .i64 (if nxOK l.length p bad 4 = true then (p : Int) + 4 else p))), .d true (.v (.bool (bad || !nxOK l.length p bad 4)))])⟩ := by
  have hf124 : F10 124 = e124 := rfl
  have hG := (Gf_ok F10_ok)
  have hfs := And.intro @hf124 @e124.eq_1
  have hxs := @Nat.add_zero
  refine spec_of_awp (Gf_ok F10_ok) Try.func88 rfl (Nat.le_of_ble_eq_true rfl) fun E hps hN _ => ?_
  simp only [begin, List.zipIdx_cons, List.zipIdx_nil, List.map_cons, List.map_nil, Option.toList, Nat.zero_add, Nat.reduceAdd]
  repeat refine AWP.nest ?_
  first | refine rsa hG [] [0] fun K hK => ?_ | refine rna hG [] [0] fun K hK => ?_
  repeat first | ((with_reducible refine shN ?_); refine sL ?_) | ((with_reducible refine shG ?_); refine sG ?_)
  refine Eq.mpr evalL_nil (hK _ ?_)
  clear hK K
  simp only [evU, St.keep, List.map_cons, look, reduceIte, Nat.reduceEqDiff]
  try show AWP _ _ _ _ _
  repeat refine AWP.nest ?_
  first | refine rsa hG [] [2] fun K hK => ?_ | refine rna hG [] [2] fun K hK => ?_
  repeat first | ((with_reducible refine shN ?_); refine sL ?_) | ((with_reducible refine shG ?_); refine sG ?_)
  refine Eq.mpr evalL_nil (hK _ ?_)
  clear hK K
  simp only [evU, St.keep, List.map_cons, look, reduceIte, Nat.reduceEqDiff]
  try show AWP _ _ _ _ _
  refine AWP.ret ?_
  refine ⟨.inl rfl, ⟨⟨_, rfl, ?_⟩, fun ob hob => ?_⟩⟩
  simp only [look, reduceIte, Nat.reduceEqDiff]
  rotate_left
  cases hob
  · rfl
  · exact sub1_of rfl
def e88 : List AV → Option Ob → Option Res := fun args i => match args, i with
  | [.ptr 0 0], some (.cells 174 [.d false (.sl 1 xs), .d true (.v (.int .i64 p)), .d true (.v (.bool bad))]) =>
    some ⟨IsB xs ∧ (toInts xs).length ≤ 1099511627776 ∧ 0 ≤ p ∧ p ≤ ((toInts xs).length : Int),
      .d true (.v (.int .u32 (if nxOK (toInts xs).length p.toNat bad 4 = true then be (((toInts xs).drop p.toNat).take 4) else 0))),
        some (.cells 174 [.d false (.sl 1 (ints .u8 (toInts xs))), .d true (.v (.int .i64 (if nxOK (toInts xs).length p.toNat bad 4 = true then p + 4 else p))), .d true (.v (.bool (bad || !nxOK (toInts xs).length p.toNat bad 4)))])⟩
  | _, _ => none
def F11 : FT := F10.upd 88 e88
theorem F11_ok : FOK Try.prog F11 := FOK.upd F10_ok Try.func88 (by kernel_rfl) rfl fun args i R h => by
  unfold e88 at h
  split at h
  · rename_i xs p bad
    cases h
    refine Spec.pre fun h => ?_
    obtain ⟨l, rfl, hb⟩ := h.1.elim
    rw [toInts_ints] at h ⊢
    obtain ⟨q, rfl⟩ : ∃ q : Nat, p = q := ⟨p.toNat, by omega⟩
    exact s88 l hb h.2.1 q (by omega) bad
  · cases h
end Go.AM

