/- AM: seg.Map's methods. -/
import Derived.Test.YtmfobkiljlepjaaC32
import Derived.Test.YtmfobkiljlepjaaK4
set_option maxRecDepth 100000
set_option maxHeartbeats 8000000
set_option linter.unusedSimpArgs false
set_option linter.unusedVariables false
namespace Go.AM
open Go Go.Proofs


/-! ### seg.Map.Segments -/
theorem s54 (m : List (Int × Int × Int × Int)) (p : List Int) : Spec Try.prog 54 [.d false (.agg [.sl 4 (sgs m), .sl 1 (ints .u8 p)])] none ⟨True, .d true (.v (.int .i64 (m.length : Int))), none⟩ := by
  have hG := (Gf_ok F59_ok)
  have hfs := And.intro @evP @evS
  have hxs := @Nat.add_zero
  refine spec_of_awp (Gf_ok F59_ok) Try.func54 rfl (Nat.le_of_ble_eq_true rfl) fun E hps hN _ => ?_
  simp only [begin, List.zipIdx_cons, List.zipIdx_nil, List.map_cons, List.map_nil, Option.toList, Nat.zero_add, Nat.reduceAdd]
  repeat refine AWP.nest ?_
  first | refine rsa hG [] [1] fun K hK => ?_ | refine rna hG [] [1] fun K hK => ?_
  repeat first | ((with_reducible refine shN ?_); refine sL ?_) | ((with_reducible refine shG ?_); refine sG ?_)
  refine Eq.mpr evalL_nil (hK _ ?_)
  clear hK K
  simp only [evU, St.keep, List.map_cons, look, reduceIte, Nat.reduceEqDiff]
  try show AWP _ _ _ _ _
  repeat refine AWP.nest ?_
  first | refine rsa hG [] [2] fun K hK => ?_ | refine rna hG [] [2] fun K hK => ?_
  repeat first | ((with_reducible refine shN ?_); refine sL ?_) | ((with_reducible refine shG ?_); refine sG ?_)
  refine Eq.mpr evalL_nil (hK _ ?_)
  clear hK K
  simp only [evU, St.keep, List.map_cons, look, reduceIte, Nat.reduceEqDiff]
  try show AWP _ _ _ _ _
  refine AWP.ret ?_
  refine ⟨.inl rfl, ⟨⟨_, rfl, ?_⟩, fun ob hob => by cases hob⟩⟩
  simp only [look, reduceIte, Nat.reduceEqDiff]
  exact sub1_of rfl
def e54 : List AV → Option Ob → Option Res := fun args i => match args, i with
  | [.d false (.agg [.sl 4 xs, .sl 1 ys])], none => some ⟨xs = sgs (toSgs xs) ∧ IsB ys, .d true (.v (.int .i64 ((toSgs xs).length : Int))), none⟩
  | _, _ => none
def F60 : FT := F59.upd 54 e54
theorem F60_ok : FOK Try.prog F60 := FOK.upd F59_ok Try.func54 (by kernel_rfl) rfl fun args i R h => by
  unfold e54 at h
  split at h
  · rename_i xs ys
    cases h
    refine Spec.pre fun h => ?_
    have := s54 (toSgs xs) (toInts ys)
    rw [← h.1, ← h.2.1] at this
    exact this
  · cases h

/-! ### seg.Map.Look -/
theorem or_low16 {x b : Int} (hx : 0 ≤ x) (hx2 : x < 256) (h0 : 0 ≤ b) (h1 : b < 256) : AM.bits .or .u16 (x * 256) b = x * 256 + b := by
  rw [bits_kit]
  exact bits_join .u16 16 (by decide) (fun n h h' => by rw [IntKind.wrap_u16]; omega) 8 _ _ (by omega) (by omega) (by omega) h0 (by omega) (by omega)
/-- A map of seg, right. -/
def SgOK (len : Nat) (s : Int × Int × Int × Int) : Prop := 0 ≤ s.1 ∧ s.1 ≤ s.2.1 ∧ s.2.1 ≤ 65535 ∧ 0 ≤ s.2.2.1 ∧ s.2.2.1 ≤ 65535 ∧ (s.2.2.2 < 0 ∨ s.2.2.2 + 2 * (s.2.1 - s.1) + 2 ≤ len) ∧ -1 ≤ s.2.2.2 ∧ s.2.2.2 ≤ 10000000
def MapS (m : List (Int × Int × Int × Int)) (p : List Int) : Prop := (∀ i, i < m.length → SgOK p.length (m.getD i (0, 0, 0, 0))) ∧ Byt p ∧ p.length ≤ 10000000
theorem find_at {α : Type} (d : α) {m : List α} {p : α → Bool} {i : Nat} (hi : i < m.length) (hj : ∀ j, j < i → p (m.getD j d) = false) (h : p (m.getD i d) = true) : m.find? p = some (m.getD i d) := by
  have e : m = (List.range m.length).map fun j => m.getD j d := by
    apply List.ext_getElem
    · simp
    · intro k h1 h2
      simp [List.getD_eq_getElem?_getD, h1]
  conv => lhs; rw [e]
  exact find_range (f := fun j => m.getD j d) hi hj h
theorem find_no {α : Type} (d : α) {m : List α} {p : α → Bool} (hj : ∀ j, j < m.length → p (m.getD j d) = false) : m.find? p = none := by
  rw [List.find?_eq_none]
  intro s hs
  obtain ⟨j, hj2, rfl⟩ := List.getElem_of_mem hs
  have := hj j hj2
  rw [List.getD_eq_getElem?_getD, List.getElem?_eq_getElem hj2, Option.getD_some] at this
  rw [this]
  exact Bool.false_ne_true
theorem s56 (m : List (Int × Int × Int × Int)) (p : List Int) (hm : MapS m p) (c : Int) (hc0 : -2147483648 ≤ c) (hc1 : c ≤ 2147483647) : Spec Try.prog 56 [.d false (.agg [.sl 4 (sgs m), .sl 1 (ints .u8 p)]), .d true (.v (.int .i32 c))] none ⟨True, .d true (.v (.int .u16 (lookS m p c))), none⟩ := by
  obtain ⟨hmo, hpb, hpl⟩ := hm
  have hG := (Gf_ok F60_ok)
  have hfs := And.intro @evP @evS
  have hxs := @Nat.add_zero
  refine spec_of_awp (Gf_ok F60_ok) Try.func56 rfl (Nat.le_of_ble_eq_true rfl) fun E hps hN _ => ?_
  simp only [begin, List.zipIdx_cons, List.zipIdx_nil, List.map_cons, List.map_nil, Option.toList, Nat.zero_add, Nat.reduceAdd]
  repeat refine AWP.nest ?_
  first | refine rsa hG [] [1, 2] fun K hK => ?_ | refine rna hG [] [1, 2] fun K hK => ?_
  repeat first | ((with_reducible refine shN ?_); refine sL ?_) | ((with_reducible refine shG ?_); refine sG ?_)
  refine Eq.mpr evalL_nil (hK _ ?_)
  clear hK K
  simp only [evU, St.keep, List.map_cons, look, reduceIte, Nat.reduceEqDiff]
  try show AWP _ _ _ _ _
  repeat refine AWP.nest ?_
  first | refine rsa hG [] [1, 2, 15] fun K hK => ?_ | refine rna hG [] [1, 2, 15] fun K hK => ?_
  repeat first | ((with_reducible refine shN ?_); refine sL ?_) | ((with_reducible refine shG ?_); refine sG ?_)
  refine Eq.mpr evalL_nil (hK _ ?_)
  clear hK K
  simp only [evU, St.keep, List.map_cons, look, reduceIte, Nat.reduceEqDiff]
  try show AWP _ _ _ _ _
  repeat refine AWP.nest ?_
  first | refine AWP.seq (AWP.cond (b := _) rfl (fun hc => ?_) (fun hc => ?_)) | refine AWP.cond (b := _) rfl (fun hc => ?_) (fun hc => ?_)
  all_goals try simp only [evC] at hc
  · have e : lookS m p c = 0 := if_pos (by omega)
    rw [e]
    repeat refine AWP.nest ?_
    first | refine rsa hG [] [4] fun K hK => ?_ | refine rna hG [] [4] fun K hK => ?_
    repeat first | ((with_reducible refine shN ?_); refine sL ?_) | ((with_reducible refine shG ?_); refine sG ?_)
    refine Eq.mpr evalL_nil (hK _ ?_)
    clear hK K
    simp only [evU, St.keep, List.map_cons, look, reduceIte, Nat.reduceEqDiff]
    try show AWP _ _ _ _ _
    refine AWP.ret ?_
    refine ⟨.inl rfl, ⟨⟨_, rfl, ?_⟩, fun ob hob => by cases hob⟩⟩
    simp only [look, reduceIte, Nat.reduceEqDiff]
    exact sub1_of rfl
  refine AWP.skip ?_
  show AWP _ _ _ _ _
  have hcr : 0 ≤ c ∧ c ≤ 65535 := by omega
  clear hc hc0 hc1
  repeat refine AWP.nest ?_
  first | refine rsa hG [] [2, 5] fun K hK => ?_ | refine rna hG [] [2, 5] fun K hK => ?_
  repeat first | ((with_reducible refine shN ?_); refine sL ?_) | ((with_reducible refine shG ?_); refine sG ?_)
  refine Eq.mpr evalL_nil (hK _ ?_)
  clear hK K
  simp only [evU, St.keep, List.map_cons, look, reduceIte, Nat.reduceEqDiff]
  try show AWP _ _ _ _ _
  repeat refine AWP.nest ?_
  first | refine rsa hG [] [2, 5, 19, 20, 21] fun K hK => ?_ | refine rna hG [] [2, 5, 19, 20, 21] fun K hK => ?_
  repeat first | ((with_reducible refine shN ?_); refine sL ?_) | ((with_reducible refine shG ?_); refine sG ?_)
  refine Eq.mpr evalL_nil (hK _ ?_)
  clear hK K
  simp only [evU, St.keep, List.map_cons, look, reduceIte, Nat.reduceEqDiff]
  try show AWP _ _ _ _ _
  have ec : c % 65536 = c := by omega
  rw [ec]
  refine AWP.len 19 rfl fun hlen => ?_
  rw [sgs_length] at hlen
  repeat refine AWP.nest ?_
  first | refine AWP.seq (AWP.block ?_) | refine AWP.block ?_
  refine AWP.loop (fun k st => ∃ (i : Nat), i ≤ m.length ∧ k = m.length - i ∧ (∀ j, j < i → decide (c ≤ (m.getD j (0, 0, 0, 0)).2.1) = false) ∧ st = ⟨[(2, .ptr 0 0), (5, .d true (.v (.int .u16 c))), (19, .d false (.sl 4 (sgs m))), (20, .d true (.v (.int .i64 (m.length : Int)))), (21, .d true (.v (.int .i64 (i : Int))))], [some (.cells 69 [.d false (.sl 4 (sgs m)), .d false (.sl 1 (ints .u8 p))])]⟩) (m.length) ?_ ?_
  · exact ⟨0, Nat.zero_le _, rfl, (fun j h => absurd h (Nat.not_lt_zero j)), rfl⟩
  rintro k st ⟨i, hi, hk, hj, rfl⟩
  repeat refine AWP.nest ?_
  first | refine rsa hG [] [2, 5, 19, 20, 21, 22] fun K hK => ?_ | refine rna hG [] [2, 5, 19, 20, 21, 22] fun K hK => ?_
  repeat first | ((with_reducible refine shN ?_); refine sL ?_) | ((with_reducible refine shG ?_); refine sG ?_)
  refine Eq.mpr evalL_nil (hK _ ?_)
  clear hK K
  simp only [evU, St.keep, List.map_cons, look, reduceIte, Nat.reduceEqDiff]
  try show AWP _ _ _ _ _
  first | refine AWP.seq (AWP.cond (b := _) rfl (fun hc => ?_) (fun hc => ?_)) | refine AWP.cond (b := _) rfl (fun hc => ?_) (fun hc => ?_)
  rotate_left
  · refine AWP.exit ?_
    show AWP _ _ _ _ _
    simp only [evC, Int.not_lt] at hc
    obtain rfl : i = m.length := by omega
    have e : lookS m p c = 0 := by
      unfold lookS
      rw [if_neg (by omega), find_no (0, 0, 0, 0) (p := fun s : Int × Int × Int × Int => decide (c ≤ s.2.1)) hj]
    rw [e]
    repeat refine AWP.nest ?_
    first | refine rsa hG [] [4] fun K hK => ?_ | refine rna hG [] [4] fun K hK => ?_
    repeat first | ((with_reducible refine shN ?_); refine sL ?_) | ((with_reducible refine shG ?_); refine sG ?_)
    refine Eq.mpr evalL_nil (hK _ ?_)
    clear hK K
    simp only [evU, St.keep, List.map_cons, look, reduceIte, Nat.reduceEqDiff]
    try show AWP _ _ _ _ _
    refine AWP.ret ?_
    refine ⟨.inl rfl, ⟨⟨_, rfl, ?_⟩, fun ob hob => by cases hob⟩⟩
    simp only [look, reduceIte, Nat.reduceEqDiff]
    exact sub1_of rfl
  simp only [evC, Int.not_lt] at hc
  refine AWP.skip ?_
  show AWP _ _ _ _ _
  have hi' := hc
  clear hc
  have hs := hmo i hi'
  have hfd : c ≤ (m.getD i (0, 0, 0, 0)).2.1 → lookS m p c = look1 (m.getD i (0, 0, 0, 0)) p c := fun h => by
    unfold lookS
    rw [if_neg (by omega), find_at (0, 0, 0, 0) (p := fun s : Int × Int × Int × Int => decide (c ≤ s.2.1)) hi' hj (decide_eq_true h)]
  have hnx : (m.getD i (0, 0, 0, 0)).2.1 < c → ∀ j, j < i + 1 → decide (c ≤ (m.getD j (0, 0, 0, 0)).2.1) = false := fun h j hj2 => by
    rcases Nat.lt_succ_iff_lt_or_eq.1 hj2 with h2 | h2
    · exact hj j h2
    · rw [h2]; exact decide_eq_false (by omega)
  clear hj
  repeat refine AWP.nest ?_
  first | refine AWP.seq (AWP.block ?_) | refine AWP.block ?_
  repeat refine AWP.nest ?_
  first | refine rsa hG [] [2, 5, 7, 19, 20, 21] fun K hK => ?_ | refine rna hG [] [2, 5, 7, 19, 20, 21] fun K hK => ?_
  repeat first | ((with_reducible refine shN ?_); refine sL ?_) | ((with_reducible refine shG ?_); refine sG ?_)
  refine Eq.mpr evalL_nil (hK _ ?_)
  clear hK K
  simp only [evU, St.keep, List.map_cons, look, reduceIte, Nat.reduceEqDiff]
  try show AWP _ _ _ _ _
  generalize m.getD i (0, 0, 0, 0) = s at hs hfd hnx ⊢
  unfold SgOK at hs
  repeat refine AWP.nest ?_
  first | refine rsa hG [] [2, 5, 7, 19, 20, 21, 28] fun K hK => ?_ | refine rna hG [] [2, 5, 7, 19, 20, 21, 28] fun K hK => ?_
  repeat first | ((with_reducible refine shN ?_); refine sL ?_) | ((with_reducible refine shG ?_); refine sG ?_)
  refine Eq.mpr evalL_nil (hK _ ?_)
  clear hK K
  simp only [evU, St.keep, List.map_cons, look, reduceIte, Nat.reduceEqDiff]
  try show AWP _ _ _ _ _
  repeat refine AWP.nest ?_
  first | refine AWP.seq (AWP.cond (b := _) rfl (fun hc => ?_) (fun hc => ?_)) | refine AWP.cond (b := _) rfl (fun hc => ?_) (fun hc => ?_)
  all_goals try simp only [evC] at hc
  · refine AWP.exit ?_
    show AWP _ _ _ _ _
    refine AWP.keep [2, 5, 19, 20, 21] ?_
    simp only [St.keep, List.map_cons, List.map_nil, look, reduceIte, Nat.reduceEqDiff]
    refine AWP.trunc 1 (by rw [hps]; decide) rfl ?_
    simp only [St.trunc, List.take_zero, List.take_succ_cons]
    repeat refine AWP.nest ?_
    first | refine rsa hG [] [2, 5, 19, 20, 21] fun K hK => ?_ | refine rna hG [] [2, 5, 19, 20, 21] fun K hK => ?_
    repeat first | ((with_reducible refine shN ?_); refine sL ?_) | ((with_reducible refine shG ?_); refine sG ?_)
    refine Eq.mpr evalL_nil (hK _ ?_)
    clear hK K
    simp only [evU, St.keep, List.map_cons, look, reduceIte, Nat.reduceEqDiff]
    try show AWP _ _ _ _ _
    exact ⟨m.length - (i + 1), by omega, i + 1, by omega, rfl, hnx hc, rfl⟩
  refine AWP.skip ?_
  show AWP _ _ _ _ _
  rw [hfd (by omega)]
  clear hfd hnx hlen
  repeat refine AWP.nest ?_
  first | refine AWP.seq (AWP.block ?_) | refine AWP.block ?_
  repeat refine AWP.nest ?_
  first | refine rsa hG [] [2, 5, 7, 29] fun K hK => ?_ | refine rna hG [] [2, 5, 7, 29] fun K hK => ?_
  repeat first | ((with_reducible refine shN ?_); refine sL ?_) | ((with_reducible refine shG ?_); refine sG ?_)
  refine Eq.mpr evalL_nil (hK _ ?_)
  clear hK K
  simp only [evU, St.keep, List.map_cons, look, reduceIte, Nat.reduceEqDiff]
  try show AWP _ _ _ _ _
  repeat refine AWP.nest ?_
  first | refine AWP.seq (AWP.cond (b := _) rfl (fun hc => ?_) (fun hc => ?_)) | refine AWP.cond (b := _) rfl (fun hc => ?_) (fun hc => ?_)
  all_goals try simp only [evC] at hc
  · have e : look1 s p c = 0 := if_pos hc
    rw [e]
    repeat refine AWP.nest ?_
    first | refine rsa hG [] [4] fun K hK => ?_ | refine rna hG [] [4] fun K hK => ?_
    repeat first | ((with_reducible refine shN ?_); refine sL ?_) | ((with_reducible refine shG ?_); refine sG ?_)
    refine Eq.mpr evalL_nil (hK _ ?_)
    clear hK K
    simp only [evU, St.keep, List.map_cons, look, reduceIte, Nat.reduceEqDiff]
    try show AWP _ _ _ _ _
    refine AWP.ret ?_
    refine ⟨.inl rfl, ⟨⟨_, rfl, ?_⟩, fun ob hob => by cases hob⟩⟩
    simp only [look, reduceIte, Nat.reduceEqDiff]
    exact sub1_of rfl
  have hst : ¬ c < s.1 := hc
  repeat refine AWP.nest ?_
  first | refine rsa hG [] [2, 5, 7, 34] fun K hK => ?_ | refine rna hG [] [2, 5, 7, 34] fun K hK => ?_
  repeat first | ((with_reducible refine shN ?_); refine sL ?_) | ((with_reducible refine shG ?_); refine sG ?_)
  refine Eq.mpr evalL_nil (hK _ ?_)
  clear hK K
  simp only [evU, St.keep, List.map_cons, look, reduceIte, Nat.reduceEqDiff]
  try show AWP _ _ _ _ _
  repeat refine AWP.nest ?_
  first | refine AWP.seq (AWP.cond (b := _) rfl (fun hc => ?_) (fun hc => ?_)) | refine AWP.cond (b := _) rfl (fun hc => ?_) (fun hc => ?_)
  all_goals try simp only [evC] at hc
  · have e : look1 s p c = (c + s.2.2.1) % 65536 := by
      unfold look1
      rw [if_neg hst, if_pos hc]
    rw [e]
    repeat refine AWP.nest ?_
    first | refine rsa hG [] [4] fun K hK => ?_ | refine rna hG [] [4] fun K hK => ?_
    repeat first | ((with_reducible refine shN ?_); refine sL ?_) | ((with_reducible refine shG ?_); refine sG ?_)
    refine Eq.mpr evalL_nil (hK _ ?_)
    clear hK K
    simp only [evU, St.keep, List.map_cons, look, reduceIte, Nat.reduceEqDiff]
    try show AWP _ _ _ _ _
    refine AWP.ret ?_
    refine ⟨.inl rfl, ⟨⟨_, rfl, ?_⟩, fun ob hob => by cases hob⟩⟩
    simp only [look, reduceIte, Nat.reduceEqDiff]
    exact sub1_of rfl
  refine AWP.skip ?_
  show AWP _ _ _ _ _
  have e : look1 s p c = if n2V p (s.2.2.2 + 2 * (c - s.1)) = 0 then 0 else (n2V p (s.2.2.2 + 2 * (c - s.1)) + s.2.2.1) % 65536 := by
    unfold look1
    rw [if_neg hst, if_neg (by omega)]
  rw [e]
  repeat refine AWP.nest ?_
  first | refine rsa hG [] [2, 7, 8] fun K hK => ?_ | refine rna hG [] [2, 7, 8] fun K hK => ?_
  repeat first | ((with_reducible refine shN ?_); refine sL ?_) | ((with_reducible refine shG ?_); refine sG ?_)
  refine Eq.mpr evalL_nil (hK _ ?_)
  clear hK K
  simp only [evU, St.keep, List.map_cons, look, reduceIte, Nat.reduceEqDiff]
  try show AWP _ _ _ _ _
  obtain ⟨q, hq⟩ : ∃ q : Nat, s.2.2.2 + 2 * (c - s.1) = q := ⟨(s.2.2.2 + 2 * (c - s.1)).toNat, by omega⟩
  rw [show (c - s.1) % 65536 = c - s.1 by omega, hq]
  have hql : q + 2 ≤ p.length := by omega
  have h1 := hpb.getD q
  have h2 := hpb.getD (q + 1)
  have en : n2V p (q : Int) = 256 * p.getD q 0 + p.getD (q + 1) 0 := by
    have hk : n2OK p.length (q : Int) = true := by simp only [n2OK, decide_eq_true_eq]; omega
    unfold n2V
    rw [hk, if_pos rfl, Int.toNat_natCast]
  have eo : bits BinOp.or IntKind.u16 (p.getD q 0 % 65536 * 256 % 65536) (p.getD (q + 1) 0 % 65536) = n2V p (q : Int) := by
    rw [show p.getD q 0 % 65536 * 256 % 65536 = p.getD q 0 * 256 by omega, show p.getD (q + 1) 0 % 65536 = p.getD (q + 1) 0 by omega, or_low16 (by omega) (by omega) h2.1 h2.2, en]
    omega
  have e1 : ((q : Int) + 1).toNat = q + 1 := by omega
  repeat refine AWP.nest ?_
  have hxs := And.intro @e1 @eo
  first | refine rda hG [] [7, 9] Try.mixed fun K hK => ?_ | refine dna hG [] [7, 9] Try.mixed fun K hK => ?_
  repeat first | ((with_reducible refine shD ?_); refine sD ?_) | ((with_reducible refine shDG ?_); refine sDG ?_)
  refine evalD_done (by kernel_rfl) (hK _ ?_)
  clear hK K hxs
  simp only [evU, St.keep, List.map_cons, look, reduceIte, Nat.reduceEqDiff]
  try show AWP _ _ _ _ _
  have hvb := n2V_bound hpb (q : Int)
  generalize n2V p (q : Int) = v at hvb ⊢
  repeat refine AWP.nest ?_
  first | refine rsa hG [] [7, 9, 67] fun K hK => ?_ | refine rna hG [] [7, 9, 67] fun K hK => ?_
  repeat first | ((with_reducible refine shN ?_); refine sL ?_) | ((with_reducible refine shG ?_); refine sG ?_)
  refine Eq.mpr evalL_nil (hK _ ?_)
  clear hK K
  simp only [evU, St.keep, List.map_cons, look, reduceIte, Nat.reduceEqDiff]
  try show AWP _ _ _ _ _
  repeat refine AWP.nest ?_
  first | refine AWP.seq (AWP.cond (b := _) rfl (fun hc => ?_) (fun hc => ?_)) | refine AWP.cond (b := _) rfl (fun hc => ?_) (fun hc => ?_)
  all_goals try simp only [evC] at hc
  · rw [if_pos hc]
    repeat refine AWP.nest ?_
    first | refine rsa hG [] [4] fun K hK => ?_ | refine rna hG [] [4] fun K hK => ?_
    repeat first | ((with_reducible refine shN ?_); refine sL ?_) | ((with_reducible refine shG ?_); refine sG ?_)
    refine Eq.mpr evalL_nil (hK _ ?_)
    clear hK K
    simp only [evU, St.keep, List.map_cons, look, reduceIte, Nat.reduceEqDiff]
    try show AWP _ _ _ _ _
    refine AWP.ret ?_
    refine ⟨.inl rfl, ⟨⟨_, rfl, ?_⟩, fun ob hob => by cases hob⟩⟩
    simp only [look, reduceIte, Nat.reduceEqDiff]
    exact sub1_of rfl
  refine AWP.skip ?_
  show AWP _ _ _ _ _
  rw [if_neg hc]
  repeat refine AWP.nest ?_
  first | refine rsa hG [] [4] fun K hK => ?_ | refine rna hG [] [4] fun K hK => ?_
  repeat first | ((with_reducible refine shN ?_); refine sL ?_) | ((with_reducible refine shG ?_); refine sG ?_)
  refine Eq.mpr evalL_nil (hK _ ?_)
  clear hK K
  simp only [evU, St.keep, List.map_cons, look, reduceIte, Nat.reduceEqDiff]
  try show AWP _ _ _ _ _
  refine AWP.ret ?_
  refine ⟨.inl rfl, ⟨⟨_, rfl, ?_⟩, fun ob hob => by cases hob⟩⟩
  simp only [look, reduceIte, Nat.reduceEqDiff]
  exact sub1_of rfl
def e56 : List AV → Option Ob → Option Res := fun args i => match args, i with
  | [.d false (.agg [.sl 4 xs, .sl 1 ys]), .d true (.v (.int .i32 c))], none => some ⟨xs = sgs (toSgs xs) ∧ ys = ints .u8 (toInts ys) ∧ MapS (toSgs xs) (toInts ys) ∧ -2147483648 ≤ c ∧ c ≤ 2147483647, .d true (.v (.int .u16 (lookS (toSgs xs) (toInts ys) c))), none⟩
  | _, _ => none
def F61 : FT := F60.upd 56 e56
theorem F61_ok : FOK Try.prog F61 := FOK.upd F60_ok Try.func56 (by kernel_rfl) rfl fun args i R h => by
  unfold e56 at h
  split at h
  · rename_i xs ys c
    cases h
    refine Spec.pre fun h => ?_
    have := s56 (toSgs xs) (toInts ys) h.2.2.1 c h.2.2.2.1 h.2.2.2.2
    rw [← h.1, ← h.2.1] at this
    exact this
  · cases h
end Go.AM

