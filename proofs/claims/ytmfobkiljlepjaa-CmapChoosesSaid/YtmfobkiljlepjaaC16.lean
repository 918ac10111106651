/- AM: punchcutref10: Look. -/
import Derived.Test.YtmfobkiljlepjaaC15
set_option maxRecDepth 100000
set_option maxHeartbeats 8000000
set_option linter.unusedSimpArgs false
set_option linter.unusedVariables false
namespace Go.AM
open Go Go.Proofs


/-! ### Look -/
def inS (s : Int × Int × Int) (c : Int) : Bool := decide (s.1 ≤ c) && decide (c ≤ s.2.1)
/-- A code's glyph, by the first span that has it. -/
def lookR (m : List (Int × Int × Int)) (c : Int) : Int := if c < 0 then 0 else match m.find? fun s => inS s c with
  | some s => s.2.2 + c - s.1
  | none => 0
def spans (l : List Int) (n : Nat) : List (Int × Int × Int) := (List.range n).map (spS l)
theorem spans_length (l : List Int) (n : Nat) : (spans l n).length = n := by simp [spans]
theorem spans_getD {l : List Int} {n i : Nat} (h : i < n) : (spans l n).getD i (0, 0, 0) = spS l i := by
  rw [List.getD_eq_getElem?_getD]
  simp [spans, h]
theorem find_spans {l : List Int} {n i : Nat} {c : Int} (hi : i < n) (hj : ∀ j, j < i → inS (spS l j) c = false) (h : inS (spS l i) c = true) : (spans l n).find? (fun s => inS s c) = some (spS l i) := by
  have e : spans l n = spans l i ++ (spS l i :: (List.range' (i + 1) (n - (i + 1))).map (spS l)) := by
    have e1 : List.range n = List.range i ++ (i :: List.range' (i + 1) (n - (i + 1))) := by
      rw [List.range_eq_range', List.range_eq_range', show n = i + (n - (i + 1) + 1) by omega, List.range'_append_1.symm]
      simp only [Nat.zero_add, List.range'_succ]
      congr 3
      omega
    unfold spans
    conv => lhs; rw [e1]
    simp
  rw [e, List.find?_append]
  have h1 : (spans l i).find? (fun s => inS s c) = none := by
    rw [List.find?_eq_none]
    intro s hs
    simp only [spans, List.mem_map, List.mem_range] at hs
    obtain ⟨j, hj2, rfl⟩ := hs
    rw [hj j hj2]
    exact Bool.false_ne_true
  rw [h1, List.find?_cons, h]
  rfl
theorem find_spans_none {l : List Int} {n : Nat} {c : Int} (hj : ∀ j, j < n → inS (spS l j) c = false) : (spans l n).find? (fun s => inS s c) = none := by
  rw [List.find?_eq_none]
  intro s hs
  simp only [spans, List.mem_map, List.mem_range] at hs
  obtain ⟨j, hj2, rfl⟩ := hs
  rw [hj j hj2]
  exact Bool.false_ne_true
theorem s48 (l : List Int) (hb : Byt l) (n : Nat) (hn : n ≤ 10000000000) (c : Int) (hc0 : -2147483648 ≤ c) (hc1 : c ≤ 2147483647) : Spec Try.prog 48 [.d false (.sl 1 (ints .u8 l)), .d true (.v (.int .i64 (n : Int))), .d true (.v (.int .i64 c))] none ⟨True, .d true (.v (.int .i64 (lookR (spans l n) c))), none⟩ := by
  have hf96 : F31 96 = e96 := rfl
  have hG := (Gf_ok F31_ok)
  have hfs := And.intro @hf96 @e96.eq_1
  have hxs := @Nat.add_zero
  refine spec_of_awp (Gf_ok F31_ok) Try.func48 rfl (Nat.le_of_ble_eq_true rfl) fun E hps hN _ => ?_
  simp only [begin, List.zipIdx_cons, List.zipIdx_nil, List.map_cons, List.map_nil, Option.toList, Nat.zero_add, Nat.reduceAdd]
  repeat refine AWP.nest ?_
  first | refine rsa hG [] [0, 1, 2] fun K hK => ?_ | refine rna hG [] [0, 1, 2] fun K hK => ?_
  repeat first | ((with_reducible refine shN ?_); refine sL ?_) | ((with_reducible refine shG ?_); refine sG ?_)
  refine Eq.mpr evalL_nil (hK _ ?_)
  clear hK K
  simp only [evU, St.keep, List.map_cons, look, reduceIte, Nat.reduceEqDiff]
  try show AWP _ _ _ _ _
  repeat refine AWP.nest ?_
  first | refine rsa hG [] [0, 1, 2, 7] fun K hK => ?_ | refine rna hG [] [0, 1, 2, 7] fun K hK => ?_
  repeat first | ((with_reducible refine shN ?_); refine sL ?_) | ((with_reducible refine shG ?_); refine sG ?_)
  refine Eq.mpr evalL_nil (hK _ ?_)
  clear hK K
  simp only [evU, St.keep, List.map_cons, look, reduceIte, Nat.reduceEqDiff]
  try show AWP _ _ _ _ _
  repeat refine AWP.nest ?_
  first | refine AWP.seq (AWP.block ?_) | refine AWP.block ?_
  refine AWP.loop (fun k st => ∃ (i : Nat), i ≤ n ∧ k = n - i ∧ (0 ≤ c → ∀ j, j < i → inS (spS l j) c = false) ∧ st = ⟨[(0, .d false (.sl 1 (ints .u8 l))), (1, .d true (.v (.int .i64 (n : Int)))), (2, .d true (.v (.int .i64 c))), (7, .d true (.v (.int .i64 (i : Int))))], []⟩) (n) ?_ ?_
  · exact ⟨0, Nat.zero_le _, rfl, (fun _ j h => absurd h (Nat.not_lt_zero j)), rfl⟩
  rintro k st ⟨i, hi, hk, hj, rfl⟩
  repeat refine AWP.nest ?_
  first | refine rsa hG [] [0, 1, 2, 7, 17] fun K hK => ?_ | refine rna hG [] [0, 1, 2, 7, 17] fun K hK => ?_
  repeat first | ((with_reducible refine shN ?_); refine sL ?_) | ((with_reducible refine shG ?_); refine sG ?_)
  refine Eq.mpr evalL_nil (hK _ ?_)
  clear hK K
  simp only [evU, St.keep, List.map_cons, look, reduceIte, Nat.reduceEqDiff]
  try show AWP _ _ _ _ _
  first | refine AWP.seq (AWP.cond (b := _) rfl (fun hc => ?_) (fun hc => ?_)) | refine AWP.cond (b := _) rfl (fun hc => ?_) (fun hc => ?_)
  rotate_left
  · refine AWP.exit ?_
    show AWP _ _ _ _ _
    simp only [evC, Int.not_lt] at hc
    have e0 : lookR (spans l n) c = 0 := by
      unfold lookR
      split
      · rfl
      · rename_i hc2
        obtain rfl : i = n := by omega
        rw [find_spans_none (hj (by omega))]
    rw [e0]
    repeat refine AWP.nest ?_
    first | refine rsa hG [] [6] fun K hK => ?_ | refine rna hG [] [6] fun K hK => ?_
    repeat first | ((with_reducible refine shN ?_); refine sL ?_) | ((with_reducible refine shG ?_); refine sG ?_)
    refine Eq.mpr evalL_nil (hK _ ?_)
    clear hK K
    simp only [evU, St.keep, List.map_cons, look, reduceIte, Nat.reduceEqDiff]
    try show AWP _ _ _ _ _
    refine AWP.ret ?_
    refine ⟨.inl rfl, ⟨⟨_, rfl, ?_⟩, fun ob hob => by cases hob⟩⟩
    simp only [look, reduceIte, Nat.reduceEqDiff]
    exact sub1_of rfl
  simp only [evC, Int.not_lt] at hc
  refine AWP.skip ?_
  show AWP _ _ _ _ _
  have ba := n4V_bound hb (16 + 12 * (i : Int))
  have bb := n4V_bound hb (20 + 12 * (i : Int))
  have bg := n4V_bound hb (24 + 12 * (i : Int))
  have hcm : c % 18446744073709551616 = c := by omega
  repeat refine AWP.nest ?_
  first | refine AWP.seq (AWP.block ?_) | refine AWP.block ?_
  repeat refine AWP.nest ?_
  first | refine rsa hG [] [0, 1, 2, 7, 8, 9, 10] fun K hK => ?_ | refine rna hG [] [0, 1, 2, 7, 8, 9, 10] fun K hK => ?_
  repeat first | ((with_reducible refine shN ?_); refine sL ?_) | ((with_reducible refine shG ?_); refine sG ?_)
  refine Eq.mpr evalL_nil (hK _ ?_)
  clear hK K
  simp only [evU, St.keep, List.map_cons, look, reduceIte, Nat.reduceEqDiff]
  try show AWP _ _ _ _ _
  repeat refine AWP.nest ?_
  have hxs := @hcm
  first | refine rsa hG [] [0, 1, 2, 7, 8, 10, 44] fun K hK => ?_ | refine rna hG [] [0, 1, 2, 7, 8, 10, 44] fun K hK => ?_
  repeat first | ((with_reducible refine shN ?_); refine sL ?_) | ((with_reducible refine shG ?_); refine sG ?_)
  refine Eq.mpr evalL_nil (hK _ ?_)
  clear hK K hxs
  simp only [evU, St.keep, List.map_cons, look, reduceIte, Nat.reduceEqDiff]
  try show AWP _ _ _ _ _
  repeat refine AWP.nest ?_
  first | refine AWP.seq (AWP.cond (b := _) rfl (fun hc => ?_) (fun hc => ?_)) | refine AWP.cond (b := _) rfl (fun hc => ?_) (fun hc => ?_)
  all_goals try simp only [evC] at hc
  · have hin : inS (spS l i) c = true := by
      simp only [inS, Bool.and_eq_true, decide_eq_true_eq]
      simp only [spS]
      omega
    have e0 : lookR (spans l n) c = n4V l (24 + 12 * (i : Int)) + c - n4V l (16 + 12 * (i : Int)) := by
      unfold lookR
      rw [if_neg (by omega), find_spans (by omega) (hj (by omega)) hin]
      rfl
    rw [e0]
    repeat refine AWP.nest ?_
    first | refine rsa hG [] [6] fun K hK => ?_ | refine rna hG [] [6] fun K hK => ?_
    repeat first | ((with_reducible refine shN ?_); refine sL ?_) | ((with_reducible refine shG ?_); refine sG ?_)
    refine Eq.mpr evalL_nil (hK _ ?_)
    clear hK K
    simp only [evU, St.keep, List.map_cons, look, reduceIte, Nat.reduceEqDiff]
    try show AWP _ _ _ _ _
    refine AWP.ret ?_
    refine ⟨.inl rfl, ⟨⟨_, rfl, ?_⟩, fun ob hob => by cases hob⟩⟩
    simp only [look, reduceIte, Nat.reduceEqDiff]
    exact sub1_of rfl
  · have hin : inS (spS l i) c = false := by
      cases e : inS (spS l i) c with
      | false => rfl
      | true =>
        exfalso
        simp only [inS, Bool.and_eq_true, decide_eq_true_eq] at e
        simp only [spS] at e
        omega
    refine AWP.skip ?_
    show AWP _ _ _ _ _
    repeat refine AWP.nest ?_
    first | refine rsa hG [] [0, 1, 2, 7] fun K hK => ?_ | refine rna hG [] [0, 1, 2, 7] fun K hK => ?_
    repeat first | ((with_reducible refine shN ?_); refine sL ?_) | ((with_reducible refine shG ?_); refine sG ?_)
    refine Eq.mpr evalL_nil (hK _ ?_)
    clear hK K
    simp only [evU, St.keep, List.map_cons, look, reduceIte, Nat.reduceEqDiff]
    try show AWP _ _ _ _ _
    exact ⟨n - (i + 1), by omega, i + 1, by omega, rfl, fun h0 j hj2 => by
      rcases Nat.lt_succ_iff_lt_or_eq.1 hj2 with h | h
      · exact hj h0 j h
      · rw [h]; exact hin, rfl⟩
def e48 : List AV → Option Ob → Option Res := fun args i => match args, i with
  | [.d false (.sl 1 xs), .d true (.v (.int .i64 n)), .d true (.v (.int .i64 c))], none => some ⟨IsB xs ∧ 0 ≤ n ∧ n ≤ 10000000000 ∧ -2147483648 ≤ c ∧ c ≤ 2147483647, .d true (.v (.int .i64 (lookR (spans (toInts xs) n.toNat) c))), none⟩
  | _, _ => none
def F32 : FT := F31.upd 48 e48
theorem F32_ok : FOK Try.prog F32 := FOK.upd F31_ok Try.func48 (by kernel_rfl) rfl fun args i R h => by
  unfold e48 at h
  split at h
  · rename_i xs n c
    cases h
    refine Spec.pre fun h => ?_
    obtain ⟨l, rfl, hb⟩ := h.1.elim
    rw [toInts_ints]
    obtain ⟨q, rfl⟩ : ∃ q : Nat, n = q := ⟨n.toNat, by omega⟩
    exact s48 l hb q (by omega) c h.2.2.2.1 h.2.2.2.2
  · cases h
theorem lookG_eq {m : List (Int × Int × Int)} (hm : MapG m) (c : Int) : lookG m c = lookR m c := by
  unfold lookG lookR
  by_cases h0 : c < 0
  · rw [if_pos (.inl h0), if_pos h0]
  · rw [if_neg h0]
    have hle := cnt_le m c
    have split_m : ∀ k, k < m.length → m = m.take k ++ m.getD k (0, 0, 0) :: m.drop (k + 1) := fun k hk => by
      rw [List.getD_eq_getElem?_getD, List.getElem?_eq_getElem hk, Option.getD_some, ← List.drop_eq_getElem_cons hk, List.take_append_drop]
    have before : ∀ k, k ≤ cnt m c → (m.take k).find? (fun s => inS s c) = none := fun k hk => by
      rw [List.find?_eq_none]
      intro s hs
      obtain ⟨i, hi⟩ := List.mem_iff_getElem?.1 hs
      have hik : i < k ∧ i < m.length := by
        have := (List.getElem?_eq_some_iff.1 hi).1
        simp only [List.length_take] at this; omega
      rw [List.getElem?_take, if_pos hik.1] at hi
      have h1 := cnt_lt (m := m) (c := c) (i := i) (by omega)
      rw [List.getD_eq_getElem?_getD, hi, Option.getD_some] at h1
      simp only [inS, Bool.and_eq_true, decide_eq_true_eq, not_and]
      omega
    by_cases h1 : cnt m c = m.length
    · rw [if_pos (.inr (.inl h1))]
      have := before m.length (by omega)
      rw [List.take_length] at this
      rw [this]
    · have hlt : cnt m c < m.length := by omega
      have hge := cnt_ge hlt
      by_cases h2 : c < (m.getD (cnt m c) (0, 0, 0)).1
      · rw [if_pos (.inr (.inr h2))]
        have hnone : m.find? (fun s => inS s c) = none := by
          rw [List.find?_eq_none]
          intro s hs
          obtain ⟨i, hi⟩ := List.mem_iff_getElem?.1 hs
          have hil := (List.getElem?_eq_some_iff.1 hi).1
          simp only [inS, Bool.and_eq_true, decide_eq_true_eq, not_and]
          have e : m.getD i (0, 0, 0) = s := by rw [List.getD_eq_getElem?_getD, hi, Option.getD_some]
          rcases Nat.lt_trichotomy i (cnt m c) with h | h | h
          · have := cnt_lt h
            rw [e] at this; omega
          · rw [← h, e] at h2; omega
          · obtain ⟨q, rfl⟩ : ∃ q, i = q + 1 := ⟨i - 1, by omega⟩
            have h3 := hm.2.2.2 q hil
            rw [e] at h3
            have h4 : (m.getD (cnt m c) (0, 0, 0)).2.1 ≤ (m.getD q (0, 0, 0)).2.1 := by
              rcases Nat.eq_or_lt_of_le (Nat.lt_succ_iff.1 h) with h5 | h5
              · rw [h5]; exact Int.le_refl _
              · exact Int.le_of_lt (hm.1 _ _ h5 (by omega))
            omega
        rw [hnone]
      · rw [if_neg (by omega)]
        have hin : inS (m.getD (cnt m c) (0, 0, 0)) c = true := by
          simp only [inS, Bool.and_eq_true, decide_eq_true_eq]; omega
        have hs : m.find? (fun s => inS s c) = some (m.getD (cnt m c) (0, 0, 0)) := by
          conv => lhs; rw [split_m _ hlt]
          rw [List.find?_append, before _ (Nat.le_refl _), List.find?_cons, hin]
          rfl
        rw [hs]
        dsimp only
        omega
end Go.AM

