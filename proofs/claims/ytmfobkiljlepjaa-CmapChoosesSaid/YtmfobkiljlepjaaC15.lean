/- AM: punchcutref10: at, Right, Look. -/
import Derived.Test.YtmfobkiljlepjaaC14
set_option maxRecDepth 100000
set_option maxHeartbeats 8000000
set_option linter.unusedSimpArgs false
set_option linter.unusedVariables false
namespace Go.AM
open Go Go.Proofs


/-! ### at -/
theorem n4V_bound {l : List Int} (hb : Byt l) (q : Int) : 0 ≤ n4V l q ∧ n4V l q < 4294967296 := by
  unfold n4V
  have h1 := n2V_bound hb q
  have h2 := n2V_bound hb (q + 2)
  split <;> omega
theorem s96 (l : List Int) (hb : Byt l) (q : Int) (hq : -1000000000000 ≤ q) (hq2 : q ≤ 1000000000000) : Spec Try.prog 96 [.d false (.sl 1 (ints .u8 l)), .d true (.v (.int .i64 q))] none ⟨True, .d true (.v (.int .u64 (n4V l q))), none⟩ := by
  have hf107 : F29 107 = e107 := rfl
  have hG := (Gf_ok F29_ok)
  have hfs := And.intro @hf107 @e107.eq_1
  have hxs := @Nat.add_zero
  refine spec_of_awp (Gf_ok F29_ok) Try.func96 rfl (Nat.le_of_ble_eq_true rfl) fun E hps hN _ => ?_
  simp only [begin, List.zipIdx_cons, List.zipIdx_nil, List.map_cons, List.map_nil, Option.toList, Nat.zero_add, Nat.reduceAdd]
  have hn := n4V_bound hb q
  repeat refine AWP.nest ?_
  first | refine rsa hG [] [0, 1] fun K hK => ?_ | refine rna hG [] [0, 1] fun K hK => ?_
  repeat first | ((with_reducible refine shN ?_); refine sL ?_) | ((with_reducible refine shG ?_); refine sG ?_)
  refine Eq.mpr evalL_nil (hK _ ?_)
  clear hK K
  simp only [evU, St.keep, List.map_cons, look, reduceIte, Nat.reduceEqDiff]
  try show AWP _ _ _ _ _
  repeat refine AWP.nest ?_
  first | refine rsa hG [] [5] fun K hK => ?_ | refine rna hG [] [5] fun K hK => ?_
  repeat first | ((with_reducible refine shN ?_); refine sL ?_) | ((with_reducible refine shG ?_); refine sG ?_)
  refine Eq.mpr evalL_nil (hK _ ?_)
  clear hK K
  simp only [evU, St.keep, List.map_cons, look, reduceIte, Nat.reduceEqDiff]
  try show AWP _ _ _ _ _
  repeat refine AWP.nest ?_
  first | refine rsa hG [] [4] fun K hK => ?_ | refine rna hG [] [4] fun K hK => ?_
  repeat first | ((with_reducible refine shN ?_); refine sL ?_) | ((with_reducible refine shG ?_); refine sG ?_)
  refine Eq.mpr evalL_nil (hK _ ?_)
  clear hK K
  simp only [evU, St.keep, List.map_cons, look, reduceIte, Nat.reduceEqDiff]
  try show AWP _ _ _ _ _
  refine AWP.ret ?_
  refine ⟨.inl rfl, ⟨⟨_, rfl, ?_⟩, fun ob hob => by cases hob⟩⟩
  simp only [look, reduceIte, Nat.reduceEqDiff]
  exact sub1_i (by omega)
def e96 : List AV → Option Ob → Option Res := fun args i => match args, i with
  | [.d false (.sl 1 xs), .d true (.v (.int .i64 q))], none => some ⟨IsB xs ∧ -1000000000000 ≤ q ∧ q ≤ 1000000000000, .d true (.v (.int .u64 (n4V (toInts xs) q))), none⟩
  | _, _ => none
def F30 : FT := F29.upd 96 e96
theorem F30_ok : FOK Try.prog F30 := FOK.upd F29_ok Try.func96 (by kernel_rfl) rfl fun args i R h => by
  unfold e96 at h
  split at h
  · cases h
    refine Spec.pre fun h => ?_
    obtain ⟨l, rfl, hb⟩ := h.1.elim
    rw [toInts_ints]
    exact s96 l hb _ h.2.1 h.2.2
  · cases h


/-! ### Right -/
/-- How many groups a table says it has. -/
def numG (l : List Int) : Nat := (n4V l 12).toNat
def hdG (l : List Int) : Bool := decide (16 ≤ l.length) && decide (n4V l 0 = 786432) && decide (n4V l 4 = 16 + 12 * n4V l 12) && decide (n4V l 4 ≤ (l.length : Int))
def spS (l : List Int) (i : Nat) : Int × Int × Int := (n4V l (16 + 12 * (i : Int)), n4V l (20 + 12 * (i : Int)), n4V l (24 + 12 * (i : Int)))
def okS (l : List Int) (i : Nat) : Bool := decide ((spS l i).1 ≤ (spS l i).2.1) && decide ((spS l i).2.1 ≤ 1114111) && (decide (i = 0) || decide (n4V l (8 + 12 * (i : Int)) < (spS l i).1)) && decide ((spS l i).2.2 + (spS l i).2.1 - (spS l i).1 ≤ 65535)
def rightG (l : List Int) : Bool := hdG l && (List.range (numG l)).all (okS l)
theorem rightG_no {l : List Int} (h : hdG l = false) : rightG l = false := by unfold rightG; rw [h]; rfl
theorem rightG_not {l : List Int} {i : Nat} (hi : i < numG l) (h : okS l i = false) : rightG l = false := by
  cases e : rightG l with
  | false => rfl
  | true =>
    simp only [rightG, Bool.and_eq_true, List.all_eq_true, List.mem_range] at e
    rw [e.2 i hi] at h
    cases h
theorem rightG_of {l : List Int} (h : hdG l = true) (h2 : ∀ i, i < numG l → okS l i = true) : rightG l = true := by
  simp only [rightG, Bool.and_eq_true, List.all_eq_true, List.mem_range]
  exact ⟨h, h2⟩
theorem hdG_num {l : List Int} (hb : Byt l) (h : hdG l = true) : 12 * numG l + 16 ≤ l.length := by
  simp only [hdG, Bool.and_eq_true, decide_eq_true_eq] at h
  have := n4V_bound hb 12
  unfold numG
  omega
theorem s47 (l : List Int) (hb : Byt l) (hl : l.length ≤ 1000000000000) : Spec Try.prog 47 [.d false (.sl 1 (ints .u8 l))] none ⟨True, .tup [.d true (.v (.int .i64 (if rightG l = true then (numG l : Int) else 0))), .d true (.v (.bool (rightG l)))], none⟩ := by
  have hf96 : F30 96 = e96 := rfl
  have hG := (Gf_ok F30_ok)
  have hfs := And.intro @hf96 @e96.eq_1
  have hxs := @Nat.add_zero
  refine spec_of_awp (Gf_ok F30_ok) Try.func47 rfl (Nat.le_of_ble_eq_true rfl) fun E hps hN _ => ?_
  simp only [begin, List.zipIdx_cons, List.zipIdx_nil, List.map_cons, List.map_nil, Option.toList, Nat.zero_add, Nat.reduceAdd]
  have b12 := n4V_bound hb 12
  have b4' := n4V_bound hb 4
  have b0 := n4V_bound hb 0
  repeat refine AWP.nest ?_
  first | refine rsa hG [] [0] fun K hK => ?_ | refine rna hG [] [0] fun K hK => ?_
  repeat first | ((with_reducible refine shN ?_); refine sL ?_) | ((with_reducible refine shG ?_); refine sG ?_)
  refine Eq.mpr evalL_nil (hK _ ?_)
  clear hK K
  simp only [evU, St.keep, List.map_cons, look, reduceIte, Nat.reduceEqDiff]
  try show AWP _ _ _ _ _
  repeat refine AWP.nest ?_
  first | refine rsa hG [] [0, 4] fun K hK => ?_ | refine rna hG [] [0, 4] fun K hK => ?_
  repeat first | ((with_reducible refine shN ?_); refine sL ?_) | ((with_reducible refine shG ?_); refine sG ?_)
  refine Eq.mpr evalL_nil (hK _ ?_)
  clear hK K
  simp only [evU, St.keep, List.map_cons, look, reduceIte, Nat.reduceEqDiff]
  try show AWP _ _ _ _ _
  repeat refine AWP.nest ?_
  first | refine rsa hG [] [0, 4, 34] fun K hK => ?_ | refine rna hG [] [0, 4, 34] fun K hK => ?_
  repeat first | ((with_reducible refine shN ?_); refine sL ?_) | ((with_reducible refine shG ?_); refine sG ?_)
  refine Eq.mpr evalL_nil (hK _ ?_)
  clear hK K
  simp only [evU, St.keep, List.map_cons, look, reduceIte, Nat.reduceEqDiff]
  try show AWP _ _ _ _ _
  repeat refine AWP.nest ?_
  first | refine AWP.seq (AWP.cond (b := _) rfl (fun hc => ?_) (fun hc => ?_)) | refine AWP.cond (b := _) rfl (fun hc => ?_) (fun hc => ?_)
  all_goals try simp only [evC] at hc
  · have hf : hdG l = false := by
      cases e : hdG l with
      | false => rfl
      | true =>
        exfalso
        simp only [hdG, Bool.and_eq_true, decide_eq_true_eq] at e
        omega
    rw [rightG_no hf]
    repeat refine AWP.nest ?_
    first | refine rsa hG [] [2, 3] fun K hK => ?_ | refine rna hG [] [2, 3] fun K hK => ?_
    repeat first | ((with_reducible refine shN ?_); refine sL ?_) | ((with_reducible refine shG ?_); refine sG ?_)
    refine Eq.mpr evalL_nil (hK _ ?_)
    clear hK K
    simp only [evU, St.keep, List.map_cons, look, reduceIte, Nat.reduceEqDiff]
    try show AWP _ _ _ _ _
    refine AWP.ret ?_
    refine ⟨.inl rfl, ⟨⟨_, rfl, ?_⟩, fun ob hob => by cases hob⟩⟩
    simp only [look, reduceIte, Nat.reduceEqDiff]
    refine ⟨_, rfl, (.cons ?_ (.cons ?_ .nil))⟩
    · exact sub1_of rfl
    · exact sub1_of rfl
  refine AWP.skip ?_
  show AWP _ _ _ _ _
  have ht : hdG l = true := by
    simp only [hdG, Bool.and_eq_true, decide_eq_true_eq]
    omega
  have hnum := hdG_num hb ht
  obtain ⟨n, hn, hnn⟩ : ∃ n, numG l = n ∧ n4V l 12 = (n : Int) := ⟨_, rfl, by unfold numG; omega⟩
  rw [hn] at hnum
  rw [hnn]
  clear hc
  repeat refine AWP.nest ?_
  first | refine rsa hG [] [0, 4, 5] fun K hK => ?_ | refine rna hG [] [0, 4, 5] fun K hK => ?_
  repeat first | ((with_reducible refine shN ?_); refine sL ?_) | ((with_reducible refine shG ?_); refine sG ?_)
  refine Eq.mpr evalL_nil (hK _ ?_)
  clear hK K
  simp only [evU, St.keep, List.map_cons, look, reduceIte, Nat.reduceEqDiff]
  try show AWP _ _ _ _ _
  repeat refine AWP.nest ?_
  first | refine AWP.seq (AWP.block ?_) | refine AWP.block ?_
  refine AWP.loop (fun k st => ∃ (i : Nat), i ≤ n ∧ k = n - i ∧ (∀ j, j < i → okS l j = true) ∧ st = ⟨[(0, .d false (.sl 1 (ints .u8 l))), (4, .d true (.v (.int .u64 (n : Int)))), (5, .d true (.v (.int .i64 (i : Int))))], []⟩) (n) ?_ ?_
  · exact ⟨0, Nat.zero_le _, rfl, (fun j h => absurd h (Nat.not_lt_zero j)), rfl⟩
  rintro k st ⟨i, hi, hk, hj, rfl⟩
  repeat refine AWP.nest ?_
  first | refine rsa hG [] [0, 4, 5, 38] fun K hK => ?_ | refine rna hG [] [0, 4, 5, 38] fun K hK => ?_
  repeat first | ((with_reducible refine shN ?_); refine sL ?_) | ((with_reducible refine shG ?_); refine sG ?_)
  refine Eq.mpr evalL_nil (hK _ ?_)
  clear hK K
  simp only [evU, St.keep, List.map_cons, look, reduceIte, Nat.reduceEqDiff]
  try show AWP _ _ _ _ _
  first | refine AWP.seq (AWP.cond (b := _) rfl (fun hc => ?_) (fun hc => ?_)) | refine AWP.cond (b := _) rfl (fun hc => ?_) (fun hc => ?_)
  rotate_left
  · refine AWP.exit ?_
    show AWP _ _ _ _ _
    simp only [evC, Int.not_lt] at hc
    obtain rfl : i = n := by omega
    rw [rightG_of ht (by rw [hn]; exact hj), hn]
    repeat refine AWP.nest ?_
    first | refine rsa hG [] [2, 3] fun K hK => ?_ | refine rna hG [] [2, 3] fun K hK => ?_
    repeat first | ((with_reducible refine shN ?_); refine sL ?_) | ((with_reducible refine shG ?_); refine sG ?_)
    refine Eq.mpr evalL_nil (hK _ ?_)
    clear hK K
    simp only [evU, St.keep, List.map_cons, look, reduceIte, Nat.reduceEqDiff]
    try show AWP _ _ _ _ _
    refine AWP.ret ?_
    refine ⟨.inl rfl, ⟨⟨_, rfl, ?_⟩, fun ob hob => by cases hob⟩⟩
    simp only [look, reduceIte, Nat.reduceEqDiff]
    refine ⟨_, rfl, (.cons ?_ (.cons ?_ .nil))⟩
    · exact sub1_of rfl
    · exact sub1_of rfl
  simp only [evC, Int.not_lt] at hc
  refine AWP.skip ?_
  show AWP _ _ _ _ _
  have hi' := hc
  clear hc
  have ba := n4V_bound hb (16 + 12 * (i : Int))
  have bb := n4V_bound hb (20 + 12 * (i : Int))
  have bg := n4V_bound hb (24 + 12 * (i : Int))
  have bp := n4V_bound hb (8 + 12 * (i : Int))
  repeat refine AWP.nest ?_
  first | refine AWP.seq (AWP.block ?_) | refine AWP.block ?_
  repeat refine AWP.nest ?_
  first | refine rsa hG [] [0, 4, 5, 6, 7, 8] fun K hK => ?_ | refine rna hG [] [0, 4, 5, 6, 7, 8] fun K hK => ?_
  repeat first | ((with_reducible refine shN ?_); refine sL ?_) | ((with_reducible refine shG ?_); refine sG ?_)
  refine Eq.mpr evalL_nil (hK _ ?_)
  clear hK K
  simp only [evU, St.keep, List.map_cons, look, reduceIte, Nat.reduceEqDiff]
  try show AWP _ _ _ _ _
  repeat refine AWP.nest ?_
  first | refine rsa hG [] [0, 4, 5, 83] fun K hK => ?_ | refine rna hG [] [0, 4, 5, 83] fun K hK => ?_
  repeat first | ((with_reducible refine shN ?_); refine sL ?_) | ((with_reducible refine shG ?_); refine sG ?_)
  refine Eq.mpr evalL_nil (hK _ ?_)
  clear hK K
  simp only [evU, St.keep, List.map_cons, look, reduceIte, Nat.reduceEqDiff]
  try show AWP _ _ _ _ _
  repeat refine AWP.nest ?_
  first | refine AWP.seq (AWP.cond (b := _) rfl (fun hc => ?_) (fun hc => ?_)) | refine AWP.cond (b := _) rfl (fun hc => ?_) (fun hc => ?_)
  all_goals try simp only [evC] at hc
  · have hf : okS l i = false := by
      cases e : okS l i with
      | false => rfl
      | true =>
        exfalso
        simp only [okS, Bool.and_eq_true, Bool.or_eq_true, decide_eq_true_eq] at e
        simp only [spS] at e
        omega
    rw [rightG_not (by rw [hn]; exact hi') hf]
    repeat refine AWP.nest ?_
    first | refine rsa hG [] [2, 3] fun K hK => ?_ | refine rna hG [] [2, 3] fun K hK => ?_
    repeat first | ((with_reducible refine shN ?_); refine sL ?_) | ((with_reducible refine shG ?_); refine sG ?_)
    refine Eq.mpr evalL_nil (hK _ ?_)
    clear hK K
    simp only [evU, St.keep, List.map_cons, look, reduceIte, Nat.reduceEqDiff]
    try show AWP _ _ _ _ _
    refine AWP.ret ?_
    refine ⟨.inl rfl, ⟨⟨_, rfl, ?_⟩, fun ob hob => by cases hob⟩⟩
    simp only [look, reduceIte, Nat.reduceEqDiff]
    refine ⟨_, rfl, (.cons ?_ (.cons ?_ .nil))⟩
    · exact sub1_of rfl
    · exact sub1_of rfl
  · refine AWP.skip ?_
    show AWP _ _ _ _ _
    have ho : okS l i = true := by
      simp only [okS, Bool.and_eq_true, Bool.or_eq_true, decide_eq_true_eq]
      simp only [spS]
      omega
    repeat refine AWP.nest ?_
    first | refine rsa hG [] [0, 4, 5] fun K hK => ?_ | refine rna hG [] [0, 4, 5] fun K hK => ?_
    repeat first | ((with_reducible refine shN ?_); refine sL ?_) | ((with_reducible refine shG ?_); refine sG ?_)
    refine Eq.mpr evalL_nil (hK _ ?_)
    clear hK K
    simp only [evU, St.keep, List.map_cons, look, reduceIte, Nat.reduceEqDiff]
    try show AWP _ _ _ _ _
    exact ⟨n - (i + 1), by omega, i + 1, by omega, rfl, fun j hj2 => by
      rcases Nat.lt_succ_iff_lt_or_eq.1 hj2 with h | h
      · exact hj j h
      · rw [h]; exact ho, rfl⟩
def e47 : List AV → Option Ob → Option Res := fun args i => match args, i with
  | [.d false (.sl 1 xs)], none => some ⟨IsB xs ∧ (toInts xs).length ≤ 1000000000000, .tup [.d true (.v (.int .i64 (if rightG (toInts xs) = true then (numG (toInts xs) : Int) else 0))), .d true (.v (.bool (rightG (toInts xs))))], none⟩
  | _, _ => none
def F31 : FT := F30.upd 47 e47
theorem F31_ok : FOK Try.prog F31 := FOK.upd F30_ok Try.func47 (by kernel_rfl) rfl fun args i R h => by
  unfold e47 at h
  split at h
  · cases h
    refine Spec.pre fun h => ?_
    obtain ⟨l, rfl, hb⟩ := h.1.elim
    rw [toInts_ints] at h ⊢
    exact s47 l hb h.2
  · cases h
end Go.AM

