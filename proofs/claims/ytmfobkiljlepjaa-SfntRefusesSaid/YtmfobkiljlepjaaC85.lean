/- AM: ref03.Zeroed; sfnt.begins. -/
import Derived.Test.YtmfobkiljlepjaaC84
set_option maxRecDepth 100000
set_option maxHeartbeats 8000000
set_option linter.unusedSimpArgs false
set_option linter.unusedVariables false
namespace Go.AM
open Go Go.Proofs

theorem zeroB_at {l : List Int} (h : 12 ≤ l.length) : l.take 8 ++ (List.replicate 4 0 ++ l.drop 12) = zeroB l 8 4 := by
  apply List.ext_getElem
  · rw [zeroB_length]
    simp only [List.length_append, List.length_take, List.length_replicate, List.length_drop]
    omega
  · intro i h1 h2
    have hi : i < l.length := by rwa [zeroB_length] at h2
    have hz : (zeroB l 8 4)[i] = if (8 : Int) ≤ (i : Int) ∧ (i : Int) - 8 < 4 then 0 else l[i] := by simp [zeroB]
    rw [hz]
    by_cases h8 : i < 8
    · rw [List.getElem_append_left (by rw [List.length_take]; omega), if_neg (by omega), List.getElem_take]
    · rw [List.getElem_append_right (by rw [List.length_take]; omega)]
      have e8 : (l.take 8).length = 8 := by rw [List.length_take]; omega
      by_cases h12 : i < 12
      · rw [List.getElem_append_left (by rw [e8, List.length_replicate]; omega), if_pos (by omega), List.getElem_replicate]
      · rw [List.getElem_append_right (by rw [e8, List.length_replicate]; omega), if_neg (by omega), List.getElem_drop]
        congr 1
        rw [e8, List.length_replicate]
        omega


theorem s82 (s : ByteArray) (l : List Int) (hb : Byt l) (hl : l.length ≤ 1000000000000) : Spec Try.prog 82 [.d false (.agg [.v (.string s), .sl 1 (ints .u8 l)])] none ⟨True, .d true (.sl 1 (ints .u8 (zerT (s, l)))), none⟩ := by
  have hf32 : F117 32 = e32 := rfl
  have hG := (Gf_ok F117_ok)
  have hfs := And.intro @hf32 (And.intro @e32.eq_1 (And.intro @evP @evTb))
  have hxs := @Nat.add_zero
  refine spec_of_awp (Gf_ok F117_ok) Try.func82 rfl (Nat.le_of_ble_eq_true rfl) fun E hps hN _ => ?_
  simp only [begin, List.zipIdx_cons, List.zipIdx_nil, List.map_cons, List.map_nil, Option.toList, Nat.zero_add, Nat.reduceAdd]
  repeat refine AWP.nest ?_
  first | refine rsa hG [] [1] fun K hK => ?_ | refine rna hG [] [1] fun K hK => ?_
  repeat first | ((with_reducible refine shN ?_); refine sL ?_) | ((with_reducible refine shG ?_); refine sG ?_)
  refine Eq.mpr evalL_nil (hK _ ?_)
  clear hK K
  simp only [evU, St.keep, List.map_cons, look, reduceIte, Nat.reduceEqDiff]
  try show AWP _ _ _ _ _
  repeat refine AWP.nest ?_
  first | refine rsa hG [] [1, 11] fun K hK => ?_ | refine rna hG [] [1, 11] fun K hK => ?_
  repeat first | ((with_reducible refine shN ?_); refine sL ?_) | ((with_reducible refine shG ?_); refine sG ?_)
  refine Eq.mpr evalL_nil (hK _ ?_)
  clear hK K
  simp only [evU, St.keep, List.map_cons, look, reduceIte, Nat.reduceEqDiff]
  try show AWP _ _ _ _ _
  unfold zerT
  have hw : wholeT (s, l) = ((s.toList == headB.toList) && decide (12 ≤ (l.length : Int))) := rfl
  repeat refine AWP.nest ?_
  first | refine AWP.seq (AWP.cond (b := _) rfl (fun hc => ?_) (fun hc => ?_)) | refine AWP.cond (b := _) rfl (fun hc => ?_) (fun hc => ?_)
  all_goals try simp only [evC] at hc
  · have hw2 : wholeT (s, l) = true := by
      rw [hw]
      simpa [headB] using hc
    have h12 : 12 ≤ l.length := by
      have := hw2
      rw [hw, Bool.and_eq_true, decide_eq_true_eq] at this
      omega
    rw [if_pos hw2]
    have hdt : (l.drop 12).take (l.length - 12) = l.drop 12 := List.take_of_length_le (by rw [List.length_drop]; exact Nat.le_refl _)
    have b1 : Byt (l.take 8) := hb.take _
    have b2' : Byt (l.drop 12) := hb.drop _
    have b3 : Byt (List.replicate 4 (0 : Int)) := fun b h => by have := (List.mem_replicate.1 h).2; omega
    have l1 : (l.take 8).length = 8 := by rw [List.length_take]; omega
    have l2 : (l.drop 12).length = l.length - 12 := List.length_drop
    have l3 : (List.replicate 4 (0 : Int)).length = 4 := List.length_replicate
    repeat refine AWP.nest ?_
    have hxs := @hdt
    first | refine rda hG [] [2] Try.mixed fun K hK => ?_ | refine dna hG [] [2] Try.mixed fun K hK => ?_
    repeat first | ((with_reducible refine shD ?_); refine sD ?_) | ((with_reducible refine shDG ?_); refine sDG ?_)
    refine evalD_done (by kernel_rfl) (hK _ ?_)
    clear hK K hxs
    simp only [evU, St.keep, List.map_cons, look, reduceIte, Nat.reduceEqDiff]
    try show AWP _ _ _ _ _
    refine AWP.ret ?_
    refine ⟨.inl rfl, ⟨⟨_, rfl, ?_⟩, fun ob hob => by cases hob⟩⟩
    simp only [look, reduceIte, Nat.reduceEqDiff]
    exact sub1_of (by rw [← zeroB_at h12])
  have hw2 : wholeT (s, l) = false := by
    rw [hw, Bool.and_eq_false_iff]
    rcases hc with h | h
    · left
      simpa [headB] using h
    · right
      simpa using h
  rw [if_neg (by rw [hw2]; decide)]
  refine AWP.skip ?_
  show AWP _ _ _ _ _
  repeat refine AWP.nest ?_
  first | refine rsa hG [] [2] fun K hK => ?_ | refine rna hG [] [2] fun K hK => ?_
  repeat first | ((with_reducible refine shN ?_); refine sL ?_) | ((with_reducible refine shG ?_); refine sG ?_)
  refine Eq.mpr evalL_nil (hK _ ?_)
  clear hK K
  simp only [evU, St.keep, List.map_cons, look, reduceIte, Nat.reduceEqDiff]
  try show AWP _ _ _ _ _
  refine AWP.ret ?_
  refine ⟨.inl rfl, ⟨⟨_, rfl, ?_⟩, fun ob hob => by cases hob⟩⟩
  simp only [look, reduceIte, Nat.reduceEqDiff]
  exact sub1_of (by simp)
def e82 : List AV → Option Ob → Option Res := fun args i => match args, i with
  | [.d false (.agg [.v (.string s), .sl 1 xs])], none => some ⟨IsB xs ∧ (toInts xs).length ≤ 1000000000000, .d true (.sl 1 (ints .u8 (zerT (s, toInts xs)))), none⟩
  | _, _ => none
def F118 : FT := F117.upd 82 e82
theorem F118_ok : FOK Try.prog F118 := FOK.upd F117_ok Try.func82 (by kernel_rfl) rfl fun args i R h => by
  unfold e82 at h
  split at h
  · rename_i s xs
    cases h
    refine Spec.pre fun h => ?_
    obtain ⟨l, rfl, hb⟩ := h.1.elim
    rw [toInts_ints] at h ⊢
    exact s82 s l hb h.2
  · cases h

/-! ### sfnt.begins -/
/-- The reader, when it has gone through the head. -/
def p1 (l : List Int) : Int := rp l.length 0 false 4
def q1 (l : List Int) : Bool := rb l.length 0 false 4
def p2 (l : List Int) : Int := rp l.length (p1 l) (q1 l) 2
def q2 (l : List Int) : Bool := rb l.length (p1 l) (q1 l) 2
def p3 (l : List Int) : Int := rp l.length (p2 l) (q2 l) 2
def q3 (l : List Int) : Bool := rb l.length (p2 l) (q2 l) 2
def p4 (l : List Int) : Int := rp l.length (p3 l) (q3 l) 2
def q4 (l : List Int) : Bool := rb l.length (p3 l) (q3 l) 2
def p5 (l : List Int) : Int := rp l.length (p4 l) (q4 l) 2
def q5 (l : List Int) : Bool := rb l.length (p4 l) (q4 l) 2
def nB (l : List Int) : Int := rv l (p1 l) (q1 l) 2
/-- Does it begin as a font? -/
def begT (l : List Int) : Bool := decide (12 ≤ l.length) && decide (n4V l 0 = 65536) && decide (1 ≤ n2V l 4 ∧ n2V l 4 ≤ 64) && decide (n2V l 6 = tA (n2V l 4)) && decide (n2V l 8 = tB (n2V l 4)) && decide (n2V l 10 = tD (n2V l 4))
theorem q_ok {l : List Int} : RdOK l.length 12 (p5 l) (q5 l) := by
  have r0 : RdOK l.length 0 0 false := .inl ⟨Nat.zero_le _, rfl, rfl⟩
  exact r0.s4.s2.s2.s2.s2
theorem beg_vals {l : List Int} (h : 12 ≤ l.length) : rv l 0 false 4 = n4V l 0 ∧ nB l = n2V l 4 ∧ rv l (p2 l) (q2 l) 2 = n2V l 6 ∧ rv l (p3 l) (q3 l) 2 = n2V l 8 ∧ rv l (p4 l) (q4 l) 2 = n2V l 10 := by
  have r0 : RdOK l.length 0 0 false := .inl ⟨Nat.zero_le _, rfl, rfl⟩
  have r1 := r0.s4
  have r2 := r1.s2
  have r3 := r2.s2
  have r4 := r3.s2
  refine ⟨?_, ?_, ?_, ?_, ?_⟩
  · rw [r0.v4 (by omega)]; exact be4_at (by omega)
  · exact (r1.v2 (by omega)).trans (be2_at (by omega))
  · exact (r2.v2 (by omega)).trans (be2_at (by omega))
  · exact (r3.v2 (by omega)).trans (be2_at (by omega))
  · exact (r4.v2 (by omega)).trans (be2_at (by omega))
theorem tA_pos {x : Int} : 0 < tA x ↔ 1 ≤ x ∧ x ≤ 64 := by
  unfold tA
  split
  · rename_i h
    have := Nat.pow_pos (n := Nat.log2 x.toNat) (show 0 < 2 by decide)
    constructor
    · intro _; exact h
    · intro _; omega
  · rename_i h
    constructor
    · intro h2; omega
    · intro h2; exact absurd h2 h
end Go.AM

