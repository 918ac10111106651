/- The plain law of package seg: bytes by twos, what a right table is, what is looked up. No program in sight. -/
import Derived.Test.YtmfobkiljlepjaaC31
set_option linter.unusedVariables false
set_option linter.unusedSimpArgs false
namespace Go.AM
open Go

theorem n2_skip (x r : List Int) (k : Nat) (h : k + 2 ≤ r.length) : n2V (x ++ r) ((x.length + k : Nat) : Int) = n2V r (k : Int) := by
  rw [← be2_at (l := x ++ r) (k := x.length + k) (by rw [List.length_append]; omega), ← be2_at h, ← List.drop_drop, List.drop_left]
theorem n2_head (n : Int) (r : List Int) (h0 : 0 ≤ n) (h1 : n < 65536) : n2V (b2 n ++ r) 0 = n := by
  have := be2_at (l := b2 n ++ r) (k := 0) (by rw [List.length_append]; show 0 + 2 ≤ 2 + _; omega)
  rw [List.drop_zero, List.take_append_of_le_length (by exact Nat.le_refl _), List.take_of_length_le (by exact Nat.le_refl _)] at this
  rw [← show ((0 : Nat) : Int) = 0 from rfl, ← this]
  simp [be, b2]
  omega
theorem n2_enc {w : List Int} (hw : W16 w) {i : Nat} (hi : i < w.length) (r : List Int) : n2V (enc2 w ++ r) ((2 * i : Nat) : Int) = w.getD i 0 := by
  have e : w = w.take i ++ w.getD i 0 :: w.drop (i + 1) := by
    rw [List.getD_eq_getElem?_getD, List.getElem?_eq_getElem hi, Option.getD_some, ← List.drop_eq_getElem_cons hi, List.take_append_drop]
  have hb := hw.getD i
  have hl : (enc2 (w.take i)).length = 2 * i := by rw [enc2_len]; simp only [List.length_take]; omega
  have e2 : enc2 w ++ r = enc2 (w.take i) ++ (b2 (w.getD i 0) ++ (enc2 (w.drop (i + 1)) ++ r)) := by
    conv => lhs; rw [e]
    rw [enc2_append, enc2_cons]
    simp only [List.append_assoc]
  have := n2_skip (enc2 (w.take i)) (b2 (w.getD i 0) ++ (enc2 (w.drop (i + 1)) ++ r)) 0 (by rw [List.length_append]; show 0 + 2 ≤ 2 + _; omega)
  rw [e2, ← hl]
  refine Eq.trans this ?_
  exact n2_head _ _ hb.1 hb.2
theorem n2_enc0 {w : List Int} (hw : W16 w) {i : Nat} (hi : i < w.length) : n2V (enc2 w) ((2 * i : Nat) : Int) = w.getD i 0 := by
  have := n2_enc hw hi []
  rwa [List.append_nil] at this
theorem enc2_inj {a b : List Int} (ha : W16 a) (hb : W16 b) (h : enc2 a = enc2 b) : a = b := by
  have hl : a.length = b.length := by
    have := congrArg List.length h
    rw [enc2_len, enc2_len] at this
    omega
  apply List.ext_getElem hl
  intro i h1 h2
  have e1 := n2_enc0 ha h1
  have e2 := n2_enc0 hb h2
  rw [h, e2] at e1
  rw [List.getD_eq_getElem?_getD, List.getD_eq_getElem?_getD, List.getElem?_eq_getElem h1, List.getElem?_eq_getElem h2] at e1
  exact e1.symm
theorem byt_two {l : List Int} (hb : Byt l) {q : Nat} (h : q + 2 ≤ l.length) : [l.getD q 0, l.getD (q + 1) 0] = b2 (n2V l (q : Int)) := by
  have h1 := hb.getD q
  have h2 := hb.getD (q + 1)
  have hk : n2OK l.length (q : Int) = true := by simp only [n2OK, decide_eq_true_eq]; omega
  unfold n2V
  rw [hk, if_pos rfl, Int.toNat_natCast]
  simp only [b2, List.cons.injEq, and_true]
  omega
theorem enc2_read {l : List Int} (hb : Byt l) (k : Nat) : ∀ (m : Nat), k + 2 * m ≤ l.length → (l.drop k).take (2 * m) = enc2 (colV l k m)
  | 0, h => by simp [colV, enc2]
  | m + 1, h => by
    have ih := enc2_read hb k m (by omega)
    rw [colV_snoc, enc2_append, ← ih, show 2 * (m + 1) = 2 * m + 2 by omega, List.take_add, List.drop_drop, two_at (by omega), byt_two hb (by omega)]
    simp [enc2]
theorem w16_col {l : List Int} (hb : Byt l) (k m : Nat) : W16 (colV l k m) := fun n hn => by
  simp only [colV, List.mem_map] at hn
  obtain ⟨j, _, rfl⟩ := hn
  have := n2V_bound hb ((k + 2 * j : Nat) : Int)
  omega
/-- The six bytes of the searches. -/
theorem sr_iff {l : List Int} (hb : Byt l) (h : 24 ≤ l.length) (h0 : 0 < nS l) (h1 : nS l ≤ 32767) : (l.drop 8).take 6 = srch (nS l) ↔ srS l = true := by
  have e1 := enc2_read hb 8 3 (by omega)
  have e2 : colV l 8 3 = [n2V l 8, n2V l 10, n2V l 12] := rfl
  have hbd := srch_bd h0 h1
  have hw : W16 [(sA (nS l) : Int), (sB (nS l) : Int), (sC (nS l) : Int)] := fun n hn => by
    simp only [List.mem_cons, List.not_mem_nil, or_false] at hn
    rcases hn with rfl | rfl | rfl <;> omega
  rw [show (6 : Nat) = 2 * 3 from rfl, e1, srS_iff]
  constructor
  · intro h2
    have := enc2_inj (w16_col hb 8 3) hw h2
    rw [e2] at this
    simpa using this
  · rintro ⟨h2, h3, h4⟩
    rw [e2, h2, h3, h4]
    rfl
def okQ (l : List Int) (n i : Nat) : Bool := decide (n2V l (16 + 2 * (n : Int) + 2 * (i : Int)) ≤ n2V l (14 + 2 * (i : Int))) && (decide (i = 0) || decide (n2V l (12 + 2 * (i : Int)) < n2V l (16 + 2 * (n : Int) + 2 * (i : Int)))) && decide (n2V l (16 + 6 * (n : Int) + 2 * (i : Int)) % 2 = 0) &&
  (decide (n2V l (16 + 6 * (n : Int) + 2 * (i : Int)) = 0) || decide (16 + 6 * (n : Int) + 2 * (i : Int) + n2V l (16 + 6 * (n : Int) + 2 * (i : Int)) + 2 * (n2V l (14 + 2 * (i : Int)) - n2V l (16 + 2 * (n : Int) + 2 * (i : Int))) + 2 ≤ n2V l 2))
theorem okQ_iff {l : List Int} {n i : Nat} : okQ l n i = true ↔ n2V l (16 + 2 * (n : Int) + 2 * (i : Int)) ≤ n2V l (14 + 2 * (i : Int)) ∧ (i = 0 ∨ n2V l (12 + 2 * (i : Int)) < n2V l (16 + 2 * (n : Int) + 2 * (i : Int))) ∧ n2V l (16 + 6 * (n : Int) + 2 * (i : Int)) % 2 = 0 ∧
  (n2V l (16 + 6 * (n : Int) + 2 * (i : Int)) = 0 ∨ 16 + 6 * (n : Int) + 2 * (i : Int) + n2V l (16 + 6 * (n : Int) + 2 * (i : Int)) + 2 * (n2V l (14 + 2 * (i : Int)) - n2V l (16 + 2 * (n : Int) + 2 * (i : Int))) + 2 ≤ n2V l 2) := by
  simp only [okQ, Bool.and_eq_true, Bool.or_eq_true, decide_eq_true_eq, and_assoc]
/-- The head, and both ends of the segments. -/
def endS (l : List Int) : Bool := decide (n2V l (14 + 2 * (nS l : Int)) = 0) && decide (n2V l (12 + 2 * (nS l : Int)) = 65535)
def rightS (l : List Int) : Bool := hdS l && srS l && endS l && (List.range (nS l)).all (okQ l (nS l))
theorem rightS_iff {l : List Int} : rightS l = true ↔ hdS l = true ∧ srS l = true ∧ endS l = true ∧ ∀ i, i < nS l → okQ l (nS l) i = true := by
  simp only [rightS, Bool.and_eq_true, List.all_eq_true, List.mem_range, and_assoc]
theorem rightS_no {l : List Int} (h : ¬ (hdS l = true ∧ srS l = true ∧ endS l = true)) : rightS l = false := by
  cases e : rightS l with
  | false => rfl
  | true => have := rightS_iff.1 e; exact absurd ⟨this.1, this.2.1, this.2.2.1⟩ h
theorem rightS_not {l : List Int} {i : Nat} (hi : i < nS l) (h : okQ l (nS l) i = false) : rightS l = false := by
  cases e : rightS l with
  | false => rfl
  | true => have := (rightS_iff.1 e).2.2.2 i hi; rw [h] at this; cases this
theorem hdS_num {l : List Int} (hb : Byt l) (h : hdS l = true) : 0 < nS l ∧ nS l ≤ 32767 ∧ n2V l 6 = 2 * (nS l : Int) ∧ 16 + 8 * (nS l : Int) ≤ n2V l 2 ∧ n2V l 2 ≤ (l.length : Int) ∧ 24 ≤ l.length := by
  have h1 := hdS_iff.1 h
  have h2 := n2V_bound hb 6
  unfold nS
  omega
/-- A segment, where its glyphs stand. -/
def segR (l : List Int) (n i : Nat) : Int × Int × Int × Int :=
  (n2V l (16 + 2 * (n : Int) + 2 * (i : Int)), n2V l (14 + 2 * (i : Int)), n2V l (16 + 4 * (n : Int) + 2 * (i : Int)), if n2V l (16 + 6 * (n : Int) + 2 * (i : Int)) = 0 then -1 else 16 + 6 * (n : Int) + 2 * (i : Int) + n2V l (16 + 6 * (n : Int) + 2 * (i : Int)))
def segsR (l : List Int) (n : Nat) : List (Int × Int × Int × Int) := (List.range n).map (segR l n)
/-- A code's glyph, of the first segment that may have it. -/
def look1 (s : Int × Int × Int × Int) (p : List Int) (c : Int) : Int :=
  if c < s.1 then 0 else if s.2.2.2 < 0 then (c + s.2.2.1) % 65536 else if n2V p (s.2.2.2 + 2 * (c - s.1)) = 0 then 0 else (n2V p (s.2.2.2 + 2 * (c - s.1)) + s.2.2.1) % 65536
def lookS (m : List (Int × Int × Int × Int)) (p : List Int) (c : Int) : Int :=
  if c < 0 ∨ 65535 < c then 0 else match m.find? fun s => decide (c ≤ s.2.1) with
  | some s => look1 s p c
  | none => 0
theorem find_range {α : Type} {f : Nat → α} {p : α → Bool} {n i : Nat} (hi : i < n) (hj : ∀ j, j < i → p (f j) = false) (h : p (f i) = true) : ((List.range n).map f).find? p = some (f i) := by
  have e1 : List.range n = List.range i ++ (i :: List.range' (i + 1) (n - (i + 1))) := by
    rw [List.range_eq_range', List.range_eq_range', show n = i + (n - (i + 1) + 1) by omega, List.range'_append_1.symm]
    simp only [Nat.zero_add, List.range'_succ]
    congr 3
    omega
  rw [e1, List.map_append, List.find?_append]
  have h1 : ((List.range i).map f).find? p = none := by
    rw [List.find?_eq_none]
    intro s hs
    simp only [List.mem_map, List.mem_range] at hs
    obtain ⟨j, hj2, rfl⟩ := hs
    rw [hj j hj2]
    exact Bool.false_ne_true
  rw [h1, List.map_cons, List.find?_cons, h]
  rfl
theorem find_range_none {α : Type} {f : Nat → α} {p : α → Bool} {n : Nat} (hj : ∀ j, j < n → p (f j) = false) : ((List.range n).map f).find? p = none := by
  rw [List.find?_eq_none]
  intro s hs
  simp only [List.mem_map, List.mem_range] at hs
  obtain ⟨j, hj2, rfl⟩ := hs
  rw [hj j hj2]
  exact Bool.false_ne_true
end Go.AM
