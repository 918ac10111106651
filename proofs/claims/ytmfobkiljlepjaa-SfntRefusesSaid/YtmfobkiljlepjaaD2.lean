/- Sorting by insertion; the order of strings (plain). -/
import Derived.Test.YtmfobkiljlepjaaC81
set_option linter.unusedSimpArgs false
set_option linter.unusedVariables false
namespace Go.AM
open Go
section
variable {α : Type} (lt : α → α → Bool) (z : α)
/-- The element at j goes down as far as a. -/
def downS (a : Nat) : Nat → List α → List α
  | 0, l => l
  | j+1, l => if a < j+1 ∧ lt (l.getD (j+1) z) (l.getD j z) = true then downS a j ((l.set (j+1) (l.getD j z)).set j (l.getD (j+1) z)) else l
/-- k more elements, from i, go down. -/
def insS (a : Nat) : Nat → Nat → List α → List α
  | 0, _, l => l
  | k+1, i, l => insS a k (i+1) (downS lt z a i l)
variable {lt z}
theorem downS_len {a : Nat} : ∀ {j : Nat} {l : List α}, (downS lt z a j l).length = l.length
  | 0, l => rfl
  | j+1, l => by
    unfold downS
    split
    · rw [downS_len]; simp
    · rfl
theorem insS_len {a : Nat} : ∀ {k i : Nat} {l : List α}, (insS lt z a k i l).length = l.length
  | 0, i, l => rfl
  | k+1, i, l => by unfold insS; rw [insS_len, downS_len]
theorem swp_perm {l : List α} {j : Nat} (h : j + 1 < l.length) : ((l.set (j+1) (l.getD j z)).set j (l.getD (j+1) z)).Perm l := by
  have h1 : j < l.length := by omega
  have e1 : l.getD j z = l[j] := by simp [List.getD_eq_getElem?_getD, h1]
  have e2 : l.getD (j+1) z = l[j+1] := by simp [List.getD_eq_getElem?_getD, h]
  rw [e1, e2]
  exact List.set_set_perm h h1
theorem downS_perm {a : Nat} : ∀ {j : Nat} {l : List α}, j < l.length → (downS lt z a j l).Perm l
  | 0, l, _ => .refl _
  | j+1, l, h => by
    unfold downS
    split
    · exact (downS_perm (by simp; omega)).trans (swp_perm h)
    · exact .refl _
theorem insS_perm {a : Nat} : ∀ {k i : Nat} {l : List α}, i + k ≤ l.length → (insS lt z a k i l).Perm l
  | 0, i, l, _ => .refl _
  | k+1, i, l, h => by
    unfold insS
    exact (insS_perm (by rw [downS_len]; omega)).trans (downS_perm (by omega))
/-- No element is less than one ahead of it. -/
def Asc (lt : α → α → Bool) (z : α) (l : List α) (a n : Nat) : Prop := ∀ p q, a ≤ p → p < q → q < n → lt (l.getD q z) (l.getD p z) = false
theorem downS_asc {a n : Nat} {l : List α} (h : Asc lt z l a n) : ∀ {j : Nat}, j < n → downS lt z a j l = l
  | 0, _ => rfl
  | j+1, hj => by
    unfold downS
    rw [if_neg]
    rintro ⟨h1, h2⟩
    rw [h j (j+1) (by omega) (by omega) hj] at h2
    cases h2
theorem insS_asc {a n : Nat} {l : List α} (h : Asc lt z l a n) : ∀ {k i : Nat}, i + k ≤ n → insS lt z a k i l = l
  | 0, i, _ => rfl
  | k+1, i, hk => by
    unfold insS
    rw [downS_asc h (by omega)]
    exact insS_asc h (by omega)
theorem getD_set' {l : List α} {i j : Nat} {x : α} (hi : i < l.length) : (l.set i x).getD j z = if i = j then x else l.getD j z := by
  rw [List.getD_eq_getElem?_getD, List.getD_eq_getElem?_getD, List.getElem?_set]
  split
  · simp [hi]
  · rfl
theorem getD_swp {l : List α} {j q : Nat} (h : j + 1 < l.length) : ((l.set (j+1) (l.getD j z)).set j (l.getD (j+1) z)).getD q z = if q = j then l.getD (j+1) z else if q = j + 1 then l.getD j z else l.getD q z := by
  rw [getD_set' (by simp; omega), getD_set' h]
  by_cases h1 : j = q
  · subst h1; simp
  · rw [if_neg h1, if_neg (Ne.symm h1)]
    by_cases h2 : j + 1 = q
    · subst h2; simp
    · rw [if_neg h2, if_neg (Ne.symm h2)]
variable (tr : ∀ x y w, lt y x = false → lt w y = false → lt w x = false) (asy : ∀ x y, lt x y = true → lt y x = false)
include tr asy in
theorem downS_up {a i : Nat} : ∀ {j : Nat} {l : List α}, a ≤ j → j < i → i ≤ l.length →
    (∀ p q, a ≤ p → p < q → q < i → p ≠ j → q ≠ j → lt (l.getD q z) (l.getD p z) = false) → (∀ q, j < q → q < i → lt (l.getD q z) (l.getD j z) = false) →
    Asc lt z (downS lt z a j l) a i
  | 0, l, h1, h2, h3, h4, h5 => by
    intro p q hp hpq hq
    show lt (l.getD q z) (l.getD p z) = false
    by_cases e : p = 0
    · subst e; exact h5 q hpq hq
    · exact h4 p q hp hpq hq e (by omega)
  | j+1, l, h1, h2, h3, h4, h5 => by
    unfold downS
    split
    · rename_i hc
      obtain ⟨hc1, hc2⟩ := hc
      have hl : j + 1 < l.length := by omega
      refine downS_up (by omega) (by omega) (by simpa using h3) ?_ ?_
      · intro p q hp hpq hq hpj hqj
        rw [getD_swp hl, getD_swp hl, if_neg hqj, if_neg hpj]
        by_cases eq : q = j + 1
        · rw [if_pos eq]
          rw [if_neg (by omega)]
          exact h4 p j hp (by omega) (by omega) (by omega) (by omega)
        · rw [if_neg eq]
          by_cases ep : p = j + 1
          · rw [if_pos ep]
            exact h4 j q (by omega) (by omega) hq (by omega) eq
          · rw [if_neg ep]
            exact h4 p q hp hpq hq ep eq
      · intro q hq hqi
        rw [getD_swp hl, getD_swp hl, if_neg (by omega), if_pos rfl]
        by_cases eq : q = j + 1
        · rw [if_pos eq]; exact asy _ _ hc2
        · rw [if_neg eq]; exact h5 q (by omega) hqi
    · rename_i hc
      intro p q hp hpq hq
      by_cases ep : p = j + 1
      · subst ep; exact h5 q hpq hq
      by_cases eq : q = j + 1
      · subst eq
        have h6 : lt (l.getD (j+1) z) (l.getD j z) = false := by
          cases h : lt (l.getD (j+1) z) (l.getD j z) with
          | false => rfl
          | true => exact absurd ⟨by omega, h⟩ hc
        by_cases epj : p = j
        · subst epj; exact h6
        · exact tr _ _ _ (h4 p j hp (by omega) (by omega) (by omega) (by omega)) h6
      · exact h4 p q hp hpq hq ep eq
include tr asy in
theorem insS_up {a : Nat} : ∀ {k i : Nat} {l : List α}, a ≤ i → i + k ≤ l.length → Asc lt z l a i → Asc lt z (insS lt z a k i l) a (i + k)
  | 0, i, l, _, _, h => h
  | k+1, i, l, ha, hl, h => by
    unfold insS
    have := insS_up (k := k) (i := i+1) (l := downS lt z a i l) (by omega) (by rw [downS_len]; omega) (downS_up tr asy ha (by omega) (by omega) (fun p q hp hpq hq _ hqj => h p q hp hpq (by omega)) (fun q h1 h2 => by omega))
    rwa [show i + 1 + k = i + (k + 1) by omega] at this
end
/-- Two lists of the same elements that both rise strictly are one. -/
theorem asc_unique {α : Type} {R : α → α → Prop} (irr : ∀ x, ¬ R x x) (tr : ∀ x y w, R x y → R y w → R x w) : ∀ {l m : List α}, l.Pairwise R → m.Pairwise R → (∀ x, x ∈ l ↔ x ∈ m) → l = m
  | [], [], _, _, _ => rfl
  | [], b :: m, _, _, h => by have := (h b).2 (by simp); simp at this
  | a :: l, [], _, _, h => by have := (h a).1 (by simp); simp at this
  | a :: l, b :: m, hl, hm, h => by
    rw [List.pairwise_cons] at hl hm
    have e : a = b := by
      have h1 := (h a).1 (by simp)
      have h2 := (h b).2 (by simp)
      rw [List.mem_cons] at h1 h2
      rcases h1 with h1 | h1
      · exact h1
      rcases h2 with h2 | h2
      · exact h2.symm
      exact absurd (tr _ _ _ (hl.1 b h2) (hm.1 a h1)) (irr _)
    subst e
    congr 1
    refine asc_unique irr tr hl.2 hm.2 fun x => ?_
    have h1 := h x
    rw [List.mem_cons, List.mem_cons] at h1
    constructor
    · intro hx
      rcases h1.1 (.inr hx) with e | e
      · subst e; exact absurd (hl.1 _ hx) (irr _)
      · exact e
    · intro hx
      rcases h1.2 (.inr hx) with e | e
      · subst e; exact absurd (hm.1 _ hx) (irr _)
      · exact e

/-! ### strings -/
theorem u8_lt {a b : UInt8} : a < b ↔ a.toNat < b.toNat := UInt8.lt_iff_toNat_lt
theorem u8_eq {a b : UInt8} : a = b ↔ a.toNat = b.toNat := ⟨fun h => by rw [h], UInt8.toNat_inj.1⟩
theorem bl_irr : ∀ (x : List UInt8), Op.bytesLess x x = false
  | [] => rfl
  | a :: x => by
    simp [Op.bytesLess, bl_irr x, u8_lt]
theorem bl_tr : ∀ {x y w : List UInt8}, Op.bytesLess x y = true → Op.bytesLess y w = true → Op.bytesLess x w = true
  | x, [], w, h, _ => by cases x <;> simp [Op.bytesLess] at h
  | x, y, [], _, h => by cases y <;> simp [Op.bytesLess] at h
  | [], _ :: _, _ :: _, _, _ => rfl
  | a :: x, b :: y, c :: w, h1, h2 => by
    simp only [Op.bytesLess, Bool.or_eq_true, decide_eq_true_eq, Bool.and_eq_true, beq_iff_eq, u8_lt, u8_eq] at h1 h2 ⊢
    rcases h1 with h1 | ⟨h1, h1'⟩ <;> rcases h2 with h2 | ⟨h2, h2'⟩
    · left; omega
    · left; omega
    · left; omega
    · right; exact ⟨by omega, bl_tr h1' h2'⟩
theorem bl_tri : ∀ (x y : List UInt8), Op.bytesLess x y = true ∨ x = y ∨ Op.bytesLess y x = true
  | [], [] => .inr (.inl rfl)
  | [], _ :: _ => .inl rfl
  | _ :: _, [] => .inr (.inr rfl)
  | a :: x, b :: y => by
    simp only [Op.bytesLess, Bool.or_eq_true, decide_eq_true_eq, Bool.and_eq_true, beq_iff_eq, u8_lt, u8_eq, List.cons.injEq]
    have := bl_tri x y
    by_cases h1 : a.toNat < b.toNat
    · exact .inl (.inl h1)
    by_cases h2 : b.toNat < a.toNat
    · exact .inr (.inr (.inl h2))
    have e : a.toNat = b.toNat := by omega
    rcases this with h | h | h
    · exact .inl (.inr ⟨e, h⟩)
    · exact .inr (.inl ⟨e, h⟩)
    · exact .inr (.inr (.inr ⟨e.symm, h⟩))
theorem bl_asy {x y : List UInt8} (h : Op.bytesLess x y = true) : Op.bytesLess y x = false := by
  cases h2 : Op.bytesLess y x with
  | false => rfl
  | true => have := bl_tr h h2; rw [bl_irr] at this; cases this
theorem bl_le {x y w : List UInt8} (h1 : Op.bytesLess y x = false) (h2 : Op.bytesLess w y = false) : Op.bytesLess w x = false := by
  cases h : Op.bytesLess w x with
  | false => rfl
  | true =>
    rcases bl_tri x y with h3 | h3 | h3
    · rw [bl_tr h h3] at h2; cases h2
    · subst h3; rw [h] at h2; cases h2
    · rw [h3] at h1; cases h1
theorem cmp_lt : ∀ (x y : List UInt8), decide (Lib.compareBytes x y < 0) = Op.bytesLess x y
  | [], [] => rfl
  | [], _ :: _ => rfl
  | _ :: _, [] => rfl
  | a :: x, b :: y => by
    simp only [Lib.compareBytes, Op.bytesLess]
    by_cases h1 : a < b
    · simp [h1]
    · by_cases h2 : b < a
      · have : (a == b) = false := by simp; intro e; rw [u8_lt, e] at h2; omega
        simp [h1, h2, this]
      · have : (a == b) = true := by simp; rw [u8_lt] at h1 h2; rw [u8_eq]; omega
        simp [h1, h2, this, cmp_lt x y]

/-! ### tables -/
/-- Does a's tag come ahead of b's? -/
def ltT (a b : Tb) : Bool := decide (cmpB a.1 b.1 < 0)
theorem ltT_eq (a b : Tb) : ltT a b = Op.bytesLess a.1.toList b.1.toList := by
  unfold ltT cmpB
  rw [cmp_lt, ByteArray.toList_eq, ByteArray.toList_eq]
theorem ltT_le (x y w : Tb) (h1 : ltT y x = false) (h2 : ltT w y = false) : ltT w x = false := by
  rw [ltT_eq] at *
  exact bl_le h1 h2
theorem ltT_asy (x y : Tb) (h : ltT x y = true) : ltT y x = false := by
  rw [ltT_eq] at *
  exact bl_asy h
/-- Tables, sorted. -/
def srtT (l : List Tb) : List Tb := insS ltT tb0 0 (l.length - 1) 1 l
theorem srtT_perm {l : List Tb} : (srtT l).Perm l := by
  unfold srtT
  rcases Nat.eq_zero_or_pos l.length with h | h
  · rw [h]; exact .refl _
  · exact insS_perm (by omega)
theorem srtT_asc {l : List Tb} : Asc ltT tb0 (srtT l) 0 l.length := by
  unfold srtT
  rcases Nat.eq_zero_or_pos l.length with h | h
  · intro p q _ _ hq; omega
  · have := insS_up (z := tb0) (a := 0) (k := l.length - 1) (i := 1) (l := l) ltT_le ltT_asy (by omega) (by omega) (fun p q _ h1 h2 => by omega)
    rwa [show 1 + (l.length - 1) = l.length by omega] at this
/-- Do the tags rise? -/
def upT (l : List Tb) : Prop := l.Pairwise fun a b => ltT a b = true
theorem upT_asc {l : List Tb} (h : upT l) : Asc ltT tb0 l 0 l.length := by
  intro p q _ hpq hq
  refine ltT_asy _ _ ?_
  have := List.pairwise_iff_getElem.1 h p q (by omega) hq hpq
  rw [List.getD_eq_getElem?_getD, List.getD_eq_getElem?_getD, List.getElem?_eq_getElem hq, List.getElem?_eq_getElem (by omega)]
  exact this
theorem srtT_up {l : List Tb} (h : upT l) : srtT l = l := by
  unfold srtT
  rcases Nat.eq_zero_or_pos l.length with h0 | h0
  · rw [h0]; rfl
  · exact insS_asc (upT_asc h) (by omega)
theorem ltT_irr (a : Tb) : ltT a a = false := by rw [ltT_eq, bl_irr]
theorem ltT_tr {a b c : Tb} (h1 : ltT a b = true) (h2 : ltT b c = true) : ltT a c = true := by
  rw [ltT_eq] at *
  exact bl_tr h1 h2
/-- Tables that rise, mixed, and sorted. -/
theorem srtT_mixed {l m : List Tb} (h : upT l) (hp : m.Perm l) : srtT m = l := by
  have hq : (srtT m).Perm l := srtT_perm.trans hp
  have hne : l.Pairwise fun a b => a.1 ≠ b.1 := h.imp fun {a b} hab e => by
    rw [ltT_eq, e, bl_irr] at hab
    cases hab
  have hne2 : (srtT m).Pairwise fun a b => a.1 ≠ b.1 := (hq.pairwise_iff (fun {a b} hab => Ne.symm hab)).2 hne
  refine asc_unique (R := fun a b => ltT a b = true) (fun x hx => by rw [ltT_irr] at hx; cases hx) (fun x y w => ltT_tr) ?_ h (fun x => hq.mem_iff)
  rw [List.pairwise_iff_getElem]
  intro i j hi hj hij
  have h1 := srtT_asc (l := m) i j (by omega) hij (by rw [← srtT_perm.length_eq]; exact hj)
  have h2 := List.pairwise_iff_getElem.1 hne2 i j hi hj hij
  rw [List.getD_eq_getElem?_getD, List.getD_eq_getElem?_getD, List.getElem?_eq_getElem hi, List.getElem?_eq_getElem hj] at h1
  simp only [Option.getD_some] at h1
  rw [ltT_eq] at h1 ⊢
  rcases bl_tri (srtT m)[i].1.toList (srtT m)[j].1.toList with h3 | h3 | h3
  · exact h3
  · refine absurd ?_ h2
    rw [ByteArray.toList_eq, ByteArray.toList_eq] at h3
    exact ByteArray.ext (Array.toList_inj.1 h3)
  · rw [h3] at h1; cases h1
end Go.AM

