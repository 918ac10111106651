/- AM: the Reader's calls in short words. -/
import Derived.Test.YtmfobkiljlepjaaC12
import Derived.Test.YtmfobkiljlepjaaK2
set_option maxRecDepth 100000
set_option maxHeartbeats 8000000
set_option linter.unusedSimpArgs false
set_option linter.unusedVariables false
namespace Go.AM
open Go Go.Proofs

def rp (len : Nat) (p : Int) (bad : Bool) (n : Int) : Int := if nxOK len p.toNat bad n = true then p + n else p
def rb (len : Nat) (p : Int) (bad : Bool) (n : Int) : Bool := bad || !nxOK len p.toNat bad n
def rv (l : List Int) (p : Int) (bad : Bool) (n : Int) : Int := if nxOK l.length p.toNat bad n = true then be ((l.drop p.toNat).take n.toNat) else 0
/-- k bytes were asked for. -/
def RdOK (len : Nat) (k : Nat) (p : Int) (bad : Bool) : Prop := (k ≤ len ∧ p = k ∧ bad = false) ∨ (len < k ∧ bad = true ∧ 0 ≤ p ∧ p ≤ len)
theorem RdOK.bnd {len k : Nat} {p : Int} {bad : Bool} (h : RdOK len k p bad) : 0 ≤ p ∧ p ≤ len := by
  rcases h with h | h <;> omega
theorem RdOK.step {len k : Nat} {p : Int} {bad : Bool} (h : RdOK len k p bad) (n : Nat) : RdOK len (k + n) (rp len p bad n) (rb len p bad n) := by
  unfold rp rb RdOK
  rcases h with ⟨h1, rfl, rfl⟩ | ⟨h1, rfl, h3, h4⟩
  · by_cases h2 : k + n ≤ len
    · have e : nxOK len (Int.toNat (k : Int)) false n = true := by simp only [nxOK, Bool.not_false, Bool.true_and, decide_eq_true_eq]; omega
      rw [e]
      exact .inl ⟨h2, by rw [if_pos rfl]; omega, rfl⟩
    · have e : nxOK len (Int.toNat (k : Int)) false n = false := by simp only [nxOK, Bool.not_false, Bool.true_and, decide_eq_false_iff_not]; omega
      rw [e]
      exact .inr ⟨by omega, rfl, by rw [if_neg Bool.false_ne_true]; omega⟩
  · have e : nxOK len p.toNat true n = false := by simp [nxOK]
    rw [e]
    exact .inr ⟨by omega, rfl, by rw [if_neg Bool.false_ne_true]; omega⟩
theorem RdOK.val {l : List Int} {k : Nat} {p : Int} {bad : Bool} (h : RdOK l.length k p bad) {n : Nat} (hn : k + n ≤ l.length) : rv l p bad n = be ((l.drop k).take n) := by
  rcases h with ⟨h1, rfl, rfl⟩ | ⟨h1, _⟩
  · have e : nxOK l.length (Int.toNat (k : Int)) false n = true := by simp only [nxOK, Bool.not_false, Bool.true_and, decide_eq_true_eq]; omega
    unfold rv
    rw [e, if_pos rfl, Int.toNat_natCast, Int.toNat_natCast]
  · omega
theorem RdOK.yes {len k : Nat} {p : Int} {bad : Bool} (h : RdOK len k p bad) (hk : k ≤ len) : p = k ∧ bad = false := by
  rcases h with h | h
  · exact h.2
  · omega
theorem rv_bound {l : List Int} (hb : Byt l) (p : Int) (bad : Bool) (n : Nat) : 0 ≤ rv l p bad n ∧ rv l p bad n < 256 ^ n := by
  unfold rv
  split
  · have h1 := be_bound ((l.drop p.toNat).take (Int.toNat (n : Int))) ((hb.drop _).take _)
    refine ⟨h1.1, Int.lt_of_lt_of_le h1.2 ?_⟩
    have h2 : ((l.drop p.toNat).take (Int.toNat (n : Int))).length ≤ n := by simp only [List.length_take, Int.toNat_natCast]; omega
    exact_mod_cast Nat.pow_le_pow_right (by decide : 256 > 0) h2
  · exact ⟨Int.le_refl _, by exact_mod_cast Nat.pow_pos (by decide : 0 < 256)⟩
theorem RdOK.s2 {len k : Nat} {p : Int} {bad : Bool} (h : RdOK len k p bad) : RdOK len (k + 2) (rp len p bad 2) (rb len p bad 2) := h.step 2
theorem RdOK.s4 {len k : Nat} {p : Int} {bad : Bool} (h : RdOK len k p bad) : RdOK len (k + 4) (rp len p bad 4) (rb len p bad 4) := h.step 4
theorem RdOK.v2 {l : List Int} {k : Nat} {p : Int} {bad : Bool} (h : RdOK l.length k p bad) (hn : k + 2 ≤ l.length) : rv l p bad 2 = be ((l.drop k).take 2) := h.val (n := 2) hn
theorem RdOK.v4 {l : List Int} {k : Nat} {p : Int} {bad : Bool} (h : RdOK l.length k p bad) (hn : k + 4 ≤ l.length) : rv l p bad 4 = be ((l.drop k).take 4) := h.val (n := 4) hn
theorem rv_b2 {l : List Int} (hb : Byt l) (p : Int) (bad : Bool) : 0 ≤ rv l p bad 2 ∧ rv l p bad 2 < 65536 := rv_bound hb p bad 2
theorem rv_b4 {l : List Int} (hb : Byt l) (p : Int) (bad : Bool) : 0 ≤ rv l p bad 4 ∧ rv l p bad 4 < 4294967296 := rv_bound hb p bad 4
theorem two_at {l : List Int} {q : Nat} (h : q + 2 ≤ l.length) : (l.drop q).take 2 = [l.getD q 0, l.getD (q + 1) 0] := by
  have h1 := List.drop_eq_getElem_cons (show q < l.length by omega)
  have h2 := List.drop_eq_getElem_cons (show q + 1 < l.length by omega)
  rw [h1, h2, List.take_succ_cons, List.take_succ_cons, List.take_zero, List.getD_eq_getElem?_getD, List.getD_eq_getElem?_getD, List.getElem?_eq_getElem (show q < l.length by omega), List.getElem?_eq_getElem (show q + 1 < l.length by omega)]
  rfl
theorem be2_at {l : List Int} {k : Nat} (h : k + 2 ≤ l.length) : be ((l.drop k).take 2) = n2V l k := by
  rw [two_at h]
  have hk : n2OK l.length (k : Int) = true := by simp only [n2OK, decide_eq_true_eq]; omega
  unfold n2V
  rw [hk, if_pos rfl, Int.toNat_natCast]
  simp [be]; omega
theorem be4_at {l : List Int} {k : Nat} (h : k + 4 ≤ l.length) : be ((l.drop k).take 4) = n4V l k := by
  have e : (l.drop k).take 4 = (l.drop k).take 2 ++ (l.drop (k + 2)).take 2 := by
    rw [show (4 : Nat) = 2 + 2 from rfl, List.take_add, List.drop_drop]
  have hbe : ∀ a b c d : Int, be ([a, b] ++ [c, d]) = 65536 * be [a, b] + be [c, d] := by intro a b c d; simp [be]; omega
  rw [e, two_at (q := k) (by omega), two_at (q := k + 2) (by omega), hbe, ← two_at (q := k) (by omega), ← two_at (q := k + 2) (by omega), be2_at (by omega), be2_at (by omega)]
  unfold n4V
  rw [if_neg (by omega)]
  rfl
theorem read4 {l : List Int} {p : Int} (q : Nat) (hp : p = q) (h : q + 4 ≤ l.length) : rv l p false 4 = n4V l p ∧ rp l.length p false 4 = p + 4 ∧ rb l.length p false 4 = false := by
  subst hp
  have k0 : RdOK l.length q (q : Int) false := .inl ⟨by omega, rfl, rfl⟩
  have k1 := k0.s4.yes h
  exact ⟨by rw [k0.v4 h, be4_at h], by rw [k1.1]; omega, k1.2⟩
theorem read2 {l : List Int} {p : Int} (q : Nat) (hp : p = q) (h : q + 2 ≤ l.length) : rv l p false 2 = n2V l p ∧ rp l.length p false 2 = p + 2 ∧ rb l.length p false 2 = false := by
  subst hp
  have k0 : RdOK l.length q (q : Int) false := .inl ⟨by omega, rfl, rfl⟩
  have k1 := k0.s2.yes h
  exact ⟨by rw [k0.v2 h, be2_at h], by rw [k1.1]; omega, k1.2⟩
def e92' : List AV → Option Ob → Option Res := fun args i => match args, i with
  | [.ptr 0 0], some (.cells 174 [.d false (.sl 1 xs), .d true (.v (.int .i64 p)), .d true (.v (.bool bad))]) =>
    some ⟨IsB xs ∧ (toInts xs).length ≤ 1099511627776 ∧ 0 ≤ p ∧ p ≤ ((toInts xs).length : Int), .d true (.v (.int .u16 (rv (toInts xs) p bad 2))),
        some (.cells 174 [.d false (.sl 1 (ints .u8 (toInts xs))), .d true (.v (.int .i64 (rp (toInts xs).length p bad 2))), .d true (.v (.bool (rb (toInts xs).length p bad 2)))])⟩
  | _, _ => none
def F33 : FT := F24.upd 92 e92'
theorem F33_ok : FOK Try.prog F33 := FOK.upd F24_ok Try.func92 (by kernel_rfl) rfl fun args i R h => by
  unfold e92' at h
  split at h
  · rename_i xs p bad
    cases h
    refine Spec.pre fun h => ?_
    obtain ⟨l, rfl, hb⟩ := h.1.elim
    rw [toInts_ints] at h ⊢
    obtain ⟨q, rfl⟩ : ∃ q : Nat, p = q := ⟨p.toNat, by omega⟩
    have h1 := s92 l hb h.2.1 q (by omega) bad
    have h2 := rv_bound hb q bad 2
    have e : (if nxOK l.length q bad 2 = true then be ((l.drop q).take 2) else 0) % 65536 = rv l q bad 2 := by
      have : rv l q bad 2 = if nxOK l.length q bad 2 = true then be ((l.drop q).take 2) else 0 := rfl
      rw [← this]
      have h3 : rv l q bad (2 : Nat) < 65536 := h2.2
      have h4 : 0 ≤ rv l q bad (2 : Nat) := h2.1
      exact Int.emod_eq_of_lt h4 h3
    rw [e] at h1
    exact h1
  · cases h
def e88' : List AV → Option Ob → Option Res := fun args i => match args, i with
  | [.ptr 0 0], some (.cells 174 [.d false (.sl 1 xs), .d true (.v (.int .i64 p)), .d true (.v (.bool bad))]) =>
    some ⟨IsB xs ∧ (toInts xs).length ≤ 1099511627776 ∧ 0 ≤ p ∧ p ≤ ((toInts xs).length : Int), .d true (.v (.int .u32 (rv (toInts xs) p bad 4))),
        some (.cells 174 [.d false (.sl 1 (ints .u8 (toInts xs))), .d true (.v (.int .i64 (rp (toInts xs).length p bad 4))), .d true (.v (.bool (rb (toInts xs).length p bad 4)))])⟩
  | _, _ => none
def F34 : FT := F33.upd 88 e88'
theorem F34_ok : FOK Try.prog F34 := FOK.upd F33_ok Try.func88 (by kernel_rfl) rfl fun args i R h => by
  unfold e88' at h
  split at h
  · rename_i xs p bad
    cases h
    refine Spec.pre fun h => ?_
    obtain ⟨l, rfl, hb⟩ := h.1.elim
    rw [toInts_ints] at h ⊢
    obtain ⟨q, rfl⟩ : ∃ q : Nat, p = q := ⟨p.toNat, by omega⟩
    exact s88 l hb h.2.1 q (by omega) bad
  · cases h
end Go.AM

