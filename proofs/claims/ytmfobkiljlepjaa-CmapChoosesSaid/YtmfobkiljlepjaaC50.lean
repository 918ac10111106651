/- AM: cmap.records. -/
import Derived.Test.YtmfobkiljlepjaaC48
set_option maxRecDepth 100000
set_option maxHeartbeats 8000000
set_option linter.unusedSimpArgs false
set_option linter.unusedVariables false
namespace Go.AM
open Go

/-- How many records there are; a record's kind, and its place. -/
def nrec (l : List Int) : Nat := (n2V l 2).toNat
def recK (l : List Int) (i : Nat) : List Int := [n2V l (4 + 8 * (i : Int)), n2V l (6 + 8 * (i : Int))]
def recV (l : List Int) (i : Nat) : Int := n4V l (8 + 8 * (i : Int))
/-- Are they all there? -/
def okC (l : List Int) : Bool := decide (4 ≤ l.length) && decide (n2V l 0 = 0) && decide (4 + 8 * nrec l ≤ l.length)
def putE (es : List (List Int × Int)) (k : List Int) (v : Int) : List (List Int × Int) := if (mget es k).isSome = true then es else es ++ [(k, v)]
/-- The map of the first records. -/
def mapN (l : List Int) : Nat → List (List Int × Int)
  | 0 => []
  | i + 1 => putE (mapN l i) (recK l i) (recV l i)
theorem mget_app (es : List (List Int × Int)) (k : List Int) (v : Int) (x : List Int) : mget (es ++ [(k, v)]) x = (mget es x).or (if k = x then some v else none) := by
  induction es with
  | nil => simp [mget]
  | cons e es ih =>
    rw [List.cons_append]
    unfold mget
    by_cases h : e.1 = x
    · rw [if_pos h, if_pos h]; rfl
    · rw [if_neg h, if_neg h, ih]
theorem mget_put (es : List (List Int × Int)) (k : List Int) (v : Int) (x : List Int) : mget (putE es k v) x = (mget es x).or (if k = x then some v else none) := by
  unfold putE
  by_cases h : (mget es k).isSome = true
  · rw [if_pos h]
    by_cases e : k = x
    · subst e
      cases hm : mget es k with
      | none => rw [hm] at h; cases h
      | some y => rfl
    · rw [if_neg e, Option.or_none]
  · rw [if_neg h, mget_app]

/-- The first record of a kind. -/
def firstR (l : List Int) (k : List Int) (n : Nat) : Option Nat := (List.range n).find? fun i => decide (recK l i = k)
theorem firstR_succ (l : List Int) (k : List Int) (n : Nat) : firstR l k (n + 1) = (firstR l k n).or (if recK l n = k then some n else none) := by
  unfold firstR
  rw [List.range_succ, List.find?_append, List.find?_singleton]
  by_cases h : recK l n = k <;> simp [h]
theorem firstR_no {l k : List Int} {n : Nat} (h : ∀ i, i < n → recK l i ≠ k) : firstR l k n = none := by
  unfold firstR
  rw [List.find?_eq_none]
  intro i hi
  have := h i (List.mem_range.1 hi)
  simpa using this
theorem firstR_at {l k : List Int} {n i : Nat} (hi : i < n) (h : ∀ j, j < i → recK l j ≠ k) (e : recK l i = k) : firstR l k n = some i := by
  have h1 : firstR l k (i + 1) = some i := by rw [firstR_succ, firstR_no h, if_pos e]; rfl
  have h2 : ∀ m, firstR l k (i + 1 + m) = some i := by
    intro m
    induction m with
    | zero => exact h1
    | succ m ih => rw [← Nat.add_assoc, firstR_succ, ih]; rfl
  have := h2 (n - (i + 1))
  rwa [show i + 1 + (n - (i + 1)) = n by omega] at this
theorem mapN_get (l : List Int) (k : List Int) (n : Nat) : mget (mapN l n) k = (firstR l k n).map (recV l) := by
  induction n with
  | zero => rfl
  | succ n ih =>
    rw [mapN, mget_put, ih, firstR_succ]
    cases firstR l k n with
    | some i => rfl
    | none =>
      by_cases h : recK l n = k
      · simp [h]
      · simp [h]

/-- The kinds that the document names, in their order. -/
def kinds : List (List Int) := [[3, 10], [0, 4], [3, 1], [0, 3]]
def kindAt (k : Nat) : List Int := kinds.getD k []
def kFind (l : List Int) (k : Nat) : Option Nat := firstR l (kindAt k) (nrec l)
/-- The kind that counts, and where its table is. -/
def chosen (l : List Int) : Option (Nat × Int) :=
  match kFind l 0 with
  | some i => some (0, recV l i)
  | none => match kFind l 1 with
    | some i => some (1, recV l i)
    | none => match kFind l 2 with
      | some i => some (2, recV l i)
      | none => match kFind l 3 with
        | some i => some (3, recV l i)
        | none => none
theorem chosen_none {l : List Int} (h : ∀ k, k < 4 → kFind l k = none) : chosen l = none := by
  unfold chosen
  rw [h 0 (by omega), h 1 (by omega), h 2 (by omega), h 3 (by omega)]
theorem chosen_at {l : List Int} {k i : Nat} (hk : k < 4) (h : ∀ j, j < k → kFind l j = none) (e : kFind l k = some i) : chosen l = some (k, recV l i) := by
  unfold chosen
  match k, hk with
  | 0, _ => rw [e]
  | 1, _ => rw [h 0 (by omega), e]
  | 2, _ => rw [h 0 (by omega), h 1 (by omega), e]
  | 3, _ => rw [h 0 (by omega), h 1 (by omega), h 2 (by omega), e]
/-- Is it wide, and the table. -/
def chC (l : List Int) : Option (Bool × List Int) :=
  if okC l = true then (match chosen l with
    | some (k, at_) => if at_ > (l.length : Int) then none else some (decide (k < 2), l.drop at_.toNat)
    | none => none) else none
def wideC (l : List Int) : Bool := match chC l with
  | some (w, _) => w
  | none => false
def tC (l : List Int) : List Int := match chC l with
  | some (_, t) => t
  | none => []
def rightC (l : List Int) : Bool := match chC l with
  | some (true, t) => rightG t
  | some (false, t) => rightS t
  | none => false
def nC (l : List Int) : Nat := if rightC l = true then (if wideC l = true then numG (tC l) else nS (tC l)) else 0
def gC (l : List Int) : List (Int × Int × Int) := if wideC l = true then spsG (tC l) else []
def sgC (l : List Int) : List (Int × Int × Int × Int) := if wideC l = true then [] else segP (tC l)
def dC (l : List Int) : List Int := if wideC l = true then [] else datP (tC l)
theorem segP_nil : segP [] = [] ∧ datP [] = [] := by
  have : rightS [] = false := by decide
  unfold segP datP
  rw [this]
  exact ⟨rfl, rfl⟩
theorem ch_none {l : List Int} (h : chC l = none) : wideC l = false ∧ tC l = [] ∧ rightC l = false ∧ nC l = 0 ∧ gC l = [] ∧ sgC l = [] ∧ dC l = [] := by
  have h1 : wideC l = false := by unfold wideC; rw [h]
  have h2 : tC l = [] := by unfold tC; rw [h]
  have h3 : rightC l = false := by unfold rightC; rw [h]
  refine ⟨h1, h2, h3, by unfold nC; rw [h3]; rfl, by unfold gC; rw [h1]; rfl, ?_, ?_⟩
  · unfold sgC; rw [h1, h2]; exact segP_nil.1
  · unfold dC; rw [h1, h2]; exact segP_nil.2
theorem ch_wide {l t : List Int} (h : chC l = some (true, t)) : wideC l = true ∧ tC l = t ∧ rightC l = rightG t ∧ nC l = (if rightG t = true then numG t else 0) ∧ gC l = spsG t ∧ sgC l = [] ∧ dC l = [] := by
  have h1 : wideC l = true := by unfold wideC; rw [h]
  have h2 : tC l = t := by unfold tC; rw [h]
  have h3 : rightC l = rightG t := by unfold rightC; rw [h]
  exact ⟨h1, h2, h3, by unfold nC; rw [h3, h1, h2]; rfl, by unfold gC; rw [h1, h2]; rfl, by unfold sgC; rw [h1]; rfl, by unfold dC; rw [h1]; rfl⟩
theorem ch_seg {l t : List Int} (h : chC l = some (false, t)) : wideC l = false ∧ tC l = t ∧ rightC l = rightS t ∧ nC l = (if rightS t = true then nS t else 0) ∧ gC l = [] ∧ sgC l = segP t ∧ dC l = datP t := by
  have h1 : wideC l = false := by unfold wideC; rw [h]
  have h2 : tC l = t := by unfold tC; rw [h]
  have h3 : rightC l = rightS t := by unfold rightC; rw [h]
  exact ⟨h1, h2, h3, by unfold nC; rw [h3, h1, h2]; rfl, by unfold gC; rw [h1]; rfl, by unfold sgC; rw [h1, h2]; rfl, by unfold dC; rw [h1, h2]; rfl⟩
theorem ch_bad {l : List Int} (h : okC l = false) : chC l = none := by unfold chC; rw [h]; rfl
theorem ch_no {l : List Int} (h : ∀ k, k < 4 → kFind l k = none) : chC l = none := by
  unfold chC
  rw [chosen_none h]
  split <;> rfl
theorem ch_far {l : List Int} {k i : Nat} (hk : k < 4) (h : ∀ j, j < k → kFind l j = none) (e : kFind l k = some i) (hf : recV l i > (l.length : Int)) : chC l = none := by
  unfold chC
  rw [chosen_at hk h e]
  dsimp only
  rw [if_pos hf]
  split <;> rfl
theorem ch_at {l : List Int} (ho : okC l = true) {k i : Nat} (hk : k < 4) (h : ∀ j, j < k → kFind l j = none) (e : kFind l k = some i) (hf : ¬ recV l i > (l.length : Int)) : chC l = some (decide (k < 2), l.drop (recV l i).toNat) := by
  unfold chC
  rw [chosen_at hk h e, ho, if_pos rfl]
  dsimp only
  rw [if_neg hf]
theorem ch_wrong {l : List Int} (h : rightC l = false) : gC l = [] ∧ sgC l = [] ∧ dC l = [] := by
  cases e : chC l with
  | none => exact (ch_none e).2.2.2.2
  | some p =>
    obtain ⟨w, t⟩ := p
    cases w with
    | true =>
      have := ch_wide e
      rw [this.2.2.1] at h
      refine ⟨?_, this.2.2.2.2.2⟩
      rw [this.2.2.2.2.1]
      unfold spsG
      rw [h]; rfl
    | false =>
      have := ch_seg e
      rw [this.2.2.1] at h
      refine ⟨this.2.2.2.2.1, ?_, ?_⟩
      · rw [this.2.2.2.2.2.1]
        unfold segP
        rw [h]; rfl
      · rw [this.2.2.2.2.2.2]
        unfold datP
        rw [h]; rfl
end Go.AM

namespace Go.AM
open Go Go.Proofs

theorem fits16 {a b : Int} (h1 : 0 ≤ a) (h2 : a ≤ 65535) (h3 : 0 ≤ b) (h4 : b ≤ 65535) : KeyFits [.u16, .u16] [a, b] :=
  ⟨rfl, fun p hp => by
    simp only [List.zip_cons_cons, List.zip_nil_right, List.mem_cons, List.not_mem_nil, or_false] at hp
    have e1 : IntKind.u16.min = 0 := by decide
    have e2 : IntKind.u16.max = 65535 := by decide
    rcases hp with rfl | rfl <;> simp only [e1, e2] <;> omega⟩


/-! ### all records there -/
theorem s105 (l : List Int) (hb : Byt l) (hl : l.length ≤ 1000000000) (ho : okC l = true) : Spec Try.prog 105 [.d false (.sl 1 (ints .u8 l))] none ⟨True, .tup [.mpv 0, .d true (.v (.bool true))], some (.mp [.u16, .u16] .u32 (mapN l (nrec l)))⟩ := by
  obtain ⟨⟨h4, hv⟩, hn⟩ : (4 ≤ l.length ∧ n2V l 0 = 0) ∧ 4 + 8 * nrec l ≤ l.length := by
    simpa only [okC, Bool.and_eq_true, decide_eq_true_eq] using ho
  have b2 := n2V_bound hb 2
  have hnn : n2V l 2 = (nrec l : Int) := by unfold nrec; omega
  generalize nrec l = n at hn hnn ⊢
  have hf87 : F77 87 = e87 := rfl
  have hf88 : F77 88 = e88' := rfl
  have hf92 : F77 92 = e92' := rfl
  have hf93 : F77 93 = e93 := rfl
  have hG := (Gf_ok F77_ok)
  have hfs := And.intro @hf87 (And.intro @e87.eq_1 (And.intro @hf88 (And.intro @e88'.eq_1 (And.intro @hf92 (And.intro @e92'.eq_1 (And.intro @hf93 (And.intro @e93.eq_1 (And.intro @evP (And.intro @evS (And.intro @toPrs_prs (And.intro @toPrs_prs9 @toSgs_sgs)))))))))))
  have hxs := @Nat.add_zero
  refine spec_of_awpJ (Gf_ok F77_ok) 1 Try.func105 rfl (Nat.le_of_ble_eq_true rfl) fun E hps hN _ => ?_
  simp only [begin, List.zipIdx_cons, List.zipIdx_nil, List.map_cons, List.map_nil, Option.toList, Nat.zero_add, Nat.reduceAdd]
  obtain ⟨q1, q2, q3⟩ := read2 (l := l) (p := 0) 0 rfl (by omega)
  have q2' : rp l.length 0 false 2 = 2 := by rw [q2]; rfl
  obtain ⟨q4, q5, q6⟩ := read2 (l := l) (p := 2) 2 rfl (by omega)
  have q5' : rp l.length 2 false 2 = 4 := by rw [q5]; rfl
  clear q2 q5
  repeat refine AWP.nest ?_
  first | refine rsa hG [] [0] fun K hK => ?_ | refine rna hG [] [0] fun K hK => ?_
  repeat first | ((with_reducible refine shN ?_); refine sL ?_) | ((with_reducible refine shG ?_); refine sG ?_)
  refine Eq.mpr evalL_nil (hK _ ?_)
  clear hK K
  simp only [evU, St.keep, List.map_cons, look, reduceIte, Nat.reduceEqDiff]
  try show AWP _ _ _ _ _
  repeat refine AWP.nest ?_
  first | refine rsa hG [] [4] fun K hK => ?_ | refine rna hG [] [4] fun K hK => ?_
  repeat first | ((with_reducible refine shN ?_); refine sL ?_) | ((with_reducible refine shG ?_); refine sG ?_)
  refine Eq.mpr evalL_nil (hK _ ?_)
  clear hK K
  simp only [evU, St.keep, List.map_cons, look, reduceIte, Nat.reduceEqDiff]
  try show AWP _ _ _ _ _
  repeat refine AWP.nest ?_
  have hxs := And.intro @q1 (And.intro @q2' (And.intro @q3 (And.intro @q4 (And.intro @q5' @q6))))
  first | refine rsa hG [] [4, 5, 6] fun K hK => ?_ | refine rna hG [] [4, 5, 6] fun K hK => ?_
  repeat first | ((with_reducible refine shN ?_); refine sL ?_) | ((with_reducible refine shG ?_); refine sG ?_)
  refine Eq.mpr evalL_nil (hK _ ?_)
  clear hK K hxs
  simp only [evU, St.keep, List.map_cons, look, reduceIte, Nat.reduceEqDiff]
  try show AWP _ _ _ _ _
  repeat refine AWP.nest ?_
  first | refine rsa hG [] [4, 5, 6, 7] fun K hK => ?_ | refine rna hG [] [4, 5, 6, 7] fun K hK => ?_
  repeat first | ((with_reducible refine shN ?_); refine sL ?_) | ((with_reducible refine shG ?_); refine sG ?_)
  refine Eq.mpr evalL_nil (hK _ ?_)
  clear hK K
  simp only [evU, St.keep, List.map_cons, look, reduceIte, Nat.reduceEqDiff]
  try show AWP _ _ _ _ _
  rw [hv, hnn]
  repeat refine AWP.nest ?_
  first | refine rsa hG [] [4, 5, 7, 19, 20] fun K hK => ?_ | refine rna hG [] [4, 5, 7, 19, 20] fun K hK => ?_
  repeat first | ((with_reducible refine shN ?_); refine sL ?_) | ((with_reducible refine shG ?_); refine sG ?_)
  refine Eq.mpr evalL_nil (hK _ ?_)
  clear hK K
  simp only [evU, St.keep, List.map_cons, look, reduceIte, Nat.reduceEqDiff]
  try show AWP _ _ _ _ _
  repeat refine AWP.nest ?_
  first | refine AWP.seq (AWP.block ?_) | refine AWP.block ?_
  refine AWP.loop (fun k st => ∃ (i : Nat), i ≤ n ∧ k = n - i ∧ st = ⟨[(4, .ptr 0 0), (5, .d true (.v (.int .u16 0))), (7, .mpv 1), (19, .d true (.v (.int .u16 (n : Int)))), (20, .d true (.v (.int .u16 (i : Int))))], [some (.cells 174 [.d false (.sl 1 (ints .u8 l)), .d true (.v (.int .i64 (4 + 8 * (i : Int)))), .d true (.v (.bool false))]), some (.mp [.u16, .u16] .u32 (mapN l i))]⟩) (n) ?_ ?_
  · exact ⟨0, Nat.zero_le _, rfl, rfl⟩
  rintro k st ⟨i, hi, hk, rfl⟩
  repeat refine AWP.nest ?_
  first | refine rsa hG [] [4, 5, 7, 19, 20, 21] fun K hK => ?_ | refine rna hG [] [4, 5, 7, 19, 20, 21] fun K hK => ?_
  repeat first | ((with_reducible refine shN ?_); refine sL ?_) | ((with_reducible refine shG ?_); refine sG ?_)
  refine Eq.mpr evalL_nil (hK _ ?_)
  clear hK K
  simp only [evU, St.keep, List.map_cons, look, reduceIte, Nat.reduceEqDiff]
  try show AWP _ _ _ _ _
  first | refine AWP.seq (AWP.cond (b := _) rfl (fun hc => ?_) (fun hc => ?_)) | refine AWP.cond (b := _) rfl (fun hc => ?_) (fun hc => ?_)
  rotate_left
  · refine AWP.exit ?_
    show AWP _ _ _ _ _
    simp only [evC, Int.not_lt] at hc
    obtain rfl : i = n := by omega
    repeat refine AWP.nest ?_
    first | refine rsm hG [] [2, 3] fun K hK => ?_ | refine rnm hG [] [2, 3] fun K hK => ?_
    repeat first | ((with_reducible refine mhN ?_); refine mN ?_) | ((with_reducible refine mhG ?_); refine mT ?_) | ((with_reducible refine mhG ?_); refine mF ?_)
    refine Eq.mpr evalM_nil (hK _ ?_)
    clear hK K
    simp only [evU, St.keep, List.map_cons, look, reduceIte, Nat.reduceEqDiff]
    try show AWP _ _ _ _ _
    refine AWP.ret ?_
    refine ⟨.inl rfl, ⟨_, _, rfl, rfl, ?_⟩, _, rfl, rfl, rfl⟩
    exact ⟨_, rfl, .cons (.refl _) (.cons (.refl _) .nil)⟩
  simp only [evC, Int.not_lt] at hc
  refine AWP.skip ?_
  show AWP _ _ _ _ _
  have hi' := hc
  clear hc
  have c1 := read2 (l := l) (p := 4 + 8 * (i : Int)) (4 + 8 * i) (by omega) (by omega)
  have c2 := read2 (l := l) (p := 4 + 8 * (i : Int) + 2) (4 + 8 * i + 2) (by omega) (by omega)
  have c3 := read4 (l := l) (p := 4 + 8 * (i : Int) + 2 + 2) (4 + 8 * i + 2 + 2) (by omega) (by omega)
  obtain ⟨d1, d2, d3⟩ := c1
  obtain ⟨d4, d5, d6⟩ := c2
  obtain ⟨d7, d8, d9⟩ := c3
  have e6 : 4 + 8 * (i : Int) + 2 = 6 + 8 * (i : Int) := by omega
  have e8 : 4 + 8 * (i : Int) + 2 + 2 = 8 + 8 * (i : Int) := by omega
  have e12 : 4 + 8 * (i : Int) + 2 + 2 + 4 = 4 + 8 * ((i + 1 : Nat) : Int) := by omega
  repeat refine AWP.nest ?_
  first | refine AWP.seq (AWP.block ?_) | refine AWP.block ?_
  repeat refine AWP.nest ?_
  have hxs := And.intro @d1 (And.intro @d2 (And.intro @d3 (And.intro @d4 (And.intro @d5 @d6))))
  first | refine rsa hG [] [4, 5, 7, 8, 19, 20] fun K hK => ?_ | refine rna hG [] [4, 5, 7, 8, 19, 20] fun K hK => ?_
  repeat first | ((with_reducible refine shN ?_); refine sL ?_) | ((with_reducible refine shG ?_); refine sG ?_)
  refine Eq.mpr evalL_nil (hK _ ?_)
  clear hK K hxs
  simp only [evU, St.keep, List.map_cons, look, reduceIte, Nat.reduceEqDiff]
  try show AWP _ _ _ _ _
  repeat refine AWP.nest ?_
  have hxs := And.intro @d7 (And.intro @d8 @d9)
  first | refine rsa hG [] [4, 5, 7, 8, 9, 19, 20] fun K hK => ?_ | refine rna hG [] [4, 5, 7, 8, 9, 19, 20] fun K hK => ?_
  repeat first | ((with_reducible refine shN ?_); refine sL ?_) | ((with_reducible refine shG ?_); refine sG ?_)
  refine Eq.mpr evalL_nil (hK _ ?_)
  clear hK K hxs
  simp only [evU, St.keep, List.map_cons, look, reduceIte, Nat.reduceEqDiff]
  try show AWP _ _ _ _ _
  rw [e12, e8, e6]
  clear d1 d2 d3 d4 d5 d6 d7 d8 d9
  have f1 := n2V_bound hb (4 + 8 * (i : Int))
  have f2 := n2V_bound hb (6 + 8 * (i : Int))
  have hkf := fits16 f1.1 (show n2V l (4 + 8 * (i : Int)) ≤ 65535 by omega) f2.1 (show n2V l (6 + 8 * (i : Int)) ≤ 65535 by omega)
  have ⟨hk1, hk2⟩ := hkf
  have hput : mapN l (i + 1) = putE (mapN l i) [n2V l (4 + 8 * (i : Int)), n2V l (6 + 8 * (i : Int))] (n4V l (8 + 8 * (i : Int))) := rfl
  unfold putE at hput
  have e20 : ((i : Int) + 1) % 65536 = ((i + 1 : Nat) : Int) := by omega
  repeat refine AWP.nest ?_
  first | refine rsa hG [] [4, 5, 7, 8, 9, 11, 19, 20] fun K hK => ?_ | refine rna hG [] [4, 5, 7, 8, 9, 11, 19, 20] fun K hK => ?_
  repeat first | ((with_reducible refine shN ?_); refine sL ?_) | ((with_reducible refine shG ?_); refine sG ?_)
  refine Eq.mpr evalL_nil (hK _ ?_)
  clear hK K
  simp only [evU, St.keep, List.map_cons, look, reduceIte, Nat.reduceEqDiff]
  try show AWP _ _ _ _ _
  repeat refine AWP.nest ?_
  first | refine rsa hG [] [4, 5, 7, 8, 9, 19, 20, 36] fun K hK => ?_ | refine rna hG [] [4, 5, 7, 8, 9, 19, 20, 36] fun K hK => ?_
  repeat first | ((with_reducible refine shN ?_); refine sL ?_) | ((with_reducible refine shG ?_); refine sG ?_)
  refine Eq.mpr evalL_nil (hK _ ?_)
  clear hK K
  simp only [evU, St.keep, List.map_cons, look, reduceIte, Nat.reduceEqDiff]
  try show AWP _ _ _ _ _
  repeat refine AWP.nest ?_
  first | refine AWP.seq (AWP.cond (b := _) rfl (fun hc => ?_) (fun hc => ?_)) | refine AWP.cond (b := _) rfl (fun hc => ?_) (fun hc => ?_)
  all_goals try simp only [evC] at hc
  · have hnone : mget (mapN l i) [n2V l (4 + 8 * (i : Int)), n2V l (6 + 8 * (i : Int))] = none := by
      cases hm : mget (mapN l i) [n2V l (4 + 8 * (i : Int)), n2V l (6 + 8 * (i : Int))] with
      | none => rfl
      | some y => rw [hm] at hc; simp at hc
    rw [hnone] at hput
    repeat refine AWP.nest ?_
    first | refine rsa hG [] [4, 5, 7, 19, 20] fun K hK => ?_ | refine rna hG [] [4, 5, 7, 19, 20] fun K hK => ?_
    repeat first | ((with_reducible refine shN ?_); refine sL ?_) | ((with_reducible refine shG ?_); refine sG ?_)
    refine Eq.mpr evalL_nil (hK _ ?_)
    clear hK K
    simp only [evU, St.keep, List.map_cons, look, reduceIte, Nat.reduceEqDiff]
    try show AWP _ _ _ _ _
    repeat refine AWP.nest ?_
    first | refine rsa hG [] [4, 5, 7, 19, 20, 41] fun K hK => ?_ | refine rna hG [] [4, 5, 7, 19, 20, 41] fun K hK => ?_
    repeat first | ((with_reducible refine shN ?_); refine sL ?_) | ((with_reducible refine shG ?_); refine sG ?_)
    refine Eq.mpr evalL_nil (hK _ ?_)
    clear hK K
    simp only [evU, St.keep, List.map_cons, look, reduceIte, Nat.reduceEqDiff]
    try show AWP _ _ _ _ _
    repeat refine AWP.nest ?_
    first | refine AWP.seq (AWP.cond (b := _) rfl (fun hc => ?_) (fun hc => ?_)) | refine AWP.cond (b := _) rfl (fun hc => ?_) (fun hc => ?_)
    all_goals try simp only [evC] at hc
    · cases hc
    refine AWP.skip ?_
    show AWP _ _ _ _ _
    refine AWP.trunc 2 (by rw [hps]; decide) rfl ?_
    simp only [St.trunc, List.take_zero, List.take_succ_cons]
    repeat refine AWP.nest ?_
    first | refine rsa hG [] [4, 5, 7, 19, 20] fun K hK => ?_ | refine rna hG [] [4, 5, 7, 19, 20] fun K hK => ?_
    repeat first | ((with_reducible refine shN ?_); refine sL ?_) | ((with_reducible refine shG ?_); refine sG ?_)
    refine Eq.mpr evalL_nil (hK _ ?_)
    clear hK K
    simp only [evU, St.keep, List.map_cons, look, reduceIte, Nat.reduceEqDiff]
    try show AWP _ _ _ _ _
    refine ⟨n - (i + 1), by omega, i + 1, by omega, rfl, ?_⟩
    rw [hput, e20]
    rfl
  refine AWP.skip ?_
  show AWP _ _ _ _ _
  have hsome : (mget (mapN l i) [n2V l (4 + 8 * (i : Int)), n2V l (6 + 8 * (i : Int))]).isSome = true := by
    cases hm : mget (mapN l i) [n2V l (4 + 8 * (i : Int)), n2V l (6 + 8 * (i : Int))] with
    | none => rw [hm] at hc; simp at hc
    | some y => rfl
  rw [if_pos hsome] at hput
  repeat refine AWP.nest ?_
  first | refine rsa hG [] [4, 5, 7, 19, 20, 41] fun K hK => ?_ | refine rna hG [] [4, 5, 7, 19, 20, 41] fun K hK => ?_
  repeat first | ((with_reducible refine shN ?_); refine sL ?_) | ((with_reducible refine shG ?_); refine sG ?_)
  refine Eq.mpr evalL_nil (hK _ ?_)
  clear hK K
  simp only [evU, St.keep, List.map_cons, look, reduceIte, Nat.reduceEqDiff]
  try show AWP _ _ _ _ _
  repeat refine AWP.nest ?_
  first | refine AWP.seq (AWP.cond (b := _) rfl (fun hc => ?_) (fun hc => ?_)) | refine AWP.cond (b := _) rfl (fun hc => ?_) (fun hc => ?_)
  all_goals try simp only [evC] at hc
  · cases hc
  refine AWP.skip ?_
  show AWP _ _ _ _ _
  refine AWP.trunc 2 (by rw [hps]; decide) rfl ?_
  simp only [St.trunc, List.take_zero, List.take_succ_cons]
  repeat refine AWP.nest ?_
  first | refine rsa hG [] [4, 5, 7, 19, 20] fun K hK => ?_ | refine rna hG [] [4, 5, 7, 19, 20] fun K hK => ?_
  repeat first | ((with_reducible refine shN ?_); refine sL ?_) | ((with_reducible refine shG ?_); refine sG ?_)
  refine Eq.mpr evalL_nil (hK _ ?_)
  clear hK K
  simp only [evU, St.keep, List.map_cons, look, reduceIte, Nat.reduceEqDiff]
  try show AWP _ _ _ _ _
  refine ⟨n - (i + 1), by omega, i + 1, by omega, rfl, ?_⟩
  rw [hput, e20]

/-! ### not all of them -/
theorem s105n (l : List Int) (hb : Byt l) (hl : l.length ≤ 1000000000) (ho : okC l = false) : Spec Try.prog 105 [.d false (.sl 1 (ints .u8 l))] none ⟨True, .tup [.junk, .d true (.v (.bool false))], none⟩ := by
  have hf87 : F77 87 = e87 := rfl
  have hf88 : F77 88 = e88' := rfl
  have hf92 : F77 92 = e92' := rfl
  have hf93 : F77 93 = e93 := rfl
  have hG := (Gf_ok F77_ok)
  have hfs := And.intro @hf87 (And.intro @e87.eq_1 (And.intro @hf88 (And.intro @e88'.eq_1 (And.intro @hf92 (And.intro @e92'.eq_1 (And.intro @hf93 (And.intro @e93.eq_1 (And.intro @evP (And.intro @evS (And.intro @toPrs_prs (And.intro @toPrs_prs9 @toSgs_sgs)))))))))))
  have hxs := @Nat.add_zero
  refine spec_of_awp (Gf_ok F77_ok) Try.func105 rfl (Nat.le_of_ble_eq_true rfl) fun E hps hN _ => ?_
  simp only [begin, List.zipIdx_cons, List.zipIdx_nil, List.map_cons, List.map_nil, Option.toList, Nat.zero_add, Nat.reduceAdd]
  have r0 : RdOK l.length 0 0 false := .inl ⟨Nat.zero_le _, rfl, rfl⟩
  have r1 := r0.s2
  have r2 := r1.s2
  have g1 := r1.bnd
  have g2 := r2.bnd
  have w1 := rv_b2 hb 0 false
  have w2 := rv_b2 hb (rp l.length 0 false 2) (rb l.length 0 false 2)
  have x1 : 4 ≤ l.length → rv l 0 false 2 = n2V l 0 := fun h => by rw [r0.v2 (by omega)]; exact be2_at (by omega)
  have x2 : 4 ≤ l.length → rv l (rp l.length 0 false 2) (rb l.length 0 false 2) 2 = n2V l 2 := fun h => by rw [r1.v2 (by omega)]; exact be2_at (by omega)
  repeat refine AWP.nest ?_
  first | refine rsa hG [] [0] fun K hK => ?_ | refine rna hG [] [0] fun K hK => ?_
  repeat first | ((with_reducible refine shN ?_); refine sL ?_) | ((with_reducible refine shG ?_); refine sG ?_)
  refine Eq.mpr evalL_nil (hK _ ?_)
  clear hK K
  simp only [evU, St.keep, List.map_cons, look, reduceIte, Nat.reduceEqDiff]
  try show AWP _ _ _ _ _
  repeat refine AWP.nest ?_
  first | refine rsa hG [] [4] fun K hK => ?_ | refine rna hG [] [4] fun K hK => ?_
  repeat first | ((with_reducible refine shN ?_); refine sL ?_) | ((with_reducible refine shG ?_); refine sG ?_)
  refine Eq.mpr evalL_nil (hK _ ?_)
  clear hK K
  simp only [evU, St.keep, List.map_cons, look, reduceIte, Nat.reduceEqDiff]
  try show AWP _ _ _ _ _
  repeat refine AWP.nest ?_
  first | refine rsa hG [] [4, 5, 6] fun K hK => ?_ | refine rna hG [] [4, 5, 6] fun K hK => ?_
  repeat first | ((with_reducible refine shN ?_); refine sL ?_) | ((with_reducible refine shG ?_); refine sG ?_)
  refine Eq.mpr evalL_nil (hK _ ?_)
  clear hK K
  simp only [evU, St.keep, List.map_cons, look, reduceIte, Nat.reduceEqDiff]
  try show AWP _ _ _ _ _
  generalize rv l (rp l.length 0 false 2) (rb l.length 0 false 2) 2 = y2 at w2 x2 ⊢
  generalize rv l 0 false 2 = y1 at w1 x1 ⊢
  generalize rp l.length (rp l.length 0 false 2) (rb l.length 0 false 2) 2 = p3 at r2 g2 ⊢
  generalize rb l.length (rp l.length 0 false 2) (rb l.length 0 false 2) 2 = b3 at r2 ⊢
  clear r0 r1 g1
  obtain ⟨n, rfl⟩ : ∃ n : Nat, y2 = n := ⟨y2.toNat, by omega⟩
  have hend : ∀ (p : Int) (bad : Bool), RdOK l.length (4 + 8 * n) p bad → (y1 = 0 → bad = true) := by
    intro p bad hr h0
    rcases hr with ⟨h, _, _⟩ | ⟨_, h, _⟩
    · exfalso
      have e1 := x1 (by omega)
      have e2 := x2 (by omega)
      have e3 : nrec l = n := by unfold nrec; omega
      have : okC l = true := by
        simp only [okC, Bool.and_eq_true, decide_eq_true_eq, e3]
        omega
      rw [this] at ho
      cases ho
    · exact h
  repeat refine AWP.nest ?_
  first | refine rsa hG [] [4, 5, 6, 7] fun K hK => ?_ | refine rna hG [] [4, 5, 6, 7] fun K hK => ?_
  repeat first | ((with_reducible refine shN ?_); refine sL ?_) | ((with_reducible refine shG ?_); refine sG ?_)
  refine Eq.mpr evalL_nil (hK _ ?_)
  clear hK K
  simp only [evU, St.keep, List.map_cons, look, reduceIte, Nat.reduceEqDiff]
  try show AWP _ _ _ _ _
  repeat refine AWP.nest ?_
  first | refine rsa hG [] [4, 5, 7, 19, 20] fun K hK => ?_ | refine rna hG [] [4, 5, 7, 19, 20] fun K hK => ?_
  repeat first | ((with_reducible refine shN ?_); refine sL ?_) | ((with_reducible refine shG ?_); refine sG ?_)
  refine Eq.mpr evalL_nil (hK _ ?_)
  clear hK K
  simp only [evU, St.keep, List.map_cons, look, reduceIte, Nat.reduceEqDiff]
  try show AWP _ _ _ _ _
  repeat refine AWP.nest ?_
  first | refine AWP.seq (AWP.block ?_) | refine AWP.block ?_
  refine AWP.loop (fun k st => ∃ (i : Nat) (p : Int) (bad : Bool) (es : List (List Int × Int)), i ≤ n ∧ k = n - i ∧ RdOK l.length (4 + 8 * i) p bad ∧ st = ⟨[(4, .ptr 0 0), (5, .d true (.v (.int .u16 y1))), (7, .mpv 1), (19, .d true (.v (.int .u16 (n : Int)))), (20, .d true (.v (.int .u16 (i : Int))))], [some (.cells 174 [.d false (.sl 1 (ints .u8 l)), .d true (.v (.int .i64 p)), .d true (.v (.bool bad))]), some (.mp [.u16, .u16] .u32 es)]⟩) (n) ?_ ?_
  · exact ⟨0, p3, b3, [], Nat.zero_le _, rfl, r2, rfl⟩
  clear r2 g2
  rintro k st ⟨i, p, bad, es, hi, hk, hr, rfl⟩
  repeat refine AWP.nest ?_
  first | refine rsa hG [] [4, 5, 7, 19, 20, 21] fun K hK => ?_ | refine rna hG [] [4, 5, 7, 19, 20, 21] fun K hK => ?_
  repeat first | ((with_reducible refine shN ?_); refine sL ?_) | ((with_reducible refine shG ?_); refine sG ?_)
  refine Eq.mpr evalL_nil (hK _ ?_)
  clear hK K
  simp only [evU, St.keep, List.map_cons, look, reduceIte, Nat.reduceEqDiff]
  try show AWP _ _ _ _ _
  first | refine AWP.seq (AWP.cond (b := _) rfl (fun hc => ?_) (fun hc => ?_)) | refine AWP.cond (b := _) rfl (fun hc => ?_) (fun hc => ?_)
  rotate_left
  · refine AWP.exit ?_
    show AWP _ _ _ _ _
    simp only [evC, Int.not_lt] at hc
    obtain rfl : i = n := by omega
    have he := hend p bad hr
    by_cases h : y1 = 0
    · rw [he h]
      subst h
      repeat refine AWP.nest ?_
      first | refine rsm hG [] [2, 3] fun K hK => ?_ | refine rnm hG [] [2, 3] fun K hK => ?_
      repeat first | ((with_reducible refine mhN ?_); refine mN ?_) | ((with_reducible refine mhG ?_); refine mT ?_) | ((with_reducible refine mhG ?_); refine mF ?_)
      refine Eq.mpr evalM_nil (hK _ ?_)
      clear hK K
      simp only [evU, St.keep, List.map_cons, look, reduceIte, Nat.reduceEqDiff]
      try show AWP _ _ _ _ _
      refine AWP.ret ?_
      refine ⟨.inl rfl, ⟨⟨_, rfl, ?_⟩, fun ob hob => by cases hob⟩⟩
      simp only [look, reduceIte, Nat.reduceEqDiff]
      refine ⟨_, rfl, (.cons ?_ (.cons ?_ .nil))⟩
      · exact .any _
      · exact sub1_of (by simp)
    · have hne : (y1 == 0) = false := by simpa using h
      repeat refine AWP.nest ?_
      have hxs := @hne
      first | refine rsm hG [] [2, 3] fun K hK => ?_ | refine rnm hG [] [2, 3] fun K hK => ?_
      repeat first | ((with_reducible refine mhN ?_); refine mN ?_) | ((with_reducible refine mhG ?_); refine mT ?_) | ((with_reducible refine mhG ?_); refine mF ?_)
      refine Eq.mpr evalM_nil (hK _ ?_)
      clear hK K hxs
      simp only [evU, St.keep, List.map_cons, look, reduceIte, Nat.reduceEqDiff]
      try show AWP _ _ _ _ _
      refine AWP.ret ?_
      refine ⟨.inl rfl, ⟨⟨_, rfl, ?_⟩, fun ob hob => by cases hob⟩⟩
      simp only [look, reduceIte, Nat.reduceEqDiff]
      refine ⟨_, rfl, (.cons ?_ (.cons ?_ .nil))⟩
      · exact .any _
      · exact sub1_of (by simp)
  simp only [evC, Int.not_lt] at hc
  refine AWP.skip ?_
  show AWP _ _ _ _ _
  have hi' := hc
  clear hc
  have s1 := hr.s2
  have s2 := s1.s2
  have s3 := s2.s4
  have g1 := hr.bnd
  have g2 := s1.bnd
  have g3 := s2.bnd
  have g4 := s3.bnd
  have v1 := rv_b2 hb p bad
  have v2 := rv_b2 hb (rp l.length p bad 2) (rb l.length p bad 2)
  repeat refine AWP.nest ?_
  first | refine AWP.seq (AWP.block ?_) | refine AWP.block ?_
  repeat refine AWP.nest ?_
  first | refine rsa hG [] [4, 5, 7, 8, 19, 20] fun K hK => ?_ | refine rna hG [] [4, 5, 7, 8, 19, 20] fun K hK => ?_
  repeat first | ((with_reducible refine shN ?_); refine sL ?_) | ((with_reducible refine shG ?_); refine sG ?_)
  refine Eq.mpr evalL_nil (hK _ ?_)
  clear hK K
  simp only [evU, St.keep, List.map_cons, look, reduceIte, Nat.reduceEqDiff]
  try show AWP _ _ _ _ _
  have v3 := rv_b4 hb (rp l.length (rp l.length p bad 2) (rb l.length p bad 2) 2) (rb l.length (rp l.length p bad 2) (rb l.length p bad 2) 2)
  repeat refine AWP.nest ?_
  first | refine rsa hG [] [4, 5, 7, 8, 9, 19, 20] fun K hK => ?_ | refine rna hG [] [4, 5, 7, 8, 9, 19, 20] fun K hK => ?_
  repeat first | ((with_reducible refine shN ?_); refine sL ?_) | ((with_reducible refine shG ?_); refine sG ?_)
  refine Eq.mpr evalL_nil (hK _ ?_)
  clear hK K
  simp only [evU, St.keep, List.map_cons, look, reduceIte, Nat.reduceEqDiff]
  try show AWP _ _ _ _ _
  generalize rv l (rp l.length (rp l.length p bad 2) (rb l.length p bad 2) 2) (rb l.length (rp l.length p bad 2) (rb l.length p bad 2) 2) 4 = z3 at v3 ⊢
  generalize rv l (rp l.length p bad 2) (rb l.length p bad 2) 2 = z2 at v2 ⊢
  generalize rv l p bad 2 = z1 at v1 ⊢
  generalize rp l.length (rp l.length (rp l.length p bad 2) (rb l.length p bad 2) 2) (rb l.length (rp l.length p bad 2) (rb l.length p bad 2) 2) 4 = q at s3 g4 ⊢
  generalize rb l.length (rp l.length (rp l.length p bad 2) (rb l.length p bad 2) 2) (rb l.length (rp l.length p bad 2) (rb l.length p bad 2) 2) 4 = bd at s3 ⊢
  clear s1 s2 g1 g2 g3 hr
  have hkf := fits16 v1.1 (show z1 ≤ 65535 by omega) v2.1 (show z2 ≤ 65535 by omega)
  have ⟨hk1, hk2⟩ := hkf
  have e20 : ((i : Int) + 1) % 65536 = ((i + 1 : Nat) : Int) := by omega
  have hnext : ∀ es' : List (List Int × Int), bd = false → ∃ m < k, ∃ (i' : Nat) (p' : Int) (bad' : Bool) (es2 : List (List Int × Int)), i' ≤ n ∧ m = n - i' ∧ RdOK l.length (4 + 8 * i') p' bad' ∧ (⟨[(4, .ptr 0 0), (5, .d true (.v (.int .u16 y1))), (7, .mpv 1), (19, .d true (.v (.int .u16 (n : Int)))), (20, .d true (.v (.int .u16 (((i : Int) + 1) % 65536))))], [some (.cells 174 [.d false (.sl 1 (ints .u8 l)), .d true (.v (.int .i64 q)), .d true (.v (.bool bd))]), some (.mp [.u16, .u16] .u32 es')]⟩ : St) = ⟨[(4, .ptr 0 0), (5, .d true (.v (.int .u16 y1))), (7, .mpv 1), (19, .d true (.v (.int .u16 (n : Int)))), (20, .d true (.v (.int .u16 (i' : Int))))], [some (.cells 174 [.d false (.sl 1 (ints .u8 l)), .d true (.v (.int .i64 p')), .d true (.v (.bool bad'))]), some (.mp [.u16, .u16] .u32 es2)]⟩ := fun es' _ =>
    ⟨n - (i + 1), by omega, i + 1, q, bd, es', by omega, rfl, s3, by rw [e20]⟩
  repeat refine AWP.nest ?_
  first | refine rsa hG [] [4, 5, 7, 8, 9, 11, 19, 20] fun K hK => ?_ | refine rna hG [] [4, 5, 7, 8, 9, 11, 19, 20] fun K hK => ?_
  repeat first | ((with_reducible refine shN ?_); refine sL ?_) | ((with_reducible refine shG ?_); refine sG ?_)
  refine Eq.mpr evalL_nil (hK _ ?_)
  clear hK K
  simp only [evU, St.keep, List.map_cons, look, reduceIte, Nat.reduceEqDiff]
  try show AWP _ _ _ _ _
  repeat refine AWP.nest ?_
  first | refine rsa hG [] [4, 5, 7, 8, 9, 19, 20, 36] fun K hK => ?_ | refine rna hG [] [4, 5, 7, 8, 9, 19, 20, 36] fun K hK => ?_
  repeat first | ((with_reducible refine shN ?_); refine sL ?_) | ((with_reducible refine shG ?_); refine sG ?_)
  refine Eq.mpr evalL_nil (hK _ ?_)
  clear hK K
  simp only [evU, St.keep, List.map_cons, look, reduceIte, Nat.reduceEqDiff]
  try show AWP _ _ _ _ _
  repeat refine AWP.nest ?_
  first | refine AWP.seq (AWP.cond (b := _) rfl (fun hc => ?_) (fun hc => ?_)) | refine AWP.cond (b := _) rfl (fun hc => ?_) (fun hc => ?_)
  all_goals try simp only [evC] at hc
  · have hnone : mget es [z1, z2] = none := by
      cases hm : mget es [z1, z2] with
      | none => rfl
      | some y => rw [hm] at hc; simp at hc
    clear hc
    repeat refine AWP.nest ?_
    first | refine rsa hG [] [4, 5, 7, 19, 20] fun K hK => ?_ | refine rna hG [] [4, 5, 7, 19, 20] fun K hK => ?_
    repeat first | ((with_reducible refine shN ?_); refine sL ?_) | ((with_reducible refine shG ?_); refine sG ?_)
    refine Eq.mpr evalL_nil (hK _ ?_)
    clear hK K
    simp only [evU, St.keep, List.map_cons, look, reduceIte, Nat.reduceEqDiff]
    try show AWP _ _ _ _ _
    repeat refine AWP.nest ?_
    first | refine rsa hG [] [4, 5, 7, 19, 20, 41] fun K hK => ?_ | refine rna hG [] [4, 5, 7, 19, 20, 41] fun K hK => ?_
    repeat first | ((with_reducible refine shN ?_); refine sL ?_) | ((with_reducible refine shG ?_); refine sG ?_)
    refine Eq.mpr evalL_nil (hK _ ?_)
    clear hK K
    simp only [evU, St.keep, List.map_cons, look, reduceIte, Nat.reduceEqDiff]
    try show AWP _ _ _ _ _
    repeat refine AWP.nest ?_
    first | refine AWP.seq (AWP.cond (b := _) rfl (fun hc => ?_) (fun hc => ?_)) | refine AWP.cond (b := _) rfl (fun hc => ?_) (fun hc => ?_)
    all_goals try simp only [evC] at hc
    · subst hc
      refine AWP.exit ?_
      show AWP _ _ _ _ _
      by_cases h : y1 = 0
      · subst h
        repeat refine AWP.nest ?_
        first | refine rsm hG [] [2, 3] fun K hK => ?_ | refine rnm hG [] [2, 3] fun K hK => ?_
        repeat first | ((with_reducible refine mhN ?_); refine mN ?_) | ((with_reducible refine mhG ?_); refine mT ?_) | ((with_reducible refine mhG ?_); refine mF ?_)
        refine Eq.mpr evalM_nil (hK _ ?_)
        clear hK K
        simp only [evU, St.keep, List.map_cons, look, reduceIte, Nat.reduceEqDiff]
        try show AWP _ _ _ _ _
        refine AWP.ret ?_
        refine ⟨.inl rfl, ⟨⟨_, rfl, ?_⟩, fun ob hob => by cases hob⟩⟩
        simp only [look, reduceIte, Nat.reduceEqDiff]
        refine ⟨_, rfl, (.cons ?_ (.cons ?_ .nil))⟩
        · exact .any _
        · exact sub1_of (by simp)
      · have hne : (y1 == 0) = false := by simpa using h
        repeat refine AWP.nest ?_
        have hxs := @hne
        first | refine rsm hG [] [2, 3] fun K hK => ?_ | refine rnm hG [] [2, 3] fun K hK => ?_
        repeat first | ((with_reducible refine mhN ?_); refine mN ?_) | ((with_reducible refine mhG ?_); refine mT ?_) | ((with_reducible refine mhG ?_); refine mF ?_)
        refine Eq.mpr evalM_nil (hK _ ?_)
        clear hK K hxs
        simp only [evU, St.keep, List.map_cons, look, reduceIte, Nat.reduceEqDiff]
        try show AWP _ _ _ _ _
        refine AWP.ret ?_
        refine ⟨.inl rfl, ⟨⟨_, rfl, ?_⟩, fun ob hob => by cases hob⟩⟩
        simp only [look, reduceIte, Nat.reduceEqDiff]
        refine ⟨_, rfl, (.cons ?_ (.cons ?_ .nil))⟩
        · exact .any _
        · exact sub1_of (by simp)
    refine AWP.skip ?_
    show AWP _ _ _ _ _
    refine AWP.trunc 2 (by rw [hps]; decide) rfl ?_
    simp only [St.trunc, List.take_zero, List.take_succ_cons]
    repeat refine AWP.nest ?_
    first | refine rsa hG [] [4, 5, 7, 19, 20] fun K hK => ?_ | refine rna hG [] [4, 5, 7, 19, 20] fun K hK => ?_
    repeat first | ((with_reducible refine shN ?_); refine sL ?_) | ((with_reducible refine shG ?_); refine sG ?_)
    refine Eq.mpr evalL_nil (hK _ ?_)
    clear hK K
    simp only [evU, St.keep, List.map_cons, look, reduceIte, Nat.reduceEqDiff]
    try show AWP _ _ _ _ _
    exact hnext _ (by simpa using hc)
  refine AWP.skip ?_
  show AWP _ _ _ _ _
  clear hc
  repeat refine AWP.nest ?_
  first | refine rsa hG [] [4, 5, 7, 19, 20, 41] fun K hK => ?_ | refine rna hG [] [4, 5, 7, 19, 20, 41] fun K hK => ?_
  repeat first | ((with_reducible refine shN ?_); refine sL ?_) | ((with_reducible refine shG ?_); refine sG ?_)
  refine Eq.mpr evalL_nil (hK _ ?_)
  clear hK K
  simp only [evU, St.keep, List.map_cons, look, reduceIte, Nat.reduceEqDiff]
  try show AWP _ _ _ _ _
  repeat refine AWP.nest ?_
  first | refine AWP.seq (AWP.cond (b := _) rfl (fun hc => ?_) (fun hc => ?_)) | refine AWP.cond (b := _) rfl (fun hc => ?_) (fun hc => ?_)
  all_goals try simp only [evC] at hc
  · subst hc
    refine AWP.exit ?_
    show AWP _ _ _ _ _
    by_cases h : y1 = 0
    · subst h
      repeat refine AWP.nest ?_
      first | refine rsm hG [] [2, 3] fun K hK => ?_ | refine rnm hG [] [2, 3] fun K hK => ?_
      repeat first | ((with_reducible refine mhN ?_); refine mN ?_) | ((with_reducible refine mhG ?_); refine mT ?_) | ((with_reducible refine mhG ?_); refine mF ?_)
      refine Eq.mpr evalM_nil (hK _ ?_)
      clear hK K
      simp only [evU, St.keep, List.map_cons, look, reduceIte, Nat.reduceEqDiff]
      try show AWP _ _ _ _ _
      refine AWP.ret ?_
      refine ⟨.inl rfl, ⟨⟨_, rfl, ?_⟩, fun ob hob => by cases hob⟩⟩
      simp only [look, reduceIte, Nat.reduceEqDiff]
      refine ⟨_, rfl, (.cons ?_ (.cons ?_ .nil))⟩
      · exact .any _
      · exact sub1_of (by simp)
    · have hne : (y1 == 0) = false := by simpa using h
      repeat refine AWP.nest ?_
      have hxs := @hne
      first | refine rsm hG [] [2, 3] fun K hK => ?_ | refine rnm hG [] [2, 3] fun K hK => ?_
      repeat first | ((with_reducible refine mhN ?_); refine mN ?_) | ((with_reducible refine mhG ?_); refine mT ?_) | ((with_reducible refine mhG ?_); refine mF ?_)
      refine Eq.mpr evalM_nil (hK _ ?_)
      clear hK K hxs
      simp only [evU, St.keep, List.map_cons, look, reduceIte, Nat.reduceEqDiff]
      try show AWP _ _ _ _ _
      refine AWP.ret ?_
      refine ⟨.inl rfl, ⟨⟨_, rfl, ?_⟩, fun ob hob => by cases hob⟩⟩
      simp only [look, reduceIte, Nat.reduceEqDiff]
      refine ⟨_, rfl, (.cons ?_ (.cons ?_ .nil))⟩
      · exact .any _
      · exact sub1_of (by simp)
  refine AWP.skip ?_
  show AWP _ _ _ _ _
  refine AWP.trunc 2 (by rw [hps]; decide) rfl ?_
  simp only [St.trunc, List.take_zero, List.take_succ_cons]
  repeat refine AWP.nest ?_
  first | refine rsa hG [] [4, 5, 7, 19, 20] fun K hK => ?_ | refine rna hG [] [4, 5, 7, 19, 20] fun K hK => ?_
  repeat first | ((with_reducible refine shN ?_); refine sL ?_) | ((with_reducible refine shG ?_); refine sG ?_)
  refine Eq.mpr evalL_nil (hK _ ?_)
  clear hK K
  simp only [evU, St.keep, List.map_cons, look, reduceIte, Nat.reduceEqDiff]
  try show AWP _ _ _ _ _
  exact hnext _ (by simpa using hc)
def e105 : List AV → Option Ob → Option Res := fun args i => match args, i with
  | [.d false (.sl 1 xs)], none => if okC (toInts xs) = true then some ⟨IsB xs ∧ (toInts xs).length ≤ 1000000000, .tup [.mpv 0, .d true (.v (.bool true))], some (.mp [.u16, .u16] .u32 (mapN (toInts xs) (nrec (toInts xs))))⟩
    else some ⟨IsB xs ∧ (toInts xs).length ≤ 1000000000, .tup [.junk, .d true (.v (.bool false))], none⟩
  | _, _ => none
def F80 : FT := F77.upd 105 e105
theorem F80_ok : FOK Try.prog F80 := FOK.upd F77_ok Try.func105 (by kernel_rfl) rfl fun args i R h => by
  unfold e105 at h
  split at h
  · split at h
    · rename_i ho
      cases h
      refine Spec.pre fun h => ?_
      obtain ⟨l, rfl, hb⟩ := h.1.elim
      rw [toInts_ints] at h ho ⊢
      exact s105 l hb h.2 ho
    · rename_i ho
      cases h
      refine Spec.pre fun h => ?_
      obtain ⟨l, rfl, hb⟩ := h.1.elim
      rw [toInts_ints] at h ho
      exact s105n l hb h.2 (by simpa using ho)
  · cases h
end Go.AM

