/- AM: group.Parse. -/
import Derived.Test.YtmfobkiljlepjaaC16
set_option maxRecDepth 100000
set_option maxHeartbeats 8000000
set_option linter.unusedSimpArgs false
set_option linter.unusedVariables false
namespace Go.AM
open Go Go.Proofs


def spsG (l : List Int) : List (Int × Int × Int) := if rightG l = true then spans l (numG l) else []
theorem s43 (l : List Int) (hb : Byt l) (hl : l.length ≤ 1000000000000) : Spec Try.prog 43 [.d false (.sl 1 (ints .u8 l))] none ⟨True, .tup [.d true (.agg [.sl 3 (sps (spsG l))]), .d true (.v (.int .i64 (if rightG l = true then 0 else 2)))], none⟩ := by
  have hf87 : F32 87 = e87 := rfl
  have hf88 : F32 88 = e88' := rfl
  have hf92 : F32 92 = e92' := rfl
  have hf93 : F32 93 = e93 := rfl
  have hG := (Gf_ok F32_ok)
  have hfs := And.intro @hf87 (And.intro @e87.eq_1 (And.intro @hf88 (And.intro @e88'.eq_1 (And.intro @hf92 (And.intro @e92'.eq_1 (And.intro @hf93 (And.intro @e93.eq_1 @evP)))))))
  have hxs := @Nat.add_zero
  refine spec_of_awp (Gf_ok F32_ok) Try.func43 rfl (Nat.le_of_ble_eq_true rfl) fun E hps hN _ => ?_
  simp only [begin, List.zipIdx_cons, List.zipIdx_nil, List.map_cons, List.map_nil, Option.toList, Nat.zero_add, Nat.reduceAdd]
  have r0 : RdOK l.length 0 0 false := .inl ⟨Nat.zero_le _, rfl, rfl⟩
  have r1 := r0.s2
  have r2 := r1.s2
  have r3 := r2.s4
  have g1 := r1.bnd
  have g2 := r2.bnd
  have g3 := r3.bnd
  repeat refine AWP.nest ?_
  first | refine rsa hG [] [0, 2] fun K hK => ?_ | refine rna hG [] [0, 2] fun K hK => ?_
  repeat first | ((with_reducible refine shN ?_); refine sL ?_) | ((with_reducible refine shG ?_); refine sG ?_)
  refine Eq.mpr evalL_nil (hK _ ?_)
  clear hK K
  simp only [evU, St.keep, List.map_cons, look, reduceIte, Nat.reduceEqDiff]
  try show AWP _ _ _ _ _
  repeat refine AWP.nest ?_
  first | refine rsa hG [] [0, 2, 4] fun K hK => ?_ | refine rna hG [] [0, 2, 4] fun K hK => ?_
  repeat first | ((with_reducible refine shN ?_); refine sL ?_) | ((with_reducible refine shG ?_); refine sG ?_)
  refine Eq.mpr evalL_nil (hK _ ?_)
  clear hK K
  simp only [evU, St.keep, List.map_cons, look, reduceIte, Nat.reduceEqDiff]
  try show AWP _ _ _ _ _
  repeat refine AWP.nest ?_
  first | refine rsa hG [] [0, 2, 4, 5, 6, 7] fun K hK => ?_ | refine rna hG [] [0, 2, 4, 5, 6, 7] fun K hK => ?_
  repeat first | ((with_reducible refine shN ?_); refine sL ?_) | ((with_reducible refine shG ?_); refine sG ?_)
  refine Eq.mpr evalL_nil (hK _ ?_)
  clear hK K
  simp only [evU, St.keep, List.map_cons, look, reduceIte, Nat.reduceEqDiff]
  try show AWP _ _ _ _ _
  have w1 := rv_b2 hb 0 false
  have w2 := rv_b2 hb (rp l.length 0 false 2) (rb l.length 0 false 2)
  have w3 := rv_b4 hb (rp l.length (rp l.length 0 false 2) (rb l.length 0 false 2) 2) (rb l.length (rp l.length 0 false 2) (rb l.length 0 false 2) 2)
  have x1 : 16 ≤ l.length → rv l 0 false 2 = n2V l 0 := fun h => by rw [r0.v2 (by omega)]; exact be2_at (by omega)
  have x2 : 16 ≤ l.length → rv l (rp l.length 0 false 2) (rb l.length 0 false 2) 2 = n2V l 2 := fun h => by rw [r1.v2 (by omega)]; exact be2_at (by omega)
  have x3 : 16 ≤ l.length → rv l (rp l.length (rp l.length 0 false 2) (rb l.length 0 false 2) 2) (rb l.length (rp l.length 0 false 2) (rb l.length 0 false 2) 2) 4 = n4V l 4 := fun h => by rw [r2.v4 (by omega)]; exact be4_at (by omega)
  generalize rv l (rp l.length (rp l.length 0 false 2) (rb l.length 0 false 2) 2) (rb l.length (rp l.length 0 false 2) (rb l.length 0 false 2) 2) 4 = y3 at w3 x3 ⊢
  generalize rv l (rp l.length 0 false 2) (rb l.length 0 false 2) 2 = y2 at w2 x2 ⊢
  generalize rv l 0 false 2 = y1 at w1 x1 ⊢
  generalize rp l.length (rp l.length (rp l.length 0 false 2) (rb l.length 0 false 2) 2) (rb l.length (rp l.length 0 false 2) (rb l.length 0 false 2) 2) 4 = p3 at r3 g3 ⊢
  generalize rb l.length (rp l.length (rp l.length 0 false 2) (rb l.length 0 false 2) 2) (rb l.length (rp l.length 0 false 2) (rb l.length 0 false 2) 2) 4 = b3 at r3 ⊢
  clear r0 r1 r2 g1 g2
  have r4 := r3.s4
  have g4 := r4.bnd
  have r5 := r4.s4
  have g5 := r5.bnd
  have w4 := rv_b4 hb (rp l.length p3 b3 4) (rb l.length p3 b3 4)
  have x4 : 16 ≤ l.length → rv l (rp l.length p3 b3 4) (rb l.length p3 b3 4) 4 = n4V l 12 := fun h => by rw [r4.v4 (by omega)]; exact be4_at (by omega)
  repeat refine AWP.nest ?_
  first | refine rsa hG [] [0, 2, 4, 5, 6, 7] fun K hK => ?_ | refine rna hG [] [0, 2, 4, 5, 6, 7] fun K hK => ?_
  repeat first | ((with_reducible refine shN ?_); refine sL ?_) | ((with_reducible refine shG ?_); refine sG ?_)
  refine Eq.mpr evalL_nil (hK _ ?_)
  clear hK K
  simp only [evU, St.keep, List.map_cons, look, reduceIte, Nat.reduceEqDiff]
  try show AWP _ _ _ _ _
  repeat refine AWP.nest ?_
  first | refine rsa hG [] [0, 2, 4, 5, 6, 7, 8] fun K hK => ?_ | refine rna hG [] [0, 2, 4, 5, 6, 7, 8] fun K hK => ?_
  repeat first | ((with_reducible refine shN ?_); refine sL ?_) | ((with_reducible refine shG ?_); refine sG ?_)
  refine Eq.mpr evalL_nil (hK _ ?_)
  clear hK K
  simp only [evU, St.keep, List.map_cons, look, reduceIte, Nat.reduceEqDiff]
  try show AWP _ _ _ _ _
  generalize rv l (rp l.length p3 b3 4) (rb l.length p3 b3 4) 4 = y4 at w4 x4 ⊢
  generalize rp l.length (rp l.length p3 b3 4) (rb l.length p3 b3 4) 4 = p5 at r5 g5 ⊢
  generalize rb l.length (rp l.length p3 b3 4) (rb l.length p3 b3 4) 4 = b5 at r5 ⊢
  clear r3 r4 g3 g4
  repeat refine AWP.nest ?_
  first | refine rsa hG [] [2, 4, 8, 50] fun K hK => ?_ | refine rna hG [] [2, 4, 8, 50] fun K hK => ?_
  repeat first | ((with_reducible refine shN ?_); refine sL ?_) | ((with_reducible refine shG ?_); refine sG ?_)
  refine Eq.mpr evalL_nil (hK _ ?_)
  clear hK K
  simp only [evU, St.keep, List.map_cons, look, reduceIte, Nat.reduceEqDiff]
  try show AWP _ _ _ _ _
  have hd0 : 16 ≤ l.length → n4V l 0 = 65536 * n2V l 0 + n2V l 2 := fun h => by
    unfold n4V
    rw [if_neg (by omega)]; rfl
  have hq0 := n2V_bound hb 0
  have hq2 := n2V_bound hb 2
  have hq12 := n4V_bound hb 12
  have hd : hdG l = true ↔ (16 ≤ l.length ∧ n4V l 0 = 786432) ∧ n4V l 4 = 16 + 12 * n4V l 12 ∧ n4V l 4 ≤ (l.length : Int) := by
    simp only [hdG, Bool.and_eq_true, decide_eq_true_eq]
    constructor
    · rintro ⟨⟨h1, h2⟩, h3⟩; exact ⟨h1, h2, h3⟩
    · rintro ⟨h1, h2, h3⟩; exact ⟨⟨h1, h2⟩, h3⟩
  repeat refine AWP.nest ?_
  first | refine AWP.seq (AWP.cond (b := _) rfl (fun hc => ?_) (fun hc => ?_)) | refine AWP.cond (b := _) rfl (fun hc => ?_) (fun hc => ?_)
  all_goals try simp only [evC] at hc
  · have hf : hdG l = false := by
      cases e : hdG l with
      | false => rfl
      | true =>
        exfalso
        obtain ⟨⟨h1, h2⟩, h3, h4⟩ := hd.1 e
        obtain ⟨e5, rfl⟩ := r5.yes h1
        have := x1 h1
        have := x2 h1
        have := x3 h1
        have := x4 h1
        have := hd0 h1
        rcases hc with (((hc | hc) | hc) | hc) | hc
        · cases hc
        all_goals omega
    have e1 : spsG l = [] := by unfold spsG; rw [rightG_no hf]; rfl
    rw [e1, rightG_no hf]
    repeat refine AWP.nest ?_
    first | refine rsa hG [] [2, 3] fun K hK => ?_ | refine rna hG [] [2, 3] fun K hK => ?_
    repeat first | ((with_reducible refine shN ?_); refine sL ?_) | ((with_reducible refine shG ?_); refine sG ?_)
    refine Eq.mpr evalL_nil (hK _ ?_)
    clear hK K
    simp only [evU, St.keep, List.map_cons, look, reduceIte, Nat.reduceEqDiff]
    try show AWP _ _ _ _ _
    refine AWP.tellC 0 0 rfl rfl (.nil true true 3) ?_
    refine AWP.ret ?_
    refine ⟨.inl rfl, ⟨⟨_, rfl, ?_⟩, fun ob hob => by cases hob⟩⟩
    simp only [look, reduceIte, Nat.reduceEqDiff]
    refine ⟨_, rfl, (.cons ?_ (.cons ?_ .nil))⟩
    · exact sub1_of rfl
    · exact sub1_of rfl
  refine AWP.skip ?_
  show AWP _ _ _ _ _
  have h16 : 16 ≤ l.length := by
    rcases r5 with h | h
    · omega
    · rw [h.2.1] at hc; simp at hc
  obtain ⟨e5, rfl⟩ := r5.yes h16
  have ex1 := x1 h16
  have ex2 := x2 h16
  have ex3 := x3 h16
  have ex4 := x4 h16
  have ex0 := hd0 h16
  have ht : hdG l = true := hd.2 (by omega)
  have hnum := hdG_num hb ht
  obtain ⟨n, hn, hnn⟩ : ∃ n, numG l = n ∧ n4V l 12 = (n : Int) := ⟨_, rfl, by unfold numG; omega⟩
  rw [hn] at hnum
  rw [hnn] at ex4
  subst ex4
  have e5' : p5 = 16 := by omega
  subst e5'
  clear hc x1 x2 x3 x4 hd0 hd ex1 ex2 ex3 ex0 w1 w2 w3 g5 r5 e5 hq0 hq2
  repeat refine AWP.nest ?_
  first | refine rsa hG [] [2, 4, 8, 9] fun K hK => ?_ | refine rna hG [] [2, 4, 8, 9] fun K hK => ?_
  repeat first | ((with_reducible refine shN ?_); refine sL ?_) | ((with_reducible refine shG ?_); refine sG ?_)
  refine Eq.mpr evalL_nil (hK _ ?_)
  clear hK K
  simp only [evU, St.keep, List.map_cons, look, reduceIte, Nat.reduceEqDiff]
  try show AWP _ _ _ _ _
  repeat refine AWP.nest ?_
  first | refine rsa hG [] [2, 4, 9, 52, 53] fun K hK => ?_ | refine rna hG [] [2, 4, 9, 52, 53] fun K hK => ?_
  repeat first | ((with_reducible refine shN ?_); refine sL ?_) | ((with_reducible refine shG ?_); refine sG ?_)
  refine Eq.mpr evalL_nil (hK _ ?_)
  clear hK K
  simp only [evU, St.keep, List.map_cons, look, reduceIte, Nat.reduceEqDiff]
  try show AWP _ _ _ _ _
  refine AWP.adoptC 2 0 132 3 (by decide) rfl rfl ?_
  simp only [List.set_cons_zero, List.set_cons_succ, List.cons_append, List.nil_append, List.length_cons, List.length_nil, Nat.reduceAdd]
  repeat refine AWP.nest ?_
  first | refine AWP.seq (AWP.block ?_) | refine AWP.block ?_
  refine AWP.loop (fun k st => ∃ (i : Nat), i ≤ n ∧ k = n - i ∧ (∀ j, j < i → okS l j = true) ∧ st = ⟨[(2, .ptr 0 0), (4, .ptr 1 0), (9, .ptr 2 0), (52, .d true (.v (.int .u32 (n : Int)))), (53, .d true (.v (.int .u32 (i : Int))))], [some (.cells 47 [.d true (.v (.slice none 0 0))]), some (.cells 174 [.d false (.sl 1 (ints .u8 l)), .d true (.v (.int .i64 (16 + 12 * (i : Int)))), .d true (.v (.bool false))]), some (.cells 47 [.own 3 i]), some (.row 132 3 i true (sps (spans l i)))]⟩) (n) ?_ ?_
  · refine ⟨0, Nat.zero_le _, rfl, (fun j h => absurd h (Nat.not_lt_zero j)), ?_⟩
    rfl
  rintro k st ⟨i, hi, hk, hj, rfl⟩
  repeat refine AWP.nest ?_
  first | refine rsa hG [] [2, 4, 9, 52, 53, 54] fun K hK => ?_ | refine rna hG [] [2, 4, 9, 52, 53, 54] fun K hK => ?_
  repeat first | ((with_reducible refine shN ?_); refine sL ?_) | ((with_reducible refine shG ?_); refine sG ?_)
  refine Eq.mpr evalL_nil (hK _ ?_)
  clear hK K
  simp only [evU, St.keep, List.map_cons, look, reduceIte, Nat.reduceEqDiff]
  try show AWP _ _ _ _ _
  first | refine AWP.seq (AWP.cond (b := _) rfl (fun hc => ?_) (fun hc => ?_)) | refine AWP.cond (b := _) rfl (fun hc => ?_) (fun hc => ?_)
  rotate_left
  · refine AWP.exit ?_
    show AWP _ _ _ _ _
    simp only [evC, Int.not_lt] at hc
    obtain rfl : i = n := by omega
    have e1 : spsG l = spans l i := by unfold spsG; rw [rightG_of ht (by rw [hn]; exact hj), if_pos rfl, hn]
    rw [e1, rightG_of ht (by rw [hn]; exact hj)]
    repeat refine AWP.nest ?_
    first | refine rsa hG [] [2, 3] fun K hK => ?_ | refine rna hG [] [2, 3] fun K hK => ?_
    repeat first | ((with_reducible refine shN ?_); refine sL ?_) | ((with_reducible refine shG ?_); refine sG ?_)
    refine Eq.mpr evalL_nil (hK _ ?_)
    clear hK K
    simp only [evU, St.keep, List.map_cons, look, reduceIte, Nat.reduceEqDiff]
    try show AWP _ _ _ _ _
    refine AWP.frz 3 (by rw [hps]; decide) rfl ?_
    simp only [St.frz, Ob.frz, AV.frz, AV.frz1, Option.map_none, mkAgg, datas, Dat.nagg, List.map_cons, List.map_nil, Option.map_some, and_self, true_and, and_true, reduceIte, Nat.reduceEqDiff, List.set_cons_zero, List.set_cons_succ, Bool.and_true, Bool.true_and]
    refine AWP.ret ?_
    refine ⟨.inl rfl, ⟨⟨_, rfl, ?_⟩, fun ob hob => by cases hob⟩⟩
    simp only [look, reduceIte, Nat.reduceEqDiff]
    refine ⟨_, rfl, (.cons ?_ (.cons ?_ .nil))⟩
    · exact sub1_of rfl
    · exact sub1_of rfl
  simp only [evC, Int.not_lt] at hc
  refine AWP.skip ?_
  show AWP _ _ _ _ _
  have hi' := hc
  clear hc
  have hsl := spans_length l i
  obtain ⟨a1, a2, a3⟩ := read4 (l := l) (p := 16 + 12 * (i : Int)) (16 + 12 * i) (by omega) (by omega)
  obtain ⟨a4, a5, a6⟩ := read4 (l := l) (p := 16 + 12 * (i : Int) + 4) (16 + 12 * i + 4) (by omega) (by omega)
  obtain ⟨a7, a8, a9⟩ := read4 (l := l) (p := 16 + 12 * (i : Int) + 4 + 4) (16 + 12 * i + 4 + 4) (by omega) (by omega)
  have ea : (16 + 12 * (i : Int) + 4) = 20 + 12 * (i : Int) := by omega
  have ec : (16 + 12 * (i : Int) + 4 + 4 + 4) = 28 + 12 * (i : Int) := by omega
  have eb : (16 + 12 * (i : Int) + 4 + 4) = 24 + 12 * (i : Int) := by omega
  have bb := n4V_bound hb (16 + 12 * (i : Int))
  have bc := n4V_bound hb (20 + 12 * (i : Int))
  have bd := n4V_bound hb (24 + 12 * (i : Int))
  have be := n4V_bound hb (8 + 12 * (i : Int))
  repeat refine AWP.nest ?_
  first | refine AWP.seq (AWP.block ?_) | refine AWP.block ?_
  repeat refine AWP.nest ?_
  first | refine rsa hG [] [2, 4, 9, 10, 52, 53] fun K hK => ?_ | refine rna hG [] [2, 4, 9, 10, 52, 53] fun K hK => ?_
  repeat first | ((with_reducible refine shN ?_); refine sL ?_) | ((with_reducible refine shG ?_); refine sG ?_)
  refine Eq.mpr evalL_nil (hK _ ?_)
  clear hK K
  simp only [evU, St.keep, List.map_cons, look, reduceIte, Nat.reduceEqDiff]
  try show AWP _ _ _ _ _
  repeat refine AWP.nest ?_
  have hxs := And.intro @a1 (And.intro @a2 (And.intro @a3 (And.intro @a4 (And.intro @a5 (And.intro @a6 (And.intro @a7 (And.intro @a8 @a9)))))))
  first | refine rsa hG [] [2, 4, 9, 10, 11, 52, 53] fun K hK => ?_ | refine rna hG [] [2, 4, 9, 10, 11, 52, 53] fun K hK => ?_
  repeat first | ((with_reducible refine shN ?_); refine sL ?_) | ((with_reducible refine shG ?_); refine sG ?_)
  refine Eq.mpr evalL_nil (hK _ ?_)
  clear hK K hxs
  simp only [evU, St.keep, List.map_cons, look, reduceIte, Nat.reduceEqDiff]
  try show AWP _ _ _ _ _
  rw [ec, eb, ea]
  repeat refine AWP.nest ?_
  first | refine rda hG [] [2, 4, 9, 11, 52, 53, 101] Try.mixed fun K hK => ?_ | refine dna hG [] [2, 4, 9, 11, 52, 53, 101] Try.mixed fun K hK => ?_
  repeat first | ((with_reducible refine shD ?_); refine sD ?_) | ((with_reducible refine shDG ?_); refine sDG ?_)
  refine evalD_done (by kernel_rfl) (hK _ ?_)
  clear hK K
  simp only [evU, St.keep, List.map_cons, look, reduceIte, Nat.reduceEqDiff]
  try show AWP _ _ _ _ _
  have hprev : 0 < i → ((spans l i).getD (((i : Int) - 1) % 4294967296).toNat (0, 0, 0)).2.1 = n4V l (8 + 12 * (i : Int)) := fun h => by
    have e : (((i : Int) - 1) % 4294967296).toNat = i - 1 := by omega
    rw [e, spans_getD (by omega)]
    show n4V l (20 + 12 * ((i - 1 : Nat) : Int)) = _
    congr 1
    omega
  repeat refine AWP.nest ?_
  first | refine AWP.seq (AWP.cond (b := _) rfl (fun hc => ?_) (fun hc => ?_)) | refine AWP.cond (b := _) rfl (fun hc => ?_) (fun hc => ?_)
  all_goals try simp only [evC] at hc
  · have hf : okS l i = false := by
      cases e : okS l i with
      | false => rfl
      | true =>
        exfalso
        simp only [okS, Bool.and_eq_true, Bool.or_eq_true, decide_eq_true_eq] at e
        simp only [spS] at e
        by_cases h0 : 0 < i
        · have := hprev h0
          omega
        · omega
    have e1 : spsG l = [] := by unfold spsG; rw [rightG_not (by rw [hn]; exact hi') hf]; rfl
    rw [e1, rightG_not (by rw [hn]; exact hi') hf]
    repeat refine AWP.nest ?_
    first | refine rsa hG [] [2, 3] fun K hK => ?_ | refine rna hG [] [2, 3] fun K hK => ?_
    repeat first | ((with_reducible refine shN ?_); refine sL ?_) | ((with_reducible refine shG ?_); refine sG ?_)
    refine Eq.mpr evalL_nil (hK _ ?_)
    clear hK K
    simp only [evU, St.keep, List.map_cons, look, reduceIte, Nat.reduceEqDiff]
    try show AWP _ _ _ _ _
    refine AWP.tellC 0 0 rfl rfl (.nil true true 3) ?_
    refine AWP.ret ?_
    refine ⟨.inl rfl, ⟨⟨_, rfl, ?_⟩, fun ob hob => by cases hob⟩⟩
    simp only [look, reduceIte, Nat.reduceEqDiff]
    refine ⟨_, rfl, (.cons ?_ (.cons ?_ .nil))⟩
    · exact sub1_of rfl
    · exact sub1_of rfl
  · have ho : okS l i = true := by
      simp only [okS, Bool.and_eq_true, Bool.or_eq_true, decide_eq_true_eq]
      simp only [spS]
      by_cases h0 : 0 < i
      · have := hprev h0
        omega
      · omega
    have e28 : (28 + 12 * (i : Int)) = 16 + 12 * ((i + 1 : Nat) : Int) := by omega
    have e53 : ((i : Int) + 1) % 4294967296 = ((i + 1 : Nat) : Int) := by omega
    have esn : spans l i ++ [(n4V l (16 + 12 * (i : Int)), n4V l (20 + 12 * (i : Int)), n4V l (24 + 12 * (i : Int)))] = spans l (i + 1) := by
      simp [spans, List.range_succ, spS]
    refine AWP.skip ?_
    show AWP _ _ _ _ _
    repeat refine AWP.nest ?_
    first | refine rsa hG [] [2, 4, 9, 52, 53] fun K hK => ?_ | refine rna hG [] [2, 4, 9, 52, 53] fun K hK => ?_
    repeat first | ((with_reducible refine shN ?_); refine sL ?_) | ((with_reducible refine shG ?_); refine sG ?_)
    refine Eq.mpr evalL_nil (hK _ ?_)
    clear hK K
    simp only [evU, St.keep, List.map_cons, look, reduceIte, Nat.reduceEqDiff]
    try show AWP _ _ _ _ _
    refine AWP.trunc 4 (by rw [hps]; decide) rfl ?_
    simp only [St.trunc, List.take_zero, List.take_succ_cons]
    repeat refine AWP.nest ?_
    first | refine rsa hG [] [2, 4, 9, 52, 53] fun K hK => ?_ | refine rna hG [] [2, 4, 9, 52, 53] fun K hK => ?_
    repeat first | ((with_reducible refine shN ?_); refine sL ?_) | ((with_reducible refine shG ?_); refine sG ?_)
    refine Eq.mpr evalL_nil (hK _ ?_)
    clear hK K
    simp only [evU, St.keep, List.map_cons, look, reduceIte, Nat.reduceEqDiff]
    try show AWP _ _ _ _ _
    refine ⟨n - (i + 1), by omega, i + 1, by omega, rfl, fun j hj2 => by
      rcases Nat.lt_succ_iff_lt_or_eq.1 hj2 with h | h
      · exact hj j h
      · rw [h]; exact ho, ?_⟩
    rw [esn, e28, e53]
def e43 : List AV → Option Ob → Option Res := fun args i => match args, i with
  | [.d false (.sl 1 xs)], none => some ⟨IsB xs ∧ (toInts xs).length ≤ 1000000000000, .tup [.d true (.agg [.sl 3 (sps (spsG (toInts xs)))]), .d true (.v (.int .i64 (if rightG (toInts xs) = true then 0 else 2)))], none⟩
  | _, _ => none
def F35 : FT := F32.upd 43 e43
theorem F35_ok : FOK Try.prog F35 := FOK.upd F32_ok Try.func43 (by kernel_rfl) rfl fun args i R h => by
  unfold e43 at h
  split at h
  · cases h
    refine Spec.pre fun h => ?_
    obtain ⟨l, rfl, hb⟩ := h.1.elim
    rw [toInts_ints] at h ⊢
    exact s43 l hb h.2
  · cases h
end Go.AM

