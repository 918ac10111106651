/- AM: ref09.Build. -/
import Derived.Test.YtmfobkiljlepjaaC36
import Derived.Test.YtmfobkiljlepjaaG7
set_option maxRecDepth 100000
set_option maxHeartbeats 8000000
set_option linter.unusedSimpArgs false
set_option linter.unusedVariables false
namespace Go.AM
open Go Go.Proofs

/-- Runs of the references: three whole numbers each. -/
def tri (s : Sg) : Dat := .agg [.v (.int .i64 s.1), .v (.int .i64 s.2.1), .v (.int .i64 s.2.2.1)]
def tris (l : List Sg) : List Dat := l.map tri
theorem tris_length {l : List Sg} : (tris l).length = l.length := by simp [tris]
theorem tris_append {l m : List Sg} : tris l ++ tris m = tris (l ++ m) := by simp [tris]
theorem tris_getD {l : List Sg} {n : Nat} : (tris l).getD n (.agg [.v (.int .i64 0), .v (.int .i64 0), .v (.int .i64 0)]) = .agg [.v (.int .i64 (l.getD n (0, 0, 0, 0)).1), .v (.int .i64 (l.getD n (0, 0, 0, 0)).2.1), .v (.int .i64 (l.getD n (0, 0, 0, 0)).2.2.1)] := by
  simp only [tris, List.getD_eq_getElem?_getD, List.getElem?_map]
  cases l[n]? <;> rfl
theorem tris_flat {l : List Sg} : (tris l).all Dat.flat = true := by simp [tris, tri, Dat.flat, Dat.isV]
theorem tris_one {a b c : Int} : [Dat.agg [.v (.int .i64 a), .v (.int .i64 b), .v (.int .i64 c)]] = tris [(a, b, c, 0)] := rfl
theorem tris_set {l : List Sg} {n : Nat} {a b c : Int} : (tris l).set n (.agg [.v (.int .i64 a), .v (.int .i64 b), .v (.int .i64 c)]) = tris (l.set n (a, b, c, 0)) := by simp [tris, List.map_set, tri]
theorem tris_set4 {l : List Sg} {n : Nat} {a b c e : Int} : tris (l.set n (a, b, c, e)) = tris (l.set n (a, b, c, 0)) := by simp [tris, List.map_set, tri]
theorem byt00 : Byt [0, 0] := fun b hb => by simp at hb; omega
theorem evT : type_of% (And.intro (And.intro @tris_length @tris_append) (And.intro (And.intro @tris_getD @tris_flat) (And.intro @tris_one @tris_set))) :=
  And.intro (And.intro @tris_length @tris_append) (And.intro (And.intro @tris_getD @tris_flat) (And.intro @tris_one @tris_set))


theorem s53 (l : List (Int × Int)) (hp : PrOK l) (hr : risesB l 65534 = true) (hl : l.length ≤ 7000) : Spec Try.prog 53 [.d false (.sl 2 (prs9 l))] none ⟨True, .d true (.sl 1 (ints .u8 (tabS (allQ l)))), none⟩ := by
  have hf32 : F64 32 = e32 := rfl
  have hf59 : F64 59 = e59 := rfl
  have hf60 : F64 60 = e60 := rfl
  have hG := (Gf_ok F64_ok)
  have hfs := And.intro @hf32 (And.intro @e32.eq_1 (And.intro @hf59 (And.intro @e59.eq_1 (And.intro @hf60 (And.intro @e60.eq_1 (And.intro @evP (And.intro @evT (And.intro @toPrs_prs @toPrs_prs9))))))))
  have hxs := @Nat.add_zero
  refine spec_of_awp (Gf_ok F64_ok) Try.func53 rfl (Nat.le_of_ble_eq_true rfl) fun E hps hN _ => ?_
  simp only [begin, List.zipIdx_cons, List.zipIdx_nil, List.map_cons, List.map_nil, Option.toList, Nat.zero_add, Nat.reduceAdd]
  repeat refine AWP.nest ?_
  first | refine rsa hG [] [0] fun K hK => ?_ | refine rna hG [] [0] fun K hK => ?_
  repeat first | ((with_reducible refine shN ?_); refine sL ?_) | ((with_reducible refine shG ?_); refine sG ?_)
  refine Eq.mpr evalL_nil (hK _ ?_)
  clear hK K
  simp only [evU, St.keep, List.map_cons, look, reduceIte, Nat.reduceEqDiff]
  try show AWP _ _ _ _ _
  repeat refine AWP.nest ?_
  first | refine rsa hG [] [0, 3] fun K hK => ?_ | refine rna hG [] [0, 3] fun K hK => ?_
  repeat first | ((with_reducible refine shN ?_); refine sL ?_) | ((with_reducible refine shG ?_); refine sG ?_)
  refine Eq.mpr evalL_nil (hK _ ?_)
  clear hK K
  simp only [evU, St.keep, List.map_cons, look, reduceIte, Nat.reduceEqDiff]
  try show AWP _ _ _ _ _
  repeat refine AWP.nest ?_
  first | refine rsa hG [] [0, 3, 12, 13, 14] fun K hK => ?_ | refine rna hG [] [0, 3, 12, 13, 14] fun K hK => ?_
  repeat first | ((with_reducible refine shN ?_); refine sL ?_) | ((with_reducible refine shG ?_); refine sG ?_)
  refine Eq.mpr evalL_nil (hK _ ?_)
  clear hK K
  simp only [evU, St.keep, List.map_cons, look, reduceIte, Nat.reduceEqDiff]
  try show AWP _ _ _ _ _
  refine AWP.adopt 3 150 3 (by decide) rfl ?_
  refine AWP.keep [0, 3, 12, 13, 14] ?_
  simp only [St.keep, List.map_cons, List.map_nil, look, reduceIte, Nat.reduceEqDiff]
  simp only [St.adopt, List.nil_append, List.length_nil]
  repeat refine AWP.nest ?_
  first | refine AWP.seq (AWP.block ?_) | refine AWP.block ?_
  refine AWP.loop (fun k st => ∃ (i : Nat) (lb : Bool), i ≤ l.length ∧ k = l.length - i ∧ st = ⟨[(0, .d false (.sl 2 (prs9 l))), (3, .own 0 (runsQ l i).length), (12, .d false (.sl 2 (prs9 l))), (13, .d true (.v (.int .i64 (l.length : Int)))), (14, .d true (.v (.int .i64 (i : Int))))], [some (.row 150 3 (runsQ l i).length lb (tris (runsQ l i)))]⟩) (l.length) ?_ ?_
  · exact ⟨0, true, Nat.zero_le _, rfl, rfl⟩
  rintro k st ⟨i, lb, hi, hk, rfl⟩
  obtain ⟨ho1, ho2, ho3, ho4⟩ := runsQ_ok hr hp hi
  have ho5 := runsQ_len l i
  repeat refine AWP.nest ?_
  first | refine rsa hG [] [0, 3, 12, 13, 14, 15] fun K hK => ?_ | refine rna hG [] [0, 3, 12, 13, 14, 15] fun K hK => ?_
  repeat first | ((with_reducible refine shN ?_); refine sL ?_) | ((with_reducible refine shG ?_); refine sG ?_)
  refine Eq.mpr evalL_nil (hK _ ?_)
  clear hK K
  simp only [evU, St.keep, List.map_cons, look, reduceIte, Nat.reduceEqDiff]
  try show AWP _ _ _ _ _
  first | refine AWP.seq (AWP.cond (b := _) rfl (fun hc => ?_) (fun hc => ?_)) | refine AWP.cond (b := _) rfl (fun hc => ?_) (fun hc => ?_)
  rotate_left
  · refine AWP.exit ?_
    show AWP _ _ _ _ _
    simp only [evC, Int.not_lt] at hc
    obtain rfl : i = l.length := by omega
    clear hk hi hc
    have hg := good_all hr hp hl
    repeat refine AWP.nest ?_
    first | refine rsa hG [] [3] fun K hK => ?_ | refine rna hG [] [3] fun K hK => ?_
    repeat first | ((with_reducible refine shN ?_); refine sL ?_) | ((with_reducible refine shG ?_); refine sG ?_)
    refine Eq.mpr evalL_nil (hK _ ?_)
    clear hK K
    simp only [evU, St.keep, List.map_cons, look, reduceIte, Nat.reduceEqDiff]
    try show AWP _ _ _ _ _
    repeat refine AWP.nest ?_
    first | refine rsa hG [] [3, 6] fun K hK => ?_ | refine rna hG [] [3, 6] fun K hK => ?_
    repeat first | ((with_reducible refine shN ?_); refine sL ?_) | ((with_reducible refine shG ?_); refine sG ?_)
    refine Eq.mpr evalL_nil (hK _ ?_)
    clear hK K
    simp only [evU, St.keep, List.map_cons, look, reduceIte, Nat.reduceEqDiff]
    try show AWP _ _ _ _ _
    refine AWP.frz 0 (by rw [hps]; decide) rfl ?_
    simp only [St.frz, Ob.frz, AV.frz, AV.frz1, Option.map_none, mkAgg, datas, Dat.nagg, List.map_cons, List.map_nil, Option.map_some, and_self, true_and, and_true, reduceIte, Nat.reduceEqDiff, List.set_cons_zero, List.set_cons_succ, Bool.and_true, Bool.true_and]
    rw [show runsQ l l.length ++ [(65535, 65535, 1, 0)] = allQ l from rfl]
    have hn0 := hg.2.2.1
    have hn1 := hg.2.2.2.1
    have hall : ∀ j, j < (allQ l).length → SqOK ((allQ l).getD j (0, 0, 0, 0)) := fun j hj => by
      rw [List.getD_eq_getElem?_getD, List.getElem?_eq_getElem hj]
      exact hg.1 _ (by simp)
    have hT : tabS (allQ l) = enc2 [4, 16 + 8 * ((allQ l).length : Int), 0, 2 * ((allQ l).length : Int)] ++ srch (allQ l).length ++ enc2 ((allQ l).map fun s : Sg => s.2.1) ++ [0, 0] ++ enc2 ((allQ l).map fun s : Sg => s.1) ++ enc2 ((allQ l).map fun s : Sg => s.2.2.1) ++ enc2 (List.replicate (allQ l).length 0) := by
      have h0 : enc2 [0] = [0, 0] := by decide
      unfold tabS wS srch
      rw [← h0]
      simp only [← enc2_append]
      congr 1
      simp
    have hrl : (runsQ l l.length).length + 1 = (allQ l).length := by simp [allQ]
    rw [hrl]
    clear hrl
    generalize allQ l = S at hn0 hn1 hall hT ⊢
    rw [hT]
    clear hT hg ho1 ho2 ho3 ho4 ho5 hr hp hl
    have hz : enc2 (List.replicate S.length 0) = List.replicate (2 * S.length) 0 := by
      have : ∀ n, enc2 (List.replicate n 0) = List.replicate (2 * n) 0 := by
        intro n
        induction n with
        | zero => rfl
        | succ n ih =>
          rw [show 2 * (n + 1) = 2 * n + 1 + 1 by omega, List.replicate_succ, List.replicate_succ, List.replicate_succ, enc2_cons, ih]
          rfl
      exact this _
    have hz2 : (2 * (S.length : Int)).toNat = 2 * S.length := by omega
    obtain ⟨H, hH⟩ : ∃ H, enc2 [4, 16 + 8 * (S.length : Int), 0, 2 * (S.length : Int)] ++ srch S.length = H := ⟨_, rfl⟩
    have hHb : Byt H := by rw [← hH]; exact (enc2_byt _).append (enc2_byt _)
    have hHl : H.length = 14 := by rw [← hH, List.length_append, enc2_len]; unfold srch; rw [enc2_len]; rfl
    have hsb : Byt (srch S.length) := enc2_byt _
    have hsl : (srch S.length).length ≤ 1099511627768 := by unfold srch; rw [enc2_len]; simp
    have hn2 : S.length ≤ 32767 := by omega
    repeat refine AWP.nest ?_
    first | refine rsa hG [] [3, 6, 7] fun K hK => ?_ | refine rna hG [] [3, 6, 7] fun K hK => ?_
    repeat first | ((with_reducible refine shN ?_); refine sL ?_) | ((with_reducible refine shG ?_); refine sG ?_)
    refine Eq.mpr evalL_nil (hK _ ?_)
    clear hK K
    simp only [evU, St.keep, List.map_cons, look, reduceIte, Nat.reduceEqDiff]
    try show AWP _ _ _ _ _
    refine AWP.tell 7 rfl (sub1_of (b := .d true (.sl 1 (ints .u8 (enc2 [4, 16 + 8 * (S.length : Int), 0, 2 * (S.length : Int)] ++ srch S.length)))) (by simp only [look, reduceIte, Nat.reduceEqDiff]; simp [enc2, b2])) ?_
    rw [hH]
    refine AWP.keep [3, 6, 7] ?_
    simp only [St.keep, List.map_cons, List.map_nil, look, reduceIte, Nat.reduceEqDiff]
    repeat refine AWP.nest ?_
    first | refine rsa hG [] [3, 6, 7, 89, 90, 91] fun K hK => ?_ | refine rna hG [] [3, 6, 7, 89, 90, 91] fun K hK => ?_
    repeat first | ((with_reducible refine shN ?_); refine sL ?_) | ((with_reducible refine shG ?_); refine sG ?_)
    refine Eq.mpr evalL_nil (hK _ ?_)
    clear hK K
    simp only [evU, St.keep, List.map_cons, look, reduceIte, Nat.reduceEqDiff]
    try show AWP _ _ _ _ _
    repeat refine AWP.nest ?_
    first | refine AWP.seq (AWP.block ?_) | refine AWP.block ?_
    refine AWP.loop (fun k st => ∃ (r : Nat) (X : List Int), r ≤ 4 ∧ k = 4 - r ∧ ((r = 0 ∧ H = X) ∨ (r = 1 ∧ (H ++ enc2 (S.map fun s : Sg => s.2.1)) = X) ∨ (r = 2 ∧ (H ++ enc2 (S.map fun s : Sg => s.2.1) ++ [0, 0]) = X) ∨ (r = 3 ∧ (H ++ enc2 (S.map fun s : Sg => s.2.1) ++ [0, 0] ++ enc2 (S.map fun s : Sg => s.1)) = X) ∨ (r = 4 ∧ (H ++ enc2 (S.map fun s : Sg => s.2.1) ++ [0, 0] ++ enc2 (S.map fun s : Sg => s.1) ++ enc2 (S.map fun s : Sg => s.2.2.1)) = X)) ∧ st = ⟨[(3, .d lb (.sl 3 (tris S))), (6, .d true (.v (.int .i64 (S.length : Int)))), (7, .d true (.sl 1 (ints .u8 X))), (89, .d true (.sl 1 (ints .i64 [1, 3, 0, 2]))), (90, .d true (.v (.int .i64 4))), (91, .d true (.v (.int .i64 (r : Int))))], [none]⟩) (4) ?_ ?_
    · exact ⟨0, H, by decide, rfl, .inl ⟨rfl, rfl⟩, rfl⟩
    rintro k st ⟨r, X, hr4, hk4, hX, rfl⟩
    have hnext : ∀ (r' : Nat) (X' : List Int), r' ≤ 4 → r < r' → ((r' = 0 ∧ H = X') ∨ (r' = 1 ∧ (H ++ enc2 (S.map fun s : Sg => s.2.1)) = X') ∨ (r' = 2 ∧ (H ++ enc2 (S.map fun s : Sg => s.2.1) ++ [0, 0]) = X') ∨ (r' = 3 ∧ (H ++ enc2 (S.map fun s : Sg => s.2.1) ++ [0, 0] ++ enc2 (S.map fun s : Sg => s.1)) = X') ∨ (r' = 4 ∧ (H ++ enc2 (S.map fun s : Sg => s.2.1) ++ [0, 0] ++ enc2 (S.map fun s : Sg => s.1) ++ enc2 (S.map fun s : Sg => s.2.2.1)) = X')) → ∃ m < k, ∃ (r : Nat) (X : List Int), r ≤ 4 ∧ m = 4 - r ∧ ((r = 0 ∧ H = X) ∨ (r = 1 ∧ (H ++ enc2 (S.map fun s : Sg => s.2.1)) = X) ∨ (r = 2 ∧ (H ++ enc2 (S.map fun s : Sg => s.2.1) ++ [0, 0]) = X) ∨ (r = 3 ∧ (H ++ enc2 (S.map fun s : Sg => s.2.1) ++ [0, 0] ++ enc2 (S.map fun s : Sg => s.1)) = X) ∨ (r = 4 ∧ (H ++ enc2 (S.map fun s : Sg => s.2.1) ++ [0, 0] ++ enc2 (S.map fun s : Sg => s.1) ++ enc2 (S.map fun s : Sg => s.2.2.1)) = X)) ∧ (⟨[(3, .d lb (.sl 3 (tris S))), (6, .d true (.v (.int .i64 (S.length : Int)))), (7, .d true (.sl 1 (ints .u8 X'))), (89, .d true (.sl 1 (ints .i64 [1, 3, 0, 2]))), (90, .d true (.v (.int .i64 4))), (91, .d true (.v (.int .i64 (r' : Int))))], [none]⟩ : St) = ⟨[(3, .d lb (.sl 3 (tris S))), (6, .d true (.v (.int .i64 (S.length : Int)))), (7, .d true (.sl 1 (ints .u8 X))), (89, .d true (.sl 1 (ints .i64 [1, 3, 0, 2]))), (90, .d true (.v (.int .i64 4))), (91, .d true (.v (.int .i64 (r : Int))))], [none]⟩ := fun r' X' h1 h2 h3 => ⟨4 - r', by omega, r', X', h1, rfl, h3, rfl⟩
    rcases hX with ⟨rfl, rfl⟩ | ⟨rfl, rfl⟩ | ⟨rfl, rfl⟩ | ⟨rfl, rfl⟩ | ⟨rfl, rfl⟩
    · change AWP _ _ _ _ ⟨[(3, .d lb (.sl 3 (tris S))), (6, .d true (.v (.int .i64 (S.length : Int)))), (7, .d true (.sl 1 (ints .u8 H))), (89, .d true (.sl 1 (ints .i64 [1, 3, 0, 2]))), (90, .d true (.v (.int .i64 4))), (91, .d true (.v (.int .i64 0)))], [none]⟩
      repeat refine AWP.nest ?_
      first | refine rsa hG [] [3, 6, 7, 89, 90, 91, 92] fun K hK => ?_ | refine rna hG [] [3, 6, 7, 89, 90, 91, 92] fun K hK => ?_
      repeat first | ((with_reducible refine shN ?_); refine sL ?_) | ((with_reducible refine shG ?_); refine sG ?_)
      refine Eq.mpr evalL_nil (hK _ ?_)
      clear hK K
      simp only [evU, St.keep, List.map_cons, look, reduceIte, Nat.reduceEqDiff]
      try show AWP _ _ _ _ _
      first | refine AWP.seq (AWP.cond (b := _) rfl (fun hc => ?_) (fun hc => ?_)) | refine AWP.cond (b := _) rfl (fun hc => ?_) (fun hc => ?_)
      rotate_left
      · exfalso
        revert hc
        simp
      refine AWP.skip ?_
      show AWP _ _ _ _ _
      clear hc
      repeat refine AWP.nest ?_
      first | refine AWP.seq (AWP.block ?_) | refine AWP.block ?_
      repeat refine AWP.nest ?_
      first | refine rsa hG [] [3, 6, 7, 9, 89, 90, 91] fun K hK => ?_ | refine rna hG [] [3, 6, 7, 9, 89, 90, 91] fun K hK => ?_
      repeat first | ((with_reducible refine shN ?_); refine sL ?_) | ((with_reducible refine shG ?_); refine sG ?_)
      refine Eq.mpr evalL_nil (hK _ ?_)
      clear hK K
      simp only [evU, St.keep, List.map_cons, look, reduceIte, Nat.reduceEqDiff]
      try show AWP _ _ _ _ _
      repeat refine AWP.nest ?_
      first | refine rsa hG [] [3, 6, 7, 9, 89, 90, 91, 96] fun K hK => ?_ | refine rna hG [] [3, 6, 7, 9, 89, 90, 91, 96] fun K hK => ?_
      repeat first | ((with_reducible refine shN ?_); refine sL ?_) | ((with_reducible refine shG ?_); refine sG ?_)
      refine Eq.mpr evalL_nil (hK _ ?_)
      clear hK K
      simp only [evU, St.keep, List.map_cons, look, reduceIte, Nat.reduceEqDiff]
      try show AWP _ _ _ _ _
      first | refine AWP.seq (AWP.cond (b := _) rfl (fun hc => ?_) (fun hc => ?_)) | refine AWP.cond (b := _) rfl (fun hc => ?_) (fun hc => ?_)
      · exfalso
        revert hc
        simp
      refine AWP.skip ?_
      show AWP _ _ _ _ _
      clear hc
      repeat refine AWP.nest ?_
      first | refine rsa hG [] [3, 6, 7, 9, 89, 90, 91, 101, 102, 103] fun K hK => ?_ | refine rna hG [] [3, 6, 7, 9, 89, 90, 91, 101, 102, 103] fun K hK => ?_
      repeat first | ((with_reducible refine shN ?_); refine sL ?_) | ((with_reducible refine shG ?_); refine sG ?_)
      refine Eq.mpr evalL_nil (hK _ ?_)
      clear hK K
      simp only [evU, St.keep, List.map_cons, look, reduceIte, Nat.reduceEqDiff]
      try show AWP _ _ _ _ _
      repeat refine AWP.nest ?_
      first | refine AWP.seq (AWP.block ?_) | refine AWP.block ?_
      refine AWP.loop (fun k2 st => ∃ (j : Nat), j ≤ S.length ∧ k2 = S.length - j ∧ st = ⟨[(3, .d lb (.sl 3 (tris S))), (6, .d true (.v (.int .i64 (S.length : Int)))), (7, .d true (.sl 1 (ints .u8 (H ++ enc2 ((S.take j).map fun s : Sg => s.2.1))))), (9, .d true (.v (.int .i64 1))), (89, .d true (.sl 1 (ints .i64 [1, 3, 0, 2]))), (90, .d true (.v (.int .i64 4))), (91, .d true (.v (.int .i64 0))), (101, .d lb (.sl 3 (tris S))), (102, .d true (.v (.int .i64 (S.length : Int)))), (103, .d true (.v (.int .i64 (j : Int))))], [none]⟩) (S.length) ?_ ?_
      · exact ⟨0, Nat.zero_le _, rfl, by rw [List.take_zero, List.map_nil, show enc2 [] = [] from rfl, List.append_nil]; rfl⟩
      rintro k2 st ⟨j, hj, hk2, rfl⟩
      repeat refine AWP.nest ?_
      first | refine rsa hG [] [3, 6, 7, 9, 89, 90, 91, 101, 102, 103, 104] fun K hK => ?_ | refine rna hG [] [3, 6, 7, 9, 89, 90, 91, 101, 102, 103, 104] fun K hK => ?_
      repeat first | ((with_reducible refine shN ?_); refine sL ?_) | ((with_reducible refine shG ?_); refine sG ?_)
      refine Eq.mpr evalL_nil (hK _ ?_)
      clear hK K
      simp only [evU, St.keep, List.map_cons, look, reduceIte, Nat.reduceEqDiff]
      try show AWP _ _ _ _ _
      first | refine AWP.seq (AWP.cond (b := _) rfl (fun hc => ?_) (fun hc => ?_)) | refine AWP.cond (b := _) rfl (fun hc => ?_) (fun hc => ?_)
      rotate_left
      · refine AWP.exit ?_
        show AWP _ _ _ _ _
        simp only [evC, Int.not_lt] at hc
        obtain rfl : j = S.length := by omega
        rw [List.take_length]
        repeat refine AWP.nest ?_
        first | refine rsa hG [] [3, 6, 7, 89, 90, 91] fun K hK => ?_ | refine rna hG [] [3, 6, 7, 89, 90, 91] fun K hK => ?_
        repeat first | ((with_reducible refine shN ?_); refine sL ?_) | ((with_reducible refine shG ?_); refine sG ?_)
        refine Eq.mpr evalL_nil (hK _ ?_)
        clear hK K
        simp only [evU, St.keep, List.map_cons, look, reduceIte, Nat.reduceEqDiff]
        try show AWP _ _ _ _ _
        exact hnext 1 _ (by decide) (by decide) (.inr (.inl ⟨rfl, rfl⟩))
      simp only [evC, Int.not_lt] at hc
      refine AWP.skip ?_
      show AWP _ _ _ _ _
      have hj2 := hc
      clear hc
      have hs := hall _ hj2
      have hsn : enc2 ((S.take (j + 1)).map fun s : Sg => s.2.1) = enc2 ((S.take j).map fun s : Sg => s.2.1) ++ b2 ((fun s : Sg => s.2.1) (S.getD j (0, 0, 0, 0))) := by
        rw [take_snoc' (0, 0, 0, 0) hj2, List.map_append, enc2_append]
        simp [enc2]
      have hPb : Byt (H ++ enc2 ((S.take j).map fun s : Sg => s.2.1)) := by
        repeat first | exact hHb | exact enc2_byt _ | exact byt00 | refine Byt.append ?_ ?_
      have hPl : (H ++ enc2 ((S.take j).map fun s : Sg => s.2.1)).length ≤ 1000000 := by
        simp only [List.length_append, enc2_len, List.length_map, List.length_take, List.length_cons, List.length_nil, hHl]
        omega
      repeat refine AWP.nest ?_
      first | refine AWP.seq (AWP.block ?_) | refine AWP.block ?_
      repeat refine AWP.nest ?_
      first | refine rsa hG [] [3, 6, 7, 9, 11, 89, 90, 91, 101, 102, 103] fun K hK => ?_ | refine rna hG [] [3, 6, 7, 9, 11, 89, 90, 91, 101, 102, 103] fun K hK => ?_
      repeat first | ((with_reducible refine shN ?_); refine sL ?_) | ((with_reducible refine shG ?_); refine sG ?_)
      refine Eq.mpr evalL_nil (hK _ ?_)
      clear hK K
      simp only [evU, St.keep, List.map_cons, look, reduceIte, Nat.reduceEqDiff]
      try show AWP _ _ _ _ _
      generalize S.getD j (0, 0, 0, 0) = s at hs hsn ⊢
      unfold SqOK at hs
      generalize hPP : H ++ enc2 ((S.take j).map fun s : Sg => s.2.1) = PP at hPb hPl ⊢
      repeat refine AWP.nest ?_
      first | refine rsa hG [] [3, 6, 7, 9, 89, 90, 91, 101, 102, 103] fun K hK => ?_ | refine rna hG [] [3, 6, 7, 9, 89, 90, 91, 101, 102, 103] fun K hK => ?_
      repeat first | ((with_reducible refine shN ?_); refine sL ?_) | ((with_reducible refine shG ?_); refine sG ?_)
      refine Eq.mpr evalL_nil (hK _ ?_)
      clear hK K
      simp only [evU, St.keep, List.map_cons, look, reduceIte, Nat.reduceEqDiff]
      try show AWP _ _ _ _ _
      refine AWP.trunc 1 (by rw [hps]; decide) rfl ?_
      simp only [St.trunc, List.take_zero, List.take_succ_cons]
      repeat refine AWP.nest ?_
      first | refine rsa hG [] [3, 6, 7, 9, 89, 90, 91, 101, 102, 103] fun K hK => ?_ | refine rna hG [] [3, 6, 7, 9, 89, 90, 91, 101, 102, 103] fun K hK => ?_
      repeat first | ((with_reducible refine shN ?_); refine sL ?_) | ((with_reducible refine shG ?_); refine sG ?_)
      refine Eq.mpr evalL_nil (hK _ ?_)
      clear hK K
      simp only [evU, St.keep, List.map_cons, look, reduceIte, Nat.reduceEqDiff]
      try show AWP _ _ _ _ _
      refine ⟨S.length - (j + 1), by omega, j + 1, by omega, rfl, ?_⟩
      rw [hsn, ← List.append_assoc, hPP]
      rfl
    · change AWP _ _ _ _ ⟨[(3, .d lb (.sl 3 (tris S))), (6, .d true (.v (.int .i64 (S.length : Int)))), (7, .d true (.sl 1 (ints .u8 (H ++ enc2 (S.map fun s : Sg => s.2.1))))), (89, .d true (.sl 1 (ints .i64 [1, 3, 0, 2]))), (90, .d true (.v (.int .i64 4))), (91, .d true (.v (.int .i64 1)))], [none]⟩
      repeat refine AWP.nest ?_
      first | refine rsa hG [] [3, 6, 7, 89, 90, 91, 92] fun K hK => ?_ | refine rna hG [] [3, 6, 7, 89, 90, 91, 92] fun K hK => ?_
      repeat first | ((with_reducible refine shN ?_); refine sL ?_) | ((with_reducible refine shG ?_); refine sG ?_)
      refine Eq.mpr evalL_nil (hK _ ?_)
      clear hK K
      simp only [evU, St.keep, List.map_cons, look, reduceIte, Nat.reduceEqDiff]
      try show AWP _ _ _ _ _
      first | refine AWP.seq (AWP.cond (b := _) rfl (fun hc => ?_) (fun hc => ?_)) | refine AWP.cond (b := _) rfl (fun hc => ?_) (fun hc => ?_)
      rotate_left
      · exfalso
        revert hc
        simp
      refine AWP.skip ?_
      show AWP _ _ _ _ _
      clear hc
      repeat refine AWP.nest ?_
      first | refine AWP.seq (AWP.block ?_) | refine AWP.block ?_
      repeat refine AWP.nest ?_
      first | refine rsa hG [] [3, 6, 7, 9, 89, 90, 91] fun K hK => ?_ | refine rna hG [] [3, 6, 7, 9, 89, 90, 91] fun K hK => ?_
      repeat first | ((with_reducible refine shN ?_); refine sL ?_) | ((with_reducible refine shG ?_); refine sG ?_)
      refine Eq.mpr evalL_nil (hK _ ?_)
      clear hK K
      simp only [evU, St.keep, List.map_cons, look, reduceIte, Nat.reduceEqDiff]
      try show AWP _ _ _ _ _
      repeat refine AWP.nest ?_
      first | refine rsa hG [] [3, 6, 7, 9, 89, 90, 91, 96] fun K hK => ?_ | refine rna hG [] [3, 6, 7, 9, 89, 90, 91, 96] fun K hK => ?_
      repeat first | ((with_reducible refine shN ?_); refine sL ?_) | ((with_reducible refine shG ?_); refine sG ?_)
      refine Eq.mpr evalL_nil (hK _ ?_)
      clear hK K
      simp only [evU, St.keep, List.map_cons, look, reduceIte, Nat.reduceEqDiff]
      try show AWP _ _ _ _ _
      first | refine AWP.seq (AWP.cond (b := _) rfl (fun hc => ?_) (fun hc => ?_)) | refine AWP.cond (b := _) rfl (fun hc => ?_) (fun hc => ?_)
      · have hPb : Byt (H ++ enc2 (S.map fun s : Sg => s.2.1)) := by
          repeat first | exact hHb | exact enc2_byt _ | exact byt00 | refine Byt.append ?_ ?_
        have hPl : (H ++ enc2 (S.map fun s : Sg => s.2.1)).length ≤ 1000000 := by
          simp only [List.length_append, enc2_len, List.length_map, List.length_cons, List.length_nil, hHl]
          omega
        generalize hPP : (H ++ enc2 (S.map fun s : Sg => s.2.1)) = PP at hPb hPl ⊢
        repeat refine AWP.nest ?_
        first | refine rsa hG [] [3, 6, 7, 89, 90, 91] fun K hK => ?_ | refine rna hG [] [3, 6, 7, 89, 90, 91] fun K hK => ?_
        repeat first | ((with_reducible refine shN ?_); refine sL ?_) | ((with_reducible refine shG ?_); refine sG ?_)
        refine Eq.mpr evalL_nil (hK _ ?_)
        clear hK K
        simp only [evU, St.keep, List.map_cons, look, reduceIte, Nat.reduceEqDiff]
        try show AWP _ _ _ _ _
        refine AWP.exit ?_
        show AWP _ _ _ _ _
        repeat refine AWP.nest ?_
        first | refine rsa hG [] [3, 6, 7, 89, 90, 91] fun K hK => ?_ | refine rna hG [] [3, 6, 7, 89, 90, 91] fun K hK => ?_
        repeat first | ((with_reducible refine shN ?_); refine sL ?_) | ((with_reducible refine shG ?_); refine sG ?_)
        refine Eq.mpr evalL_nil (hK _ ?_)
        clear hK K
        simp only [evU, St.keep, List.map_cons, look, reduceIte, Nat.reduceEqDiff]
        try show AWP _ _ _ _ _
        rw [← hPP]
        exact hnext 2 _ (by decide) (by decide) (.inr (.inr (.inl ⟨rfl, rfl⟩)))
      · exfalso
        revert hc
        simp
    · change AWP _ _ _ _ ⟨[(3, .d lb (.sl 3 (tris S))), (6, .d true (.v (.int .i64 (S.length : Int)))), (7, .d true (.sl 1 (ints .u8 (H ++ enc2 (S.map fun s : Sg => s.2.1) ++ [0, 0])))), (89, .d true (.sl 1 (ints .i64 [1, 3, 0, 2]))), (90, .d true (.v (.int .i64 4))), (91, .d true (.v (.int .i64 2)))], [none]⟩
      repeat refine AWP.nest ?_
      first | refine rsa hG [] [3, 6, 7, 89, 90, 91, 92] fun K hK => ?_ | refine rna hG [] [3, 6, 7, 89, 90, 91, 92] fun K hK => ?_
      repeat first | ((with_reducible refine shN ?_); refine sL ?_) | ((with_reducible refine shG ?_); refine sG ?_)
      refine Eq.mpr evalL_nil (hK _ ?_)
      clear hK K
      simp only [evU, St.keep, List.map_cons, look, reduceIte, Nat.reduceEqDiff]
      try show AWP _ _ _ _ _
      first | refine AWP.seq (AWP.cond (b := _) rfl (fun hc => ?_) (fun hc => ?_)) | refine AWP.cond (b := _) rfl (fun hc => ?_) (fun hc => ?_)
      rotate_left
      · exfalso
        revert hc
        simp
      refine AWP.skip ?_
      show AWP _ _ _ _ _
      clear hc
      repeat refine AWP.nest ?_
      first | refine AWP.seq (AWP.block ?_) | refine AWP.block ?_
      repeat refine AWP.nest ?_
      first | refine rsa hG [] [3, 6, 7, 9, 89, 90, 91] fun K hK => ?_ | refine rna hG [] [3, 6, 7, 9, 89, 90, 91] fun K hK => ?_
      repeat first | ((with_reducible refine shN ?_); refine sL ?_) | ((with_reducible refine shG ?_); refine sG ?_)
      refine Eq.mpr evalL_nil (hK _ ?_)
      clear hK K
      simp only [evU, St.keep, List.map_cons, look, reduceIte, Nat.reduceEqDiff]
      try show AWP _ _ _ _ _
      repeat refine AWP.nest ?_
      first | refine rsa hG [] [3, 6, 7, 9, 89, 90, 91, 96] fun K hK => ?_ | refine rna hG [] [3, 6, 7, 9, 89, 90, 91, 96] fun K hK => ?_
      repeat first | ((with_reducible refine shN ?_); refine sL ?_) | ((with_reducible refine shG ?_); refine sG ?_)
      refine Eq.mpr evalL_nil (hK _ ?_)
      clear hK K
      simp only [evU, St.keep, List.map_cons, look, reduceIte, Nat.reduceEqDiff]
      try show AWP _ _ _ _ _
      first | refine AWP.seq (AWP.cond (b := _) rfl (fun hc => ?_) (fun hc => ?_)) | refine AWP.cond (b := _) rfl (fun hc => ?_) (fun hc => ?_)
      · exfalso
        revert hc
        simp
      refine AWP.skip ?_
      show AWP _ _ _ _ _
      clear hc
      repeat refine AWP.nest ?_
      first | refine rsa hG [] [3, 6, 7, 9, 89, 90, 91, 101, 102, 103] fun K hK => ?_ | refine rna hG [] [3, 6, 7, 9, 89, 90, 91, 101, 102, 103] fun K hK => ?_
      repeat first | ((with_reducible refine shN ?_); refine sL ?_) | ((with_reducible refine shG ?_); refine sG ?_)
      refine Eq.mpr evalL_nil (hK _ ?_)
      clear hK K
      simp only [evU, St.keep, List.map_cons, look, reduceIte, Nat.reduceEqDiff]
      try show AWP _ _ _ _ _
      repeat refine AWP.nest ?_
      first | refine AWP.seq (AWP.block ?_) | refine AWP.block ?_
      refine AWP.loop (fun k2 st => ∃ (j : Nat), j ≤ S.length ∧ k2 = S.length - j ∧ st = ⟨[(3, .d lb (.sl 3 (tris S))), (6, .d true (.v (.int .i64 (S.length : Int)))), (7, .d true (.sl 1 (ints .u8 ((H ++ enc2 (S.map fun s : Sg => s.2.1) ++ [0, 0]) ++ enc2 ((S.take j).map fun s : Sg => s.1))))), (9, .d true (.v (.int .i64 0))), (89, .d true (.sl 1 (ints .i64 [1, 3, 0, 2]))), (90, .d true (.v (.int .i64 4))), (91, .d true (.v (.int .i64 2))), (101, .d lb (.sl 3 (tris S))), (102, .d true (.v (.int .i64 (S.length : Int)))), (103, .d true (.v (.int .i64 (j : Int))))], [none]⟩) (S.length) ?_ ?_
      · exact ⟨0, Nat.zero_le _, rfl, by rw [List.take_zero, List.map_nil, show enc2 [] = [] from rfl, List.append_nil]; rfl⟩
      rintro k2 st ⟨j, hj, hk2, rfl⟩
      repeat refine AWP.nest ?_
      first | refine rsa hG [] [3, 6, 7, 9, 89, 90, 91, 101, 102, 103, 104] fun K hK => ?_ | refine rna hG [] [3, 6, 7, 9, 89, 90, 91, 101, 102, 103, 104] fun K hK => ?_
      repeat first | ((with_reducible refine shN ?_); refine sL ?_) | ((with_reducible refine shG ?_); refine sG ?_)
      refine Eq.mpr evalL_nil (hK _ ?_)
      clear hK K
      simp only [evU, St.keep, List.map_cons, look, reduceIte, Nat.reduceEqDiff]
      try show AWP _ _ _ _ _
      first | refine AWP.seq (AWP.cond (b := _) rfl (fun hc => ?_) (fun hc => ?_)) | refine AWP.cond (b := _) rfl (fun hc => ?_) (fun hc => ?_)
      rotate_left
      · refine AWP.exit ?_
        show AWP _ _ _ _ _
        simp only [evC, Int.not_lt] at hc
        obtain rfl : j = S.length := by omega
        rw [List.take_length]
        repeat refine AWP.nest ?_
        first | refine rsa hG [] [3, 6, 7, 89, 90, 91] fun K hK => ?_ | refine rna hG [] [3, 6, 7, 89, 90, 91] fun K hK => ?_
        repeat first | ((with_reducible refine shN ?_); refine sL ?_) | ((with_reducible refine shG ?_); refine sG ?_)
        refine Eq.mpr evalL_nil (hK _ ?_)
        clear hK K
        simp only [evU, St.keep, List.map_cons, look, reduceIte, Nat.reduceEqDiff]
        try show AWP _ _ _ _ _
        exact hnext 3 _ (by decide) (by decide) (.inr (.inr (.inr (.inl ⟨rfl, rfl⟩))))
      simp only [evC, Int.not_lt] at hc
      refine AWP.skip ?_
      show AWP _ _ _ _ _
      have hj2 := hc
      clear hc
      have hs := hall _ hj2
      have hsn : enc2 ((S.take (j + 1)).map fun s : Sg => s.1) = enc2 ((S.take j).map fun s : Sg => s.1) ++ b2 ((fun s : Sg => s.1) (S.getD j (0, 0, 0, 0))) := by
        rw [take_snoc' (0, 0, 0, 0) hj2, List.map_append, enc2_append]
        simp [enc2]
      have hPb : Byt ((H ++ enc2 (S.map fun s : Sg => s.2.1) ++ [0, 0]) ++ enc2 ((S.take j).map fun s : Sg => s.1)) := by
        repeat first | exact hHb | exact enc2_byt _ | exact byt00 | refine Byt.append ?_ ?_
      have hPl : ((H ++ enc2 (S.map fun s : Sg => s.2.1) ++ [0, 0]) ++ enc2 ((S.take j).map fun s : Sg => s.1)).length ≤ 1000000 := by
        simp only [List.length_append, enc2_len, List.length_map, List.length_take, List.length_cons, List.length_nil, hHl]
        omega
      repeat refine AWP.nest ?_
      first | refine AWP.seq (AWP.block ?_) | refine AWP.block ?_
      repeat refine AWP.nest ?_
      first | refine rsa hG [] [3, 6, 7, 9, 11, 89, 90, 91, 101, 102, 103] fun K hK => ?_ | refine rna hG [] [3, 6, 7, 9, 11, 89, 90, 91, 101, 102, 103] fun K hK => ?_
      repeat first | ((with_reducible refine shN ?_); refine sL ?_) | ((with_reducible refine shG ?_); refine sG ?_)
      refine Eq.mpr evalL_nil (hK _ ?_)
      clear hK K
      simp only [evU, St.keep, List.map_cons, look, reduceIte, Nat.reduceEqDiff]
      try show AWP _ _ _ _ _
      generalize S.getD j (0, 0, 0, 0) = s at hs hsn ⊢
      unfold SqOK at hs
      generalize hPP : (H ++ enc2 (S.map fun s : Sg => s.2.1) ++ [0, 0]) ++ enc2 ((S.take j).map fun s : Sg => s.1) = PP at hPb hPl ⊢
      repeat refine AWP.nest ?_
      first | refine rsa hG [] [3, 6, 7, 9, 89, 90, 91, 101, 102, 103] fun K hK => ?_ | refine rna hG [] [3, 6, 7, 9, 89, 90, 91, 101, 102, 103] fun K hK => ?_
      repeat first | ((with_reducible refine shN ?_); refine sL ?_) | ((with_reducible refine shG ?_); refine sG ?_)
      refine Eq.mpr evalL_nil (hK _ ?_)
      clear hK K
      simp only [evU, St.keep, List.map_cons, look, reduceIte, Nat.reduceEqDiff]
      try show AWP _ _ _ _ _
      refine AWP.trunc 1 (by rw [hps]; decide) rfl ?_
      simp only [St.trunc, List.take_zero, List.take_succ_cons]
      repeat refine AWP.nest ?_
      first | refine rsa hG [] [3, 6, 7, 9, 89, 90, 91, 101, 102, 103] fun K hK => ?_ | refine rna hG [] [3, 6, 7, 9, 89, 90, 91, 101, 102, 103] fun K hK => ?_
      repeat first | ((with_reducible refine shN ?_); refine sL ?_) | ((with_reducible refine shG ?_); refine sG ?_)
      refine Eq.mpr evalL_nil (hK _ ?_)
      clear hK K
      simp only [evU, St.keep, List.map_cons, look, reduceIte, Nat.reduceEqDiff]
      try show AWP _ _ _ _ _
      refine ⟨S.length - (j + 1), by omega, j + 1, by omega, rfl, ?_⟩
      rw [hsn, ← List.append_assoc, hPP]
      rfl
    · change AWP _ _ _ _ ⟨[(3, .d lb (.sl 3 (tris S))), (6, .d true (.v (.int .i64 (S.length : Int)))), (7, .d true (.sl 1 (ints .u8 (H ++ enc2 (S.map fun s : Sg => s.2.1) ++ [0, 0] ++ enc2 (S.map fun s : Sg => s.1))))), (89, .d true (.sl 1 (ints .i64 [1, 3, 0, 2]))), (90, .d true (.v (.int .i64 4))), (91, .d true (.v (.int .i64 3)))], [none]⟩
      repeat refine AWP.nest ?_
      first | refine rsa hG [] [3, 6, 7, 89, 90, 91, 92] fun K hK => ?_ | refine rna hG [] [3, 6, 7, 89, 90, 91, 92] fun K hK => ?_
      repeat first | ((with_reducible refine shN ?_); refine sL ?_) | ((with_reducible refine shG ?_); refine sG ?_)
      refine Eq.mpr evalL_nil (hK _ ?_)
      clear hK K
      simp only [evU, St.keep, List.map_cons, look, reduceIte, Nat.reduceEqDiff]
      try show AWP _ _ _ _ _
      first | refine AWP.seq (AWP.cond (b := _) rfl (fun hc => ?_) (fun hc => ?_)) | refine AWP.cond (b := _) rfl (fun hc => ?_) (fun hc => ?_)
      rotate_left
      · exfalso
        revert hc
        simp
      refine AWP.skip ?_
      show AWP _ _ _ _ _
      clear hc
      repeat refine AWP.nest ?_
      first | refine AWP.seq (AWP.block ?_) | refine AWP.block ?_
      repeat refine AWP.nest ?_
      first | refine rsa hG [] [3, 6, 7, 9, 89, 90, 91] fun K hK => ?_ | refine rna hG [] [3, 6, 7, 9, 89, 90, 91] fun K hK => ?_
      repeat first | ((with_reducible refine shN ?_); refine sL ?_) | ((with_reducible refine shG ?_); refine sG ?_)
      refine Eq.mpr evalL_nil (hK _ ?_)
      clear hK K
      simp only [evU, St.keep, List.map_cons, look, reduceIte, Nat.reduceEqDiff]
      try show AWP _ _ _ _ _
      repeat refine AWP.nest ?_
      first | refine rsa hG [] [3, 6, 7, 9, 89, 90, 91, 96] fun K hK => ?_ | refine rna hG [] [3, 6, 7, 9, 89, 90, 91, 96] fun K hK => ?_
      repeat first | ((with_reducible refine shN ?_); refine sL ?_) | ((with_reducible refine shG ?_); refine sG ?_)
      refine Eq.mpr evalL_nil (hK _ ?_)
      clear hK K
      simp only [evU, St.keep, List.map_cons, look, reduceIte, Nat.reduceEqDiff]
      try show AWP _ _ _ _ _
      first | refine AWP.seq (AWP.cond (b := _) rfl (fun hc => ?_) (fun hc => ?_)) | refine AWP.cond (b := _) rfl (fun hc => ?_) (fun hc => ?_)
      · exfalso
        revert hc
        simp
      refine AWP.skip ?_
      show AWP _ _ _ _ _
      clear hc
      repeat refine AWP.nest ?_
      first | refine rsa hG [] [3, 6, 7, 9, 89, 90, 91, 101, 102, 103] fun K hK => ?_ | refine rna hG [] [3, 6, 7, 9, 89, 90, 91, 101, 102, 103] fun K hK => ?_
      repeat first | ((with_reducible refine shN ?_); refine sL ?_) | ((with_reducible refine shG ?_); refine sG ?_)
      refine Eq.mpr evalL_nil (hK _ ?_)
      clear hK K
      simp only [evU, St.keep, List.map_cons, look, reduceIte, Nat.reduceEqDiff]
      try show AWP _ _ _ _ _
      repeat refine AWP.nest ?_
      first | refine AWP.seq (AWP.block ?_) | refine AWP.block ?_
      refine AWP.loop (fun k2 st => ∃ (j : Nat), j ≤ S.length ∧ k2 = S.length - j ∧ st = ⟨[(3, .d lb (.sl 3 (tris S))), (6, .d true (.v (.int .i64 (S.length : Int)))), (7, .d true (.sl 1 (ints .u8 ((H ++ enc2 (S.map fun s : Sg => s.2.1) ++ [0, 0] ++ enc2 (S.map fun s : Sg => s.1)) ++ enc2 ((S.take j).map fun s : Sg => s.2.2.1))))), (9, .d true (.v (.int .i64 2))), (89, .d true (.sl 1 (ints .i64 [1, 3, 0, 2]))), (90, .d true (.v (.int .i64 4))), (91, .d true (.v (.int .i64 3))), (101, .d lb (.sl 3 (tris S))), (102, .d true (.v (.int .i64 (S.length : Int)))), (103, .d true (.v (.int .i64 (j : Int))))], [none]⟩) (S.length) ?_ ?_
      · exact ⟨0, Nat.zero_le _, rfl, by rw [List.take_zero, List.map_nil, show enc2 [] = [] from rfl, List.append_nil]; rfl⟩
      rintro k2 st ⟨j, hj, hk2, rfl⟩
      repeat refine AWP.nest ?_
      first | refine rsa hG [] [3, 6, 7, 9, 89, 90, 91, 101, 102, 103, 104] fun K hK => ?_ | refine rna hG [] [3, 6, 7, 9, 89, 90, 91, 101, 102, 103, 104] fun K hK => ?_
      repeat first | ((with_reducible refine shN ?_); refine sL ?_) | ((with_reducible refine shG ?_); refine sG ?_)
      refine Eq.mpr evalL_nil (hK _ ?_)
      clear hK K
      simp only [evU, St.keep, List.map_cons, look, reduceIte, Nat.reduceEqDiff]
      try show AWP _ _ _ _ _
      first | refine AWP.seq (AWP.cond (b := _) rfl (fun hc => ?_) (fun hc => ?_)) | refine AWP.cond (b := _) rfl (fun hc => ?_) (fun hc => ?_)
      rotate_left
      · refine AWP.exit ?_
        show AWP _ _ _ _ _
        simp only [evC, Int.not_lt] at hc
        obtain rfl : j = S.length := by omega
        rw [List.take_length]
        repeat refine AWP.nest ?_
        first | refine rsa hG [] [3, 6, 7, 89, 90, 91] fun K hK => ?_ | refine rna hG [] [3, 6, 7, 89, 90, 91] fun K hK => ?_
        repeat first | ((with_reducible refine shN ?_); refine sL ?_) | ((with_reducible refine shG ?_); refine sG ?_)
        refine Eq.mpr evalL_nil (hK _ ?_)
        clear hK K
        simp only [evU, St.keep, List.map_cons, look, reduceIte, Nat.reduceEqDiff]
        try show AWP _ _ _ _ _
        exact hnext 4 _ (by decide) (by decide) (.inr (.inr (.inr (.inr ⟨rfl, rfl⟩))))
      simp only [evC, Int.not_lt] at hc
      refine AWP.skip ?_
      show AWP _ _ _ _ _
      have hj2 := hc
      clear hc
      have hs := hall _ hj2
      have hsn : enc2 ((S.take (j + 1)).map fun s : Sg => s.2.2.1) = enc2 ((S.take j).map fun s : Sg => s.2.2.1) ++ b2 ((fun s : Sg => s.2.2.1) (S.getD j (0, 0, 0, 0))) := by
        rw [take_snoc' (0, 0, 0, 0) hj2, List.map_append, enc2_append]
        simp [enc2]
      have hPb : Byt ((H ++ enc2 (S.map fun s : Sg => s.2.1) ++ [0, 0] ++ enc2 (S.map fun s : Sg => s.1)) ++ enc2 ((S.take j).map fun s : Sg => s.2.2.1)) := by
        repeat first | exact hHb | exact enc2_byt _ | exact byt00 | refine Byt.append ?_ ?_
      have hPl : ((H ++ enc2 (S.map fun s : Sg => s.2.1) ++ [0, 0] ++ enc2 (S.map fun s : Sg => s.1)) ++ enc2 ((S.take j).map fun s : Sg => s.2.2.1)).length ≤ 1000000 := by
        simp only [List.length_append, enc2_len, List.length_map, List.length_take, List.length_cons, List.length_nil, hHl]
        omega
      repeat refine AWP.nest ?_
      first | refine AWP.seq (AWP.block ?_) | refine AWP.block ?_
      repeat refine AWP.nest ?_
      first | refine rsa hG [] [3, 6, 7, 9, 11, 89, 90, 91, 101, 102, 103] fun K hK => ?_ | refine rna hG [] [3, 6, 7, 9, 11, 89, 90, 91, 101, 102, 103] fun K hK => ?_
      repeat first | ((with_reducible refine shN ?_); refine sL ?_) | ((with_reducible refine shG ?_); refine sG ?_)
      refine Eq.mpr evalL_nil (hK _ ?_)
      clear hK K
      simp only [evU, St.keep, List.map_cons, look, reduceIte, Nat.reduceEqDiff]
      try show AWP _ _ _ _ _
      generalize S.getD j (0, 0, 0, 0) = s at hs hsn ⊢
      unfold SqOK at hs
      generalize hPP : (H ++ enc2 (S.map fun s : Sg => s.2.1) ++ [0, 0] ++ enc2 (S.map fun s : Sg => s.1)) ++ enc2 ((S.take j).map fun s : Sg => s.2.2.1) = PP at hPb hPl ⊢
      repeat refine AWP.nest ?_
      first | refine rsa hG [] [3, 6, 7, 9, 89, 90, 91, 101, 102, 103] fun K hK => ?_ | refine rna hG [] [3, 6, 7, 9, 89, 90, 91, 101, 102, 103] fun K hK => ?_
      repeat first | ((with_reducible refine shN ?_); refine sL ?_) | ((with_reducible refine shG ?_); refine sG ?_)
      refine Eq.mpr evalL_nil (hK _ ?_)
      clear hK K
      simp only [evU, St.keep, List.map_cons, look, reduceIte, Nat.reduceEqDiff]
      try show AWP _ _ _ _ _
      refine AWP.trunc 1 (by rw [hps]; decide) rfl ?_
      simp only [St.trunc, List.take_zero, List.take_succ_cons]
      repeat refine AWP.nest ?_
      first | refine rsa hG [] [3, 6, 7, 9, 89, 90, 91, 101, 102, 103] fun K hK => ?_ | refine rna hG [] [3, 6, 7, 9, 89, 90, 91, 101, 102, 103] fun K hK => ?_
      repeat first | ((with_reducible refine shN ?_); refine sL ?_) | ((with_reducible refine shG ?_); refine sG ?_)
      refine Eq.mpr evalL_nil (hK _ ?_)
      clear hK K
      simp only [evU, St.keep, List.map_cons, look, reduceIte, Nat.reduceEqDiff]
      try show AWP _ _ _ _ _
      refine ⟨S.length - (j + 1), by omega, j + 1, by omega, rfl, ?_⟩
      rw [hsn, ← List.append_assoc, hPP]
      rfl
    · change AWP _ _ _ _ ⟨[(3, .d lb (.sl 3 (tris S))), (6, .d true (.v (.int .i64 (S.length : Int)))), (7, .d true (.sl 1 (ints .u8 (H ++ enc2 (S.map fun s : Sg => s.2.1) ++ [0, 0] ++ enc2 (S.map fun s : Sg => s.1) ++ enc2 (S.map fun s : Sg => s.2.2.1))))), (89, .d true (.sl 1 (ints .i64 [1, 3, 0, 2]))), (90, .d true (.v (.int .i64 4))), (91, .d true (.v (.int .i64 4)))], [none]⟩
      repeat refine AWP.nest ?_
      first | refine rsa hG [] [3, 6, 7, 89, 90, 91, 92] fun K hK => ?_ | refine rna hG [] [3, 6, 7, 89, 90, 91, 92] fun K hK => ?_
      repeat first | ((with_reducible refine shN ?_); refine sL ?_) | ((with_reducible refine shG ?_); refine sG ?_)
      refine Eq.mpr evalL_nil (hK _ ?_)
      clear hK K
      simp only [evU, St.keep, List.map_cons, look, reduceIte, Nat.reduceEqDiff]
      try show AWP _ _ _ _ _
      first | refine AWP.seq (AWP.cond (b := _) rfl (fun hc => ?_) (fun hc => ?_)) | refine AWP.cond (b := _) rfl (fun hc => ?_) (fun hc => ?_)
      · exfalso
        revert hc
        simp
      refine AWP.exit ?_
      show AWP _ _ _ _ _
      have hPb : Byt (H ++ enc2 (S.map fun s : Sg => s.2.1) ++ [0, 0] ++ enc2 (S.map fun s : Sg => s.1) ++ enc2 (S.map fun s : Sg => s.2.2.1)) := by
        repeat first | exact hHb | exact enc2_byt _ | exact byt00 | refine Byt.append ?_ ?_
      have hPl : (H ++ enc2 (S.map fun s : Sg => s.2.1) ++ [0, 0] ++ enc2 (S.map fun s : Sg => s.1) ++ enc2 (S.map fun s : Sg => s.2.2.1)).length ≤ 1000000 := by
        simp only [List.length_append, enc2_len, List.length_map, List.length_cons, List.length_nil, hHl]
        omega
      generalize hPP : (H ++ enc2 (S.map fun s : Sg => s.2.1) ++ [0, 0] ++ enc2 (S.map fun s : Sg => s.1) ++ enc2 (S.map fun s : Sg => s.2.2.1)) = PP at hPb hPl ⊢
      rw [hz]
      have hzb : Byt (List.replicate (2 * S.length) (0 : Int)) := fun b hb => by
        have := (List.mem_replicate.1 hb).2
        omega
      have hzl : (List.replicate (2 * S.length) (0 : Int)).length = 2 * S.length := List.length_replicate
      repeat refine AWP.nest ?_
      have hxs := @hz2
      first | refine rsa hG [] [2] fun K hK => ?_ | refine rna hG [] [2] fun K hK => ?_
      repeat first | ((with_reducible refine shN ?_); refine sL ?_) | ((with_reducible refine shG ?_); refine sG ?_)
      refine Eq.mpr evalL_nil (hK _ ?_)
      clear hK K hxs
      simp only [evU, St.keep, List.map_cons, look, reduceIte, Nat.reduceEqDiff]
      try show AWP _ _ _ _ _
      refine AWP.ret ?_
      refine ⟨.inl rfl, ⟨⟨_, rfl, ?_⟩, fun ob hob => by cases hob⟩⟩
      simp only [look, reduceIte, Nat.reduceEqDiff]
      exact sub1_of rfl
  simp only [evC, Int.not_lt] at hc
  refine AWP.skip ?_
  show AWP _ _ _ _ _
  have hi' := hc
  clear hc
  have hx := rises_at hr hi'
  have hy := hp i
  have hy1 := hp (i - 1)
  have hx1 : 0 < i → 0 ≤ cd l (i - 1) ∧ cd l (i - 1) ≤ 65534 := fun h => by
    have := rises_at hr (show i - 1 < l.length by omega)
    exact ⟨this.1, this.2.1⟩
  have ei : 0 < i → ((i : Int) - 1).toNat = i - 1 := fun h => by omega
  have hy2 : -2147483648 ≤ (l.getD ((i : Int) - 1).toNat (0, 0)).1 ∧ (l.getD ((i : Int) - 1).toNat (0, 0)).1 ≤ 2147483647 ∧ 0 ≤ (l.getD ((i : Int) - 1).toNat (0, 0)).2 ∧ (l.getD ((i : Int) - 1).toNat (0, 0)).2 ≤ 65535 := hp _
  have hy3 : 0 ≤ (l.getD i (0, 0)).1 ∧ (l.getD i (0, 0)).1 ≤ 65534 := ⟨hx.1, hx.2.1⟩
  have hy4 : 0 ≤ (l.getD i (0, 0)).2 ∧ (l.getD i (0, 0)).2 ≤ 65535 := hy.2.2
  repeat refine AWP.nest ?_
  first | refine AWP.seq (AWP.block ?_) | refine AWP.block ?_
  repeat refine AWP.nest ?_
  first | refine rsa hG [] [0, 3, 4, 5, 12, 13, 14] fun K hK => ?_ | refine rna hG [] [0, 3, 4, 5, 12, 13, 14] fun K hK => ?_
  repeat first | ((with_reducible refine shN ?_); refine sL ?_) | ((with_reducible refine shG ?_); refine sG ?_)
  refine Eq.mpr evalL_nil (hK _ ?_)
  clear hK K
  simp only [evU, St.keep, List.map_cons, look, reduceIte, Nat.reduceEqDiff]
  try show AWP _ _ _ _ _
  repeat refine AWP.nest ?_
  first | refine rda hG [] [0, 3, 5, 12, 13, 14, 45] Try.mixed fun K hK => ?_ | refine dna hG [] [0, 3, 5, 12, 13, 14, 45] Try.mixed fun K hK => ?_
  repeat first | ((with_reducible refine shD ?_); refine sD ?_) | ((with_reducible refine shDG ?_); refine sDG ?_)
  refine evalD_done (by kernel_rfl) (hK _ ?_)
  clear hK K
  simp only [evU, St.keep, List.map_cons, look, reduceIte, Nat.reduceEqDiff]
  try show AWP _ _ _ _ _
  have hkey : (((i : Int) > 0 ∧ (l.getD i (0, 0)).1 = (l.getD ((i : Int) - 1).toNat (0, 0)).1 + 1) ∧ (l.getD i (0, 0)).2 = ((l.getD ((i : Int) - 1).toNat (0, 0)).2 + 1) % 65536) ↔ (0 < i ∧ cd l i = cd l (i - 1) + 1 ∧ gl l i = (gl l (i - 1) + 1) % 65536) := by
    change (((i : Int) > 0 ∧ cd l i = cd l ((i : Int) - 1).toNat + 1) ∧ gl l i = (gl l ((i : Int) - 1).toNat + 1) % 65536) ↔ _
    by_cases h0 : 0 < i
    · rw [ei h0]
      constructor
      · rintro ⟨⟨_, h2⟩, h3⟩; exact ⟨h0, h2, h3⟩
      · rintro ⟨_, h2, h3⟩; exact ⟨⟨by omega, h2⟩, h3⟩
    · constructor
      · rintro ⟨⟨h2, _⟩, _⟩; omega
      · rintro ⟨h2, _⟩; omega
  repeat refine AWP.nest ?_
  first | refine AWP.seq (AWP.cond (b := _) rfl (fun hc => ?_) (fun hc => ?_)) | refine AWP.cond (b := _) rfl (fun hc => ?_) (fun hc => ?_)
  all_goals try simp only [evC] at hc
  · have hk2 := hkey.1 hc
    have hpos := ho3 hk2.1
    have en : (((runsQ l i).length : Int) - 1).toNat = (runsQ l i).length - 1 := by omega
    have es : runsQ l (i + 1) = (runsQ l i).set ((runsQ l i).length - 1) (((runsQ l i).getD ((runsQ l i).length - 1) (0, 0, 0, 0)).1, (l.getD i (0, 0)).1, ((runsQ l i).getD ((runsQ l i).length - 1) (0, 0, 0, 0)).2.2.1, ((runsQ l i).getD ((runsQ l i).length - 1) (0, 0, 0, 0)).2.2.2) := if_pos hk2
    repeat refine AWP.nest ?_
    have hxs := @en
    first | refine rda hG [] [0, 3, 12, 13, 14] Try.mixed fun K hK => ?_ | refine dna hG [] [0, 3, 12, 13, 14] Try.mixed fun K hK => ?_
    repeat first | ((with_reducible refine shD ?_); refine sD ?_) | ((with_reducible refine shDG ?_); refine sDG ?_)
    refine evalD_done (by kernel_rfl) (hK _ ?_)
    clear hK K hxs
    simp only [evU, St.keep, List.map_cons, look, reduceIte, Nat.reduceEqDiff]
    try show AWP _ _ _ _ _
    refine AWP.exit ?_
    show AWP _ _ _ _ _
    refine AWP.trunc 1 (by rw [hps]; decide) rfl ?_
    simp only [St.trunc, List.take_zero, List.take_succ_cons]
    repeat refine AWP.nest ?_
    first | refine rsa hG [] [0, 3, 12, 13, 14] fun K hK => ?_ | refine rna hG [] [0, 3, 12, 13, 14] fun K hK => ?_
    repeat first | ((with_reducible refine shN ?_); refine sL ?_) | ((with_reducible refine shG ?_); refine sG ?_)
    refine Eq.mpr evalL_nil (hK _ ?_)
    clear hK K
    simp only [evU, St.keep, List.map_cons, look, reduceIte, Nat.reduceEqDiff]
    try show AWP _ _ _ _ _
    refine ⟨l.length - (i + 1), by omega, i + 1, false, by omega, rfl, ?_⟩
    rw [es, List.length_set, tris_set4 (e := ((runsQ l i).getD ((runsQ l i).length - 1) (0, 0, 0, 0)).2.2.2)]
    rfl
  · have hk2 : ¬(0 < i ∧ cd l i = cd l (i - 1) + 1 ∧ gl l i = (gl l (i - 1) + 1) % 65536) := fun h => by
      have := hkey.2 h
      rcases hc with (h1 | h1) | h1
      · exact h1 this.1.1
      · exact h1 this.1.2
      · exact h1 this.2
    have es : runsQ l (i + 1) = runsQ l i ++ [((l.getD i (0, 0)).1, (l.getD i (0, 0)).1, ((l.getD i (0, 0)).2 - (l.getD i (0, 0)).1) % 65536, 0)] := if_neg hk2
    have e65 : ((l.getD i (0, 0)).2 - (l.getD i (0, 0)).1 + 65536) % 65536 = ((l.getD i (0, 0)).2 - (l.getD i (0, 0)).1) % 65536 := by omega
    refine AWP.skip ?_
    show AWP _ _ _ _ _
    repeat refine AWP.nest ?_
    have hxs := @e65
    first | refine rsa hG [] [0, 3, 12, 13, 14] fun K hK => ?_ | refine rna hG [] [0, 3, 12, 13, 14] fun K hK => ?_
    repeat first | ((with_reducible refine shN ?_); refine sL ?_) | ((with_reducible refine shG ?_); refine sG ?_)
    refine Eq.mpr evalL_nil (hK _ ?_)
    clear hK K hxs
    simp only [evU, St.keep, List.map_cons, look, reduceIte, Nat.reduceEqDiff]
    try show AWP _ _ _ _ _
    refine AWP.trunc 1 (by rw [hps]; decide) rfl ?_
    simp only [St.trunc, List.take_zero, List.take_succ_cons]
    repeat refine AWP.nest ?_
    first | refine rsa hG [] [0, 3, 12, 13, 14] fun K hK => ?_ | refine rna hG [] [0, 3, 12, 13, 14] fun K hK => ?_
    repeat first | ((with_reducible refine shN ?_); refine sL ?_) | ((with_reducible refine shG ?_); refine sG ?_)
    refine Eq.mpr evalL_nil (hK _ ?_)
    clear hK K
    simp only [evU, St.keep, List.map_cons, look, reduceIte, Nat.reduceEqDiff]
    try show AWP _ _ _ _ _
    refine ⟨l.length - (i + 1), by omega, i + 1, lb, by omega, rfl, ?_⟩
    rw [es, List.length_append]
    rfl
def e53 : List AV → Option Ob → Option Res := fun args i => match args, i with
  | [.d false (.sl 2 xs)], none => some ⟨xs = prs9 (toPrs xs) ∧ PrOK (toPrs xs) ∧ risesB (toPrs xs) 65534 = true ∧ (toPrs xs).length ≤ 7000, .d true (.sl 1 (ints .u8 (tabS (allQ (toPrs xs))))), none⟩
  | _, _ => none
def F92 : FT := F64.upd 53 e53
theorem F92_ok : FOK Try.prog F92 := FOK.upd F64_ok Try.func53 (by kernel_rfl) rfl fun args i R h => by
  unfold e53 at h
  split at h
  · rename_i xs
    cases h
    refine Spec.pre fun h => ?_
    have := s53 (toPrs xs) h.2.1 h.2.2.1 h.2.2.2
    rwa [← h.1] at this
  · cases h
end Go.AM

