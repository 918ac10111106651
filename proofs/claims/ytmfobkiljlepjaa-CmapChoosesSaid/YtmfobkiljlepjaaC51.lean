/- AM: cmap.Parse; Map's methods. -/
import Derived.Test.YtmfobkiljlepjaaC50
import Derived.Test.YtmfobkiljlepjaaG8
import Derived.Test.YtmfobkiljlepjaaG4
set_option maxRecDepth 100000
set_option maxHeartbeats 8000000
set_option linter.unusedSimpArgs false
set_option linter.unusedVariables false
namespace Go.AM
open Go Go.Proofs

/-- Kinds as the program has them. -/
def kd (p : Int × Int) : Dat := .agg [.v (.int .u16 p.1), .v (.int .u16 p.2)]
def kds (l : List (Int × Int)) : List Dat := l.map kd
def kL : List (Int × Int) := [(3, 10), (0, 4), (3, 1), (0, 3)]
theorem kds_length {l : List (Int × Int)} : (kds l).length = l.length := by simp [kds]
theorem kds_getD {l : List (Int × Int)} {n : Nat} : (kds l).getD n (.agg [.v (.int .u16 0), .v (.int .u16 0)]) = .agg [.v (.int .u16 (l.getD n (0, 0)).1), .v (.int .u16 (l.getD n (0, 0)).2)] := by
  simp only [kds, List.getD_eq_getElem?_getD, List.getElem?_map]
  cases l[n]? <;> rfl
theorem evKd : type_of% (And.intro @kds_length @kds_getD) := And.intro @kds_length @kds_getD
theorem getD_nn {v : Int} : (none : Option Int).getD v = v := rfl
theorem getD_ss {x v : Int} : (some x).getD v = x := rfl
theorem isSome_nn : (none : Option Int).isSome = false := rfl
theorem isSome_ss {x : Int} : (some x).isSome = true := rfl
theorem kL_fits {k : Nat} (h : k < 4) : KeyFits [.u16, .u16] [(kL.getD k (0, 0)).1, (kL.getD k (0, 0)).2] := by
  match k, h with
  | 0, _ => exact fits16 (by decide) (by decide) (by decide) (by decide)
  | 1, _ => exact fits16 (by decide) (by decide) (by decide) (by decide)
  | 2, _ => exact fits16 (by decide) (by decide) (by decide) (by decide)
  | 3, _ => exact fits16 (by decide) (by decide) (by decide) (by decide)
theorem kL_kind {k : Nat} (h : k < 4) : [(kL.getD k (0, 0)).1, (kL.getD k (0, 0)).2] = kindAt k := by
  match k, h with
  | 0, _ => rfl
  | 1, _ => rfl
  | 2, _ => rfl
  | 3, _ => rfl
theorem kL_wide {k : Nat} (h : k < 4) : (decide ([(kL.getD k (0, 0)).1, (kL.getD k (0, 0)).2] = [3, 10]) || decide ([(kL.getD k (0, 0)).1, (kL.getD k (0, 0)).2] = [0, 4])) = decide (k < 2) := by
  match k, h with
  | 0, _ => decide
  | 1, _ => decide
  | 2, _ => decide
  | 3, _ => decide


theorem s68 (l : List Int) (hb : Byt l) (hl : l.length ≤ 1000000000) : Spec Try.prog 68 [.d false (.sl 1 (ints .u8 l))] none ⟨True, .tup [.d true (.agg [.v (.bool (rightC l && wideC l)), .sl 3 (sps (gC l)), .sl 4 (sgs (sgC l)), .sl 1 (ints .u8 (dC l))]), .d true (.v (.int .i64 (if rightC l = true then 0 else 2)))], none⟩ := by
  have hf43 : F80 43 = e43 := rfl
  have hf52 : F80 52 = e52 := rfl
  have hf105 : F80 105 = e105 := rfl
  have hG := (Gf_ok F80_ok)
  have hfs := And.intro @hf43 (And.intro @e43.eq_1 (And.intro @hf52 (And.intro @e52.eq_1 (And.intro @hf105 (And.intro @e105.eq_1 (And.intro @evP (And.intro @evS (And.intro @toPrs_prs (And.intro @toPrs_prs9 (And.intro @toSps_sps (And.intro @toSgs_sgs @evKd)))))))))))
  have hxs := @Nat.add_zero
  refine spec_of_awp (Gf_ok F80_ok) Try.func68 rfl (Nat.le_of_ble_eq_true rfl) fun E hps hN _ => ?_
  simp only [begin, List.zipIdx_cons, List.zipIdx_nil, List.map_cons, List.map_nil, Option.toList, Nat.zero_add, Nat.reduceAdd]
  have hbad : rightC l = false → (rightC l && wideC l) = false ∧ gC l = [] ∧ sgC l = [] ∧ dC l = [] ∧ (if rightC l = true then (0 : Int) else 2) = 2 := fun h => by
    have := ch_wrong h
    exact ⟨by rw [h]; rfl, this.1, this.2.1, this.2.2, by rw [h]; rfl⟩
  repeat refine AWP.nest ?_
  first | refine rsa hG [] [0, 2] fun K hK => ?_ | refine rna hG [] [0, 2] fun K hK => ?_
  repeat first | ((with_reducible refine shN ?_); refine sL ?_) | ((with_reducible refine shG ?_); refine sG ?_)
  refine Eq.mpr evalL_nil (hK _ ?_)
  clear hK K
  simp only [evU, St.keep, List.map_cons, look, reduceIte, Nat.reduceEqDiff]
  try show AWP _ _ _ _ _
  cases ho : okC l with
  | false =>
    have hch := ch_none (ch_bad ho)
    obtain ⟨z1, z2, z3, z4, z5⟩ := hbad hch.2.2.1
    rw [z1, z2, z3, z4, z5]
    repeat refine AWP.nest ?_
    have hxs := @ho
    first | refine rsa hG [] [0, 2, 4, 5] fun K hK => ?_ | refine rna hG [] [0, 2, 4, 5] fun K hK => ?_
    repeat first | ((with_reducible refine shN ?_); refine sL ?_) | ((with_reducible refine shG ?_); refine sG ?_)
    refine Eq.mpr evalL_nil (hK _ ?_)
    clear hK K hxs
    simp only [evU, St.keep, List.map_cons, look, reduceIte, Nat.reduceEqDiff]
    try show AWP _ _ _ _ _
    repeat refine AWP.nest ?_
    first | refine rsa hG [] [0, 2, 4, 18] fun K hK => ?_ | refine rna hG [] [0, 2, 4, 18] fun K hK => ?_
    repeat first | ((with_reducible refine shN ?_); refine sL ?_) | ((with_reducible refine shG ?_); refine sG ?_)
    refine Eq.mpr evalL_nil (hK _ ?_)
    clear hK K
    simp only [evU, St.keep, List.map_cons, look, reduceIte, Nat.reduceEqDiff]
    try show AWP _ _ _ _ _
    repeat refine AWP.nest ?_
    first | refine AWP.seq (AWP.cond (b := _) rfl (fun hc => ?_) (fun hc => ?_)) | refine AWP.cond (b := _) rfl (fun hc => ?_) (fun hc => ?_)
    all_goals try simp only [evC] at hc
    · repeat refine AWP.nest ?_
      first | refine rsa hG [] [2, 3] fun K hK => ?_ | refine rna hG [] [2, 3] fun K hK => ?_
      repeat first | ((with_reducible refine shN ?_); refine sL ?_) | ((with_reducible refine shG ?_); refine sG ?_)
      refine Eq.mpr evalL_nil (hK _ ?_)
      clear hK K
      simp only [evU, St.keep, List.map_cons, look, reduceIte, Nat.reduceEqDiff]
      try show AWP _ _ _ _ _
      refine AWP.tellC 0 1 rfl rfl (.nil true true 3) ?_
      refine AWP.tellC 0 2 rfl rfl (.nil true true 4) ?_
      refine AWP.tellC 0 3 rfl rfl (.nil true true 1) ?_
      refine AWP.ret ?_
      refine ⟨.inl rfl, ⟨⟨_, rfl, ?_⟩, fun ob hob => by cases hob⟩⟩
      simp only [look, reduceIte, Nat.reduceEqDiff]
      refine ⟨_, rfl, (.cons ?_ (.cons ?_ .nil))⟩
      · exact sub1_of rfl
      · exact sub1_of rfl
    · exfalso
      simp at hc
  | true =>
    repeat refine AWP.nest ?_
    have hxs := @ho
    first | refine rsa hG [] [0, 2, 4, 5] fun K hK => ?_ | refine rna hG [] [0, 2, 4, 5] fun K hK => ?_
    repeat first | ((with_reducible refine shN ?_); refine sL ?_) | ((with_reducible refine shG ?_); refine sG ?_)
    refine Eq.mpr evalL_nil (hK _ ?_)
    clear hK K hxs
    simp only [evU, St.keep, List.map_cons, look, reduceIte, Nat.reduceEqDiff]
    try show AWP _ _ _ _ _
    repeat refine AWP.nest ?_
    first | refine rsa hG [] [0, 2, 4, 18] fun K hK => ?_ | refine rna hG [] [0, 2, 4, 18] fun K hK => ?_
    repeat first | ((with_reducible refine shN ?_); refine sL ?_) | ((with_reducible refine shG ?_); refine sG ?_)
    refine Eq.mpr evalL_nil (hK _ ?_)
    clear hK K
    simp only [evU, St.keep, List.map_cons, look, reduceIte, Nat.reduceEqDiff]
    try show AWP _ _ _ _ _
    repeat refine AWP.nest ?_
    first | refine AWP.seq (AWP.cond (b := _) rfl (fun hc => ?_) (fun hc => ?_)) | refine AWP.cond (b := _) rfl (fun hc => ?_) (fun hc => ?_)
    all_goals try simp only [evC] at hc
    · exfalso
      simp at hc
    refine AWP.skip ?_
    show AWP _ _ _ _ _
    clear hc
    repeat refine AWP.nest ?_
    first | refine rsa hG [] [0, 2, 4, 24, 25, 26] fun K hK => ?_ | refine rna hG [] [0, 2, 4, 24, 25, 26] fun K hK => ?_
    repeat first | ((with_reducible refine shN ?_); refine sL ?_) | ((with_reducible refine shG ?_); refine sG ?_)
    refine Eq.mpr evalL_nil (hK _ ?_)
    clear hK K
    simp only [evU, St.keep, List.map_cons, look, reduceIte, Nat.reduceEqDiff]
    try show AWP _ _ _ _ _
    have hkc1 := fits16 (a := 3) (b := 10) (by decide) (by decide) (by decide) (by decide)
    have hkc2 := fits16 (a := 0) (b := 4) (by decide) (by decide) (by decide) (by decide)
    have ⟨hk3, hk4⟩ := hkc1
    have ⟨hk5, hk6⟩ := hkc2
    repeat refine AWP.nest ?_
    first | refine AWP.seq (AWP.block ?_) | refine AWP.block ?_
    refine AWP.loop (fun m st => ∃ (k : Nat), k ≤ 4 ∧ m = 4 - k ∧ (∀ j, j < k → kFind l j = none) ∧ st = ⟨[(0, .d false (.sl 1 (ints .u8 l))), (2, .ptr 0 0), (4, .mpv 1), (24, .d true (.sl 2 (kds kL))), (25, .d true (.v (.int .i64 4))), (26, .d true (.v (.int .i64 (k : Int))))], [some (.cells 87 [.d true (.v (.bool false)), .d true (.v (.slice none 0 0)), .d true (.v (.slice none 0 0)), .d true (.v (.slice none 0 0))]), some (.mp [.u16, .u16] .u32 (mapN l (nrec l)))]⟩) (4) ?_ ?_
    · exact ⟨0, Nat.zero_le _, rfl, fun j h => absurd h (Nat.not_lt_zero j), rfl⟩
    rintro m st ⟨k, hk, hm, hj, rfl⟩
    repeat refine AWP.nest ?_
    first | refine rsa hG [] [0, 2, 4, 24, 25, 26, 27] fun K hK => ?_ | refine rna hG [] [0, 2, 4, 24, 25, 26, 27] fun K hK => ?_
    repeat first | ((with_reducible refine shN ?_); refine sL ?_) | ((with_reducible refine shG ?_); refine sG ?_)
    refine Eq.mpr evalL_nil (hK _ ?_)
    clear hK K
    simp only [evU, St.keep, List.map_cons, look, reduceIte, Nat.reduceEqDiff]
    try show AWP _ _ _ _ _
    first | refine AWP.seq (AWP.cond (b := _) rfl (fun hc => ?_) (fun hc => ?_)) | refine AWP.cond (b := _) rfl (fun hc => ?_) (fun hc => ?_)
    rotate_left
    · refine AWP.exit ?_
      show AWP _ _ _ _ _
      simp only [evC, Int.not_lt] at hc
      obtain rfl : k = 4 := by omega
      have hch := ch_none (ch_no hj)
      obtain ⟨z1, z2, z3, z4, z5⟩ := hbad hch.2.2.1
      rw [z1, z2, z3, z4, z5]
      repeat refine AWP.nest ?_
      first | refine rsa hG [] [2, 3] fun K hK => ?_ | refine rna hG [] [2, 3] fun K hK => ?_
      repeat first | ((with_reducible refine shN ?_); refine sL ?_) | ((with_reducible refine shG ?_); refine sG ?_)
      refine Eq.mpr evalL_nil (hK _ ?_)
      clear hK K
      simp only [evU, St.keep, List.map_cons, look, reduceIte, Nat.reduceEqDiff]
      try show AWP _ _ _ _ _
      refine AWP.tellC 0 1 rfl rfl (.nil true true 3) ?_
      refine AWP.tellC 0 2 rfl rfl (.nil true true 4) ?_
      refine AWP.tellC 0 3 rfl rfl (.nil true true 1) ?_
      refine AWP.ret ?_
      refine ⟨.inl rfl, ⟨⟨_, rfl, ?_⟩, fun ob hob => by cases hob⟩⟩
      simp only [look, reduceIte, Nat.reduceEqDiff]
      refine ⟨_, rfl, (.cons ?_ (.cons ?_ .nil))⟩
      · exact sub1_of rfl
      · exact sub1_of rfl
    simp only [evC, Int.not_lt] at hc
    refine AWP.skip ?_
    show AWP _ _ _ _ _
    have hk' : k < 4 := by omega
    clear hc
    have hlen4 : kL.length = 4 := rfl
    have hkf := kL_fits hk'
    have ⟨hk1, hk2⟩ := hkf
    have hget : mget (mapN l (nrec l)) [(kL.getD k (0, 0)).1, (kL.getD k (0, 0)).2] = (kFind l k).map (recV l) := by rw [mapN_get, kL_kind hk']; rfl
    repeat refine AWP.nest ?_
    first | refine AWP.seq (AWP.block ?_) | refine AWP.block ?_
    repeat refine AWP.nest ?_
    first | refine rsa hG [] [0, 2, 4, 7, 24, 25, 26] fun K hK => ?_ | refine rna hG [] [0, 2, 4, 7, 24, 25, 26] fun K hK => ?_
    repeat first | ((with_reducible refine shN ?_); refine sL ?_) | ((with_reducible refine shG ?_); refine sG ?_)
    refine Eq.mpr evalL_nil (hK _ ?_)
    clear hK K
    simp only [evU, St.keep, List.map_cons, look, reduceIte, Nat.reduceEqDiff]
    try show AWP _ _ _ _ _
    cases hf : kFind l k with
    | none =>
      have hget2 : mget (mapN l (nrec l)) [(kL.getD k (0, 0)).1, (kL.getD k (0, 0)).2] = none := by rw [hget, hf]; rfl
      repeat refine AWP.nest ?_
      have hxs := And.intro @hget2 (And.intro @getD_nn @isSome_nn)
      first | refine rsa hG [] [0, 2, 4, 7, 8, 9, 24, 25, 26] fun K hK => ?_ | refine rna hG [] [0, 2, 4, 7, 8, 9, 24, 25, 26] fun K hK => ?_
      repeat first | ((with_reducible refine shN ?_); refine sL ?_) | ((with_reducible refine shG ?_); refine sG ?_)
      refine Eq.mpr evalL_nil (hK _ ?_)
      clear hK K hxs
      simp only [evU, St.keep, List.map_cons, look, reduceIte, Nat.reduceEqDiff]
      try show AWP _ _ _ _ _
      repeat refine AWP.nest ?_
      first | refine rsa hG [] [0, 2, 4, 7, 8, 24, 25, 26, 37] fun K hK => ?_ | refine rna hG [] [0, 2, 4, 7, 8, 24, 25, 26, 37] fun K hK => ?_
      repeat first | ((with_reducible refine shN ?_); refine sL ?_) | ((with_reducible refine shG ?_); refine sG ?_)
      refine Eq.mpr evalL_nil (hK _ ?_)
      clear hK K
      simp only [evU, St.keep, List.map_cons, look, reduceIte, Nat.reduceEqDiff]
      try show AWP _ _ _ _ _
      repeat refine AWP.nest ?_
      first | refine AWP.seq (AWP.cond (b := _) rfl (fun hc => ?_) (fun hc => ?_)) | refine AWP.cond (b := _) rfl (fun hc => ?_) (fun hc => ?_)
      all_goals try simp only [evC] at hc
      · refine AWP.exit ?_
        show AWP _ _ _ _ _
        refine AWP.keep [0, 2, 4, 24, 25, 26] ?_
        simp only [St.keep, List.map_cons, List.map_nil, look, reduceIte, Nat.reduceEqDiff]
        refine AWP.trunc 2 (by rw [hps]; decide) rfl ?_
        simp only [St.trunc, List.take_zero, List.take_succ_cons]
        repeat refine AWP.nest ?_
        first | refine rsa hG [] [0, 2, 4, 24, 25, 26] fun K hK => ?_ | refine rna hG [] [0, 2, 4, 24, 25, 26] fun K hK => ?_
        repeat first | ((with_reducible refine shN ?_); refine sL ?_) | ((with_reducible refine shG ?_); refine sG ?_)
        refine Eq.mpr evalL_nil (hK _ ?_)
        clear hK K
        simp only [evU, St.keep, List.map_cons, look, reduceIte, Nat.reduceEqDiff]
        try show AWP _ _ _ _ _
        exact ⟨4 - (k + 1), by omega, k + 1, by omega, rfl, fun j h => by
          rcases Nat.lt_succ_iff_lt_or_eq.1 h with h | rfl
          · exact hj j h
          · exact hf, rfl⟩
      · exfalso
        simp at hc
    | some i =>
      have hget2 : mget (mapN l (nrec l)) [(kL.getD k (0, 0)).1, (kL.getD k (0, 0)).2] = some (recV l i) := by rw [hget, hf]; rfl
      have hrv : 0 ≤ recV l i ∧ recV l i < 4294967296 := n4V_bound hb _
      repeat refine AWP.nest ?_
      have hxs := And.intro @hget2 (And.intro @getD_ss @isSome_ss)
      first | refine rsa hG [] [0, 2, 4, 7, 8, 9, 24, 25, 26] fun K hK => ?_ | refine rna hG [] [0, 2, 4, 7, 8, 9, 24, 25, 26] fun K hK => ?_
      repeat first | ((with_reducible refine shN ?_); refine sL ?_) | ((with_reducible refine shG ?_); refine sG ?_)
      refine Eq.mpr evalL_nil (hK _ ?_)
      clear hK K hxs
      simp only [evU, St.keep, List.map_cons, look, reduceIte, Nat.reduceEqDiff]
      try show AWP _ _ _ _ _
      repeat refine AWP.nest ?_
      first | refine rsa hG [] [0, 2, 4, 7, 8, 24, 25, 26, 37] fun K hK => ?_ | refine rna hG [] [0, 2, 4, 7, 8, 24, 25, 26, 37] fun K hK => ?_
      repeat first | ((with_reducible refine shN ?_); refine sL ?_) | ((with_reducible refine shG ?_); refine sG ?_)
      refine Eq.mpr evalL_nil (hK _ ?_)
      clear hK K
      simp only [evU, St.keep, List.map_cons, look, reduceIte, Nat.reduceEqDiff]
      try show AWP _ _ _ _ _
      repeat refine AWP.nest ?_
      first | refine AWP.seq (AWP.cond (b := _) rfl (fun hc => ?_) (fun hc => ?_)) | refine AWP.cond (b := _) rfl (fun hc => ?_) (fun hc => ?_)
      all_goals try simp only [evC] at hc
      · exfalso
        simp at hc
      refine AWP.skip ?_
      show AWP _ _ _ _ _
      clear hc
      repeat refine AWP.nest ?_
      first | refine rsa hG [] [0, 2, 7, 8, 24, 25, 26, 43] fun K hK => ?_ | refine rna hG [] [0, 2, 7, 8, 24, 25, 26, 43] fun K hK => ?_
      repeat first | ((with_reducible refine shN ?_); refine sL ?_) | ((with_reducible refine shG ?_); refine sG ?_)
      refine Eq.mpr evalL_nil (hK _ ?_)
      clear hK K
      simp only [evU, St.keep, List.map_cons, look, reduceIte, Nat.reduceEqDiff]
      try show AWP _ _ _ _ _
      repeat refine AWP.nest ?_
      first | refine AWP.seq (AWP.cond (b := _) rfl (fun hc => ?_) (fun hc => ?_)) | refine AWP.cond (b := _) rfl (fun hc => ?_) (fun hc => ?_)
      all_goals try simp only [evC] at hc
      · have hch := ch_none (ch_far hk' hj hf (by omega))
        obtain ⟨z1, z2, z3, z4, z5⟩ := hbad hch.2.2.1
        rw [z1, z2, z3, z4, z5]
        repeat refine AWP.nest ?_
        first | refine rsa hG [] [2, 3] fun K hK => ?_ | refine rna hG [] [2, 3] fun K hK => ?_
        repeat first | ((with_reducible refine shN ?_); refine sL ?_) | ((with_reducible refine shG ?_); refine sG ?_)
        refine Eq.mpr evalL_nil (hK _ ?_)
        clear hK K
        simp only [evU, St.keep, List.map_cons, look, reduceIte, Nat.reduceEqDiff]
        try show AWP _ _ _ _ _
        refine AWP.tellC 0 1 rfl rfl (.nil true true 3) ?_
        refine AWP.tellC 0 2 rfl rfl (.nil true true 4) ?_
        refine AWP.tellC 0 3 rfl rfl (.nil true true 1) ?_
        refine AWP.ret ?_
        refine ⟨.inl rfl, ⟨⟨_, rfl, ?_⟩, fun ob hob => by cases hob⟩⟩
        simp only [look, reduceIte, Nat.reduceEqDiff]
        refine ⟨_, rfl, (.cons ?_ (.cons ?_ .nil))⟩
        · exact sub1_of rfl
        · exact sub1_of rfl
      refine AWP.skip ?_
      show AWP _ _ _ _ _
      have hat : ¬ recV l i > (l.length : Int) := by omega
      have hch := ch_at ho hk' hj hf hat
      have hdt : (l.drop (recV l i).toNat).take (l.length - (recV l i).toNat) = l.drop (recV l i).toNat := List.take_of_length_le (by rw [List.length_drop]; exact Nat.le_refl _)
      have hbt : Byt (l.drop (recV l i).toNat) := hb.drop _
      have hlt : (l.drop (recV l i).toNat).length ≤ 1000000000 := by rw [List.length_drop]; omega
      have hlt2 : (l.drop (recV l i).toNat).length ≤ 1000000000000 := by omega
      clear hc hj
      have hw := kL_wide hk'
      repeat refine AWP.nest ?_
      first | refine rsa hG [] [0, 2, 8, 10] fun K hK => ?_ | refine rna hG [] [0, 2, 8, 10] fun K hK => ?_
      repeat first | ((with_reducible refine shN ?_); refine sL ?_) | ((with_reducible refine shG ?_); refine sG ?_)
      refine Eq.mpr evalL_nil (hK _ ?_)
      clear hK K
      simp only [evU, St.keep, List.map_cons, look, reduceIte, Nat.reduceEqDiff]
      try show AWP _ _ _ _ _
      rw [hw]
      obtain ⟨t, ht⟩ : ∃ t, l.drop (recV l i).toNat = t := ⟨_, rfl⟩
      have hdt2 : (l.drop (recV l i).toNat).take (l.length - (recV l i).toNat) = t := by rw [hdt, ht]
      rw [ht] at hch hbt hlt hlt2
      clear hdt ht
      repeat refine AWP.nest ?_
      first | refine rsa hG [] [0, 2, 8, 10, 11] fun K hK => ?_ | refine rna hG [] [0, 2, 8, 10, 11] fun K hK => ?_
      repeat first | ((with_reducible refine shN ?_); refine sL ?_) | ((with_reducible refine shG ?_); refine sG ?_)
      refine Eq.mpr evalL_nil (hK _ ?_)
      clear hK K
      simp only [evU, St.keep, List.map_cons, look, reduceIte, Nat.reduceEqDiff]
      try show AWP _ _ _ _ _
      repeat refine AWP.nest ?_
      first | refine rsa hG [] [0, 2, 8, 10, 11, 55] fun K hK => ?_ | refine rna hG [] [0, 2, 8, 10, 11, 55] fun K hK => ?_
      repeat first | ((with_reducible refine shN ?_); refine sL ?_) | ((with_reducible refine shG ?_); refine sG ?_)
      refine Eq.mpr evalL_nil (hK _ ?_)
      clear hK K
      simp only [evU, St.keep, List.map_cons, look, reduceIte, Nat.reduceEqDiff]
      try show AWP _ _ _ _ _
      repeat refine AWP.nest ?_
      first | refine AWP.seq (AWP.cond (b := _) rfl (fun hc => ?_) (fun hc => ?_)) | refine AWP.cond (b := _) rfl (fun hc => ?_) (fun hc => ?_)
      all_goals try simp only [evC] at hc
      · have hc2 : decide (k < 2) = true := by simpa using hc
        rw [hc2] at hch
        obtain ⟨c1, c2, c3, c4, c5, c6, c7⟩ := ch_wide hch
        repeat refine AWP.nest ?_
        have hxs := @hdt2
        first | refine rsa hG [] [2, 10, 11] fun K hK => ?_ | refine rna hG [] [2, 10, 11] fun K hK => ?_
        repeat first | ((with_reducible refine shN ?_); refine sL ?_) | ((with_reducible refine shG ?_); refine sG ?_)
        refine Eq.mpr evalL_nil (hK _ ?_)
        clear hK K hxs
        simp only [evU, St.keep, List.map_cons, look, reduceIte, Nat.reduceEqDiff]
        try show AWP _ _ _ _ _
        repeat refine AWP.nest ?_
        first | refine rsa hG [] [2, 10, 11, 73] fun K hK => ?_ | refine rna hG [] [2, 10, 11, 73] fun K hK => ?_
        repeat first | ((with_reducible refine shN ?_); refine sL ?_) | ((with_reducible refine shG ?_); refine sG ?_)
        refine Eq.mpr evalL_nil (hK _ ?_)
        clear hK K
        simp only [evU, St.keep, List.map_cons, look, reduceIte, Nat.reduceEqDiff]
        try show AWP _ _ _ _ _
        cases hr : rightG t with
        | false =>
          rw [hr] at c3
          obtain ⟨z1, z2, z3, z4, z5⟩ := hbad c3
          rw [z1, z2, z3, z4, z5]
          repeat refine AWP.nest ?_
          first | refine AWP.seq (AWP.cond (b := _) rfl (fun hc => ?_) (fun hc => ?_)) | refine AWP.cond (b := _) rfl (fun hc => ?_) (fun hc => ?_)
          all_goals try simp only [evC] at hc
          · repeat refine AWP.nest ?_
            first | refine rsa hG [] [2, 3] fun K hK => ?_ | refine rna hG [] [2, 3] fun K hK => ?_
            repeat first | ((with_reducible refine shN ?_); refine sL ?_) | ((with_reducible refine shG ?_); refine sG ?_)
            refine Eq.mpr evalL_nil (hK _ ?_)
            clear hK K
            simp only [evU, St.keep, List.map_cons, look, reduceIte, Nat.reduceEqDiff]
            try show AWP _ _ _ _ _
            refine AWP.tellC 0 1 rfl rfl (.nil true true 3) ?_
            refine AWP.tellC 0 2 rfl rfl (.nil true true 4) ?_
            refine AWP.tellC 0 3 rfl rfl (.nil true true 1) ?_
            refine AWP.ret ?_
            refine ⟨.inl rfl, ⟨⟨_, rfl, ?_⟩, fun ob hob => by cases hob⟩⟩
            simp only [look, reduceIte, Nat.reduceEqDiff]
            refine ⟨_, rfl, (.cons ?_ (.cons ?_ .nil))⟩
            · exact sub1_of rfl
            · exact sub1_of rfl
          · exfalso
            simp at hc
        | true =>
          rw [hr] at c3
          repeat refine AWP.nest ?_
          first | refine AWP.seq (AWP.cond (b := _) rfl (fun hc => ?_) (fun hc => ?_)) | refine AWP.cond (b := _) rfl (fun hc => ?_) (fun hc => ?_)
          all_goals try simp only [evC] at hc
          · exfalso
            simp at hc
          refine AWP.skip ?_
          show AWP _ _ _ _ _
          repeat refine AWP.nest ?_
          first | refine rsa hG [] [2, 3] fun K hK => ?_ | refine rna hG [] [2, 3] fun K hK => ?_
          repeat first | ((with_reducible refine shN ?_); refine sL ?_) | ((with_reducible refine shG ?_); refine sG ?_)
          refine Eq.mpr evalL_nil (hK _ ?_)
          clear hK K
          simp only [evU, St.keep, List.map_cons, look, reduceIte, Nat.reduceEqDiff]
          try show AWP _ _ _ _ _
          rw [c3, c1, c5, c6, c7, hc2]
          refine AWP.tellC 0 2 rfl rfl (.nil true true 4) ?_
          refine AWP.tellC 0 3 rfl rfl (.nil true true 1) ?_
          refine AWP.ret ?_
          refine ⟨.inl rfl, ⟨⟨_, rfl, ?_⟩, fun ob hob => by cases hob⟩⟩
          simp only [look, reduceIte, Nat.reduceEqDiff]
          refine ⟨_, rfl, (.cons ?_ (.cons ?_ .nil))⟩
          · exact sub1_of rfl
          · exact sub1_of rfl
      · have hc2 : decide (k < 2) = false := by simpa using hc
        rw [hc2] at hch
        obtain ⟨c1, c2, c3, c4, c5, c6, c7⟩ := ch_seg hch
        repeat refine AWP.nest ?_
        have hxs := @hdt2
        first | refine rsa hG [] [2, 10, 11] fun K hK => ?_ | refine rna hG [] [2, 10, 11] fun K hK => ?_
        repeat first | ((with_reducible refine shN ?_); refine sL ?_) | ((with_reducible refine shG ?_); refine sG ?_)
        refine Eq.mpr evalL_nil (hK _ ?_)
        clear hK K hxs
        simp only [evU, St.keep, List.map_cons, look, reduceIte, Nat.reduceEqDiff]
        try show AWP _ _ _ _ _
        repeat refine AWP.nest ?_
        first | refine rsa hG [] [2, 10, 11, 73] fun K hK => ?_ | refine rna hG [] [2, 10, 11, 73] fun K hK => ?_
        repeat first | ((with_reducible refine shN ?_); refine sL ?_) | ((with_reducible refine shG ?_); refine sG ?_)
        refine Eq.mpr evalL_nil (hK _ ?_)
        clear hK K
        simp only [evU, St.keep, List.map_cons, look, reduceIte, Nat.reduceEqDiff]
        try show AWP _ _ _ _ _
        cases hr : rightS t with
        | false =>
          rw [hr] at c3
          obtain ⟨z1, z2, z3, z4, z5⟩ := hbad c3
          rw [z1, z2, z3, z4, z5]
          repeat refine AWP.nest ?_
          first | refine AWP.seq (AWP.cond (b := _) rfl (fun hc => ?_) (fun hc => ?_)) | refine AWP.cond (b := _) rfl (fun hc => ?_) (fun hc => ?_)
          all_goals try simp only [evC] at hc
          · repeat refine AWP.nest ?_
            first | refine rsa hG [] [2, 3] fun K hK => ?_ | refine rna hG [] [2, 3] fun K hK => ?_
            repeat first | ((with_reducible refine shN ?_); refine sL ?_) | ((with_reducible refine shG ?_); refine sG ?_)
            refine Eq.mpr evalL_nil (hK _ ?_)
            clear hK K
            simp only [evU, St.keep, List.map_cons, look, reduceIte, Nat.reduceEqDiff]
            try show AWP _ _ _ _ _
            refine AWP.tellC 0 1 rfl rfl (.nil true true 3) ?_
            refine AWP.tellC 0 2 rfl rfl (.nil true true 4) ?_
            refine AWP.tellC 0 3 rfl rfl (.nil true true 1) ?_
            refine AWP.ret ?_
            refine ⟨.inl rfl, ⟨⟨_, rfl, ?_⟩, fun ob hob => by cases hob⟩⟩
            simp only [look, reduceIte, Nat.reduceEqDiff]
            refine ⟨_, rfl, (.cons ?_ (.cons ?_ .nil))⟩
            · exact sub1_of rfl
            · exact sub1_of rfl
          · exfalso
            simp at hc
        | true =>
          rw [hr] at c3
          repeat refine AWP.nest ?_
          first | refine AWP.seq (AWP.cond (b := _) rfl (fun hc => ?_) (fun hc => ?_)) | refine AWP.cond (b := _) rfl (fun hc => ?_) (fun hc => ?_)
          all_goals try simp only [evC] at hc
          · exfalso
            simp at hc
          refine AWP.skip ?_
          show AWP _ _ _ _ _
          repeat refine AWP.nest ?_
          first | refine rsa hG [] [2, 3] fun K hK => ?_ | refine rna hG [] [2, 3] fun K hK => ?_
          repeat first | ((with_reducible refine shN ?_); refine sL ?_) | ((with_reducible refine shG ?_); refine sG ?_)
          refine Eq.mpr evalL_nil (hK _ ?_)
          clear hK K
          simp only [evU, St.keep, List.map_cons, look, reduceIte, Nat.reduceEqDiff]
          try show AWP _ _ _ _ _
          rw [c3, c1, c5, c6, c7, hc2]
          refine AWP.tellC 0 1 rfl rfl (.nil true true 3) ?_
          refine AWP.ret ?_
          refine ⟨.inl rfl, ⟨⟨_, rfl, ?_⟩, fun ob hob => by cases hob⟩⟩
          simp only [look, reduceIte, Nat.reduceEqDiff]
          refine ⟨_, rfl, (.cons ?_ (.cons ?_ .nil))⟩
          · exact sub1_of rfl
          · exact sub1_of rfl
def e68 : List AV → Option Ob → Option Res := fun args i => match args, i with
  | [.d false (.sl 1 xs)], none => some ⟨IsB xs ∧ (toInts xs).length ≤ 1000000000, .tup [.d true (.agg [.v (.bool (rightC (toInts xs) && wideC (toInts xs))), .sl 3 (sps (gC (toInts xs))), .sl 4 (sgs (sgC (toInts xs))), .sl 1 (ints .u8 (dC (toInts xs)))]), .d true (.v (.int .i64 (if rightC (toInts xs) = true then 0 else 2)))], none⟩
  | _, _ => none
def F81 : FT := F80.upd 68 e68
theorem F81_ok : FOK Try.prog F81 := FOK.upd F80_ok Try.func68 (by kernel_rfl) rfl fun args i R h => by
  unfold e68 at h
  split at h
  · cases h
    refine Spec.pre fun h => ?_
    obtain ⟨l, rfl, hb⟩ := h.1.elim
    rw [toInts_ints] at h ⊢
    exact s68 l hb h.2
  · cases h

/-! ### Wide, Look -/

theorem s70 (w : Bool) (G : List (Int × Int × Int)) (S : List (Int × Int × Int × Int)) (D : List Int) : Spec Try.prog 70 [.d false (.agg [.v (.bool w), .sl 3 (sps G), .sl 4 (sgs S), .sl 1 (ints .u8 D)])] none ⟨True, .d false (.v (.bool w)), none⟩ := by
  have hG := (Gf_ok F81_ok)
  have hfs := And.intro @evP (And.intro @evS (And.intro @toPrs_prs (And.intro @toPrs_prs9 (And.intro @toSps_sps @toSgs_sgs))))
  have hxs := @Nat.add_zero
  refine spec_of_awp (Gf_ok F81_ok) Try.func70 rfl (Nat.le_of_ble_eq_true rfl) fun E hps hN _ => ?_
  simp only [begin, List.zipIdx_cons, List.zipIdx_nil, List.map_cons, List.map_nil, Option.toList, Nat.zero_add, Nat.reduceAdd]
  repeat refine AWP.nest ?_
  first | refine rsa hG [] [1] fun K hK => ?_ | refine rna hG [] [1] fun K hK => ?_
  repeat first | ((with_reducible refine shN ?_); refine sL ?_) | ((with_reducible refine shG ?_); refine sG ?_)
  refine Eq.mpr evalL_nil (hK _ ?_)
  clear hK K
  simp only [evU, St.keep, List.map_cons, look, reduceIte, Nat.reduceEqDiff]
  try show AWP _ _ _ _ _
  repeat refine AWP.nest ?_
  first | refine rsa hG [] [2] fun K hK => ?_ | refine rna hG [] [2] fun K hK => ?_
  repeat first | ((with_reducible refine shN ?_); refine sL ?_) | ((with_reducible refine shG ?_); refine sG ?_)
  refine Eq.mpr evalL_nil (hK _ ?_)
  clear hK K
  simp only [evU, St.keep, List.map_cons, look, reduceIte, Nat.reduceEqDiff]
  try show AWP _ _ _ _ _
  refine AWP.ret ?_
  refine ⟨.inl rfl, ⟨⟨_, rfl, ?_⟩, fun ob hob => by cases hob⟩⟩
  simp only [look, reduceIte, Nat.reduceEqDiff]
  exact sub1_of rfl
def e70 : List AV → Option Ob → Option Res := fun args i => match args, i with
  | [.d false (.agg [.v (.bool w), .sl 3 xs, .sl 4 ys, .sl 1 zs])], none => some ⟨xs = sps (toSps xs) ∧ ys = sgs (toSgs ys) ∧ zs = ints .u8 (toInts zs), .d false (.v (.bool w)), none⟩
  | _, _ => none
def F82 : FT := F81.upd 70 e70
theorem F82_ok : FOK Try.prog F82 := FOK.upd F81_ok Try.func70 (by kernel_rfl) rfl fun args i R h => by
  unfold e70 at h
  split at h
  · rename_i w xs ys zs
    cases h
    refine Spec.pre fun h => ?_
    obtain ⟨h1, h2, h3⟩ := h
    have := s70 w (toSps xs) (toSgs ys) (toInts zs)
    rwa [← h1, ← h2, ← h3] at this
  · cases h
def lookC (w : Bool) (G : List (Int × Int × Int)) (S : List (Int × Int × Int × Int)) (D : List Int) (c : Int) : Int := if w = true then lookG G c else lookS S D c

theorem s71 (w : Bool) (G : List (Int × Int × Int)) (S : List (Int × Int × Int × Int)) (D : List Int) (c : Int) (hG1 : MapG G) (hS1 : MapS S D) (hc0 : -2147483648 ≤ c) (hc1 : c ≤ 2147483647) :
    Spec Try.prog 71 [.d false (.agg [.v (.bool w), .sl 3 (sps G), .sl 4 (sgs S), .sl 1 (ints .u8 D)]), .d true (.v (.int .i32 c))] none ⟨True, .d true (.v (.int .u16 (lookC w G S D c))), none⟩ := by
  have hf46 : F82 46 = e46 := rfl
  have hf56 : F82 56 = e56 := rfl
  have hG := (Gf_ok F82_ok)
  have hfs := And.intro @hf46 (And.intro @e46.eq_1 (And.intro @hf56 (And.intro @e56.eq_1 (And.intro @evP (And.intro @evS (And.intro @toPrs_prs (And.intro @toPrs_prs9 (And.intro @toSps_sps @toSgs_sgs))))))))
  have hxs := @Nat.add_zero
  refine spec_of_awp (Gf_ok F82_ok) Try.func71 rfl (Nat.le_of_ble_eq_true rfl) fun E hps hN _ => ?_
  simp only [begin, List.zipIdx_cons, List.zipIdx_nil, List.map_cons, List.map_nil, Option.toList, Nat.zero_add, Nat.reduceAdd]
  have ⟨m1, m2, m3⟩ := hS1
  have ⟨g1, g2, g3, g4⟩ := hG1
  repeat refine AWP.nest ?_
  first | refine rsa hG [] [1, 2] fun K hK => ?_ | refine rna hG [] [1, 2] fun K hK => ?_
  repeat first | ((with_reducible refine shN ?_); refine sL ?_) | ((with_reducible refine shG ?_); refine sG ?_)
  refine Eq.mpr evalL_nil (hK _ ?_)
  clear hK K
  simp only [evU, St.keep, List.map_cons, look, reduceIte, Nat.reduceEqDiff]
  try show AWP _ _ _ _ _
  repeat refine AWP.nest ?_
  first | refine rsa hG [] [1, 2, 6] fun K hK => ?_ | refine rna hG [] [1, 2, 6] fun K hK => ?_
  repeat first | ((with_reducible refine shN ?_); refine sL ?_) | ((with_reducible refine shG ?_); refine sG ?_)
  refine Eq.mpr evalL_nil (hK _ ?_)
  clear hK K
  simp only [evU, St.keep, List.map_cons, look, reduceIte, Nat.reduceEqDiff]
  try show AWP _ _ _ _ _
  unfold lookC
  repeat refine AWP.nest ?_
  first | refine AWP.seq (AWP.cond (b := _) rfl (fun hc => ?_) (fun hc => ?_)) | refine AWP.cond (b := _) rfl (fun hc => ?_) (fun hc => ?_)
  all_goals try simp only [evC] at hc
  · rw [if_pos hc]
    repeat refine AWP.nest ?_
    first | refine rsa hG [] [4] fun K hK => ?_ | refine rna hG [] [4] fun K hK => ?_
    repeat first | ((with_reducible refine shN ?_); refine sL ?_) | ((with_reducible refine shG ?_); refine sG ?_)
    refine Eq.mpr evalL_nil (hK _ ?_)
    clear hK K
    simp only [evU, St.keep, List.map_cons, look, reduceIte, Nat.reduceEqDiff]
    try show AWP _ _ _ _ _
    refine AWP.ret ?_
    refine ⟨.inl rfl, ⟨⟨_, rfl, ?_⟩, fun ob hob => by cases hob⟩⟩
    simp only [look, reduceIte, Nat.reduceEqDiff]
    exact sub1_of rfl
  · rw [if_neg (by simp [hc])]
    refine AWP.skip ?_
    show AWP _ _ _ _ _
    repeat refine AWP.nest ?_
    first | refine rsa hG [] [4] fun K hK => ?_ | refine rna hG [] [4] fun K hK => ?_
    repeat first | ((with_reducible refine shN ?_); refine sL ?_) | ((with_reducible refine shG ?_); refine sG ?_)
    refine Eq.mpr evalL_nil (hK _ ?_)
    clear hK K
    simp only [evU, St.keep, List.map_cons, look, reduceIte, Nat.reduceEqDiff]
    try show AWP _ _ _ _ _
    refine AWP.ret ?_
    refine ⟨.inl rfl, ⟨⟨_, rfl, ?_⟩, fun ob hob => by cases hob⟩⟩
    simp only [look, reduceIte, Nat.reduceEqDiff]
    exact sub1_of rfl
def e71 : List AV → Option Ob → Option Res := fun args i => match args, i with
  | [.d false (.agg [.v (.bool w), .sl 3 xs, .sl 4 ys, .sl 1 zs]), .d true (.v (.int .i32 c))], none => some ⟨xs = sps (toSps xs) ∧ ys = sgs (toSgs ys) ∧ zs = ints .u8 (toInts zs) ∧ MapG (toSps xs) ∧ MapS (toSgs ys) (toInts zs) ∧ -2147483648 ≤ c ∧ c ≤ 2147483647, .d true (.v (.int .u16 (lookC w (toSps xs) (toSgs ys) (toInts zs) c))), none⟩
  | _, _ => none
def F83 : FT := F82.upd 71 e71
theorem F83_ok : FOK Try.prog F83 := FOK.upd F82_ok Try.func71 (by kernel_rfl) rfl fun args i R h => by
  unfold e71 at h
  split at h
  · rename_i w xs ys zs c
    cases h
    refine Spec.pre fun h => ?_
    obtain ⟨h1, h2, h3, h4, h5, h6, h7⟩ := h
    have := s71 w (toSps xs) (toSgs ys) (toInts zs) c h4 h5 h6 h7
    rwa [← h1, ← h2, ← h3] at this
  · cases h
end Go.AM

