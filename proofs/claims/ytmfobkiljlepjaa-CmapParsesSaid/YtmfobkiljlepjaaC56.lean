/- AM: CmapParses. -/
import Derived.Test.YtmfobkiljlepjaaC54
set_option maxRecDepth 100000
set_option maxHeartbeats 8000000
set_option linter.unusedSimpArgs false
set_option linter.unusedVariables false
namespace Go.AM
open Go Go.Proofs

theorem lookC_bd {w : Bool} {G : List (Int × Int × Int)} {S : List (Int × Int × Int × Int)} {D : List Int} (h1 : MapG G) (h2 : MapS S D) (c : Int) : 0 ≤ lookC w G S D c ∧ lookC w G S D c ≤ 65535 := by
  unfold lookC
  split
  · exact lookG_bd h1 c
  · exact lookS_bd h2 c


theorem s22 (l : List Int) (hb : Byt l) (cs : List Int) (hw : WI32 cs) : Spec Try.prog 22 [.d false (.sl 1 (ints .u8 l)), .d false (.sl 1 (ints .i32 cs))] none ⟨True, .d true (.v (.bool true)), none⟩ := by
  have hf31 : F90 31 = e31 := rfl
  have hf65 : F90 65 = e65 := rfl
  have hf68 : F90 68 = e68 := rfl
  have hf70 : F90 70 = e70 := rfl
  have hf71 : F90 71 = e71 := rfl
  have hf72 : F90 72 = e72 := rfl
  have hf73 : F90 73 = e73 := rfl
  have hG := (Gf_ok F90_ok)
  have hfs := And.intro @hf31 (And.intro @e31.eq_1 (And.intro @hf65 (And.intro @e65.eq_1 (And.intro @hf68 (And.intro @e68.eq_1 (And.intro @hf70 (And.intro @e70.eq_1 (And.intro @hf71 (And.intro @e71.eq_1 (And.intro @hf72 (And.intro @e72.eq_1 (And.intro @hf73 (And.intro @e73.eq_1 (And.intro @evP (And.intro @evS (And.intro @toPrs_prs (And.intro @toPrs_prs9 (And.intro @toSps_sps @toSgs_sgs))))))))))))))))))
  have hxs := @Nat.add_zero
  refine spec_of_awp (Gf_ok F90_ok) Try.func22 rfl (Nat.le_of_ble_eq_true rfl) fun E hps hN _ => ?_
  simp only [begin, List.zipIdx_cons, List.zipIdx_nil, List.map_cons, List.map_nil, Option.toList, Nat.zero_add, Nat.reduceAdd]
  refine AWP.len 1 rfl fun hlen => ?_
  rw [ints_length] at hlen
  repeat refine AWP.nest ?_
  first | refine rsa hG [] [0, 1] fun K hK => ?_ | refine rna hG [] [0, 1] fun K hK => ?_
  repeat first | ((with_reducible refine shN ?_); refine sL ?_) | ((with_reducible refine shG ?_); refine sG ?_)
  refine Eq.mpr evalL_nil (hK _ ?_)
  clear hK K
  simp only [evU, St.keep, List.map_cons, look, reduceIte, Nat.reduceEqDiff]
  try show AWP _ _ _ _ _
  repeat refine AWP.nest ?_
  first | refine rsa hG [] [0, 1, 15] fun K hK => ?_ | refine rna hG [] [0, 1, 15] fun K hK => ?_
  repeat first | ((with_reducible refine shN ?_); refine sL ?_) | ((with_reducible refine shG ?_); refine sG ?_)
  refine Eq.mpr evalL_nil (hK _ ?_)
  clear hK K
  simp only [evU, St.keep, List.map_cons, look, reduceIte, Nat.reduceEqDiff]
  try show AWP _ _ _ _ _
  repeat refine AWP.nest ?_
  first | refine AWP.seq (AWP.cond (b := _) rfl (fun hc => ?_) (fun hc => ?_)) | refine AWP.cond (b := _) rfl (fun hc => ?_) (fun hc => ?_)
  all_goals try simp only [evC] at hc
  · cases hc
  refine AWP.skip ?_
  show AWP _ _ _ _ _
  clear hc
  repeat refine AWP.nest ?_
  first | refine rsa hG [] [0, 1] fun K hK => ?_ | refine rna hG [] [0, 1] fun K hK => ?_
  repeat first | ((with_reducible refine shN ?_); refine sL ?_) | ((with_reducible refine shG ?_); refine sG ?_)
  refine Eq.mpr evalL_nil (hK _ ?_)
  clear hK K
  simp only [evU, St.keep, List.map_cons, look, reduceIte, Nat.reduceEqDiff]
  try show AWP _ _ _ _ _
  have hq : Byt (l.take 300) := hb.take _
  have hql : (l.take 300).length ≤ 1000000000 := by simp only [List.length_take]; omega
  generalize l.take 300 = q at hq hql ⊢
  obtain ⟨hmg, hms, htb, hn1, hn2, hlk⟩ := read_map hq hql
  have ⟨m1, m2, m3⟩ := hms
  have ⟨g1, g2, g3, g4⟩ := hmg
  repeat refine AWP.nest ?_
  first | refine rsa hG [] [0, 1, 5, 6] fun K hK => ?_ | refine rna hG [] [0, 1, 5, 6] fun K hK => ?_
  repeat first | ((with_reducible refine shN ?_); refine sL ?_) | ((with_reducible refine shG ?_); refine sG ?_)
  refine Eq.mpr evalL_nil (hK _ ?_)
  clear hK K
  simp only [evU, St.keep, List.map_cons, look, reduceIte, Nat.reduceEqDiff]
  try show AWP _ _ _ _ _
  repeat refine AWP.nest ?_
  first | refine rsa hG [] [1, 5, 6, 7, 8, 9, 10] fun K hK => ?_ | refine rna hG [] [1, 5, 6, 7, 8, 9, 10] fun K hK => ?_
  repeat first | ((with_reducible refine shN ?_); refine sL ?_) | ((with_reducible refine shG ?_); refine sG ?_)
  refine Eq.mpr evalL_nil (hK _ ?_)
  clear hK K
  simp only [evU, St.keep, List.map_cons, look, reduceIte, Nat.reduceEqDiff]
  try show AWP _ _ _ _ _
  repeat refine AWP.nest ?_
  first | refine rsa hG [] [1, 5, 6, 7, 8, 9, 31] fun K hK => ?_ | refine rna hG [] [1, 5, 6, 7, 8, 9, 31] fun K hK => ?_
  repeat first | ((with_reducible refine shN ?_); refine sL ?_) | ((with_reducible refine shG ?_); refine sG ?_)
  refine Eq.mpr evalL_nil (hK _ ?_)
  clear hK K
  simp only [evU, St.keep, List.map_cons, look, reduceIte, Nat.reduceEqDiff]
  try show AWP _ _ _ _ _
  cases eR : rightC q with
  | false =>
    obtain ⟨z1, z2, z3⟩ := ch_wrong eR
    have eI : (if false = true then (0 : Int) else 2) = 2 := rfl
    have eW : (false && wideC q) = false := rfl
    have eL : lookC false [] [] [] 65 = 0 := by unfold lookC; rw [if_neg (by decide)]; exact lookS_nil _ _
    rw [z1, z2, z3, eI, eW]
    rw [z1] at hmg
    clear g1 g2 g3 g4
    have ⟨g1, g2, g3, g4⟩ := hmg
    rw [z2, z3] at hms
    clear m1 m2 m3
    have ⟨m1, m2, m3⟩ := hms
    repeat refine AWP.nest ?_
    first | refine AWP.seq (AWP.cond (b := _) rfl (fun hc => ?_) (fun hc => ?_)) | refine AWP.cond (b := _) rfl (fun hc => ?_) (fun hc => ?_)
    all_goals try simp only [evC] at hc
    · repeat refine AWP.nest ?_
      have hxs := @eL
      first | refine rsa hG [] [4] fun K hK => ?_ | refine rna hG [] [4] fun K hK => ?_
      repeat first | ((with_reducible refine shN ?_); refine sL ?_) | ((with_reducible refine shG ?_); refine sG ?_)
      refine Eq.mpr evalL_nil (hK _ ?_)
      clear hK K hxs
      simp only [evU, St.keep, List.map_cons, look, reduceIte, Nat.reduceEqDiff]
      try show AWP _ _ _ _ _
      refine AWP.ret ?_
      refine ⟨.inl rfl, ⟨⟨_, rfl, ?_⟩, fun ob hob => by cases hob⟩⟩
      simp only [look, reduceIte, Nat.reduceEqDiff]
      refine sub1_of ?_
      simp
    · exfalso
      simp at hc
  | true =>
    have hlk' := hlk eR
    have eI : (if true = true then (0 : Int) else 2) = 0 := rfl
    have eW : (true && wideC q) = wideC q := rfl
    rw [eI, eW]
    clear hlk
    have hbd : ∀ c, 0 ≤ refC (tC q) (wideC q) (nC q) c ∧ refC (tC q) (wideC q) (nC q) c ≤ 65535 := fun c => by rw [← hlk']; exact lookC_bd hmg hms c
    generalize gC q = Gx at hmg g1 g2 g3 g4 hlk' ⊢
    generalize sgC q = Sx at hms m1 m2 m3 hlk' ⊢
    generalize dC q = Dx at hms m1 m2 m3 hlk' ⊢
    generalize tC q = tx at htb hlk' hbd ⊢
    generalize nC q = n at hn1 hn2 hlk' hbd ⊢
    generalize wideC q = w at hn2 hlk' hbd ⊢
    have hn3 : 0 ≤ (n : Int) := by omega
    have hn4 : w = false → (n : Int) ≤ 32767 := fun h => by have := hn2 h; omega
    have hwc : ∀ i, -2147483648 ≤ cs.getD i 0 ∧ cs.getD i 0 ≤ 2147483647 := fun i => hw.getD i
    repeat refine AWP.nest ?_
    first | refine AWP.seq (AWP.cond (b := _) rfl (fun hc => ?_) (fun hc => ?_)) | refine AWP.cond (b := _) rfl (fun hc => ?_) (fun hc => ?_)
    all_goals try simp only [evC] at hc
    · exfalso
      simp at hc
    refine AWP.skip ?_
    show AWP _ _ _ _ _
    clear hc
    repeat refine AWP.nest ?_
    first | refine rsa hG [] [1, 5, 7, 8, 9, 51] fun K hK => ?_ | refine rna hG [] [1, 5, 7, 8, 9, 51] fun K hK => ?_
    repeat first | ((with_reducible refine shN ?_); refine sL ?_) | ((with_reducible refine shG ?_); refine sG ?_)
    refine Eq.mpr evalL_nil (hK _ ?_)
    clear hK K
    simp only [evU, St.keep, List.map_cons, look, reduceIte, Nat.reduceEqDiff]
    try show AWP _ _ _ _ _
    repeat refine AWP.nest ?_
    first | refine AWP.seq (AWP.cond (b := _) rfl (fun hc => ?_) (fun hc => ?_)) | refine AWP.cond (b := _) rfl (fun hc => ?_) (fun hc => ?_)
    all_goals try simp only [evC] at hc
    · exfalso
      simp at hc
    refine AWP.skip ?_
    show AWP _ _ _ _ _
    clear hc
    repeat refine AWP.nest ?_
    first | refine rsa hG [] [1, 5, 7, 8, 9, 52] fun K hK => ?_ | refine rna hG [] [1, 5, 7, 8, 9, 52] fun K hK => ?_
    repeat first | ((with_reducible refine shN ?_); refine sL ?_) | ((with_reducible refine shG ?_); refine sG ?_)
    refine Eq.mpr evalL_nil (hK _ ?_)
    clear hK K
    simp only [evU, St.keep, List.map_cons, look, reduceIte, Nat.reduceEqDiff]
    try show AWP _ _ _ _ _
    repeat refine AWP.nest ?_
    first | refine AWP.seq (AWP.block ?_) | refine AWP.block ?_
    refine AWP.loop (fun k st => ∃ (c : Nat), c ≤ 200 ∧ k = 200 - c ∧ st = ⟨[(1, .d false (.sl 1 (ints .i32 cs))), (5, .ptr 0 0), (7, .d false (.sl 1 (ints .u8 tx))), (8, .d true (.v (.bool w))), (9, .d true (.v (.int .i64 (n : Int)))), (52, .d true (.v (.int .i32 (c : Int))))], [some (.cells 87 [.d true (.v (.bool w)), .d true (.sl 3 (sps Gx)), .d true (.sl 4 (sgs Sx)), .d true (.sl 1 (ints .u8 Dx))])]⟩) (200) ?_ ?_
    · exact ⟨0, by omega, rfl, rfl⟩
    rintro k st ⟨c, hc3, hk3, rfl⟩
    repeat refine AWP.nest ?_
    first | refine rsa hG [] [1, 5, 7, 8, 9, 52, 53] fun K hK => ?_ | refine rna hG [] [1, 5, 7, 8, 9, 52, 53] fun K hK => ?_
    repeat first | ((with_reducible refine shN ?_); refine sL ?_) | ((with_reducible refine shG ?_); refine sG ?_)
    refine Eq.mpr evalL_nil (hK _ ?_)
    clear hK K
    simp only [evU, St.keep, List.map_cons, look, reduceIte, Nat.reduceEqDiff]
    try show AWP _ _ _ _ _
    first | refine AWP.seq (AWP.cond (b := _) rfl (fun hc => ?_) (fun hc => ?_)) | refine AWP.cond (b := _) rfl (fun hc => ?_) (fun hc => ?_)
    rotate_left
    · refine AWP.exit ?_
      show AWP _ _ _ _ _
      simp only [evC, Int.not_lt] at hc
      clear hc hk3 hc3
      repeat refine AWP.nest ?_
      first | refine rsa hG [] [5, 7, 8, 9, 67, 68, 69] fun K hK => ?_ | refine rna hG [] [5, 7, 8, 9, 67, 68, 69] fun K hK => ?_
      repeat first | ((with_reducible refine shN ?_); refine sL ?_) | ((with_reducible refine shG ?_); refine sG ?_)
      refine Eq.mpr evalL_nil (hK _ ?_)
      clear hK K
      simp only [evU, St.keep, List.map_cons, look, reduceIte, Nat.reduceEqDiff]
      try show AWP _ _ _ _ _
      repeat refine AWP.nest ?_
      first | refine AWP.seq (AWP.block ?_) | refine AWP.block ?_
      refine AWP.loop (fun k st => ∃ (i : Nat), i ≤ cs.length ∧ k = cs.length - i ∧ st = ⟨[(5, .ptr 0 0), (7, .d false (.sl 1 (ints .u8 tx))), (8, .d true (.v (.bool w))), (9, .d true (.v (.int .i64 (n : Int)))), (67, .d false (.sl 1 (ints .i32 cs))), (68, .d true (.v (.int .i64 (cs.length : Int)))), (69, .d true (.v (.int .i64 (i : Int))))], [some (.cells 87 [.d true (.v (.bool w)), .d true (.sl 3 (sps Gx)), .d true (.sl 4 (sgs Sx)), .d true (.sl 1 (ints .u8 Dx))])]⟩) (cs.length) ?_ ?_
      · exact ⟨0, Nat.zero_le _, rfl, rfl⟩
      rintro k st ⟨i, hi, hk, rfl⟩
      repeat refine AWP.nest ?_
      first | refine rsa hG [] [5, 7, 8, 9, 67, 68, 69, 70] fun K hK => ?_ | refine rna hG [] [5, 7, 8, 9, 67, 68, 69, 70] fun K hK => ?_
      repeat first | ((with_reducible refine shN ?_); refine sL ?_) | ((with_reducible refine shG ?_); refine sG ?_)
      refine Eq.mpr evalL_nil (hK _ ?_)
      clear hK K
      simp only [evU, St.keep, List.map_cons, look, reduceIte, Nat.reduceEqDiff]
      try show AWP _ _ _ _ _
      first | refine AWP.seq (AWP.cond (b := _) rfl (fun hc => ?_) (fun hc => ?_)) | refine AWP.cond (b := _) rfl (fun hc => ?_) (fun hc => ?_)
      rotate_left
      · refine AWP.exit ?_
        show AWP _ _ _ _ _
        simp only [evC, Int.not_lt] at hc
        repeat refine AWP.nest ?_
        first | refine rsa hG [] [4] fun K hK => ?_ | refine rna hG [] [4] fun K hK => ?_
        repeat first | ((with_reducible refine shN ?_); refine sL ?_) | ((with_reducible refine shG ?_); refine sG ?_)
        refine Eq.mpr evalL_nil (hK _ ?_)
        clear hK K
        simp only [evU, St.keep, List.map_cons, look, reduceIte, Nat.reduceEqDiff]
        try show AWP _ _ _ _ _
        refine AWP.ret ?_
        refine ⟨.inl rfl, ⟨⟨_, rfl, ?_⟩, fun ob hob => by cases hob⟩⟩
        simp only [look, reduceIte, Nat.reduceEqDiff]
        exact sub1_of rfl
      simp only [evC, Int.not_lt] at hc
      refine AWP.skip ?_
      show AWP _ _ _ _ _
      have hi' := hc
      clear hc
      have hwi := hwc i
      repeat refine AWP.nest ?_
      first | refine AWP.seq (AWP.block ?_) | refine AWP.block ?_
      repeat refine AWP.nest ?_
      first | refine rsa hG [] [5, 7, 8, 9, 12, 13, 67, 68, 69] fun K hK => ?_ | refine rna hG [] [5, 7, 8, 9, 12, 13, 67, 68, 69] fun K hK => ?_
      repeat first | ((with_reducible refine shN ?_); refine sL ?_) | ((with_reducible refine shG ?_); refine sG ?_)
      refine Eq.mpr evalL_nil (hK _ ?_)
      clear hK K
      simp only [evU, St.keep, List.map_cons, look, reduceIte, Nat.reduceEqDiff]
      try show AWP _ _ _ _ _
      generalize cs.getD i 0 = c at hwi ⊢
      have b1 := hbd c
      by_cases h20 : (i : Int) < 20
      · have e20 : ((i : Int) < 20) = True := eq_true h20
        repeat refine AWP.nest ?_
        have hxs := And.intro @hlk' @e20
        first | refine rsm hG [] [5, 7, 8, 9, 67, 68, 69, 88] fun K hK => ?_ | refine rnm hG [] [5, 7, 8, 9, 67, 68, 69, 88] fun K hK => ?_
        repeat first | ((with_reducible refine mhN ?_); refine mN ?_) | ((with_reducible refine mhG ?_); refine mT ?_) | ((with_reducible refine mhG ?_); refine mF ?_)
        refine Eq.mpr evalM_nil (hK _ ?_)
        clear hK K hxs
        simp only [evU, St.keep, List.map_cons, look, reduceIte, Nat.reduceEqDiff]
        try show AWP _ _ _ _ _
        repeat refine AWP.nest ?_
        first | refine AWP.seq (AWP.cond (b := _) rfl (fun hc => ?_) (fun hc => ?_)) | refine AWP.cond (b := _) rfl (fun hc => ?_) (fun hc => ?_)
        all_goals try simp only [evC] at hc
        · exfalso
          simp at hc
        refine AWP.skip ?_
        show AWP _ _ _ _ _
        clear hc
        repeat refine AWP.nest ?_
        first | refine rsa hG [] [5, 7, 8, 9, 67, 68, 69] fun K hK => ?_ | refine rna hG [] [5, 7, 8, 9, 67, 68, 69] fun K hK => ?_
        repeat first | ((with_reducible refine shN ?_); refine sL ?_) | ((with_reducible refine shG ?_); refine sG ?_)
        refine Eq.mpr evalL_nil (hK _ ?_)
        clear hK K
        simp only [evU, St.keep, List.map_cons, look, reduceIte, Nat.reduceEqDiff]
        try show AWP _ _ _ _ _
        exact ⟨cs.length - (i + 1), by omega, i + 1, by omega, rfl, rfl⟩
      · have e20 : ((i : Int) < 20) = False := eq_false h20
        repeat refine AWP.nest ?_
        have hxs := @e20
        first | refine rsm hG [] [5, 7, 8, 9, 67, 68, 69, 88] fun K hK => ?_ | refine rnm hG [] [5, 7, 8, 9, 67, 68, 69, 88] fun K hK => ?_
        repeat first | ((with_reducible refine mhN ?_); refine mN ?_) | ((with_reducible refine mhG ?_); refine mT ?_) | ((with_reducible refine mhG ?_); refine mF ?_)
        refine Eq.mpr evalM_nil (hK _ ?_)
        clear hK K hxs
        simp only [evU, St.keep, List.map_cons, look, reduceIte, Nat.reduceEqDiff]
        try show AWP _ _ _ _ _
        repeat refine AWP.nest ?_
        first | refine AWP.seq (AWP.cond (b := _) rfl (fun hc => ?_) (fun hc => ?_)) | refine AWP.cond (b := _) rfl (fun hc => ?_) (fun hc => ?_)
        all_goals try simp only [evC] at hc
        · exfalso
          simp at hc
        refine AWP.skip ?_
        show AWP _ _ _ _ _
        clear hc
        repeat refine AWP.nest ?_
        first | refine rsa hG [] [5, 7, 8, 9, 67, 68, 69] fun K hK => ?_ | refine rna hG [] [5, 7, 8, 9, 67, 68, 69] fun K hK => ?_
        repeat first | ((with_reducible refine shN ?_); refine sL ?_) | ((with_reducible refine shG ?_); refine sG ?_)
        refine Eq.mpr evalL_nil (hK _ ?_)
        clear hK K
        simp only [evU, St.keep, List.map_cons, look, reduceIte, Nat.reduceEqDiff]
        try show AWP _ _ _ _ _
        exact ⟨cs.length - (i + 1), by omega, i + 1, by omega, rfl, rfl⟩
    simp only [evC, Int.not_lt] at hc
    refine AWP.skip ?_
    show AWP _ _ _ _ _
    have hc' := hc
    clear hc
    have b1 := hbd c
    repeat refine AWP.nest ?_
    first | refine AWP.seq (AWP.block ?_) | refine AWP.block ?_
    repeat refine AWP.nest ?_
    first | refine rsa hG [] [1, 5, 7, 8, 9, 11, 52] fun K hK => ?_ | refine rna hG [] [1, 5, 7, 8, 9, 11, 52] fun K hK => ?_
    repeat first | ((with_reducible refine shN ?_); refine sL ?_) | ((with_reducible refine shG ?_); refine sG ?_)
    refine Eq.mpr evalL_nil (hK _ ?_)
    clear hK K
    simp only [evU, St.keep, List.map_cons, look, reduceIte, Nat.reduceEqDiff]
    try show AWP _ _ _ _ _
    repeat refine AWP.nest ?_
    have hxs := @hlk'
    first | refine rsa hG [] [1, 5, 7, 8, 9, 52, 65] fun K hK => ?_ | refine rna hG [] [1, 5, 7, 8, 9, 52, 65] fun K hK => ?_
    repeat first | ((with_reducible refine shN ?_); refine sL ?_) | ((with_reducible refine shG ?_); refine sG ?_)
    refine Eq.mpr evalL_nil (hK _ ?_)
    clear hK K hxs
    simp only [evU, St.keep, List.map_cons, look, reduceIte, Nat.reduceEqDiff]
    try show AWP _ _ _ _ _
    repeat refine AWP.nest ?_
    first | refine AWP.seq (AWP.cond (b := _) rfl (fun hc => ?_) (fun hc => ?_)) | refine AWP.cond (b := _) rfl (fun hc => ?_) (fun hc => ?_)
    all_goals try simp only [evC] at hc
    · exfalso
      simp at hc
    refine AWP.skip ?_
    show AWP _ _ _ _ _
    clear hc
    repeat refine AWP.nest ?_
    first | refine rsa hG [] [1, 5, 7, 8, 9, 52] fun K hK => ?_ | refine rna hG [] [1, 5, 7, 8, 9, 52] fun K hK => ?_
    repeat first | ((with_reducible refine shN ?_); refine sL ?_) | ((with_reducible refine shG ?_); refine sG ?_)
    refine Eq.mpr evalL_nil (hK _ ?_)
    clear hK K
    simp only [evU, St.keep, List.map_cons, look, reduceIte, Nat.reduceEqDiff]
    try show AWP _ _ _ _ _
    exact ⟨200 - (c + 1), by omega, c + 1, by omega, rfl, rfl⟩
theorem law22 (x : Dat) (h : (AT.sl 5 (.int .u8)).holds x) (y : Dat) (h2 : (AT.sl 21 (.int .i32)).holds y) : Spec Try.prog 22 [.d x.flat x, .d y.flat y] none ⟨True, .d true (.v (.bool true)), none⟩ := by
  obtain ⟨l, rfl, hl⟩ := bytes_of h
  obtain ⟨ys, rfl, hy⟩ := h2
  obtain ⟨m, rfl, hm⟩ := ints_of hy
  exact s22 l hl m fun n hn => by have := bounds_i32 (hm n hn); omega
end Go.AM

