/- AM: CmapChooses. -/
import Derived.Test.YtmfobkiljlepjaaC54
set_option maxRecDepth 100000
set_option maxHeartbeats 8000000
set_option linter.unusedSimpArgs false
set_option linter.unusedVariables false
namespace Go.AM
open Go Go.Proofs

theorem lookC_bd3 {w : Bool} {G : List (Int × Int × Int)} {S : List (Int × Int × Int × Int)} {D : List Int} (h1 : MapG G) (h2 : MapS S D) (c : Int) : 0 ≤ lookC w G S D c ∧ lookC w G S D c ≤ 65535 := by
  unfold lookC
  split
  · exact lookG_bd h1 c
  · exact lookS_bd h2 c
def six : List (List Int) := [[0, 3, 0, 10], [0, 0, 0, 4], [0, 3, 0, 1], [0, 0, 0, 3], [0, 1, 0, 0], [0, 3, 0, 0]]
theorem six_ok (k : Nat) : Byt (six.getD k []) ∧ (six.getD k []).length ≤ 4 := by
  match k with
  | 0 => exact ⟨by intro b hb; simp [six] at hb; omega, by decide⟩
  | 1 => exact ⟨by intro b hb; simp [six] at hb; omega, by decide⟩
  | 2 => exact ⟨by intro b hb; simp [six] at hb; omega, by decide⟩
  | 3 => exact ⟨by intro b hb; simp [six] at hb; omega, by decide⟩
  | 4 => exact ⟨by intro b hb; simp [six] at hb; omega, by decide⟩
  | 5 => exact ⟨by intro b hb; simp [six] at hb; omega, by decide⟩
  | k + 6 => exact ⟨Byt.nil, by show ([] : List Int).length ≤ 4; decide⟩
theorem tab_ok {r : List (Int × Int)} (hr : risesB r 65534 = true) (hp : PrOK r) (hl : r.length ≤ 7000) (w : Bool) : Byt (hdrC w ++ bodyC r w) ∧ 12 ≤ (hdrC w ++ bodyC r w).length ∧ (hdrC w ++ bodyC r w).length ≤ 100000020 := by
  obtain ⟨B, G, S, D, h1, h2, h3, h4, h5, _⟩ := built_factsC hr hp hl w
  rw [h1]
  exact ⟨h3, h4, h5⟩
theorem toPrs_nil0 : toPrs [] = [] := rfl
theorem prs9_nil0 : prs9 [] = [] := rfl


theorem s23 (ks : List Int) (hb : Byt ks) (gs hs : List Int) (hg : W16 gs) (hh : W16 hs) (c : Int) (hc0 : -2147483648 ≤ c) (hc1 : c ≤ 2147483647) : Spec Try.prog 23 [.d false (.sl 1 (ints .u8 ks)), .d false (.sl 1 (ints .u16 gs)), .d false (.sl 1 (ints .u16 hs)), .d true (.v (.int .i32 c))] none ⟨True, .d true (.v (.bool true)), none⟩ := by
  have hf32 : F90 32 = e32 := rfl
  have hf35 : F90 35 = e35 := rfl
  have hf59 : F90 59 = e59 := rfl
  have hf65 : F90 65 = e65 := rfl
  have hf66 : F90 66 = e66 := rfl
  have hf68 : F90 68 = e68 := rfl
  have hf69 : F90 69 = e69 := rfl
  have hf70 : F90 70 = e70 := rfl
  have hf71 : F90 71 = e71 := rfl
  have hf72 : F90 72 = e72 := rfl
  have hf73 : F90 73 = e73 := rfl
  have hG := (Gf_ok F90_ok)
  have hfs := And.intro @hf32 (And.intro @e32.eq_1 (And.intro @hf35 (And.intro @e35.eq_1 (And.intro @hf59 (And.intro @e59.eq_1 (And.intro @hf65 (And.intro @e65.eq_1 (And.intro @hf66 (And.intro @e66.eq_1 (And.intro @hf68 (And.intro @e68.eq_1 (And.intro @hf69 (And.intro @e69.eq_1 (And.intro @hf70 (And.intro @e70.eq_1 (And.intro @hf71 (And.intro @e71.eq_1 (And.intro @hf72 (And.intro @e72.eq_1 (And.intro @hf73 (And.intro @e73.eq_1 (And.intro @evP (And.intro @evS (And.intro @toPrs_prs (And.intro @toPrs_prs9 (And.intro @toSps_sps (And.intro @toSgs_sgs (And.intro @toPrs_nil0 @prs9_nil0))))))))))))))))))))))))))))
  have hxs := @Nat.add_zero
  refine spec_of_awp (Gf_ok F90_ok) Try.func23 rfl (Nat.le_of_ble_eq_true rfl) fun E hps hN _ => ?_
  simp only [begin, List.zipIdx_cons, List.zipIdx_nil, List.map_cons, List.map_nil, Option.toList, Nat.zero_add, Nat.reduceAdd]
  refine AWP.len 0 rfl fun hlen => ?_
  rw [ints_length] at hlen
  repeat refine AWP.nest ?_
  first | refine rsa hG [] [0, 1, 2, 3] fun K hK => ?_ | refine rna hG [] [0, 1, 2, 3] fun K hK => ?_
  repeat first | ((with_reducible refine shN ?_); refine sL ?_) | ((with_reducible refine shG ?_); refine sG ?_)
  refine Eq.mpr evalL_nil (hK _ ?_)
  clear hK K
  simp only [evU, St.keep, List.map_cons, look, reduceIte, Nat.reduceEqDiff]
  try show AWP _ _ _ _ _
  repeat refine AWP.nest ?_
  first | refine rsa hG [] [0, 1, 2, 3, 27] fun K hK => ?_ | refine rna hG [] [0, 1, 2, 3, 27] fun K hK => ?_
  repeat first | ((with_reducible refine shN ?_); refine sL ?_) | ((with_reducible refine shG ?_); refine sG ?_)
  refine Eq.mpr evalL_nil (hK _ ?_)
  clear hK K
  simp only [evU, St.keep, List.map_cons, look, reduceIte, Nat.reduceEqDiff]
  try show AWP _ _ _ _ _
  repeat refine AWP.nest ?_
  first | refine AWP.seq (AWP.cond (b := _) rfl (fun hc => ?_) (fun hc => ?_)) | refine AWP.cond (b := _) rfl (fun hc => ?_) (fun hc => ?_)
  all_goals try simp only [evC] at hc
  · cases hc
  refine AWP.skip ?_
  show AWP _ _ _ _ _
  clear hc
  repeat refine AWP.nest ?_
  first | refine rsa hG [] [0, 3, 10] fun K hK => ?_ | refine rna hG [] [0, 3, 10] fun K hK => ?_
  repeat first | ((with_reducible refine shN ?_); refine sL ?_) | ((with_reducible refine shG ?_); refine sG ?_)
  refine Eq.mpr evalL_nil (hK _ ?_)
  clear hK K
  simp only [evU, St.keep, List.map_cons, look, reduceIte, Nat.reduceEqDiff]
  try show AWP _ _ _ _ _
  have hr := rsg_rises (md := 2000) (lim := 65534) (by decide) (k := 30) (a := -1) (gs := gs) hh (by decide) (by decide)
  have hp := rsg_ok (md := 2000) (lim := 65534) (by decide) (k := 30) (a := -1) (gs := gs) hh (by decide) (by decide)
  have hl := rsg_len (md := 2000) (lim := 65534) (k := 30) (a := -1) (gs := gs) (hs := hs)
  generalize rsg 2000 65534 30 (-1) gs hs = r at hr hp hl ⊢
  have hl7 : r.length ≤ 7000 := by omega
  repeat refine AWP.nest ?_
  first | refine rsa hG [] [0, 3, 10, 11] fun K hK => ?_ | refine rna hG [] [0, 3, 10, 11] fun K hK => ?_
  repeat first | ((with_reducible refine shN ?_); refine sL ?_) | ((with_reducible refine shG ?_); refine sG ?_)
  refine Eq.mpr evalL_nil (hK _ ?_)
  clear hK K
  simp only [evU, St.keep, List.map_cons, look, reduceIte, Nat.reduceEqDiff]
  try show AWP _ _ _ _ _
  obtain ⟨n, hn⟩ : ∃ n : Nat, minI (ks.length : Int) 6 = n := ⟨(minI (ks.length : Int) 6).toNat, by unfold minI; split <;> omega⟩
  rw [hn]
  have hn6 : n ≤ 6 ∧ n ≤ ks.length := by
    unfold minI at hn
    split at hn <;> omega
  clear hn
  repeat refine AWP.nest ?_
  first | refine rsa hG [] [0, 3, 10, 11, 12] fun K hK => ?_ | refine rna hG [] [0, 3, 10, 11, 12] fun K hK => ?_
  repeat first | ((with_reducible refine shN ?_); refine sL ?_) | ((with_reducible refine shG ?_); refine sG ?_)
  refine Eq.mpr evalL_nil (hK _ ?_)
  clear hK K
  simp only [evU, St.keep, List.map_cons, look, reduceIte, Nat.reduceEqDiff]
  try show AWP _ _ _ _ _
  repeat refine AWP.nest ?_
  first | refine rsa hG [] [0, 3, 10, 11, 12, 13] fun K hK => ?_ | refine rna hG [] [0, 3, 10, 11, 12, 13] fun K hK => ?_
  repeat first | ((with_reducible refine shN ?_); refine sL ?_) | ((with_reducible refine shG ?_); refine sG ?_)
  refine Eq.mpr evalL_nil (hK _ ?_)
  clear hK K
  simp only [evU, St.keep, List.map_cons, look, reduceIte, Nat.reduceEqDiff]
  try show AWP _ _ _ _ _
  refine AWP.nilD 13 true 1 rfl ?_
  refine AWP.keep [0, 3, 10, 11, 12, 13] ?_
  simp only [St.keep, List.map_cons, List.map_nil, look, reduceIte, Nat.reduceEqDiff]
  have hb0 : Byt [0, 0, (n : Int) / 256 % 256, (n : Int) % 256] := by
    intro b hb
    simp only [List.mem_cons, List.not_mem_nil, or_false] at hb
    omega
  have hkt : Byt (ks.take n) := hb.take _
  have hktl : (ks.take n).length = n := by rw [List.length_take]; omega
  repeat refine AWP.nest ?_
  have hxs := @hktl
  first | refine rsa hG [] [3, 10, 11, 12, 13, 44, 45, 46] fun K hK => ?_ | refine rna hG [] [3, 10, 11, 12, 13, 44, 45, 46] fun K hK => ?_
  repeat first | ((with_reducible refine shN ?_); refine sL ?_) | ((with_reducible refine shG ?_); refine sG ?_)
  refine Eq.mpr evalL_nil (hK _ ?_)
  clear hK K hxs
  simp only [evU, St.keep, List.map_cons, look, reduceIte, Nat.reduceEqDiff]
  try show AWP _ _ _ _ _
  repeat refine AWP.nest ?_
  first | refine AWP.seq (AWP.block ?_) | refine AWP.block ?_
  refine AWP.loop (fun k st => ∃ (i : Nat) (X Y : List Int), i ≤ n ∧ k = n - i ∧ Byt X ∧ Byt Y ∧ X.length ≤ 4 + 8 * i ∧ Y.length ≤ 100000020 * i ∧ st = ⟨[(3, .d true (.v (.int .i32 c))), (10, .d true (.sl 2 (prs9 r))), (11, .d true (.v (.int .i64 (n : Int)))), (12, .d true (.sl 1 (ints .u8 X))), (13, .d true (.sl 1 (ints .u8 Y))), (44, .d false (.sl 1 (ints .u8 (ks.take n)))), (45, .d true (.v (.int .i64 (n : Int)))), (46, .d true (.v (.int .i64 (i : Int))))], []⟩) (n) ?_ ?_
  · exact ⟨0, [0, 0, (n : Int) / 256 % 256, (n : Int) % 256], [], Nat.zero_le _, rfl, hb0, Byt.nil, by simp, by simp, rfl⟩
  rintro k st ⟨i, X, Y, hi, hk, hX, hY, hXl, hYl, rfl⟩
  repeat refine AWP.nest ?_
  first | refine rsa hG [] [3, 10, 11, 12, 13, 44, 45, 46, 47] fun K hK => ?_ | refine rna hG [] [3, 10, 11, 12, 13, 44, 45, 46, 47] fun K hK => ?_
  repeat first | ((with_reducible refine shN ?_); refine sL ?_) | ((with_reducible refine shG ?_); refine sG ?_)
  refine Eq.mpr evalL_nil (hK _ ?_)
  clear hK K
  simp only [evU, St.keep, List.map_cons, look, reduceIte, Nat.reduceEqDiff]
  try show AWP _ _ _ _ _
  first | refine AWP.seq (AWP.cond (b := _) rfl (fun hc => ?_) (fun hc => ?_)) | refine AWP.cond (b := _) rfl (fun hc => ?_) (fun hc => ?_)
  rotate_left
  · refine AWP.exit ?_
    show AWP _ _ _ _ _
    simp only [evC, Int.not_lt] at hc
    clear hb0 hkt hktl hk
    have hXY : Byt (X ++ Y) := hX.append hY
    have hql : (X ++ Y).length ≤ 1000000000 := by rw [List.length_append]; omega
    repeat refine AWP.nest ?_
    first | refine rsa hG [] [3, 10, 12] fun K hK => ?_ | refine rna hG [] [3, 10, 12] fun K hK => ?_
    repeat first | ((with_reducible refine shN ?_); refine sL ?_) | ((with_reducible refine shG ?_); refine sG ?_)
    refine Eq.mpr evalL_nil (hK _ ?_)
    clear hK K
    simp only [evU, St.keep, List.map_cons, look, reduceIte, Nat.reduceEqDiff]
    try show AWP _ _ _ _ _
    generalize X ++ Y = q at hXY hql ⊢
    obtain ⟨hmg, hms, htb, hn1, hn2, hlk⟩ := read_map hXY hql
    have ⟨m1, m2, m3⟩ := hms
    have ⟨g1, g2, g3, g4⟩ := hmg
    repeat refine AWP.nest ?_
    first | refine rsa hG [] [3, 10, 12, 18, 19] fun K hK => ?_ | refine rna hG [] [3, 10, 12, 18, 19] fun K hK => ?_
    repeat first | ((with_reducible refine shN ?_); refine sL ?_) | ((with_reducible refine shG ?_); refine sG ?_)
    refine Eq.mpr evalL_nil (hK _ ?_)
    clear hK K
    simp only [evU, St.keep, List.map_cons, look, reduceIte, Nat.reduceEqDiff]
    try show AWP _ _ _ _ _
    repeat refine AWP.nest ?_
    first | refine rsa hG [] [3, 10, 18, 19, 20, 21, 22, 23] fun K hK => ?_ | refine rna hG [] [3, 10, 18, 19, 20, 21, 22, 23] fun K hK => ?_
    repeat first | ((with_reducible refine shN ?_); refine sL ?_) | ((with_reducible refine shG ?_); refine sG ?_)
    refine Eq.mpr evalL_nil (hK _ ?_)
    clear hK K
    simp only [evU, St.keep, List.map_cons, look, reduceIte, Nat.reduceEqDiff]
    try show AWP _ _ _ _ _
    repeat refine AWP.nest ?_
    first | refine rsa hG [] [3, 10, 18, 19, 20, 21, 22, 110] fun K hK => ?_ | refine rna hG [] [3, 10, 18, 19, 20, 21, 22, 110] fun K hK => ?_
    repeat first | ((with_reducible refine shN ?_); refine sL ?_) | ((with_reducible refine shG ?_); refine sG ?_)
    refine Eq.mpr evalL_nil (hK _ ?_)
    clear hK K
    simp only [evU, St.keep, List.map_cons, look, reduceIte, Nat.reduceEqDiff]
    try show AWP _ _ _ _ _
    cases eR : rightC q with
    | false =>
      have eI : (if false = true then (0 : Int) else 2) = 2 := rfl
      rw [eI]
      repeat refine AWP.nest ?_
      first | refine AWP.seq (AWP.cond (b := _) rfl (fun hc => ?_) (fun hc => ?_)) | refine AWP.cond (b := _) rfl (fun hc => ?_) (fun hc => ?_)
      all_goals try simp only [evC] at hc
      · repeat refine AWP.nest ?_
        first | refine rsa hG [] [8] fun K hK => ?_ | refine rna hG [] [8] fun K hK => ?_
        repeat first | ((with_reducible refine shN ?_); refine sL ?_) | ((with_reducible refine shG ?_); refine sG ?_)
        refine Eq.mpr evalL_nil (hK _ ?_)
        clear hK K
        simp only [evU, St.keep, List.map_cons, look, reduceIte, Nat.reduceEqDiff]
        try show AWP _ _ _ _ _
        refine AWP.ret ?_
        refine ⟨.inl rfl, ⟨⟨_, rfl, ?_⟩, fun ob hob => by cases hob⟩⟩
        simp only [look, reduceIte, Nat.reduceEqDiff]
        refine sub1_of ?_
        simp
      · exfalso
        simp at hc
    | true =>
      have hlk' := hlk eR
      have eI : (if true = true then (0 : Int) else 2) = 0 := rfl
      have eW : (true && wideC q) = wideC q := rfl
      rw [eI, eW]
      clear hlk
      have hbd : ∀ c, 0 ≤ refC (tC q) (wideC q) (nC q) c ∧ refC (tC q) (wideC q) (nC q) c ≤ 65535 := fun c => by rw [← hlk']; exact lookC_bd3 hmg hms c
      generalize gC q = Gx at hmg g1 g2 g3 g4 hlk' ⊢
      generalize sgC q = Sx at hms m1 m2 m3 hlk' ⊢
      generalize dC q = Dx at hms m1 m2 m3 hlk' ⊢
      generalize tC q = tx at htb hlk' hbd ⊢
      generalize nC q = nn at hn1 hn2 hlk' hbd ⊢
      generalize wideC q = w at hn2 hlk' hbd ⊢
      have hn3 : 0 ≤ (nn : Int) := by omega
      have hn4 : w = false → (nn : Int) ≤ 32767 := fun h => by have := hn2 h; omega
      repeat refine AWP.nest ?_
      first | refine AWP.seq (AWP.cond (b := _) rfl (fun hc => ?_) (fun hc => ?_)) | refine AWP.cond (b := _) rfl (fun hc => ?_) (fun hc => ?_)
      all_goals try simp only [evC] at hc
      · exfalso
        simp at hc
      refine AWP.skip ?_
      show AWP _ _ _ _ _
      clear hc
      repeat refine AWP.nest ?_
      first | refine rsa hG [] [3, 18, 19, 20, 21, 22, 113, 114, 115] fun K hK => ?_ | refine rna hG [] [3, 18, 19, 20, 21, 22, 113, 114, 115] fun K hK => ?_
      repeat first | ((with_reducible refine shN ?_); refine sL ?_) | ((with_reducible refine shG ?_); refine sG ?_)
      refine Eq.mpr evalL_nil (hK _ ?_)
      clear hK K
      simp only [evU, St.keep, List.map_cons, look, reduceIte, Nat.reduceEqDiff]
      try show AWP _ _ _ _ _
      repeat refine AWP.nest ?_
      first | refine AWP.seq (AWP.block ?_) | refine AWP.block ?_
      refine AWP.loop (fun k st => ∃ (i : Nat), i ≤ r.length ∧ k = r.length - i ∧ st = ⟨[(3, .d true (.v (.int .i32 c))), (18, .ptr 0 0), (19, .d true (.v (.int .i64 0))), (20, .d false (.sl 1 (ints .u8 tx))), (21, .d true (.v (.bool w))), (22, .d true (.v (.int .i64 (nn : Int)))), (113, .d true (.sl 2 (prs9 r))), (114, .d true (.v (.int .i64 (r.length : Int)))), (115, .d true (.v (.int .i64 (i : Int))))], [some (.cells 87 [.d true (.v (.bool w)), .d true (.sl 3 (sps Gx)), .d true (.sl 4 (sgs Sx)), .d true (.sl 1 (ints .u8 Dx))])]⟩) (r.length) ?_ ?_
      · exact ⟨0, Nat.zero_le _, rfl, rfl⟩
      rintro k st ⟨i, hi, hk, rfl⟩
      repeat refine AWP.nest ?_
      first | refine rsa hG [] [3, 18, 19, 20, 21, 22, 113, 114, 115, 116] fun K hK => ?_ | refine rna hG [] [3, 18, 19, 20, 21, 22, 113, 114, 115, 116] fun K hK => ?_
      repeat first | ((with_reducible refine shN ?_); refine sL ?_) | ((with_reducible refine shG ?_); refine sG ?_)
      refine Eq.mpr evalL_nil (hK _ ?_)
      clear hK K
      simp only [evU, St.keep, List.map_cons, look, reduceIte, Nat.reduceEqDiff]
      try show AWP _ _ _ _ _
      first | refine AWP.seq (AWP.cond (b := _) rfl (fun hc => ?_) (fun hc => ?_)) | refine AWP.cond (b := _) rfl (fun hc => ?_) (fun hc => ?_)
      rotate_left
      · refine AWP.exit ?_
        show AWP _ _ _ _ _
        simp only [evC, Int.not_lt] at hc
        have b1 := hbd c
        repeat refine AWP.nest ?_
        have hxs := @hlk'
        first | refine rsm hG [] [8] fun K hK => ?_ | refine rnm hG [] [8] fun K hK => ?_
        repeat first | ((with_reducible refine mhN ?_); refine mN ?_) | ((with_reducible refine mhG ?_); refine mT ?_) | ((with_reducible refine mhG ?_); refine mF ?_)
        refine Eq.mpr evalM_nil (hK _ ?_)
        clear hK K hxs
        simp only [evU, St.keep, List.map_cons, look, reduceIte, Nat.reduceEqDiff]
        try show AWP _ _ _ _ _
        refine AWP.ret ?_
        refine ⟨.inl rfl, ⟨⟨_, rfl, ?_⟩, fun ob hob => by cases hob⟩⟩
        simp only [look, reduceIte, Nat.reduceEqDiff]
        refine sub1_of ?_
        simp
      simp only [evC, Int.not_lt] at hc
      refine AWP.skip ?_
      show AWP _ _ _ _ _
      have hi' := hc
      clear hc
      have hx := rises_at hr hi'
      have hx2 : 0 ≤ (r.getD i (0, 0)).1 ∧ (r.getD i (0, 0)).1 ≤ 65534 := ⟨hx.1, hx.2.1⟩
      have b1 := hbd (r.getD i (0, 0)).1
      repeat refine AWP.nest ?_
      first | refine AWP.seq (AWP.block ?_) | refine AWP.block ?_
      repeat refine AWP.nest ?_
      first | refine rsa hG [] [3, 18, 19, 20, 21, 22, 25, 113, 114, 115] fun K hK => ?_ | refine rna hG [] [3, 18, 19, 20, 21, 22, 25, 113, 114, 115] fun K hK => ?_
      repeat first | ((with_reducible refine shN ?_); refine sL ?_) | ((with_reducible refine shG ?_); refine sG ?_)
      refine Eq.mpr evalL_nil (hK _ ?_)
      clear hK K
      simp only [evU, St.keep, List.map_cons, look, reduceIte, Nat.reduceEqDiff]
      try show AWP _ _ _ _ _
      repeat refine AWP.nest ?_
      have hxs := @hlk'
      first | refine rda hG [] [3, 18, 19, 20, 21, 22, 113, 114, 115, 131] Try.mixed fun K hK => ?_ | refine dna hG [] [3, 18, 19, 20, 21, 22, 113, 114, 115, 131] Try.mixed fun K hK => ?_
      repeat first | ((with_reducible refine shD ?_); refine sD ?_) | ((with_reducible refine shDG ?_); refine sDG ?_)
      refine evalD_done (by kernel_rfl) (hK _ ?_)
      clear hK K hxs
      simp only [evU, St.keep, List.map_cons, look, reduceIte, Nat.reduceEqDiff]
      try show AWP _ _ _ _ _
      repeat refine AWP.nest ?_
      first | refine AWP.seq (AWP.cond (b := _) rfl (fun hc => ?_) (fun hc => ?_)) | refine AWP.cond (b := _) rfl (fun hc => ?_) (fun hc => ?_)
      all_goals try simp only [evC] at hc
      · exfalso
        simp at hc
      refine AWP.skip ?_
      show AWP _ _ _ _ _
      clear hc
      refine AWP.trunc 1 (by rw [hps]; decide) rfl ?_
      simp only [St.trunc, List.take_zero, List.take_succ_cons]
      repeat refine AWP.nest ?_
      first | refine rsa hG [] [3, 18, 19, 20, 21, 22, 113, 114, 115] fun K hK => ?_ | refine rna hG [] [3, 18, 19, 20, 21, 22, 113, 114, 115] fun K hK => ?_
      repeat first | ((with_reducible refine shN ?_); refine sL ?_) | ((with_reducible refine shG ?_); refine sG ?_)
      refine Eq.mpr evalL_nil (hK _ ?_)
      clear hK K
      simp only [evU, St.keep, List.map_cons, look, reduceIte, Nat.reduceEqDiff]
      try show AWP _ _ _ _ _
      exact ⟨r.length - (i + 1), by omega, i + 1, by omega, rfl, rfl⟩
  simp only [evC, Int.not_lt] at hc
  refine AWP.skip ?_
  show AWP _ _ _ _ _
  have hi' := hc
  clear hc hb0
  have hkx := hkt.getD i
  repeat refine AWP.nest ?_
  first | refine AWP.seq (AWP.block ?_) | refine AWP.block ?_
  repeat refine AWP.nest ?_
  first | refine rsa hG [] [3, 10, 11, 12, 13, 14, 15, 44, 45, 46] fun K hK => ?_ | refine rna hG [] [3, 10, 11, 12, 13, 14, 15, 44, 45, 46] fun K hK => ?_
  repeat first | ((with_reducible refine shN ?_); refine sL ?_) | ((with_reducible refine shG ?_); refine sG ?_)
  refine Eq.mpr evalL_nil (hK _ ?_)
  clear hK K
  simp only [evU, St.keep, List.map_cons, look, reduceIte, Nat.reduceEqDiff]
  try show AWP _ _ _ _ _
  generalize hkd : (ks.take n).getD i 0 = kx at hkx ⊢
  obtain ⟨T1, hT1⟩ : ∃ T1, hdrC (decide (kx % 6 < 2)) ++ bodyC r (decide (kx % 6 < 2)) = T1 := ⟨_, rfl⟩
  have ho1 := tab_ok hr hp hl7 (decide (kx % 6 < 2))
  rw [hT1] at ho1
  obtain ⟨ho1, ho2, ho3⟩ := ho1
  have hz1 : Byt ((T1.drop 12).take (T1.length - 12)) := (ho1.drop _).take _
  have hz2 : ((T1.drop 12).take (T1.length - 12)).length ≤ 100000020 := by simp only [List.length_take, List.length_drop]; omega
  repeat refine AWP.nest ?_
  have hxs := @hT1
  first | refine rsa hG [] [3, 10, 11, 12, 13, 14, 15, 16, 44, 45, 46] fun K hK => ?_ | refine rna hG [] [3, 10, 11, 12, 13, 14, 15, 16, 44, 45, 46] fun K hK => ?_
  repeat first | ((with_reducible refine shN ?_); refine sL ?_) | ((with_reducible refine shG ?_); refine sG ?_)
  refine Eq.mpr evalL_nil (hK _ ?_)
  clear hK K hxs
  simp only [evU, St.keep, List.map_cons, look, reduceIte, Nat.reduceEqDiff]
  try show AWP _ _ _ _ _
  generalize (T1.drop 12).take (T1.length - 12) = Z at hz1 hz2 ⊢
  clear hT1 ho1 ho2 ho3
  obtain ⟨h61, h62⟩ := six_ok (kx % 6).toNat
  have hsix : ([Dat.sl 1 (ints .u8 [0, 3, 0, 10]), Dat.sl 1 (ints .u8 [0, 0, 0, 4]), Dat.sl 1 (ints .u8 [0, 3, 0, 1]), Dat.sl 1 (ints .u8 [0, 0, 0, 3]), Dat.sl 1 (ints .u8 [0, 1, 0, 0]), Dat.sl 1 (ints .u8 [0, 3, 0, 0])] : List Dat).getD (kx % 6).toNat (.sl 1 []) = .sl 1 (ints .u8 (six.getD (kx % 6).toNat [])) := rows_getD (ls := six)
  have hfin : ∀ Z : List Int, Byt Z → Z.length ≤ 100000020 → Byt (Y ++ Z) ∧ (Y ++ Z).length ≤ 100000020 * (i + 1) := fun Z h1 h2 => ⟨hY.append h1, by rw [List.length_append]; omega⟩
  repeat refine AWP.nest ?_
  first | refine rsa hG [] [3, 10, 11, 12, 13, 14, 15, 16, 44, 45, 46, 59] fun K hK => ?_ | refine rna hG [] [3, 10, 11, 12, 13, 14, 15, 16, 44, 45, 46, 59] fun K hK => ?_
  repeat first | ((with_reducible refine shN ?_); refine sL ?_) | ((with_reducible refine shG ?_); refine sG ?_)
  refine Eq.mpr evalL_nil (hK _ ?_)
  clear hK K
  simp only [evU, St.keep, List.map_cons, look, reduceIte, Nat.reduceEqDiff]
  try show AWP _ _ _ _ _
  repeat refine AWP.nest ?_
  first | refine AWP.seq (AWP.cond (b := _) rfl (fun hc => ?_) (fun hc => ?_)) | refine AWP.cond (b := _) rfl (fun hc => ?_) (fun hc => ?_)
  all_goals try simp only [evC] at hc
  · obtain ⟨T2, hT2⟩ : ∃ T2, hdrC (decide (kx % 6 < 2)) ++ bodyC [] (decide (kx % 6 < 2)) = T2 := ⟨_, rfl⟩
    have hr0 : risesB [] 65534 = true := rfl
    have hp0 : PrOK [] := mem_pr (by simp)
    have ho1 := tab_ok hr0 hp0 (by decide) (decide (kx % 6 < 2))
    rw [hT2] at ho1
    obtain ⟨ho1, ho2, ho3⟩ := ho1
    have hz3 : Byt ((T2.drop 12).take (T2.length - 12)) := (ho1.drop _).take _
    have hz4 : ((T2.drop 12).take (T2.length - 12)).length ≤ 100000020 := by simp only [List.length_take, List.length_drop]; omega
    repeat refine AWP.nest ?_
    have hxs := @hT2
    first | refine rsa hG [] [3, 10, 11, 12, 13, 14, 15, 16, 44, 45, 46] fun K hK => ?_ | refine rna hG [] [3, 10, 11, 12, 13, 14, 15, 16, 44, 45, 46] fun K hK => ?_
    repeat first | ((with_reducible refine shN ?_); refine sL ?_) | ((with_reducible refine shG ?_); refine sG ?_)
    refine Eq.mpr evalL_nil (hK _ ?_)
    clear hK K hxs
    simp only [evU, St.keep, List.map_cons, look, reduceIte, Nat.reduceEqDiff]
    try show AWP _ _ _ _ _
    generalize (T2.drop 12).take (T2.length - 12) = Z2 at hz3 hz4 ⊢
    clear hT2 ho1 ho2 ho3
    repeat refine AWP.nest ?_
    first | refine rsa hG [] [3, 10, 11, 12, 13, 15, 16, 17, 44, 45, 46] fun K hK => ?_ | refine rna hG [] [3, 10, 11, 12, 13, 15, 16, 17, 44, 45, 46] fun K hK => ?_
    repeat first | ((with_reducible refine shN ?_); refine sL ?_) | ((with_reducible refine shG ?_); refine sG ?_)
    refine Eq.mpr evalL_nil (hK _ ?_)
    clear hK K
    simp only [evU, St.keep, List.map_cons, look, reduceIte, Nat.reduceEqDiff]
    try show AWP _ _ _ _ _
    repeat refine AWP.nest ?_
    have hxs := @hsix
    first | refine rda hG [] [3, 10, 11, 12, 13, 16, 44, 45, 46] Try.mixed fun K hK => ?_ | refine dna hG [] [3, 10, 11, 12, 13, 16, 44, 45, 46] Try.mixed fun K hK => ?_
    repeat first | ((with_reducible refine shD ?_); refine sD ?_) | ((with_reducible refine shDG ?_); refine sDG ?_)
    refine evalD_done (by kernel_rfl) (hK _ ?_)
    clear hK K hxs
    simp only [evU, St.keep, List.map_cons, look, reduceIte, Nat.reduceEqDiff]
    try show AWP _ _ _ _ _
    repeat refine AWP.nest ?_
    first | refine rsa hG [] [3, 10, 11, 12, 13, 44, 45, 46] fun K hK => ?_ | refine rna hG [] [3, 10, 11, 12, 13, 44, 45, 46] fun K hK => ?_
    repeat first | ((with_reducible refine shN ?_); refine sL ?_) | ((with_reducible refine shG ?_); refine sG ?_)
    refine Eq.mpr evalL_nil (hK _ ?_)
    clear hK K
    simp only [evU, St.keep, List.map_cons, look, reduceIte, Nat.reduceEqDiff]
    try show AWP _ _ _ _ _
    repeat refine AWP.nest ?_
    first | refine rsa hG [] [3, 10, 11, 12, 13, 44, 45, 46] fun K hK => ?_ | refine rna hG [] [3, 10, 11, 12, 13, 44, 45, 46] fun K hK => ?_
    repeat first | ((with_reducible refine shN ?_); refine sL ?_) | ((with_reducible refine shG ?_); refine sG ?_)
    refine Eq.mpr evalL_nil (hK _ ?_)
    clear hK K
    simp only [evU, St.keep, List.map_cons, look, reduceIte, Nat.reduceEqDiff]
    try show AWP _ _ _ _ _
    refine ⟨n - (i + 1), by omega, i + 1, _, _, by omega, rfl, ?_, (hfin Z2 hz3 hz4).1, ?_, (hfin Z2 hz3 hz4).2, rfl⟩
    · refine hX.append (h61.append ?_)
      intro b hb
      simp only [List.mem_cons, List.not_mem_nil, or_false] at hb
      omega
    · simp only [List.length_append, List.length_cons, List.length_nil]
      omega
  refine AWP.skip ?_
  show AWP _ _ _ _ _
  repeat refine AWP.nest ?_
  first | refine rsa hG [] [3, 10, 11, 12, 13, 15, 16, 17, 44, 45, 46] fun K hK => ?_ | refine rna hG [] [3, 10, 11, 12, 13, 15, 16, 17, 44, 45, 46] fun K hK => ?_
  repeat first | ((with_reducible refine shN ?_); refine sL ?_) | ((with_reducible refine shG ?_); refine sG ?_)
  refine Eq.mpr evalL_nil (hK _ ?_)
  clear hK K
  simp only [evU, St.keep, List.map_cons, look, reduceIte, Nat.reduceEqDiff]
  try show AWP _ _ _ _ _
  repeat refine AWP.nest ?_
  have hxs := @hsix
  first | refine rda hG [] [3, 10, 11, 12, 13, 16, 44, 45, 46] Try.mixed fun K hK => ?_ | refine dna hG [] [3, 10, 11, 12, 13, 16, 44, 45, 46] Try.mixed fun K hK => ?_
  repeat first | ((with_reducible refine shD ?_); refine sD ?_) | ((with_reducible refine shDG ?_); refine sDG ?_)
  refine evalD_done (by kernel_rfl) (hK _ ?_)
  clear hK K hxs
  simp only [evU, St.keep, List.map_cons, look, reduceIte, Nat.reduceEqDiff]
  try show AWP _ _ _ _ _
  repeat refine AWP.nest ?_
  first | refine rsa hG [] [3, 10, 11, 12, 13, 44, 45, 46] fun K hK => ?_ | refine rna hG [] [3, 10, 11, 12, 13, 44, 45, 46] fun K hK => ?_
  repeat first | ((with_reducible refine shN ?_); refine sL ?_) | ((with_reducible refine shG ?_); refine sG ?_)
  refine Eq.mpr evalL_nil (hK _ ?_)
  clear hK K
  simp only [evU, St.keep, List.map_cons, look, reduceIte, Nat.reduceEqDiff]
  try show AWP _ _ _ _ _
  repeat refine AWP.nest ?_
  first | refine rsa hG [] [3, 10, 11, 12, 13, 44, 45, 46] fun K hK => ?_ | refine rna hG [] [3, 10, 11, 12, 13, 44, 45, 46] fun K hK => ?_
  repeat first | ((with_reducible refine shN ?_); refine sL ?_) | ((with_reducible refine shG ?_); refine sG ?_)
  refine Eq.mpr evalL_nil (hK _ ?_)
  clear hK K
  simp only [evU, St.keep, List.map_cons, look, reduceIte, Nat.reduceEqDiff]
  try show AWP _ _ _ _ _
  refine ⟨n - (i + 1), by omega, i + 1, _, _, by omega, rfl, ?_, (hfin Z hz1 hz2).1, ?_, (hfin Z hz1 hz2).2, rfl⟩
  · refine hX.append (h61.append ?_)
    intro b hb
    simp only [List.mem_cons, List.not_mem_nil, or_false] at hb
    omega
  · simp only [List.length_append, List.length_cons, List.length_nil]
    omega
theorem law23 (x : Dat) (h : (AT.sl 5 (.int .u8)).holds x) (y : Dat) (h2 : (AT.sl 53 (.int .u16)).holds y) (v : Dat) (h5 : (AT.sl 53 (.int .u16)).holds v) (z : Dat) (h3 : (AT.int .i32).holds z) : Spec Try.prog 23 [.d x.flat x, .d y.flat y, .d v.flat v, .d z.flat z] none ⟨True, .d true (.v (.bool true)), none⟩ := by
  obtain ⟨l, rfl, hl⟩ := bytes_of h
  obtain ⟨ys, rfl, hy⟩ := h2
  obtain ⟨m, rfl, hm⟩ := ints_of hy
  obtain ⟨vs, rfl, hv⟩ := h5
  obtain ⟨m2, rfl, hm2⟩ := ints_of hv
  obtain ⟨c, rfl, hc⟩ := h3
  have := bounds_i32 hc
  exact s23 l hl m m2 (fun n hn => by have := bounds_u16 (hm n hn); omega) (fun n hn => by have := bounds_u16 (hm2 n hn); omega) c (by omega) (by omega)
end Go.AM

