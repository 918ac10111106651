/- AM: seg.runs. -/
import Derived.Test.YtmfobkiljlepjaaG6
import Derived.Test.YtmfobkiljlepjaaC34
set_option maxRecDepth 100000
set_option maxHeartbeats 8000000
set_option linter.unusedSimpArgs false
set_option linter.unusedVariables false
namespace Go.AM
open Go Go.Proofs

theorem toInts_nil0 : toInts [] = [] := rfl


theorem s97 (l : List (Int × Int)) (hp : PrOK l) (hr : risesB l 65534 = true) (hl : l.length ≤ 1000000) : Spec Try.prog 97 [.d false (.sl 2 (prs l))] none ⟨True, .d true (.sl 4 (sgs (allQ l))), none⟩ := by
  have hG := (Gf_ok F62_ok)
  have hfs := And.intro @evP (And.intro @evS @toPrs_prs)
  have hxs := @Nat.add_zero
  refine spec_of_awp (Gf_ok F62_ok) Try.func97 rfl (Nat.le_of_ble_eq_true rfl) fun E hps hN _ => ?_
  simp only [begin, List.zipIdx_cons, List.zipIdx_nil, List.map_cons, List.map_nil, Option.toList, Nat.zero_add, Nat.reduceAdd]
  repeat refine AWP.nest ?_
  first | refine rsa hG [] [0] fun K hK => ?_ | refine rna hG [] [0] fun K hK => ?_
  repeat first | ((with_reducible refine shN ?_); refine sL ?_) | ((with_reducible refine shG ?_); refine sG ?_)
  refine Eq.mpr evalL_nil (hK _ ?_)
  clear hK K
  simp only [evU, St.keep, List.map_cons, look, reduceIte, Nat.reduceEqDiff]
  try show AWP _ _ _ _ _
  repeat refine AWP.nest ?_
  first | refine rsa hG [] [0, 3] fun K hK => ?_ | refine rna hG [] [0, 3] fun K hK => ?_
  repeat first | ((with_reducible refine shN ?_); refine sL ?_) | ((with_reducible refine shG ?_); refine sG ?_)
  refine Eq.mpr evalL_nil (hK _ ?_)
  clear hK K
  simp only [evU, St.keep, List.map_cons, look, reduceIte, Nat.reduceEqDiff]
  try show AWP _ _ _ _ _
  repeat refine AWP.nest ?_
  first | refine rsa hG [] [0, 3, 7, 8, 9] fun K hK => ?_ | refine rna hG [] [0, 3, 7, 8, 9] fun K hK => ?_
  repeat first | ((with_reducible refine shN ?_); refine sL ?_) | ((with_reducible refine shG ?_); refine sG ?_)
  refine Eq.mpr evalL_nil (hK _ ?_)
  clear hK K
  simp only [evU, St.keep, List.map_cons, look, reduceIte, Nat.reduceEqDiff]
  try show AWP _ _ _ _ _
  refine AWP.adopt 3 145 4 (by decide) rfl ?_
  refine AWP.keep [0, 3, 7, 8, 9] ?_
  simp only [St.adopt, St.keep, List.map_cons, List.map_nil, look, reduceIte, Nat.reduceEqDiff, List.nil_append, List.length_nil]
  repeat refine AWP.nest ?_
  first | refine AWP.seq (AWP.block ?_) | refine AWP.block ?_
  refine AWP.loop (fun k st => ∃ (i : Nat), i ≤ l.length ∧ k = l.length - i ∧ st = ⟨[(0, .d false (.sl 2 (prs l))), (3, .own 0 (runsQ l i).length), (7, .d false (.sl 2 (prs l))), (8, .d true (.v (.int .i64 (l.length : Int)))), (9, .d true (.v (.int .i64 (i : Int))))], [some (.row 145 4 (runsQ l i).length true (sgs (runsQ l i)))]⟩) (l.length) ?_ ?_
  · exact ⟨0, Nat.zero_le _, rfl, rfl⟩
  rintro k st ⟨i, hi, hk, rfl⟩
  obtain ⟨ho1, ho2, ho3, ho4⟩ := runsQ_ok hr hp hi
  have ho5 := runsQ_len l i
  repeat refine AWP.nest ?_
  first | refine rsa hG [] [0, 3, 7, 8, 9, 10] fun K hK => ?_ | refine rna hG [] [0, 3, 7, 8, 9, 10] fun K hK => ?_
  repeat first | ((with_reducible refine shN ?_); refine sL ?_) | ((with_reducible refine shG ?_); refine sG ?_)
  refine Eq.mpr evalL_nil (hK _ ?_)
  clear hK K
  simp only [evU, St.keep, List.map_cons, look, reduceIte, Nat.reduceEqDiff]
  try show AWP _ _ _ _ _
  first | refine AWP.seq (AWP.cond (b := _) rfl (fun hc => ?_) (fun hc => ?_)) | refine AWP.cond (b := _) rfl (fun hc => ?_) (fun hc => ?_)
  rotate_left
  · refine AWP.exit ?_
    show AWP _ _ _ _ _
    simp only [evC, Int.not_lt] at hc
    obtain rfl : i = l.length := by omega
    clear hk hi hc
    repeat refine AWP.nest ?_
    first | refine rsa hG [] [2] fun K hK => ?_ | refine rna hG [] [2] fun K hK => ?_
    repeat first | ((with_reducible refine shN ?_); refine sL ?_) | ((with_reducible refine shG ?_); refine sG ?_)
    refine Eq.mpr evalL_nil (hK _ ?_)
    clear hK K
    simp only [evU, St.keep, List.map_cons, look, reduceIte, Nat.reduceEqDiff]
    try show AWP _ _ _ _ _
    refine AWP.frz 0 (by rw [hps]; decide) rfl ?_
    simp only [St.frz, Ob.frz, AV.frz, AV.frz1, Option.map_none, mkAgg, datas, Dat.nagg, List.map_cons, List.map_nil, Option.map_some, and_self, true_and, and_true, reduceIte, Nat.reduceEqDiff, List.set_cons_zero, List.set_cons_succ, Bool.and_true, Bool.true_and]
    refine AWP.ret ?_
    refine ⟨.inl rfl, ⟨⟨_, rfl, ?_⟩, fun ob hob => by cases hob⟩⟩
    simp only [look, reduceIte, Nat.reduceEqDiff]
    exact sub1_of rfl
  simp only [evC, Int.not_lt] at hc
  refine AWP.skip ?_
  show AWP _ _ _ _ _
  have hi' := hc
  clear hc
  have hx := rises_at hr hi'
  have hy := hp i
  have hy1 := hp (i - 1)
  have hx1 : 0 < i → 0 ≤ cd l (i - 1) ∧ cd l (i - 1) ≤ 65534 := fun h => by
    have := rises_at hr (show i - 1 < l.length by omega)
    exact ⟨this.1, this.2.1⟩
  have ei : 0 < i → ((i : Int) - 1).toNat = i - 1 := fun h => by omega
  repeat refine AWP.nest ?_
  first | refine AWP.seq (AWP.block ?_) | refine AWP.block ?_
  repeat refine AWP.nest ?_
  first | refine rsa hG [] [0, 3, 4, 5, 7, 8, 9] fun K hK => ?_ | refine rna hG [] [0, 3, 4, 5, 7, 8, 9] fun K hK => ?_
  repeat first | ((with_reducible refine shN ?_); refine sL ?_) | ((with_reducible refine shG ?_); refine sG ?_)
  refine Eq.mpr evalL_nil (hK _ ?_)
  clear hK K
  simp only [evU, St.keep, List.map_cons, look, reduceIte, Nat.reduceEqDiff]
  try show AWP _ _ _ _ _
  repeat refine AWP.nest ?_
  first | refine rsa hG [] [0, 3, 4, 5, 6, 7, 8, 9] fun K hK => ?_ | refine rna hG [] [0, 3, 4, 5, 6, 7, 8, 9] fun K hK => ?_
  repeat first | ((with_reducible refine shN ?_); refine sL ?_) | ((with_reducible refine shG ?_); refine sG ?_)
  refine Eq.mpr evalL_nil (hK _ ?_)
  clear hK K
  simp only [evU, St.keep, List.map_cons, look, reduceIte, Nat.reduceEqDiff]
  try show AWP _ _ _ _ _
  repeat refine AWP.nest ?_
  first | refine rda hG [] [0, 3, 5, 6, 7, 8, 9, 42] Try.mixed fun K hK => ?_ | refine dna hG [] [0, 3, 5, 6, 7, 8, 9, 42] Try.mixed fun K hK => ?_
  repeat first | ((with_reducible refine shD ?_); refine sD ?_) | ((with_reducible refine shDG ?_); refine sDG ?_)
  refine evalD_done (by kernel_rfl) (hK _ ?_)
  clear hK K
  simp only [evU, St.keep, List.map_cons, look, reduceIte, Nat.reduceEqDiff]
  try show AWP _ _ _ _ _
  have hkey : (((i : Int) > 0 ∧ (l.getD i (0, 0)).1 = IntKind.i32.wrap ((l.getD ((i : Int) - 1).toNat (0, 0)).1 + 1)) ∧ (l.getD i (0, 0)).2 = ((l.getD ((i : Int) - 1).toNat (0, 0)).2 + 1) % 65536) ↔ (0 < i ∧ cd l i = cd l (i - 1) + 1 ∧ gl l i = (gl l (i - 1) + 1) % 65536) := by
    change (((i : Int) > 0 ∧ cd l i = IntKind.i32.wrap (cd l ((i : Int) - 1).toNat + 1)) ∧ gl l i = (gl l ((i : Int) - 1).toNat + 1) % 65536) ↔ _
    by_cases h0 : 0 < i
    · have h1 := hx1 h0
      rw [ei h0, w_i32 (by omega) (by omega)]
      constructor
      · rintro ⟨⟨_, h2⟩, h3⟩; exact ⟨h0, h2, h3⟩
      · rintro ⟨_, h2, h3⟩; exact ⟨⟨by omega, h2⟩, h3⟩
    · constructor
      · rintro ⟨⟨h2, _⟩, _⟩; omega
      · rintro ⟨h2, _⟩; omega
  have ec : (l.getD i (0, 0)).1 % 65536 = (l.getD i (0, 0)).1 := by
    change cd l i % 65536 = cd l i
    omega
  rw [ec]
  repeat refine AWP.nest ?_
  first | refine AWP.seq (AWP.cond (b := _) rfl (fun hc => ?_) (fun hc => ?_)) | refine AWP.cond (b := _) rfl (fun hc => ?_) (fun hc => ?_)
  all_goals try simp only [evC] at hc
  · have hk2 := hkey.1 hc
    have hpos := ho3 hk2.1
    have en : (((runsQ l i).length : Int) - 1).toNat = (runsQ l i).length - 1 := by omega
    have es : runsQ l (i + 1) = (runsQ l i).set ((runsQ l i).length - 1) (((runsQ l i).getD ((runsQ l i).length - 1) (0, 0, 0, 0)).1, (l.getD i (0, 0)).1, ((runsQ l i).getD ((runsQ l i).length - 1) (0, 0, 0, 0)).2.2.1, ((runsQ l i).getD ((runsQ l i).length - 1) (0, 0, 0, 0)).2.2.2) := if_pos hk2
    repeat refine AWP.nest ?_
    have hxs := @en
    first | refine rsa hG [] [0, 3, 7, 8, 9] fun K hK => ?_ | refine rna hG [] [0, 3, 7, 8, 9] fun K hK => ?_
    repeat first | ((with_reducible refine shN ?_); refine sL ?_) | ((with_reducible refine shG ?_); refine sG ?_)
    refine Eq.mpr evalL_nil (hK _ ?_)
    clear hK K hxs
    simp only [evU, St.keep, List.map_cons, look, reduceIte, Nat.reduceEqDiff]
    try show AWP _ _ _ _ _
    refine AWP.exit ?_
    show AWP _ _ _ _ _
    refine AWP.trunc 1 (by rw [hps]; decide) rfl ?_
    simp only [St.trunc, List.take_zero, List.take_succ_cons]
    repeat refine AWP.nest ?_
    first | refine rsa hG [] [0, 3, 7, 8, 9] fun K hK => ?_ | refine rna hG [] [0, 3, 7, 8, 9] fun K hK => ?_
    repeat first | ((with_reducible refine shN ?_); refine sL ?_) | ((with_reducible refine shG ?_); refine sG ?_)
    refine Eq.mpr evalL_nil (hK _ ?_)
    clear hK K
    simp only [evU, St.keep, List.map_cons, look, reduceIte, Nat.reduceEqDiff]
    try show AWP _ _ _ _ _
    refine ⟨l.length - (i + 1), by omega, i + 1, by omega, rfl, ?_⟩
    rw [es, List.length_set]
    rfl
  · have hk2 : ¬(0 < i ∧ cd l i = cd l (i - 1) + 1 ∧ gl l i = (gl l (i - 1) + 1) % 65536) := fun h => by
      have := hkey.2 h
      rcases hc with (h1 | h1) | h1
      · exact h1 this.1.1
      · exact h1 this.1.2
      · exact h1 this.2
    have es : runsQ l (i + 1) = runsQ l i ++ [((l.getD i (0, 0)).1, (l.getD i (0, 0)).1, ((l.getD i (0, 0)).2 - (l.getD i (0, 0)).1) % 65536, 0)] := if_neg hk2
    refine AWP.skip ?_
    show AWP _ _ _ _ _
    repeat refine AWP.nest ?_
    first | refine rsa hG [] [0, 3, 7, 8, 9] fun K hK => ?_ | refine rna hG [] [0, 3, 7, 8, 9] fun K hK => ?_
    repeat first | ((with_reducible refine shN ?_); refine sL ?_) | ((with_reducible refine shG ?_); refine sG ?_)
    refine Eq.mpr evalL_nil (hK _ ?_)
    clear hK K
    simp only [evU, St.keep, List.map_cons, look, reduceIte, Nat.reduceEqDiff]
    try show AWP _ _ _ _ _
    refine AWP.trunc 1 (by rw [hps]; decide) rfl ?_
    simp only [St.trunc, List.take_zero, List.take_succ_cons]
    repeat refine AWP.nest ?_
    first | refine rsa hG [] [0, 3, 7, 8, 9] fun K hK => ?_ | refine rna hG [] [0, 3, 7, 8, 9] fun K hK => ?_
    repeat first | ((with_reducible refine shN ?_); refine sL ?_) | ((with_reducible refine shG ?_); refine sG ?_)
    refine Eq.mpr evalL_nil (hK _ ?_)
    clear hK K
    simp only [evU, St.keep, List.map_cons, look, reduceIte, Nat.reduceEqDiff]
    try show AWP _ _ _ _ _
    refine ⟨l.length - (i + 1), by omega, i + 1, by omega, rfl, ?_⟩
    rw [es, List.length_append]
    rfl
def e97 : List AV → Option Ob → Option Res := fun args i => match args, i with
  | [.d false (.sl 2 xs)], none => some ⟨xs = prs (toPrs xs) ∧ PrOK (toPrs xs) ∧ risesB (toPrs xs) 65534 = true ∧ (toPrs xs).length ≤ 1000000, .d true (.sl 4 (sgs (allQ (toPrs xs)))), none⟩
  | _, _ => none
def F63 : FT := F62.upd 97 e97
theorem F63_ok : FOK Try.prog F63 := FOK.upd F62_ok Try.func97 (by kernel_rfl) rfl fun args i R h => by
  unfold e97 at h
  split at h
  · rename_i xs
    cases h
    refine Spec.pre fun h => ?_
    have := s97 (toPrs xs) h.2.1 h.2.2.1 h.2.2.2
    rw [← h.1] at this
    exact this
  · cases h
end Go.AM

