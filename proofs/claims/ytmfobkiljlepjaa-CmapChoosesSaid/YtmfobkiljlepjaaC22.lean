/- AM: ref10.Build. -/
import Derived.Test.YtmfobkiljlepjaaC21
set_option maxRecDepth 100000
set_option maxHeartbeats 8000000
set_option linter.unusedSimpArgs false
set_option linter.unusedVariables false
namespace Go.AM
open Go Go.Proofs

def e41 : List AV → Option Ob → Option Res := fun args i => match args, i with
  | [.d false (.sl 1 xs), .d false (.sl 1 ys)], none => some ⟨xs = ints .u32 (toInts xs) ∧ W32 (toInts xs) ∧ ys = ints .u16 (toInts ys) ∧ W16 (toInts ys), .tup [.d true (.sl 2 (prs (rsg 60000 1114111 40 (-1) (toInts xs) (toInts ys)))), .d true (.sl 2 (prs9 (rsg 60000 1114111 40 (-1) (toInts xs) (toInts ys))))], none⟩
  | _, _ => none
def F38 : FT := F37.upd 41 e41
theorem F38_ok : FOK Try.prog F38 := FOK.upd F37_ok Try.func41 (by kernel_rfl) rfl fun args i R h => by
  unfold e41 at h
  split at h
  · rename_i xs ys
    cases h
    refine Spec.pre fun h => ?_
    have := s41 (toInts xs) (toInts ys) h.2.1 h.2.2.2
    rw [← h.1, ← h.2.2.1] at this
    exact this
  · cases h
/-- What goes on with the pair before it. -/
def Con (l : List (Int × Int)) (q : Nat) : Prop := cd l q = cd l (q - 1) + 1 ∧ gl l q = gl l (q - 1) + 1
theorem run_to {l : List (Int × Int)} {i : Nat} (hs : ¬(0 < i ∧ Con l i)) : ∀ d, (∀ q, i < q → q ≤ i + d → Con l q) → runsTo l (i + d + 1) = runsTo l i ++ [(cd l i, cd l (i + d), gl l i)]
  | 0, _ => by
    show stepR l i (runsTo l i) = _
    unfold stepR
    exact if_neg hs
  | d + 1, h => by
    have ih := run_to hs d fun q h1 h2 => h q h1 (by omega)
    have hc := h (i + d + 1) (by omega) (by omega)
    show stepR l (i + d + 1) (runsTo l (i + d + 1)) = _
    unfold stepR
    have e0 : i + d + 1 - 1 = i + d := by omega
    unfold Con at hc
    rw [if_pos ⟨by omega, hc⟩, ih]
    have el : (runsTo l i ++ [(cd l i, cd l (i + d), gl l i)]).length - 1 = (runsTo l i).length := by simp
    rw [el, List.set_append_right _ _ (Nat.le_refl _), Nat.sub_self, List.getD_eq_getElem?_getD, List.getElem?_append_right (Nat.le_refl _), Nat.sub_self]
    rfl

theorem s44 (l : List (Int × Int)) (hr : risesB l 1114111 = true) (hp : PrOK l) (hl : l.length ≤ 1000000) : Spec Try.prog 44 [.d false (.sl 2 (prs9 l))] none ⟨True, .d true (.sl 1 (ints .u8 (tabG (runsTo l l.length)))), none⟩ := by
  have hf32 : F38 32 = e32 := rfl
  have hf35 : F38 35 = e35 := rfl
  have hf59 : F38 59 = e59 := rfl
  have hG := (Gf_ok F38_ok)
  have hfs := And.intro @hf32 (And.intro @e32.eq_1 (And.intro @hf35 (And.intro @e35.eq_1 (And.intro @hf59 (And.intro @e59.eq_1 (And.intro @evP (And.intro @toPrs_prs (And.intro @toSps_sps @toInts_nil))))))))
  have hxs := @Nat.add_zero
  refine spec_of_awp (Gf_ok F38_ok) Try.func44 rfl (Nat.le_of_ble_eq_true rfl) fun E hps hN _ => ?_
  simp only [begin, List.zipIdx_cons, List.zipIdx_nil, List.map_cons, List.map_nil, Option.toList, Nat.zero_add, Nat.reduceAdd]
  repeat refine AWP.nest ?_
  first | refine rsa hG [] [0] fun K hK => ?_ | refine rna hG [] [0] fun K hK => ?_
  repeat first | ((with_reducible refine shN ?_); refine sL ?_) | ((with_reducible refine shG ?_); refine sG ?_)
  refine Eq.mpr evalL_nil (hK _ ?_)
  clear hK K
  simp only [evU, St.keep, List.map_cons, look, reduceIte, Nat.reduceEqDiff]
  try show AWP _ _ _ _ _
  repeat refine AWP.nest ?_
  first | refine rsa hG [] [0, 3] fun K hK => ?_ | refine rna hG [] [0, 3] fun K hK => ?_
  repeat first | ((with_reducible refine shN ?_); refine sL ?_) | ((with_reducible refine shG ?_); refine sG ?_)
  refine Eq.mpr evalL_nil (hK _ ?_)
  clear hK K
  simp only [evU, St.keep, List.map_cons, look, reduceIte, Nat.reduceEqDiff]
  try show AWP _ _ _ _ _
  repeat refine AWP.nest ?_
  first | refine rsa hG [] [0, 3, 4] fun K hK => ?_ | refine rna hG [] [0, 3, 4] fun K hK => ?_
  repeat first | ((with_reducible refine shN ?_); refine sL ?_) | ((with_reducible refine shG ?_); refine sG ?_)
  refine Eq.mpr evalL_nil (hK _ ?_)
  clear hK K
  simp only [evU, St.keep, List.map_cons, look, reduceIte, Nat.reduceEqDiff]
  try show AWP _ _ _ _ _
  repeat refine AWP.nest ?_
  first | refine rsa hG [] [0, 3, 4, 5] fun K hK => ?_ | refine rna hG [] [0, 3, 4, 5] fun K hK => ?_
  repeat first | ((with_reducible refine shN ?_); refine sL ?_) | ((with_reducible refine shG ?_); refine sG ?_)
  refine Eq.mpr evalL_nil (hK _ ?_)
  clear hK K
  simp only [evU, St.keep, List.map_cons, look, reduceIte, Nat.reduceEqDiff]
  try show AWP _ _ _ _ _
  refine AWP.nilD 3 true 1 rfl ?_
  refine AWP.keep [0, 3, 4, 5] ?_
  simp only [St.keep, List.map_cons, List.map_nil, look, reduceIte, Nat.reduceEqDiff]
  repeat refine AWP.nest ?_
  first | refine AWP.seq (AWP.block ?_) | refine AWP.block ?_
  refine AWP.loop (fun k st => ∃ (i : Nat), i ≤ l.length ∧ (i < l.length → ¬(0 < i ∧ Con l i)) ∧ k = l.length - i ∧ st = ⟨[(0, .d false (.sl 2 (prs9 l))), (3, .d true (.sl 1 (ints .u8 (encS (runsTo l i))))), (4, .d true (.v (.int .i64 ((runsTo l i).length : Int)))), (5, .d true (.v (.int .i64 (i : Int))))], []⟩) (l.length) ?_ ?_
  · exact ⟨0, Nat.zero_le _, fun _ h => Nat.lt_irrefl _ h.1, rfl, rfl⟩
  rintro k st ⟨i, hi, hs, hk, rfl⟩
  obtain ⟨ho1, ho2, ho3, ho4, ho5⟩ := runs_ok hr hp hi
  repeat refine AWP.nest ?_
  first | refine rsa hG [] [0, 3, 4, 5, 10] fun K hK => ?_ | refine rna hG [] [0, 3, 4, 5, 10] fun K hK => ?_
  repeat first | ((with_reducible refine shN ?_); refine sL ?_) | ((with_reducible refine shG ?_); refine sG ?_)
  refine Eq.mpr evalL_nil (hK _ ?_)
  clear hK K
  simp only [evU, St.keep, List.map_cons, look, reduceIte, Nat.reduceEqDiff]
  try show AWP _ _ _ _ _
  first | refine AWP.seq (AWP.cond (b := _) rfl (fun hc => ?_) (fun hc => ?_)) | refine AWP.cond (b := _) rfl (fun hc => ?_) (fun hc => ?_)
  rotate_left
  · refine AWP.exit ?_
    show AWP _ _ _ _ _
    simp only [evC, Int.not_lt] at hc
    obtain rfl : i = l.length := by omega
    generalize runsTo l l.length = R at ho1 ho2 ho3 ho4 ho5 ⊢
    clear hk hi hc
    have hE := encS_len R
    have hEb := encS_byt ho1
    have em1 : (16 + 12 * (R.length : Int)) % 4294967296 = 16 + 12 * (R.length : Int) := by omega
    have em2 : (R.length : Int) % 4294967296 = R.length := by omega
    repeat refine AWP.nest ?_
    have hxs := And.intro @em1 @em2
    first | refine rsa hG [] [2] fun K hK => ?_ | refine rna hG [] [2] fun K hK => ?_
    repeat first | ((with_reducible refine shN ?_); refine sL ?_) | ((with_reducible refine shG ?_); refine sG ?_)
    refine Eq.mpr evalL_nil (hK _ ?_)
    clear hK K hxs
    simp only [evU, St.keep, List.map_cons, look, reduceIte, Nat.reduceEqDiff]
    try show AWP _ _ _ _ _
    refine AWP.ret ?_
    refine ⟨.inl rfl, ⟨⟨_, rfl, ?_⟩, fun ob hob => by cases hob⟩⟩
    simp only [look, reduceIte, Nat.reduceEqDiff]
    exact sub1_of rfl
  simp only [evC, Int.not_lt] at hc
  refine AWP.skip ?_
  show AWP _ _ _ _ _
  have hi' := hc
  clear hc
  repeat refine AWP.nest ?_
  first | refine AWP.seq (AWP.block ?_) | refine AWP.block ?_
  repeat refine AWP.nest ?_
  first | refine rsa hG [] [0, 3, 4, 5, 6] fun K hK => ?_ | refine rna hG [] [0, 3, 4, 5, 6] fun K hK => ?_
  repeat first | ((with_reducible refine shN ?_); refine sL ?_) | ((with_reducible refine shG ?_); refine sG ?_)
  refine Eq.mpr evalL_nil (hK _ ?_)
  clear hK K
  simp only [evU, St.keep, List.map_cons, look, reduceIte, Nat.reduceEqDiff]
  try show AWP _ _ _ _ _
  repeat refine AWP.nest ?_
  first | refine AWP.seq (AWP.block ?_) | refine AWP.block ?_
  refine AWP.loop (fun k st => ∃ (d : Nat), i + d < l.length ∧ (∀ q, i < q → q ≤ i + d → Con l q) ∧ k = l.length - (i + d) ∧ st = ⟨[(0, .d false (.sl 2 (prs9 l))), (3, .d true (.sl 1 (ints .u8 (encS (runsTo l i))))), (4, .d true (.v (.int .i64 ((runsTo l i).length : Int)))), (5, .d true (.v (.int .i64 (i : Int)))), (6, .d true (.v (.int .i64 ((i + d : Nat) : Int))))], []⟩) (l.length - i) ?_ ?_
  · exact ⟨0, by omega, fun q h1 h2 => by omega, rfl, rfl⟩
  rintro k2 st ⟨d, hd, hcon, hk2, rfl⟩
  have hx1 : 0 ≤ (l.getD (i + d) (0, 0)).1 ∧ (l.getD (i + d) (0, 0)).1 ≤ 1114111 := ⟨(rises_at hr hd).1, (rises_at hr hd).2.1⟩
  have hy1 : 0 ≤ (l.getD (i + d) (0, 0)).2 ∧ (l.getD (i + d) (0, 0)).2 ≤ 65535 := ⟨(hp (i + d)).2.2.1, (hp (i + d)).2.2.2⟩
  have e1 : (((i + d : Nat) : Int) + 1).toNat = i + d + 1 := by omega
  repeat refine AWP.nest ?_
  have hxs := @e1
  first | refine rda hG [] [0, 3, 4, 5, 6, 46] Try.mixed fun K hK => ?_ | refine dna hG [] [0, 3, 4, 5, 6, 46] Try.mixed fun K hK => ?_
  repeat first | ((with_reducible refine shD ?_); refine sD ?_) | ((with_reducible refine shDG ?_); refine sDG ?_)
  refine evalD_done (by kernel_rfl) (hK _ ?_)
  clear hK K hxs
  simp only [evU, St.keep, List.map_cons, look, reduceIte, Nat.reduceEqDiff]
  try show AWP _ _ _ _ _
  first | refine AWP.seq (AWP.cond (b := _) rfl (fun hc => ?_) (fun hc => ?_)) | refine AWP.cond (b := _) rfl (fun hc => ?_) (fun hc => ?_)
  rotate_left
  · refine AWP.exit ?_
    show AWP _ _ _ _ _
    simp only [evC, Int.not_lt] at hc
    have hst : i + d + 1 < l.length → ¬(0 < i + d + 1 ∧ Con l (i + d + 1)) := fun h1 h2 => by
      have h3 := h2.2
      unfold Con cd gl at h3
      simp only [Nat.add_sub_cancel] at h3
      omega
    have hR := run_to (hs hi') d hcon
    have hE := encS_len (runsTo l i)
    have hEb := encS_byt ho1
    have hi0 : 0 ≤ (l.getD i (0, 0)).1 ∧ (l.getD i (0, 0)).1 ≤ 1114111 := ⟨(rises_at hr hi').1, (rises_at hr hi').2.1⟩
    have hg0 : 0 ≤ (l.getD i (0, 0)).2 ∧ (l.getD i (0, 0)).2 ≤ 65535 := ⟨(hp i).2.2.1, (hp i).2.2.2⟩
    have em1 : (l.getD i (0, 0)).1 % 4294967296 = (l.getD i (0, 0)).1 := by omega
    have em2 : (l.getD i (0, 0)).2 % 4294967296 = (l.getD i (0, 0)).2 := by omega
    have em3 : (l.getD (i + d) (0, 0)).1 % 4294967296 = (l.getD (i + d) (0, 0)).1 := by omega
    clear hc
    repeat refine AWP.nest ?_
    have hxs := And.intro @em1 (And.intro @em2 @em3)
    first | refine rda hG [] [0, 3, 4, 6] Try.mixed fun K hK => ?_ | refine dna hG [] [0, 3, 4, 6] Try.mixed fun K hK => ?_
    repeat first | ((with_reducible refine shD ?_); refine sD ?_) | ((with_reducible refine shDG ?_); refine sDG ?_)
    refine evalD_done (by kernel_rfl) (hK _ ?_)
    clear hK K hxs
    simp only [evU, St.keep, List.map_cons, look, reduceIte, Nat.reduceEqDiff]
    try show AWP _ _ _ _ _
    repeat refine AWP.nest ?_
    first | refine rsa hG [] [0, 3, 4, 6] fun K hK => ?_ | refine rna hG [] [0, 3, 4, 6] fun K hK => ?_
    repeat first | ((with_reducible refine shN ?_); refine sL ?_) | ((with_reducible refine shG ?_); refine sG ?_)
    refine Eq.mpr evalL_nil (hK _ ?_)
    clear hK K
    simp only [evU, St.keep, List.map_cons, look, reduceIte, Nat.reduceEqDiff]
    try show AWP _ _ _ _ _
    repeat refine AWP.nest ?_
    first | refine rsa hG [] [0, 3, 4, 5] fun K hK => ?_ | refine rna hG [] [0, 3, 4, 5] fun K hK => ?_
    repeat first | ((with_reducible refine shN ?_); refine sL ?_) | ((with_reducible refine shG ?_); refine sG ?_)
    refine Eq.mpr evalL_nil (hK _ ?_)
    clear hK K
    simp only [evU, St.keep, List.map_cons, look, reduceIte, Nat.reduceEqDiff]
    try show AWP _ _ _ _ _
    refine ⟨l.length - (i + d + 1), by omega, i + d + 1, by omega, hst, rfl, ?_⟩
    rw [hR, encS_snoc, List.length_append]
    rfl
  simp only [evC, Int.not_lt] at hc
  refine AWP.skip ?_
  show AWP _ _ _ _ _
  repeat refine AWP.nest ?_
  first | refine AWP.seq (AWP.block ?_) | refine AWP.block ?_
  repeat refine AWP.nest ?_
  first | refine rsa hG [] [0, 3, 4, 5, 6] fun K hK => ?_ | refine rna hG [] [0, 3, 4, 5, 6] fun K hK => ?_
  repeat first | ((with_reducible refine shN ?_); refine sL ?_) | ((with_reducible refine shG ?_); refine sG ?_)
  refine Eq.mpr evalL_nil (hK _ ?_)
  clear hK K
  simp only [evU, St.keep, List.map_cons, look, reduceIte, Nat.reduceEqDiff]
  try show AWP _ _ _ _ _
  refine ⟨l.length - (i + (d + 1)), by omega, d + 1, by omega, fun q h1 h2 => ?_, rfl, rfl⟩
  by_cases e : q ≤ i + d
  · exact hcon q h1 e
  · obtain rfl : q = i + d + 1 := by omega
    unfold Con cd gl
    simp only [Nat.add_sub_cancel]
    omega
def e44 : List AV → Option Ob → Option Res := fun args i => match args, i with
  | [.d false (.sl 2 xs)], none => some ⟨xs = prs9 (toPrs xs) ∧ risesB (toPrs xs) 1114111 = true ∧ PrOK (toPrs xs) ∧ (toPrs xs).length ≤ 1000000, .d true (.sl 1 (ints .u8 (tabG (runsTo (toPrs xs) (toPrs xs).length)))), none⟩
  | _, _ => none
def F39 : FT := F38.upd 44 e44
theorem F39_ok : FOK Try.prog F39 := FOK.upd F38_ok Try.func44 (by kernel_rfl) rfl fun args i R h => by
  unfold e44 at h
  split at h
  · rename_i xs
    cases h
    refine Spec.pre fun h => ?_
    have := s44 (toPrs xs) h.2.1 h.2.2.1 h.2.2.2
    rw [← h.1] at this
    exact this
  · cases h
end Go.AM

