/- AM: ref03.Same of equal tables. -/
import Derived.Test.YtmfobkiljlepjaaC86
set_option maxRecDepth 100000
set_option maxHeartbeats 8000000
set_option linter.unusedSimpArgs false
set_option linter.unusedVariables false
namespace Go.AM
open Go Go.Proofs



/-- Tables of a bounded size. -/
def OKT (l : List Tb) : Prop := l.length ≤ 65536 ∧ ∀ i, i < l.length → Byt (l.getD i tb0).2 ∧ (l.getD i tb0).2.length ≤ 1000000000000
theorem s84 (l : List Tb) (h : OKT l) : Spec Try.prog 84 [.d false (.sl 2 (tbs l)), .d false (.sl 2 (tbs l))] none ⟨True, .d true (.v (.bool true)), none⟩ := by
  obtain ⟨h1, h2⟩ := h
  have hf37 : F119 37 = e37 := rfl
  have hG := (Gf_ok F119_ok)
  have hfs := And.intro @hf37 (And.intro @e37.eq_1 (And.intro @evP @evTb))
  have hxs := @Nat.add_zero
  refine spec_of_awp (Gf_ok F119_ok) Try.func84 rfl (Nat.le_of_ble_eq_true rfl) fun E hps hN _ => ?_
  simp only [begin, List.zipIdx_cons, List.zipIdx_nil, List.map_cons, List.map_nil, Option.toList, Nat.zero_add, Nat.reduceAdd]
  repeat refine AWP.nest ?_
  first | refine rsa hG [] [0, 1] fun K hK => ?_ | refine rna hG [] [0, 1] fun K hK => ?_
  repeat first | ((with_reducible refine shN ?_); refine sL ?_) | ((with_reducible refine shG ?_); refine sG ?_)
  refine Eq.mpr evalL_nil (hK _ ?_)
  clear hK K
  simp only [evU, St.keep, List.map_cons, look, reduceIte, Nat.reduceEqDiff]
  try show AWP _ _ _ _ _
  repeat refine AWP.nest ?_
  first | refine rsa hG [] [0, 1, 10] fun K hK => ?_ | refine rna hG [] [0, 1, 10] fun K hK => ?_
  repeat first | ((with_reducible refine shN ?_); refine sL ?_) | ((with_reducible refine shG ?_); refine sG ?_)
  refine Eq.mpr evalL_nil (hK _ ?_)
  clear hK K
  simp only [evU, St.keep, List.map_cons, look, reduceIte, Nat.reduceEqDiff]
  try show AWP _ _ _ _ _
  repeat refine AWP.nest ?_
  first | refine AWP.seq (AWP.cond (b := _) rfl (fun hc => ?_) (fun hc => ?_)) | refine AWP.cond (b := _) rfl (fun hc => ?_) (fun hc => ?_)
  all_goals try simp only [evC] at hc
  · simp at hc
  refine AWP.skip ?_
  show AWP _ _ _ _ _
  repeat refine AWP.nest ?_
  first | refine rsa hG [] [0, 1, 12, 13] fun K hK => ?_ | refine rna hG [] [0, 1, 12, 13] fun K hK => ?_
  repeat first | ((with_reducible refine shN ?_); refine sL ?_) | ((with_reducible refine shG ?_); refine sG ?_)
  refine Eq.mpr evalL_nil (hK _ ?_)
  clear hK K
  simp only [evU, St.keep, List.map_cons, look, reduceIte, Nat.reduceEqDiff]
  try show AWP _ _ _ _ _
  repeat refine AWP.nest ?_
  first | refine AWP.seq (AWP.block ?_) | refine AWP.block ?_
  refine AWP.loop (fun k st => ∃ (i : Nat), i ≤ l.length ∧ k = l.length - i ∧ st = ⟨[(0, .d false (.sl 2 (tbs l))), (1, .d false (.sl 2 (tbs l))), (12, .d true (.v (.int .i64 (l.length : Int)))), (13, .d true (.v (.int .i64 (i : Int))))], []⟩) (l.length) ?_ ?_
  · exact ⟨0, Nat.zero_le _, rfl, rfl⟩
  rintro k st ⟨i, hi, hk, rfl⟩
  repeat refine AWP.nest ?_
  first | refine rsa hG [] [0, 1, 12, 13, 14] fun K hK => ?_ | refine rna hG [] [0, 1, 12, 13, 14] fun K hK => ?_
  repeat first | ((with_reducible refine shN ?_); refine sL ?_) | ((with_reducible refine shG ?_); refine sG ?_)
  refine Eq.mpr evalL_nil (hK _ ?_)
  clear hK K
  simp only [evU, St.keep, List.map_cons, look, reduceIte, Nat.reduceEqDiff]
  try show AWP _ _ _ _ _
  first | refine AWP.seq (AWP.cond (b := _) rfl (fun hc => ?_) (fun hc => ?_)) | refine AWP.cond (b := _) rfl (fun hc => ?_) (fun hc => ?_)
  rotate_left
  · refine AWP.exit ?_
    show AWP _ _ _ _ _
    simp only [evC, Int.not_lt] at hc
    repeat refine AWP.nest ?_
    first | refine rsa hG [] [4] fun K hK => ?_ | refine rna hG [] [4] fun K hK => ?_
    repeat first | ((with_reducible refine shN ?_); refine sL ?_) | ((with_reducible refine shG ?_); refine sG ?_)
    refine Eq.mpr evalL_nil (hK _ ?_)
    clear hK K
    simp only [evU, St.keep, List.map_cons, look, reduceIte, Nat.reduceEqDiff]
    try show AWP _ _ _ _ _
    refine AWP.ret ?_
    refine ⟨.inl rfl, ⟨⟨_, rfl, ?_⟩, fun ob hob => by cases hob⟩⟩
    simp only [look, reduceIte, Nat.reduceEqDiff]
    exact sub1_of rfl
  simp only [evC, Int.not_lt] at hc
  refine AWP.skip ?_
  show AWP _ _ _ _ _
  have hi' : i < l.length := by omega
  clear hc
  have hat : ∀ z, (tbs l).getD i z = .agg [.v (.string (l.getD i tb0).1), .sl 1 (ints .u8 (l.getD i tb0).2)] := fun z => tbs_at hi'
  obtain ⟨c1, c2⟩ := h2 i hi'
  generalize (l.getD i tb0).1 = s at hat
  generalize (l.getD i tb0).2 = p at hat c1 c2
  repeat refine AWP.nest ?_
  first | refine AWP.seq (AWP.block ?_) | refine AWP.block ?_
  repeat refine AWP.nest ?_
  first | refine rsa hG [] [0, 1, 5, 12, 13] fun K hK => ?_ | refine rna hG [] [0, 1, 5, 12, 13] fun K hK => ?_
  repeat first | ((with_reducible refine shN ?_); refine sL ?_) | ((with_reducible refine shG ?_); refine sG ?_)
  refine Eq.mpr evalL_nil (hK _ ?_)
  clear hK K
  simp only [evU, St.keep, List.map_cons, look, reduceIte, Nat.reduceEqDiff]
  try show AWP _ _ _ _ _
  repeat refine AWP.nest ?_
  have hxs := @hat
  first | refine rda hG [] [0, 1, 12, 13, 40] Try.mixed fun K hK => ?_ | refine dna hG [] [0, 1, 12, 13, 40] Try.mixed fun K hK => ?_
  repeat first | ((with_reducible refine shD ?_); refine sD ?_) | ((with_reducible refine shDG ?_); refine sDG ?_)
  refine evalD_done (by kernel_rfl) (hK _ ?_)
  clear hK K hxs
  simp only [evU, St.keep, List.map_cons, look, reduceIte, Nat.reduceEqDiff]
  try show AWP _ _ _ _ _
  repeat refine AWP.nest ?_
  first | refine AWP.seq (AWP.cond (b := _) rfl (fun hc => ?_) (fun hc => ?_)) | refine AWP.cond (b := _) rfl (fun hc => ?_) (fun hc => ?_)
  all_goals try simp only [evC] at hc
  · simp at hc
  refine AWP.skip ?_
  show AWP _ _ _ _ _
  repeat refine AWP.nest ?_
  first | refine rsa hG [] [0, 1, 12, 13] fun K hK => ?_ | refine rna hG [] [0, 1, 12, 13] fun K hK => ?_
  repeat first | ((with_reducible refine shN ?_); refine sL ?_) | ((with_reducible refine shG ?_); refine sG ?_)
  refine Eq.mpr evalL_nil (hK _ ?_)
  clear hK K
  simp only [evU, St.keep, List.map_cons, look, reduceIte, Nat.reduceEqDiff]
  try show AWP _ _ _ _ _
  refine ⟨_, ?_, i + 1, by omega, rfl, rfl⟩
  omega
def e84 : List AV → Option Ob → Option Res := fun args i => match args, i with
  | [.d false (.sl 2 xs), .d false (.sl 2 ys)], none => some ⟨ys = xs ∧ xs = tbs (toTbs xs) ∧ OKT (toTbs xs), .d true (.v (.bool true)), none⟩
  | _, _ => none
def F120 : FT := F119.upd 84 e84
theorem F120_ok : FOK Try.prog F120 := FOK.upd F119_ok Try.func84 (by kernel_rfl) rfl fun args i R h => by
  unfold e84 at h
  split at h
  · rename_i xs ys
    cases h
    refine Spec.pre fun h => ?_
    obtain ⟨rfl, h1, h2⟩ := h
    rw [h1]
    exact s84 _ h2
  · cases h
end Go.AM

