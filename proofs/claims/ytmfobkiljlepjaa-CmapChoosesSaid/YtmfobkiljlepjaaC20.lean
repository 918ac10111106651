/- AM: the laws of group: awake. -/
import Derived.Test.YtmfobkiljlepjaaG2
set_option maxRecDepth 100000
set_option maxHeartbeats 8000000
set_option linter.unusedSimpArgs false
set_option linter.unusedVariables false
namespace Go.AM
open Go Go.Proofs

theorem prs_cons {a b : Int} {l : List (Int × Int)} : Dat.agg [.v (.int .i32 a), .v (.int .u16 b)] :: prs l = prs ((a, b) :: l) := rfl

theorem s40 : Spec Try.prog 40 [] none ⟨True, .d true (.v (.bool true)), none⟩ := by
  have hf42 : F36 42 = e42 := rfl
  have hf43 : F36 43 = e43 := rfl
  have hf45 : F36 45 = e45 := rfl
  have hf46 : F36 46 = e46 := rfl
  have hG := (Gf_ok F36_ok)
  have hfs := And.intro @hf42 (And.intro @e42.eq_1 (And.intro @hf43 (And.intro @e43.eq_1 (And.intro @hf45 (And.intro @e45.eq_1 (And.intro @hf46 (And.intro @e46.eq_1 (And.intro @evP (And.intro @toPrs_prs (And.intro @toSps_sps @prs_cons))))))))))
  have hxs := @Nat.add_zero
  refine spec_of_awp (Gf_ok F36_ok) Try.func40 rfl (Nat.le_of_ble_eq_true rfl) fun E hps hN _ => ?_
  simp only [begin, List.zipIdx_cons, List.zipIdx_nil, List.map_cons, List.map_nil, Option.toList, Nat.zero_add, Nat.reduceAdd]
  have hp3 : PrOK [(65, 3), (66, 4), (128512, 5)] := fun i => by
    match i with
    | 0 => simp [cd, gl]
    | 1 => simp [cd, gl]
    | 2 => simp [cd, gl]
    | n + 3 => simp [cd, gl]
  have hb3 := buildG_byt hp3 (by simp)
  have hr3 := build_read (l := [(65, 3), (66, 4), (128512, 5)]) rfl hp3 (by simp)
  have hg3 := good_map (good_runs (l := [(65, 3), (66, 4), (128512, 5)]) rfl hp3 (by simp))
  have er : runsTo [(65, 3), (66, 4), (128512, 5)] [((65 : Int), (3 : Int)), (66, 4), (128512, 5)].length = [(65, 66, 3), (128512, 128512, 5)] := rfl
  rw [er] at hr3 hg3
  obtain ⟨h1, h2⟩ := hb3
  obtain ⟨h3, h4⟩ := hr3
  have h5 : lookG [(65, 66, 3), (128512, 128512, 5)] 128512 = 5 := rfl
  repeat refine AWP.nest ?_
  first | refine rsa hG [] [] fun K hK => ?_ | refine rna hG [] [] fun K hK => ?_
  repeat first | ((with_reducible refine shN ?_); refine sL ?_) | ((with_reducible refine shG ?_); refine sG ?_)
  refine Eq.mpr evalL_nil (hK _ ?_)
  clear hK K
  simp only [evU, St.keep, List.map_cons, look, reduceIte, Nat.reduceEqDiff]
  try show AWP _ _ _ _ _
  repeat refine AWP.nest ?_
  have hxs := And.intro @h3 @h4
  first | refine rsa hG [] [1, 2] fun K hK => ?_ | refine rna hG [] [1, 2] fun K hK => ?_
  repeat first | ((with_reducible refine shN ?_); refine sL ?_) | ((with_reducible refine shG ?_); refine sG ?_)
  refine Eq.mpr evalL_nil (hK _ ?_)
  clear hK K hxs
  simp only [evU, St.keep, List.map_cons, look, reduceIte, Nat.reduceEqDiff]
  try show AWP _ _ _ _ _
  repeat refine AWP.nest ?_
  have hxs := @h5
  first | refine rsa hG [] [0] fun K hK => ?_ | refine rna hG [] [0] fun K hK => ?_
  repeat first | ((with_reducible refine shN ?_); refine sL ?_) | ((with_reducible refine shG ?_); refine sG ?_)
  refine Eq.mpr evalL_nil (hK _ ?_)
  clear hK K hxs
  simp only [evU, St.keep, List.map_cons, look, reduceIte, Nat.reduceEqDiff]
  try show AWP _ _ _ _ _
  refine AWP.ret ?_
  refine ⟨.inl rfl, ⟨⟨_, rfl, ?_⟩, fun ob hob => by cases hob⟩⟩
  simp only [look, reduceIte, Nat.reduceEqDiff]
  exact sub1_of rfl
def e40 : List AV → Option Ob → Option Res := fun args i => match args, i with
  | [], none => some ⟨True, .d true (.v (.bool true)), none⟩
  | _, _ => none
def F37 : FT := F36.upd 40 e40
theorem F37_ok : FOK Try.prog F37 := FOK.upd F36_ok Try.func40 (by kernel_rfl) rfl fun args i R h => by
  unfold e40 at h
  split at h
  · cases h; exact s40
  · cases h
end Go.AM

