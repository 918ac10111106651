/- AM: the laws of seg: awake. -/
import Derived.Test.YtmfobkiljlepjaaC36
import Derived.Test.YtmfobkiljlepjaaG7
set_option maxRecDepth 100000
set_option maxHeartbeats 8000000
set_option linter.unusedSimpArgs false
set_option linter.unusedVariables false
namespace Go.AM
open Go Go.Proofs

theorem prs_cons0 {a b : Int} {l : List (Int × Int)} : Dat.agg [.v (.int .i32 a), .v (.int .u16 b)] :: prs l = prs ((a, b) :: l) := rfl


theorem s49 : Spec Try.prog 49 [] none ⟨True, .d true (.v (.bool true)), none⟩ := by
  have hf51 : F64 51 = e51 := rfl
  have hf52 : F64 52 = e52 := rfl
  have hf54 : F64 54 = e54 := rfl
  have hf56 : F64 56 = e56 := rfl
  have hG := (Gf_ok F64_ok)
  have hfs := And.intro @hf51 (And.intro @e51.eq_1 (And.intro @hf52 (And.intro @e52.eq_1 (And.intro @hf54 (And.intro @e54.eq_1 (And.intro @hf56 (And.intro @e56.eq_1 (And.intro @evP (And.intro @evS (And.intro @toPrs_prs (And.intro @toSgs_sgs @prs_cons0)))))))))))
  have hxs := @Nat.add_zero
  refine spec_of_awp (Gf_ok F64_ok) Try.func49 rfl (Nat.le_of_ble_eq_true rfl) fun E hps hN _ => ?_
  simp only [begin, List.zipIdx_cons, List.zipIdx_nil, List.map_cons, List.map_nil, Option.toList, Nat.zero_add, Nat.reduceAdd]
  have hp3 : PrOK [(65, 3), (66, 4)] := mem_pr (by decide)
  obtain ⟨M, B, eB, hM, hBb, hMl, hBl, h3, h4, h5, hmap, hlk⟩ := built_factsS (r := [(65, 3), (66, 4)]) rfl hp3 (by decide)
  have hM2 : M.length = 2 := by rw [hMl]; rfl
  have hl66 : lookS M B 66 = 4 := by rw [hlk]; rfl
  have e3 : (if rightS B = true then (0 : Int) else 2) = 0 := by rw [h3]; rfl
  clear hM hMl hlk
  repeat refine AWP.nest ?_
  first | refine rsa hG [] [] fun K hK => ?_ | refine rna hG [] [] fun K hK => ?_
  repeat first | ((with_reducible refine shN ?_); refine sL ?_) | ((with_reducible refine shG ?_); refine sG ?_)
  refine Eq.mpr evalL_nil (hK _ ?_)
  clear hK K
  simp only [evU, St.keep, List.map_cons, look, reduceIte, Nat.reduceEqDiff]
  try show AWP _ _ _ _ _
  repeat refine AWP.nest ?_
  have hxs := And.intro @eB (And.intro @h4 (And.intro @h5 @e3))
  first | refine rsa hG [] [1, 2] fun K hK => ?_ | refine rna hG [] [1, 2] fun K hK => ?_
  repeat first | ((with_reducible refine shN ?_); refine sL ?_) | ((with_reducible refine shG ?_); refine sG ?_)
  refine Eq.mpr evalL_nil (hK _ ?_)
  clear hK K hxs
  simp only [evU, St.keep, List.map_cons, look, reduceIte, Nat.reduceEqDiff]
  try show AWP _ _ _ _ _
  repeat refine AWP.nest ?_
  have hxs := And.intro @hl66 @hM2
  first | refine rsa hG [] [0] fun K hK => ?_ | refine rna hG [] [0] fun K hK => ?_
  repeat first | ((with_reducible refine shN ?_); refine sL ?_) | ((with_reducible refine shG ?_); refine sG ?_)
  refine Eq.mpr evalL_nil (hK _ ?_)
  clear hK K hxs
  simp only [evU, St.keep, List.map_cons, look, reduceIte, Nat.reduceEqDiff]
  try show AWP _ _ _ _ _
  refine AWP.ret ?_
  refine ⟨.inl rfl, ⟨⟨_, rfl, ?_⟩, fun ob hob => by cases hob⟩⟩
  simp only [look, reduceIte, Nat.reduceEqDiff]
  refine sub1_of ?_
  simp
def e49 : List AV → Option Ob → Option Res := fun args i => match args, i with
  | [], none => some ⟨True, .d true (.v (.bool true)), none⟩
  | _, _ => none
def F65 : FT := F64.upd 49 e49
theorem F65_ok : FOK Try.prog F65 := FOK.upd F64_ok Try.func49 (by kernel_rfl) rfl fun args i R h => by
  unfold e49 at h
  split at h
  · cases h; exact s49
  · cases h
end Go.AM

