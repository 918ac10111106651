/- The law SfntRefuses of the program: for every input that can be read as data the function returns true, and its arguments read behind the call as they read before. No condition. -/
import Derived.Test.YtmfobkiljlepjaaRows
import Derived.Test.YtmfobkiljlepjaaK2
import Derived.Test.YtmfobkiljlepjaaM1
import Derived.Test.YtmfobkiljlepjaaM2
import Derived.Test.YtmfobkiljlepjaaC98
import Derived.WalkKit
import Derived.ProofKit
import Derived.OpenShut
import Derived.ShutString
import Derived.ChangeOld
import Derived.Below
set_option linter.unusedVariables false
namespace Go.Proofs.Ytmfobkiljlepjaa.sfntRefuses
open Go.ChangeShapes Go.WideShapes Go.ChangeAt Go.RowKit

theorem own : ownKnob Try.prog.godebug = none := by kernel_rfl
theorem laidOut : laidOutB Try.prog = true := by kernel_rfl

set_option maxRecDepth 100000 in
theorem lifted (os : Os) (started : os.Started) (H : Type) (enc : TypeId × Value → H) :
    ReturnsInHanded {} Try.checked os 26 .any (Rows.sfntRefusesSpec.pre6 enc Try.prog Try.f26 Rows.sfntRefusesRow.domain false) (Rows.sfntRefusesSpec.post enc Try.prog Try.f26 false true false false) := by
  refine returnsInHanded_of_change (C := Try.checked) own started (by kernel_rfl) Try.func26
    (ChangeSpec.witness6 (enc := enc) (C := Try.checked) false ⟨#[], #[.slice none 0 0, .string ⟨#[]⟩, .int .u8 0], []⟩ 8 (by kernel_rfl) (by kernel_rfl) (by kernel_rfl) (by kernel_rfl)) ?_
  intro W base args ds gs before hval0 hW hcnd _
  have hval : ∀ (j : Nat) t v, Try.f26.params[j]? = some t → args[j]? = some v → Value.okWide Try.prog W .any base t v := hval0
  have hW' := hW
  obtain ⟨p, q, hA0, hV, rfl, hfz, hnd⟩ := hW
  have hA : DataW.TrodAll enc Try.prog W 0 (fun _ => true) true Try.f26.params.toList args.toList ds p := hA0
  rw [Try.params26] at hA hval
  obtain ⟨v0, vs0, d0, ds0, p0, q0, hargs, rfl, rfl, h0, r0⟩ := trodAll_cons hA
  obtain ⟨v1, vs1, d1, ds1, p1, q1, rfl, rfl, rfl, h1, r1⟩ := trodAll_cons r0
  obtain ⟨v2, vs2, d2, ds2, p2, q2, rfl, rfl, rfl, h2, r2⟩ := trodAll_cons r1
  obtain ⟨rfl, rfl, rfl⟩ := trodAll_nil r2
  obtain rfl : args = #[v0, v1, v2] := by cases args; simp_all
  obtain ⟨rfl, rfl⟩ := trodVars_none hV
  have k0 := h0
  have lt0 : ∀ x ∈ p0, x.block < W.heap.size := by obtain ⟨m, hm⟩ := k0; exact DataW.trod_lt m _ _ _ hm
  have c0 : v0.cells = #[v0] := by obtain ⟨_, _, _, rfl⟩ := okWide_slice Try.underlying100 (hval 0 100 v0 rfl rfl); rfl
  obtain ⟨x0, hx0, hr0⟩ := AM.arg_read (A := .sl 106 (.st2 .str (.sl 5 (.int .u8)) 9 24)) (by exact AM.at100) rfl h0 c0
  have k1 := h1
  have lt1 : ∀ x ∈ p1, x.block < W.heap.size := by obtain ⟨m, hm⟩ := k1; exact DataW.trod_lt m _ _ _ hm
  have c1 : v1.cells = #[v1] := by obtain ⟨_, rfl, _⟩ := Go.ChangeMaps.open_string Try.underlying9 (hval 1 9 v1 rfl rfl) h1; rfl
  obtain ⟨x1, hx1, hr1⟩ := AM.arg_read (A := .str) (by exact AM.at9) rfl h1 c1
  have k2 := h2
  have lt2 : ∀ x ∈ p2, x.block < W.heap.size := by obtain ⟨m, hm⟩ := k2; exact DataW.trod_lt m _ _ _ hm
  have c2 : v2.cells = #[v2] := by obtain ⟨_, rfl, _⟩ := open_int Try.underlying5 (hval 2 5 v2 rfl rfl) h2; rfl
  obtain ⟨x2, hx2, hr2⟩ := AM.arg_read (A := .int .u8) (by exact AM.at5) rfl h2 c2
  clear hA0 hval0
  refine (AM.law26 x0 hx0 x1 hx1 x2 hx2 W (fun _ => True) [] [v0, v1, v2] (AM.WOK.none1 _ _) (by unfold AM.AV.VL; exact ⟨_, _, rfl, hr0 _ (fun _ => trivial), by unfold AM.AV.VL; exact ⟨_, _, rfl, hr1 _ (fun _ => trivial), by unfold AM.AV.VL; exact ⟨_, _, rfl, hr2 _ (fun _ => trivial), by unfold AM.AV.VL; rfl⟩⟩⟩) trivial).mono ?_
  rintro e W' ⟨v, obs', hs', rfl, hwok, hv, -⟩
  have bel := hwok.below
  obtain rfl := AM.vr_int hv
  exact ⟨_, rfl, _, _, _, [], _, [], hW', trodAll_mk1 (shut_bool Try.underlying4 _), (trodAll_cons_mk (Below.trod laidOut (by kernel_rfl) (of_decide_eq_true (by kernel_rfl)) k0 bel lt0) (trodAll_cons_mk (Below.trod laidOut (by kernel_rfl) (of_decide_eq_true (by kernel_rfl)) k1 bel lt1) (trodAll_cons_mk (Below.trod laidOut (by kernel_rfl) (of_decide_eq_true (by kernel_rfl)) k2 bel lt2) trodAll_mk0))), rfl, bel.frame _, fun h => by cases h⟩

theorem closed : joinedFacts Try.prog 26 Try.f26 Rows.sfntRefusesSpec Rows.sfntRefusesRow = true := by
  unfold joinedFacts
  simp only [Bool.and_eq_true]
  repeat' refine And.intro ?_ ?_
  all_goals first
    | (with_reducible exact fact_mayEnter)
    | (with_reducible exact beq_iff_eq.2 (Eq.trans (b := false) rfl fact_lifts.symm))
    | (with_reducible exact beq_iff_eq.2 (Eq.trans (a := Try.prog.make) fact_make rfl))
    | kernel_rfl

theorem over : Rows.sfntRefusesRow.holds Try.pinned (OpenSpec.ofChange Rows.sfntRefusesSpec) :=
  OpenClaim.holds_of_wide 26 Try.f26 rfl rfl rfl rfl rfl rfl rfl ⟨rfl, rfl, rfl, rfl, rfl⟩ rfl rfl rfl rfl rfl (by kernel_rfl) Try.func26 closed
    (of_decide_eq_true (by kernel_rfl)) (by unfold Func.isWrapper; first | (rw [if_pos (by decide +kernel)]; kernel_rfl) | (rw [if_neg (by decide +kernel)]; exact ⟨rfl, rfl⟩))
    (fun os started H enc _ => lifted os started H enc)

/-- SfntRefuses, for every input. -/
theorem proved : Rows.SfntRefusesSaid := over
#print axioms proved
end Go.Proofs.Ytmfobkiljlepjaa.sfntRefuses
