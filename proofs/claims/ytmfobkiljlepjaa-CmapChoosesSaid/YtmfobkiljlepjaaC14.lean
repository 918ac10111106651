/- AM: group.Map.Look. -/
import Derived.Test.YtmfobkiljlepjaaC13B
set_option maxRecDepth 100000
set_option maxHeartbeats 8000000
set_option linter.unusedSimpArgs false
set_option linter.unusedVariables false
namespace Go.AM
open Go Go.Proofs


theorem sub1_i {fr : Bool} {k : IntKind} {x y : Int} (h : x = y) : AV.Sub1 (.d fr (.v (.int k x))) (.d fr (.v (.int k y))) := sub1_of (by rw [h])
/-! ### group.Map.Look -/
/-- A code's glyph. -/
def lookG (m : List (Int × Int × Int)) (c : Int) : Int :=
  if c < 0 ∨ cnt m c = m.length ∨ c < (m.getD (cnt m c) (0, 0, 0)).1 then 0 else (m.getD (cnt m c) (0, 0, 0)).2.2 + (c - (m.getD (cnt m c) (0, 0, 0)).1)
/-- A map of group, right. -/
def MapG (m : List (Int × Int × Int)) : Prop := SpR m ∧ m.length ≤ 1000000000000 ∧ (∀ i, i < m.length → 0 ≤ (m.getD i (0, 0, 0)).1 ∧ (m.getD i (0, 0, 0)).1 ≤ (m.getD i (0, 0, 0)).2.1 ∧ (m.getD i (0, 0, 0)).2.1 ≤ 1114111 ∧
  0 ≤ (m.getD i (0, 0, 0)).2.2 ∧ (m.getD i (0, 0, 0)).2.2 + ((m.getD i (0, 0, 0)).2.1 - (m.getD i (0, 0, 0)).1) ≤ 65535) ∧ ∀ i, i + 1 < m.length → (m.getD i (0, 0, 0)).2.1 < (m.getD (i + 1) (0, 0, 0)).1
theorem s46 (m : List (Int × Int × Int)) (hm : MapG m) (c : Int) (hc0 : -2147483648 ≤ c) (hc1 : c ≤ 2147483647) : Spec Try.prog 46 [.d false (.agg [.sl 3 (sps m)]), .d true (.v (.int .i32 c))] none ⟨True, .d true (.v (.int .u16 (lookG m c))), none⟩ := by
  have hf94 : F28 94 = e94 := rfl
  have hG := (Gf_ok F28_ok)
  have hfs := And.intro @hf94 (And.intro @e94.eq_1 (And.intro @evP @toSps_sps))
  have hxs := @Nat.add_zero
  refine spec_of_awp (Gf_ok F28_ok) Try.func46 rfl (Nat.le_of_ble_eq_true rfl) fun E hps hN _ => ?_
  simp only [begin, List.zipIdx_cons, List.zipIdx_nil, List.map_cons, List.map_nil, Option.toList, Nat.zero_add, Nat.reduceAdd]
  repeat refine AWP.nest ?_
  first | refine rsa hG [] [1, 2] fun K hK => ?_ | refine rna hG [] [1, 2] fun K hK => ?_
  repeat first | ((with_reducible refine shN ?_); refine sL ?_) | ((with_reducible refine shG ?_); refine sG ?_)
  refine Eq.mpr evalL_nil (hK _ ?_)
  clear hK K
  simp only [evU, St.keep, List.map_cons, look, reduceIte, Nat.reduceEqDiff]
  try show AWP _ _ _ _ _
  repeat refine AWP.nest ?_
  first | refine rsa hG [] [1, 2, 8] fun K hK => ?_ | refine rna hG [] [1, 2, 8] fun K hK => ?_
  repeat first | ((with_reducible refine shN ?_); refine sL ?_) | ((with_reducible refine shG ?_); refine sG ?_)
  refine Eq.mpr evalL_nil (hK _ ?_)
  clear hK K
  simp only [evU, St.keep, List.map_cons, look, reduceIte, Nat.reduceEqDiff]
  try show AWP _ _ _ _ _
  repeat refine AWP.nest ?_
  first | refine AWP.seq (AWP.cond (b := _) rfl (fun hc => ?_) (fun hc => ?_)) | refine AWP.cond (b := _) rfl (fun hc => ?_) (fun hc => ?_)
  all_goals try simp only [evC] at hc
  · rw [show lookG m c = 0 from if_pos (.inl hc)]
    repeat refine AWP.nest ?_
    first | refine rsa hG [] [4] fun K hK => ?_ | refine rna hG [] [4] fun K hK => ?_
    repeat first | ((with_reducible refine shN ?_); refine sL ?_) | ((with_reducible refine shG ?_); refine sG ?_)
    refine Eq.mpr evalL_nil (hK _ ?_)
    clear hK K
    simp only [evU, St.keep, List.map_cons, look, reduceIte, Nat.reduceEqDiff]
    try show AWP _ _ _ _ _
    refine AWP.ret ?_
    refine ⟨.inl rfl, ⟨⟨_, rfl, ?_⟩, fun ob hob => by cases hob⟩⟩
    simp only [look, reduceIte, Nat.reduceEqDiff]
    exact sub1_of rfl
  refine AWP.skip ?_
  show AWP _ _ _ _ _
  have hmod : c % 4294967296 = c := by omega
  have hr := hm.1
  have hl := hm.2.1
  have hcl := cnt_le m c
  repeat refine AWP.nest ?_
  have hxs := @hmod
  first | refine rsa hG [] [1, 2, 5] fun K hK => ?_ | refine rna hG [] [1, 2, 5] fun K hK => ?_
  repeat first | ((with_reducible refine shN ?_); refine sL ?_) | ((with_reducible refine shG ?_); refine sG ?_)
  refine Eq.mpr evalL_nil (hK _ ?_)
  clear hK K hxs
  simp only [evU, St.keep, List.map_cons, look, reduceIte, Nat.reduceEqDiff]
  try show AWP _ _ _ _ _
  repeat refine AWP.nest ?_
  have hxs := @hmod
  first | refine rsa hG [] [1, 2, 5, 32] fun K hK => ?_ | refine rna hG [] [1, 2, 5, 32] fun K hK => ?_
  repeat first | ((with_reducible refine shN ?_); refine sL ?_) | ((with_reducible refine shG ?_); refine sG ?_)
  refine Eq.mpr evalL_nil (hK _ ?_)
  clear hK K hxs
  simp only [evU, St.keep, List.map_cons, look, reduceIte, Nat.reduceEqDiff]
  try show AWP _ _ _ _ _
  repeat refine AWP.nest ?_
  first | refine AWP.seq (AWP.cond (b := _) rfl (fun hc => ?_) (fun hc => ?_)) | refine AWP.cond (b := _) rfl (fun hc => ?_) (fun hc => ?_)
  all_goals try simp only [evC] at hc
  · have e0 : lookG m c = 0 := by
      refine if_pos ?_
      rcases hc with h | h
      · exact .inr (.inl (by omega))
      · exact .inr (.inr h)
    rw [e0]
    repeat refine AWP.nest ?_
    first | refine rsa hG [] [4] fun K hK => ?_ | refine rna hG [] [4] fun K hK => ?_
    repeat first | ((with_reducible refine shN ?_); refine sL ?_) | ((with_reducible refine shG ?_); refine sG ?_)
    refine Eq.mpr evalL_nil (hK _ ?_)
    clear hK K
    simp only [evU, St.keep, List.map_cons, look, reduceIte, Nat.reduceEqDiff]
    try show AWP _ _ _ _ _
    refine AWP.ret ?_
    refine ⟨.inl rfl, ⟨⟨_, rfl, ?_⟩, fun ob hob => by cases hob⟩⟩
    simp only [look, reduceIte, Nat.reduceEqDiff]
    exact sub1_of rfl
  refine AWP.skip ?_
  show AWP _ _ _ _ _
  have hlt : cnt m c < m.length := by
    rcases Nat.lt_or_ge (cnt m c) m.length with h | h
    · exact h
    · have e : cnt m c = m.length := by omega
      rw [e] at hc
      simp at hc
  have hge := cnt_ge hlt
  have hs := hm.2.2.1 _ hlt
  have e1 : lookG m c = (m.getD (cnt m c) (0, 0, 0)).2.2 + (c - (m.getD (cnt m c) (0, 0, 0)).1) := if_neg (by omega)
  rw [e1]
  repeat refine AWP.nest ?_
  have hxs := @hmod
  first | refine rda hG [] [4] Try.mixed fun K hK => ?_ | refine dna hG [] [4] Try.mixed fun K hK => ?_
  repeat first | ((with_reducible refine shD ?_); refine sD ?_) | ((with_reducible refine shDG ?_); refine sDG ?_)
  refine evalD_done (by kernel_rfl) (hK _ ?_)
  clear hK K hxs
  simp only [evU, St.keep, List.map_cons, look, reduceIte, Nat.reduceEqDiff]
  try show AWP _ _ _ _ _
  refine AWP.ret ?_
  refine ⟨.inl rfl, ⟨⟨_, rfl, ?_⟩, fun ob hob => by cases hob⟩⟩
  simp only [look, reduceIte, Nat.reduceEqDiff]
  refine sub1_i ?_
  omega
def e46 : List AV → Option Ob → Option Res := fun args i => match args, i with
  | [.d false (.agg [.sl 3 xs]), .d true (.v (.int .i32 c))], none => some ⟨xs = sps (toSps xs) ∧ MapG (toSps xs) ∧ -2147483648 ≤ c ∧ c ≤ 2147483647, .d true (.v (.int .u16 (lookG (toSps xs) c))), none⟩
  | _, _ => none
def F29 : FT := F28.upd 46 e46
theorem F29_ok : FOK Try.prog F29 := FOK.upd F28_ok Try.func46 (by kernel_rfl) rfl fun args i R h => by
  unfold e46 at h
  split at h
  · rename_i xs c
    cases h
    refine Spec.pre fun h => ?_
    have := s46 (toSps xs) h.2.1 c h.2.2.1 h.2.2.2
    rw [← h.1] at this
    exact this
  · cases h
end Go.AM

