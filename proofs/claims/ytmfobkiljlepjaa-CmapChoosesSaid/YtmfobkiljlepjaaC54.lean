/- AM: cmap.Build, ref11.Build; a built table is read as it was; the laws of cmap: awake, rising. -/
import Derived.Test.YtmfobkiljlepjaaC52
import Derived.Test.YtmfobkiljlepjaaC43
import Derived.Test.YtmfobkiljlepjaaG12
import Derived.Test.YtmfobkiljlepjaaG11
set_option maxRecDepth 100000
set_option maxHeartbeats 8000000
set_option linter.unusedSimpArgs false
set_option linter.unusedVariables false
namespace Go.AM
open Go Go.Proofs

def F86 : FT := F85.upd 53 e53
theorem F86_ok : FOK Try.prog F86 := FOK.upd F85_ok Try.func53 (by kernel_rfl) rfl fun args i R h => (F92_ok 53 args i R h).2
/-- What stands ahead of the table. -/
def hdrC (w : Bool) : List Int := if w = true then [0, 0, 0, 1, 0, 3, 0, 10, 0, 0, 0, 12] else [0, 0, 0, 1, 0, 3, 0, 1, 0, 0, 0, 12]
def bodyC (l : List (Int × Int)) (w : Bool) : List Int := if w = true then buildG l else buildS l
def buildC (l : List (Int × Int)) (w : Bool) : List Int := if bodyC l w = [] then [] else hdrC w ++ bodyC l w
theorem buildGC_byt {l : List (Int × Int)} (hp : PrOK l) (hl : l.length ≤ 1000000) : Byt (buildG l) ∧ (buildG l).length ≤ 100000000 := by
  by_cases hr : risesB l 1114111 = true
  · obtain ⟨R, B, _, eB, _, h1, h2, _, _, _, h3, _⟩ := built_facts hr hp hl
    rw [eB]
    exact ⟨h1, by omega⟩
  · unfold buildG
    rw [if_neg hr]
    exact ⟨Byt.nil, by simp⟩
theorem buildSC_byt {l : List (Int × Int)} (hp : PrOK l) (hl : l.length ≤ 7000) : Byt (buildS l) ∧ (buildS l).length ≤ 100000000 := by
  by_cases hr : risesB l 65534 = true
  · obtain ⟨M, B, eB, _, h1, h2, h3, _⟩ := built_factsS hr hp hl
    have := runsQ_len l l.length
    rw [eB]
    exact ⟨h1, by omega⟩
  · unfold buildS
    rw [if_neg hr]
    exact ⟨Byt.nil, by simp⟩


theorem s67 (l : List (Int × Int)) (hp : PrOK l) (hl : l.length ≤ 7000) (w : Bool) : Spec Try.prog 67 [.d false (.sl 2 (prs l)), .d true (.v (.bool w))] none ⟨True, .d true (.sl 1 (ints .u8 (buildC l w))), none⟩ := by
  have hf42 : F86 42 = e42 := rfl
  have hf51 : F86 51 = e51 := rfl
  have hf89 : F86 89 = e89 := rfl
  have hf90 : F86 90 = e90 := rfl
  have hf91 : F86 91 = e91 := rfl
  have hf99 : F86 99 = e99 := rfl
  have hG := (Gf_ok F86_ok)
  have hfs := And.intro @hf42 (And.intro @e42.eq_1 (And.intro @hf51 (And.intro @e51.eq_1 (And.intro @hf89 (And.intro @e89.eq_1 (And.intro @hf90 (And.intro @e90.eq_1 (And.intro @hf91 (And.intro @e91.eq_1 (And.intro @hf99 (And.intro @e99.eq_1 (And.intro @evP (And.intro @evS (And.intro @toPrs_prs (And.intro @toPrs_prs9 (And.intro @toSps_sps @toSgs_sgs))))))))))))))))
  have hxs := @Nat.add_zero
  refine spec_of_awp (Gf_ok F86_ok) Try.func67 rfl (Nat.le_of_ble_eq_true rfl) fun E hps hN _ => ?_
  simp only [begin, List.zipIdx_cons, List.zipIdx_nil, List.map_cons, List.map_nil, Option.toList, Nat.zero_add, Nat.reduceAdd]
  have hl6 : l.length ≤ 1000000 := by omega
  repeat refine AWP.nest ?_
  first | refine rsa hG [] [0, 1] fun K hK => ?_ | refine rna hG [] [0, 1] fun K hK => ?_
  repeat first | ((with_reducible refine shN ?_); refine sL ?_) | ((with_reducible refine shG ?_); refine sG ?_)
  refine Eq.mpr evalL_nil (hK _ ?_)
  clear hK K
  simp only [evU, St.keep, List.map_cons, look, reduceIte, Nat.reduceEqDiff]
  try show AWP _ _ _ _ _
  repeat refine AWP.nest ?_
  first | refine rsa hG [] [0, 1, 5] fun K hK => ?_ | refine rna hG [] [0, 1, 5] fun K hK => ?_
  repeat first | ((with_reducible refine shN ?_); refine sL ?_) | ((with_reducible refine shG ?_); refine sG ?_)
  refine Eq.mpr evalL_nil (hK _ ?_)
  clear hK K
  simp only [evU, St.keep, List.map_cons, look, reduceIte, Nat.reduceEqDiff]
  try show AWP _ _ _ _ _
  repeat refine AWP.nest ?_
  first | refine rsa hG [] [0, 5, 9] fun K hK => ?_ | refine rna hG [] [0, 5, 9] fun K hK => ?_
  repeat first | ((with_reducible refine shN ?_); refine sL ?_) | ((with_reducible refine shG ?_); refine sG ?_)
  refine Eq.mpr evalL_nil (hK _ ?_)
  clear hK K
  simp only [evU, St.keep, List.map_cons, look, reduceIte, Nat.reduceEqDiff]
  try show AWP _ _ _ _ _
  unfold buildC
  repeat refine AWP.nest ?_
  first | refine AWP.seq (AWP.cond (b := _) rfl (fun hc => ?_) (fun hc => ?_)) | refine AWP.cond (b := _) rfl (fun hc => ?_) (fun hc => ?_)
  all_goals try simp only [evC] at hc
  · subst hc
    have hB := buildGC_byt hp hl6
    rw [show bodyC l true = buildG l from rfl, show hdrC true = [0, 0, 0, 1, 0, 3, 0, 10, 0, 0, 0, 12] from rfl]
    repeat refine AWP.nest ?_
    first | refine rsa hG [] [5, 6] fun K hK => ?_ | refine rna hG [] [5, 6] fun K hK => ?_
    repeat first | ((with_reducible refine shN ?_); refine sL ?_) | ((with_reducible refine shG ?_); refine sG ?_)
    refine Eq.mpr evalL_nil (hK _ ?_)
    clear hK K
    simp only [evU, St.keep, List.map_cons, look, reduceIte, Nat.reduceEqDiff]
    try show AWP _ _ _ _ _
    generalize buildG l = B at hB ⊢
    obtain ⟨hB1, hB2⟩ := hB
    repeat refine AWP.nest ?_
    first | refine rsa hG [] [5, 6, 17] fun K hK => ?_ | refine rna hG [] [5, 6, 17] fun K hK => ?_
    repeat first | ((with_reducible refine shN ?_); refine sL ?_) | ((with_reducible refine shG ?_); refine sG ?_)
    refine Eq.mpr evalL_nil (hK _ ?_)
    clear hK K
    simp only [evU, St.keep, List.map_cons, look, reduceIte, Nat.reduceEqDiff]
    try show AWP _ _ _ _ _
    repeat refine AWP.nest ?_
    first | refine AWP.seq (AWP.cond (b := _) rfl (fun hc => ?_) (fun hc => ?_)) | refine AWP.cond (b := _) rfl (fun hc => ?_) (fun hc => ?_)
    all_goals try simp only [evC] at hc
    · have e : B = [] := List.length_eq_zero_iff.1 (by omega)
      rw [if_pos e]
      repeat refine AWP.nest ?_
      first | refine rsa hG [] [4] fun K hK => ?_ | refine rna hG [] [4] fun K hK => ?_
      repeat first | ((with_reducible refine shN ?_); refine sL ?_) | ((with_reducible refine shG ?_); refine sG ?_)
      refine Eq.mpr evalL_nil (hK _ ?_)
      clear hK K
      simp only [evU, St.keep, List.map_cons, look, reduceIte, Nat.reduceEqDiff]
      try show AWP _ _ _ _ _
      refine AWP.ret ?_
      refine ⟨.inl rfl, ⟨⟨_, rfl, ?_⟩, fun ob hob => by cases hob⟩⟩
      simp only [look, reduceIte, Nat.reduceEqDiff]
      exact .nil _ _ _
    have e : B ≠ [] := fun h => by subst h; simp at hc
    rw [if_neg e]
    refine AWP.skip ?_
    show AWP _ _ _ _ _
    repeat refine AWP.nest ?_
    first | refine rsa hG [] [5, 6, 7] fun K hK => ?_ | refine rna hG [] [5, 6, 7] fun K hK => ?_
    repeat first | ((with_reducible refine shN ?_); refine sL ?_) | ((with_reducible refine shG ?_); refine sG ?_)
    refine Eq.mpr evalL_nil (hK _ ?_)
    clear hK K
    simp only [evU, St.keep, List.map_cons, look, reduceIte, Nat.reduceEqDiff]
    try show AWP _ _ _ _ _
    refine AWP.tobuf 7 1 5 (by rw [hps]; decide) rfl rfl ?_
    simp only [List.set_cons_zero, List.set_cons_succ, List.cons_append, List.nil_append, List.length_cons, List.length_nil, Nat.reduceAdd]
    have h12 : Byt (b4 12) := by intro b hb; simp [b4] at hb; omega
    repeat refine AWP.nest ?_
    have hxs := And.intro @toInts_nil0 (And.intro @ints_nil @b4_length)
    first | refine rda hG [] [4] Try.mixed fun K hK => ?_ | refine dna hG [] [4] Try.mixed fun K hK => ?_
    repeat first | ((with_reducible refine shD ?_); refine sD ?_) | ((with_reducible refine shDG ?_); refine sDG ?_)
    refine evalD_done (by kernel_rfl) (hK _ ?_)
    clear hK K hxs
    simp only [evU, St.keep, List.map_cons, look, reduceIte, Nat.reduceEqDiff]
    try show AWP _ _ _ _ _
    refine AWP.ret ?_
    refine ⟨.inl rfl, ⟨⟨_, rfl, ?_⟩, fun ob hob => by cases hob⟩⟩
    simp only [look, reduceIte, Nat.reduceEqDiff]
    refine sub1_of ?_
    simp [b4]
  · have hw : w = false := by simpa using hc
    subst hw
    have hB := buildSC_byt hp hl
    rw [show bodyC l false = buildS l from rfl, show hdrC false = [0, 0, 0, 1, 0, 3, 0, 1, 0, 0, 0, 12] from rfl]
    repeat refine AWP.nest ?_
    first | refine rsa hG [] [5, 6] fun K hK => ?_ | refine rna hG [] [5, 6] fun K hK => ?_
    repeat first | ((with_reducible refine shN ?_); refine sL ?_) | ((with_reducible refine shG ?_); refine sG ?_)
    refine Eq.mpr evalL_nil (hK _ ?_)
    clear hK K
    simp only [evU, St.keep, List.map_cons, look, reduceIte, Nat.reduceEqDiff]
    try show AWP _ _ _ _ _
    generalize buildS l = B at hB ⊢
    obtain ⟨hB1, hB2⟩ := hB
    repeat refine AWP.nest ?_
    first | refine rsa hG [] [5, 6, 17] fun K hK => ?_ | refine rna hG [] [5, 6, 17] fun K hK => ?_
    repeat first | ((with_reducible refine shN ?_); refine sL ?_) | ((with_reducible refine shG ?_); refine sG ?_)
    refine Eq.mpr evalL_nil (hK _ ?_)
    clear hK K
    simp only [evU, St.keep, List.map_cons, look, reduceIte, Nat.reduceEqDiff]
    try show AWP _ _ _ _ _
    repeat refine AWP.nest ?_
    first | refine AWP.seq (AWP.cond (b := _) rfl (fun hc => ?_) (fun hc => ?_)) | refine AWP.cond (b := _) rfl (fun hc => ?_) (fun hc => ?_)
    all_goals try simp only [evC] at hc
    · have e : B = [] := List.length_eq_zero_iff.1 (by omega)
      rw [if_pos e]
      repeat refine AWP.nest ?_
      first | refine rsa hG [] [4] fun K hK => ?_ | refine rna hG [] [4] fun K hK => ?_
      repeat first | ((with_reducible refine shN ?_); refine sL ?_) | ((with_reducible refine shG ?_); refine sG ?_)
      refine Eq.mpr evalL_nil (hK _ ?_)
      clear hK K
      simp only [evU, St.keep, List.map_cons, look, reduceIte, Nat.reduceEqDiff]
      try show AWP _ _ _ _ _
      refine AWP.ret ?_
      refine ⟨.inl rfl, ⟨⟨_, rfl, ?_⟩, fun ob hob => by cases hob⟩⟩
      simp only [look, reduceIte, Nat.reduceEqDiff]
      exact .nil _ _ _
    have e : B ≠ [] := fun h => by subst h; simp at hc
    rw [if_neg e]
    refine AWP.skip ?_
    show AWP _ _ _ _ _
    repeat refine AWP.nest ?_
    first | refine rsa hG [] [5, 6, 7] fun K hK => ?_ | refine rna hG [] [5, 6, 7] fun K hK => ?_
    repeat first | ((with_reducible refine shN ?_); refine sL ?_) | ((with_reducible refine shG ?_); refine sG ?_)
    refine Eq.mpr evalL_nil (hK _ ?_)
    clear hK K
    simp only [evU, St.keep, List.map_cons, look, reduceIte, Nat.reduceEqDiff]
    try show AWP _ _ _ _ _
    refine AWP.tobuf 7 1 5 (by rw [hps]; decide) rfl rfl ?_
    simp only [List.set_cons_zero, List.set_cons_succ, List.cons_append, List.nil_append, List.length_cons, List.length_nil, Nat.reduceAdd]
    have h12 : Byt (b4 12) := by intro b hb; simp [b4] at hb; omega
    repeat refine AWP.nest ?_
    have hxs := And.intro @toInts_nil0 (And.intro @ints_nil @b4_length)
    first | refine rda hG [] [4] Try.mixed fun K hK => ?_ | refine dna hG [] [4] Try.mixed fun K hK => ?_
    repeat first | ((with_reducible refine shD ?_); refine sD ?_) | ((with_reducible refine shDG ?_); refine sDG ?_)
    refine evalD_done (by kernel_rfl) (hK _ ?_)
    clear hK K hxs
    simp only [evU, St.keep, List.map_cons, look, reduceIte, Nat.reduceEqDiff]
    try show AWP _ _ _ _ _
    refine AWP.ret ?_
    refine ⟨.inl rfl, ⟨⟨_, rfl, ?_⟩, fun ob hob => by cases hob⟩⟩
    simp only [look, reduceIte, Nat.reduceEqDiff]
    refine sub1_of ?_
    simp [b4]
def e67 : List AV → Option Ob → Option Res := fun args i => match args, i with
  | [.d false (.sl 2 xs), .d true (.v (.bool w))], none => some ⟨xs = prs (toPrs xs) ∧ PrOK (toPrs xs) ∧ (toPrs xs).length ≤ 7000, .d true (.sl 1 (ints .u8 (buildC (toPrs xs) w))), none⟩
  | _, _ => none
def F87 : FT := F86.upd 67 e67
theorem F87_ok : FOK Try.prog F87 := FOK.upd F86_ok Try.func67 (by kernel_rfl) rfl fun args i R h => by
  unfold e67 at h
  split at h
  · rename_i xs w
    cases h
    refine Spec.pre fun h => ?_
    have := s67 (toPrs xs) h.2.1 h.2.2 w
    rwa [← h.1] at this
  · cases h

theorem s69 (l : List (Int × Int)) (hp : PrOK l) (hr : risesB l 65534 = true) (hl : l.length ≤ 7000) (w : Bool) : Spec Try.prog 69 [.d false (.sl 2 (prs9 l)), .d true (.v (.bool w))] none ⟨True, .d true (.sl 1 (ints .u8 (hdrC w ++ bodyC l w))), none⟩ := by
  have hf32 : F87 32 = e32 := rfl
  have hf44 : F87 44 = e44 := rfl
  have hf53 : F87 53 = e53 := rfl
  have hG := (Gf_ok F87_ok)
  have hfs := And.intro @hf32 (And.intro @e32.eq_1 (And.intro @hf44 (And.intro @e44.eq_1 (And.intro @hf53 (And.intro @e53.eq_1 (And.intro @evP (And.intro @evS (And.intro @toPrs_prs (And.intro @toPrs_prs9 (And.intro @toSps_sps @toSgs_sgs))))))))))
  have hxs := @Nat.add_zero
  refine spec_of_awp (Gf_ok F87_ok) Try.func69 rfl (Nat.le_of_ble_eq_true rfl) fun E hps hN _ => ?_
  simp only [begin, List.zipIdx_cons, List.zipIdx_nil, List.map_cons, List.map_nil, Option.toList, Nat.zero_add, Nat.reduceAdd]
  have hl6 : l.length ≤ 1000000 := by omega
  have hr2 : risesB l 1114111 = true := pairs_rises (fun p hp => by have := (rises_pairs hr).1 p hp; omega) (rises_pairs hr).2
  repeat refine AWP.nest ?_
  first | refine rsa hG [] [0, 1] fun K hK => ?_ | refine rna hG [] [0, 1] fun K hK => ?_
  repeat first | ((with_reducible refine shN ?_); refine sL ?_) | ((with_reducible refine shG ?_); refine sG ?_)
  refine Eq.mpr evalL_nil (hK _ ?_)
  clear hK K
  simp only [evU, St.keep, List.map_cons, look, reduceIte, Nat.reduceEqDiff]
  try show AWP _ _ _ _ _
  repeat refine AWP.nest ?_
  first | refine rsa hG [] [0, 5] fun K hK => ?_ | refine rna hG [] [0, 5] fun K hK => ?_
  repeat first | ((with_reducible refine shN ?_); refine sL ?_) | ((with_reducible refine shG ?_); refine sG ?_)
  refine Eq.mpr evalL_nil (hK _ ?_)
  clear hK K
  simp only [evU, St.keep, List.map_cons, look, reduceIte, Nat.reduceEqDiff]
  try show AWP _ _ _ _ _
  repeat refine AWP.nest ?_
  first | refine AWP.seq (AWP.cond (b := _) rfl (fun hc => ?_) (fun hc => ?_)) | refine AWP.cond (b := _) rfl (fun hc => ?_) (fun hc => ?_)
  all_goals try simp only [evC] at hc
  · subst hc
    have hB := buildGC_byt hp hl6
    have eB : tabG (runsTo l l.length) = buildG l := by unfold buildG; rw [if_pos hr2]
    rw [show bodyC l true = buildG l from rfl, show hdrC true = [0, 0, 0, 1, 0, 3, 0, 10, 0, 0, 0, 12] from rfl]
    obtain ⟨hB1, hB2⟩ := hB
    repeat refine AWP.nest ?_
    have hxs := @eB
    first | refine rsa hG [] [4] fun K hK => ?_ | refine rna hG [] [4] fun K hK => ?_
    repeat first | ((with_reducible refine shN ?_); refine sL ?_) | ((with_reducible refine shG ?_); refine sG ?_)
    refine Eq.mpr evalL_nil (hK _ ?_)
    clear hK K hxs
    simp only [evU, St.keep, List.map_cons, look, reduceIte, Nat.reduceEqDiff]
    try show AWP _ _ _ _ _
    refine AWP.ret ?_
    refine ⟨.inl rfl, ⟨⟨_, rfl, ?_⟩, fun ob hob => by cases hob⟩⟩
    simp only [look, reduceIte, Nat.reduceEqDiff]
    exact sub1_of rfl
  · have hw : w = false := by simpa using hc
    subst hw
    have hB := buildSC_byt hp hl
    have eB : tabS (allQ l) = buildS l := by unfold buildS; rw [if_pos hr]
    rw [show bodyC l false = buildS l from rfl, show hdrC false = [0, 0, 0, 1, 0, 3, 0, 1, 0, 0, 0, 12] from rfl]
    obtain ⟨hB1, hB2⟩ := hB
    refine AWP.skip ?_
    show AWP _ _ _ _ _
    repeat refine AWP.nest ?_
    have hxs := @eB
    first | refine rsa hG [] [4] fun K hK => ?_ | refine rna hG [] [4] fun K hK => ?_
    repeat first | ((with_reducible refine shN ?_); refine sL ?_) | ((with_reducible refine shG ?_); refine sG ?_)
    refine Eq.mpr evalL_nil (hK _ ?_)
    clear hK K hxs
    simp only [evU, St.keep, List.map_cons, look, reduceIte, Nat.reduceEqDiff]
    try show AWP _ _ _ _ _
    refine AWP.ret ?_
    refine ⟨.inl rfl, ⟨⟨_, rfl, ?_⟩, fun ob hob => by cases hob⟩⟩
    simp only [look, reduceIte, Nat.reduceEqDiff]
    exact sub1_of rfl
def e69 : List AV → Option Ob → Option Res := fun args i => match args, i with
  | [.d false (.sl 2 xs), .d true (.v (.bool w))], none => some ⟨xs = prs9 (toPrs xs) ∧ PrOK (toPrs xs) ∧ risesB (toPrs xs) 65534 = true ∧ (toPrs xs).length ≤ 7000, .d true (.sl 1 (ints .u8 (hdrC w ++ bodyC (toPrs xs) w))), none⟩
  | _, _ => none
def F88 : FT := F87.upd 69 e69
theorem F88_ok : FOK Try.prog F88 := FOK.upd F87_ok Try.func69 (by kernel_rfl) rfl fun args i R h => by
  unfold e69 at h
  split at h
  · rename_i xs w
    cases h
    refine Spec.pre fun h => ?_
    have := s69 (toPrs xs) h.2.1 h.2.2.1 h.2.2.2 w
    rwa [← h.1] at this
  · cases h
end Go.AM

namespace Go.AM
open Go

theorem bool_cases_hdr (w : Bool) : ∃ x : Int, hdrC w = [0, 0, 0, 1, 0, 3, 0, x, 0, 0, 0, 12] ∧ x = (if w = true then 10 else 1) := by
  cases w
  · exact ⟨1, rfl, rfl⟩
  · exact ⟨10, rfl, rfl⟩
theorem hdr_len (w : Bool) : (hdrC w).length = 12 := by cases w <;> rfl
theorem hdr_byt (w : Bool) : Byt (hdrC w) := by
  cases w <;> (intro b hb; simp [hdrC] at hb; omega)
theorem n2V_app {a b : List Int} {q : Nat} (h : q + 2 ≤ a.length) : n2V (a ++ b) (q : Int) = n2V a (q : Int) := by
  rw [n2V_at (by rw [List.length_append]; omega), n2V_at h]
  simp only [List.getD_eq_getElem?_getD]
  rw [List.getElem?_append_left (by omega), List.getElem?_append_left (by omega)]
theorem n4V_app {a b : List Int} {q : Nat} (h : q + 4 ≤ a.length) : n4V (a ++ b) (q : Int) = n4V a (q : Int) := by
  unfold n4V
  rw [if_neg (by rw [List.length_append]; omega), if_neg (by omega), n2V_app (by omega)]
  have := n2V_app (a := a) (b := b) (q := q + 2) (by omega)
  rw [show ((q + 2 : Nat) : Int) = (q : Int) + 2 by omega] at this
  rw [this]
theorem hdr_ch (w : Bool) (B : List Int) : chC (hdrC w ++ B) = some (w, B) := by
  have hl := hdr_len w
  have hl2 : 12 ≤ (hdrC w ++ B).length := by rw [List.length_append]; omega
  have e0 : n2V (hdrC w ++ B) 0 = 0 := by
    have := n2V_app (a := hdrC w) (b := B) (q := 0) (by omega)
    rw [show ((0 : Nat) : Int) = 0 from rfl] at this
    rw [this]
    cases w <;> decide
  have e2 : n2V (hdrC w ++ B) 2 = 1 := by
    have := n2V_app (a := hdrC w) (b := B) (q := 2) (by omega)
    rw [show ((2 : Nat) : Int) = 2 from rfl] at this
    rw [this]
    cases w <;> decide
  have hn : nrec (hdrC w ++ B) = 1 := by unfold nrec; rw [e2]; rfl
  have ho : okC (hdrC w ++ B) = true := by
    simp only [okC, Bool.and_eq_true, decide_eq_true_eq, hn]
    omega
  have hk : recK (hdrC w ++ B) 0 = [3, if w = true then 10 else 1] := by
    unfold recK
    have h1 := n2V_app (a := hdrC w) (b := B) (q := 4) (by omega)
    have h2 := n2V_app (a := hdrC w) (b := B) (q := 6) (by omega)
    rw [show (4 : Int) + 8 * ((0 : Nat) : Int) = ((4 : Nat) : Int) from rfl, show (6 : Int) + 8 * ((0 : Nat) : Int) = ((6 : Nat) : Int) from rfl, h1, h2]
    cases w <;> decide
  have hv : recV (hdrC w ++ B) 0 = 12 := by
    unfold recV
    have h1 := n4V_app (a := hdrC w) (b := B) (q := 8) (by omega)
    rw [show (8 : Int) + 8 * ((0 : Nat) : Int) = ((8 : Nat) : Int) from rfl, h1]
    cases w <;> decide
  have hd : (hdrC w ++ B).drop (12 : Int).toNat = B := by
    rw [show (12 : Int).toNat = (hdrC w).length by rw [hl]; rfl, List.drop_left]
  have hfirst : ∀ k, recK (hdrC w ++ B) 0 = kindAt k → kFind (hdrC w ++ B) k = some 0 := fun k h => by
    unfold kFind
    rw [hn]
    exact firstR_at (by decide) (fun j h => absurd h (Nat.not_lt_zero j)) h
  have hnone : ∀ k, recK (hdrC w ++ B) 0 ≠ kindAt k → kFind (hdrC w ++ B) k = none := fun k h => by
    unfold kFind
    rw [hn]
    exact firstR_no fun i hi => by obtain rfl : i = 0 := by omega
                                   exact h
  have hfar : ¬ recV (hdrC w ++ B) 0 > ((hdrC w ++ B).length : Int) := by rw [hv]; omega
  cases w with
  | true =>
    have := ch_at ho (k := 0) (i := 0) (by decide) (fun j h => absurd h (Nat.not_lt_zero j)) (hfirst 0 (by rw [hk]; rfl)) hfar
    rw [this, hv, hd]
    rfl
  | false =>
    have := ch_at ho (k := 2) (i := 0) (by decide) (fun j h => by
      match j, h with
      | 0, _ => exact hnone 0 (by rw [hk]; decide)
      | 1, _ => exact hnone 1 (by rw [hk]; decide)) (hfirst 2 (by rw [hk]; rfl)) hfar
    rw [this, hv, hd]
    rfl
theorem built_factsC {r : List (Int × Int)} (hr : risesB r 65534 = true) (hp : PrOK r) (hl : r.length ≤ 7000) (w : Bool) :
    ∃ B G S D, hdrC w ++ bodyC r w = B ∧ buildC r w = B ∧ Byt B ∧ 12 ≤ B.length ∧ B.length ≤ 100000020 ∧ rightC B = true ∧ wideC B = w ∧ gC B = G ∧ sgC B = S ∧ dC B = D ∧ MapG G ∧ MapS S D ∧ ∀ c, lookC w G S D c = lkP r c := by
  have hr2 : risesB r 1114111 = true := pairs_rises (fun p hp => by have := (rises_pairs hr).1 p hp; omega) (rises_pairs hr).2
  cases w with
  | true =>
    obtain ⟨R, B, h1, h2, h3, h4, h5, h6, h7, h8, h9, h10⟩ := built_facts hr2 hp (by omega)
    have hb : bodyC r true = B := h2
    obtain ⟨c1, c2, c3, c4, c5, c6, c7⟩ := ch_wide (hdr_ch true B)
    have hne : B ≠ [] := fun e => by rw [e, List.length_nil] at h5; omega
    refine ⟨hdrC true ++ B, R, [], [], by rw [hb], by unfold buildC; rw [hb, if_neg hne], (hdr_byt true).append h4, by rw [List.length_append, hdr_len]; omega, by rw [List.length_append, hdr_len]; omega, by rw [c3, h6], c1, by rw [c5, h7], c6, c7, h8, mapS_nil, fun c => ?_⟩
    exact h10 c
  | false =>
    obtain ⟨M, B, h1, h2, h3, h4, h5, h6, h7, h8, h9, h10⟩ := built_factsS hr hp hl
    have hb : bodyC r false = B := h1
    have := runsQ_len r r.length
    obtain ⟨c1, c2, c3, c4, c5, c6, c7⟩ := ch_seg (hdr_ch false B)
    have hne : B ≠ [] := fun e => by rw [e, List.length_nil] at h5; omega
    refine ⟨hdrC false ++ B, [], M, B, by rw [hb], by unfold buildC; rw [hb, if_neg hne], (hdr_byt false).append h3, by rw [List.length_append, hdr_len]; omega, by rw [List.length_append, hdr_len]; omega, by rw [c3, h6], c1, c5, by rw [c6, h7], by rw [c7, h8], MapG.nil, h9, fun c => ?_⟩
    show lookS M B c = _
    rw [h10]
    by_cases hx : c < 0 ∨ 65535 < c
    · rw [if_pos hx, lk_out hr (by omega)]
    · rw [if_neg hx]
theorem built_factsW {r : List (Int × Int)} (hr2 : risesB r 1114111 = true) (hp : PrOK r) (hl : r.length ≤ 7000) :
    ∃ B G, buildC r true = B ∧ Byt B ∧ 12 ≤ B.length ∧ B.length ≤ 100000020 ∧ rightC B = true ∧ wideC B = true ∧ gC B = G ∧ sgC B = [] ∧ dC B = [] ∧ MapG G ∧ ∀ c, lookC true G [] [] c = lkP r c := by
  obtain ⟨R, B, h1, h2, h3, h4, h5, h6, h7, h8, h9, h10⟩ := built_facts hr2 hp (by omega)
  have hb : bodyC r true = B := h2
  obtain ⟨c1, c2, c3, c4, c5, c6, c7⟩ := ch_wide (hdr_ch true B)
  have hne : B ≠ [] := fun e => by rw [e, List.length_nil] at h5; omega
  exact ⟨hdrC true ++ B, R, by unfold buildC; rw [hb, if_neg hne], (hdr_byt true).append h4, by rw [List.length_append, hdr_len]; omega, by rw [List.length_append, hdr_len]; omega, by rw [c3, h6], c1, by rw [c5, h7], c6, c7, h8, fun c => h10 c⟩
/-- One code more, beyond them. -/
theorem far_ok {r : List (Int × Int)} (hr : risesB r 65534 = true) (hp : PrOK r) {x g : Int} (hx0 : 65536 ≤ x) (hx1 : x ≤ 1114111) (hg0 : 0 ≤ g) (hg1 : g ≤ 65535) :
    risesB (r ++ [(x, g)]) 1114111 = true ∧ PrOK (r ++ [(x, g)]) ∧ buildC (r ++ [(x, g)]) false = [] ∧ lkP (r ++ [(x, g)]) x = g ∧ ∀ i, i < r.length → lkP (r ++ [(x, g)]) (cd r i) = gl r i := by
  obtain ⟨h1, h2⟩ := rises_pairs hr
  have hr2 : risesB (r ++ [(x, g)]) 1114111 = true := by
    refine pairs_rises (fun p hp => ?_) ?_
    · rcases List.mem_append.1 hp with hp | hp
      · have := h1 p hp; omega
      · simp only [List.mem_singleton] at hp; subst hp; simp only; omega
    · rw [List.pairwise_append]
      refine ⟨h2, by simp, fun p hp q hq => ?_⟩
      simp only [List.mem_singleton] at hq
      subst hq
      have := h1 p hp
      simp only
      omega
  have hl : (r ++ [(x, g)]).length = r.length + 1 := by simp
  have e1 : cd (r ++ [(x, g)]) r.length = x ∧ gl (r ++ [(x, g)]) r.length = g := by
    unfold cd gl
    rw [List.getD_eq_getElem?_getD, List.getElem?_append_right (Nat.le_refl _), Nat.sub_self]
    exact ⟨rfl, rfl⟩
  have e2 : ∀ i, i < r.length → cd (r ++ [(x, g)]) i = cd r i ∧ gl (r ++ [(x, g)]) i = gl r i := fun i hi => by
    unfold cd gl
    rw [List.getD_eq_getElem?_getD, List.getElem?_append_left hi, ← List.getD_eq_getElem?_getD]
    exact ⟨rfl, rfl⟩
  refine ⟨hr2, mem_pr fun p hq => ?_, ?_, ?_, fun i hi => ?_⟩
  · rcases List.mem_append.1 hq with hq | hq
    · obtain ⟨k, hk, rfl⟩ := List.getElem_of_mem hq
      have := hp k
      rw [pair_at hk]
      exact this
    · simp only [List.mem_singleton] at hq; subst hq; simp only; omega
  · have hn : risesB (r ++ [(x, g)]) 65534 = false := by
      cases e : risesB (r ++ [(x, g)]) 65534 with
      | false => rfl
      | true =>
        have := rises_at e (i := r.length) (by omega)
        rw [e1.1] at this
        omega
    have e3 : bodyC (r ++ [(x, g)]) false = [] := by
      unfold bodyC buildS
      rw [hn]
      rfl
    unfold buildC
    rw [if_pos e3]
  · have := lk_at hr2 (i := r.length) (by omega)
    rwa [e1.1, e1.2] at this
  · have := lk_at hr2 (i := i) (by omega)
    rwa [(e2 i hi).1, (e2 i hi).2] at this
/-- What is read of any bytes is a right map, and tells what the document tells. -/
theorem read_map {l : List Int} (hb : Byt l) (hl : l.length ≤ 1000000000) : MapG (gC l) ∧ MapS (sgC l) (dC l) ∧ Byt (tC l) ∧ (nC l : Int) ≤ 10000000000 ∧ (wideC l = false → nC l ≤ 32767) ∧
    (rightC l = true → ∀ c, lookC (wideC l) (gC l) (sgC l) (dC l) c = refC (tC l) (wideC l) (nC l) c) := by
  cases e : chC l with
  | none =>
    obtain ⟨c1, c2, c3, c4, c5, c6, c7⟩ := ch_none e
    rw [c1, c2, c3, c4, c5, c6, c7]
    exact ⟨MapG.nil, mapS_nil, Byt.nil, by decide, (fun _ => by decide), (fun h => by cases h)⟩
  | some p =>
    obtain ⟨w, t⟩ := p
    have ht : ∃ k, t = l.drop k := by
      unfold chC at e
      split at e
      · split at e
        · split at e
          · cases e
          · simp only [Option.some.injEq, Prod.mk.injEq] at e
            exact ⟨_, e.2.symm⟩
        · cases e
      · cases e
    obtain ⟨k, rfl⟩ := ht
    have hbt : Byt (l.drop k) := hb.drop _
    have hlt : (l.drop k).length ≤ 1000000000000 := by rw [List.length_drop]; omega
    have hlt2 : (l.drop k).length ≤ 1000000000 := by rw [List.length_drop]; omega
    generalize l.drop k = t at e hbt hlt hlt2
    cases w with
    | true =>
      obtain ⟨c1, c2, c3, c4, c5, c6, c7⟩ := ch_wide e
      rw [c1, c2, c3, c4, c5, c6, c7]
      cases hR : rightG t with
      | false =>
        rw [show (if false = true then numG t else 0) = 0 from rfl]
        exact ⟨map_spsG hbt hlt, mapS_nil, hbt, by decide, (fun h => by cases h), (fun h => by cases h)⟩
      | true =>
        have hnum := hdG_num hbt (by unfold rightG at hR; rw [Bool.and_eq_true] at hR; exact hR.1)
        refine ⟨map_spsG hbt hlt, mapS_nil, hbt, by rw [if_pos rfl]; omega, (fun h => by cases h), fun _ c => ?_⟩
        show lookG (spsG t) c = lookR (spans t (if true = true then numG t else 0)) c
        rw [if_pos rfl]
        have hs : spsG t = spans t (numG t) := by unfold spsG; rw [hR]; rfl
        rw [hs]
        exact lookG_eq (right_map hbt hlt hR) c
    | false =>
      obtain ⟨c1, c2, c3, c4, c5, c6, c7⟩ := ch_seg e
      rw [c1, c2, c3, c4, c5, c6, c7]
      cases hR : rightS t with
      | false =>
        have hs : segP t = [] ∧ datP t = [] := by unfold segP datP; rw [hR]; exact ⟨rfl, rfl⟩
        rw [hs.1, hs.2, show (if false = true then nS t else 0) = 0 from rfl]
        exact ⟨MapG.nil, mapS_nil, hbt, by decide, (fun _ => by decide), (fun h => by cases h)⟩
      | true =>
        obtain ⟨h1, h2, h3⟩ := right_mapS hbt hR
        have hn : nS t ≤ 32767 := (hdS_num hbt (rightS_iff.1 hR).1).2.1
        refine ⟨MapG.nil, h1, hbt, by rw [if_pos rfl]; omega, fun _ => by rw [if_pos rfl]; exact hn, fun _ c => ?_⟩
        show lookS (segP t) (datP t) c = lookS (segsR t (if true = true then nS t else 0)) t c
        rw [if_pos rfl]
        exact h3 c
end Go.AM

namespace Go.AM
open Go Go.Proofs

theorem prs_consC {a b : Int} {l : List (Int × Int)} : Dat.agg [.v (.int .i32 a), .v (.int .u16 b)] :: prs l = prs ((a, b) :: l) := rfl


theorem s65 : Spec Try.prog 65 [] none ⟨True, .d true (.v (.bool true)), none⟩ := by
  have hf67 : F88 67 = e67 := rfl
  have hf68 : F88 68 = e68 := rfl
  have hf70 : F88 70 = e70 := rfl
  have hf71 : F88 71 = e71 := rfl
  have hG := (Gf_ok F88_ok)
  have hfs := And.intro @hf67 (And.intro @e67.eq_1 (And.intro @hf68 (And.intro @e68.eq_1 (And.intro @hf70 (And.intro @e70.eq_1 (And.intro @hf71 (And.intro @e71.eq_1 (And.intro @evP (And.intro @evS (And.intro @toPrs_prs (And.intro @toSps_sps (And.intro @toSgs_sgs @prs_consC))))))))))))
  have hxs := @Nat.add_zero
  refine spec_of_awp (Gf_ok F88_ok) Try.func65 rfl (Nat.le_of_ble_eq_true rfl) fun E hps hN _ => ?_
  simp only [begin, List.zipIdx_cons, List.zipIdx_nil, List.map_cons, List.map_nil, Option.toList, Nat.zero_add, Nat.reduceAdd]
  have hp3 : PrOK [(65, 3)] := mem_pr (by decide)
  obtain ⟨B, Gx, Sx, Dx, eB0, eB, hBb, hBl0, hBl, h3, h4, h5, h6, h7, hmg, hms, hlk⟩ := built_factsC (r := [(65, 3)]) rfl hp3 (by decide) false
  have hl65 : lookC false Gx Sx Dx 65 = 3 := by rw [hlk]; rfl
  have e3 : (if rightC B = true then (0 : Int) else 2) = 0 := by rw [h3]; rfl
  have hBl9 : B.length ≤ 1000000000 := by omega
  have ⟨m1, m2, m3⟩ := hms
  have ⟨g1, g2, g3, g4⟩ := hmg
  clear hlk
  repeat refine AWP.nest ?_
  first | refine rsa hG [] [] fun K hK => ?_ | refine rna hG [] [] fun K hK => ?_
  repeat first | ((with_reducible refine shN ?_); refine sL ?_) | ((with_reducible refine shG ?_); refine sG ?_)
  refine Eq.mpr evalL_nil (hK _ ?_)
  clear hK K
  simp only [evU, St.keep, List.map_cons, look, reduceIte, Nat.reduceEqDiff]
  try show AWP _ _ _ _ _
  repeat refine AWP.nest ?_
  have hxs := And.intro @eB (And.intro @h3 (And.intro @h4 (And.intro @h5 (And.intro @h6 (And.intro @h7 @e3)))))
  first | refine rsa hG [] [1, 2] fun K hK => ?_ | refine rna hG [] [1, 2] fun K hK => ?_
  repeat first | ((with_reducible refine shN ?_); refine sL ?_) | ((with_reducible refine shG ?_); refine sG ?_)
  refine Eq.mpr evalL_nil (hK _ ?_)
  clear hK K hxs
  simp only [evU, St.keep, List.map_cons, look, reduceIte, Nat.reduceEqDiff]
  try show AWP _ _ _ _ _
  repeat refine AWP.nest ?_
  have hxs := @hl65
  first | refine rsa hG [] [0] fun K hK => ?_ | refine rna hG [] [0] fun K hK => ?_
  repeat first | ((with_reducible refine shN ?_); refine sL ?_) | ((with_reducible refine shG ?_); refine sG ?_)
  refine Eq.mpr evalL_nil (hK _ ?_)
  clear hK K hxs
  simp only [evU, St.keep, List.map_cons, look, reduceIte, Nat.reduceEqDiff]
  try show AWP _ _ _ _ _
  refine AWP.ret ?_
  refine ⟨.inl rfl, ⟨⟨_, rfl, ?_⟩, fun ob hob => by cases hob⟩⟩
  simp only [look, reduceIte, Nat.reduceEqDiff]
  refine sub1_of ?_
  simp
def e65 : List AV → Option Ob → Option Res := fun args i => match args, i with
  | [], none => some ⟨True, .d true (.v (.bool true)), none⟩
  | _, _ => none
def F89 : FT := F88.upd 65 e65
theorem F89_ok : FOK Try.prog F89 := FOK.upd F88_ok Try.func65 (by kernel_rfl) rfl fun args i R h => by
  unfold e65 at h
  split at h
  · cases h; exact s65
  · cases h

/-! ### rising -/

theorem s66 (gs hs : List Int) (hg : W16 gs) (hh : W16 hs) : Spec Try.prog 66 [.d false (.sl 1 (ints .u16 gs)), .d false (.sl 1 (ints .u16 hs))] none
    ⟨True, .tup [.d true (.sl 2 (prs (rsg 2000 65534 30 (-1) gs hs))), .d true (.sl 2 (prs9 (rsg 2000 65534 30 (-1) gs hs)))], none⟩ := by
  have hG := (Gf_ok F89_ok)
  have hfs := And.intro @evP (And.intro @evS (And.intro @toPrs_prs (And.intro @toPrs_prs9 @toSgs_sgs)))
  have hxs := @Nat.add_zero
  refine spec_of_awp (Gf_ok F89_ok) Try.func66 rfl (Nat.le_of_ble_eq_true rfl) fun E hps hN _ => ?_
  simp only [begin, List.zipIdx_cons, List.zipIdx_nil, List.map_cons, List.map_nil, Option.toList, Nat.zero_add, Nat.reduceAdd]
  repeat refine AWP.nest ?_
  first | refine rsa hG [] [0, 1] fun K hK => ?_ | refine rna hG [] [0, 1] fun K hK => ?_
  repeat first | ((with_reducible refine shN ?_); refine sL ?_) | ((with_reducible refine shG ?_); refine sG ?_)
  refine Eq.mpr evalL_nil (hK _ ?_)
  clear hK K
  simp only [evU, St.keep, List.map_cons, look, reduceIte, Nat.reduceEqDiff]
  try show AWP _ _ _ _ _
  repeat refine AWP.nest ?_
  first | refine rsa hG [] [0, 1, 6] fun K hK => ?_ | refine rna hG [] [0, 1, 6] fun K hK => ?_
  repeat first | ((with_reducible refine shN ?_); refine sL ?_) | ((with_reducible refine shG ?_); refine sG ?_)
  refine Eq.mpr evalL_nil (hK _ ?_)
  clear hK K
  simp only [evU, St.keep, List.map_cons, look, reduceIte, Nat.reduceEqDiff]
  try show AWP _ _ _ _ _
  repeat refine AWP.nest ?_
  first | refine rsa hG [] [0, 1, 6, 7] fun K hK => ?_ | refine rna hG [] [0, 1, 6, 7] fun K hK => ?_
  repeat first | ((with_reducible refine shN ?_); refine sL ?_) | ((with_reducible refine shG ?_); refine sG ?_)
  refine Eq.mpr evalL_nil (hK _ ?_)
  clear hK K
  simp only [evU, St.keep, List.map_cons, look, reduceIte, Nat.reduceEqDiff]
  try show AWP _ _ _ _ _
  repeat refine AWP.nest ?_
  first | refine rsa hG [] [0, 1, 6, 7, 8] fun K hK => ?_ | refine rna hG [] [0, 1, 6, 7, 8] fun K hK => ?_
  repeat first | ((with_reducible refine shN ?_); refine sL ?_) | ((with_reducible refine shG ?_); refine sG ?_)
  refine Eq.mpr evalL_nil (hK _ ?_)
  clear hK K
  simp only [evU, St.keep, List.map_cons, look, reduceIte, Nat.reduceEqDiff]
  try show AWP _ _ _ _ _
  refine AWP.len 0 rfl fun hlen => ?_
  refine AWP.len 1 rfl fun hlen2 => ?_
  rw [ints_length] at hlen hlen2
  repeat refine AWP.nest ?_
  first | refine rsa hG [] [1, 6, 7, 8, 11, 12, 13] fun K hK => ?_ | refine rna hG [] [1, 6, 7, 8, 11, 12, 13] fun K hK => ?_
  repeat first | ((with_reducible refine shN ?_); refine sL ?_) | ((with_reducible refine shG ?_); refine sG ?_)
  refine Eq.mpr evalL_nil (hK _ ?_)
  clear hK K
  simp only [evU, St.keep, List.map_cons, look, reduceIte, Nat.reduceEqDiff]
  try show AWP _ _ _ _ _
  refine AWP.adopt 6 55 2 (by decide) rfl ?_
  refine AWP.adopt 7 96 2 (by decide) rfl ?_
  refine AWP.keep [1, 6, 7, 8, 11, 12, 13] ?_
  simp only [St.adopt, St.keep, List.map_cons, List.map_nil, look, reduceIte, Nat.reduceEqDiff, List.nil_append, List.length_nil, List.cons_append, List.length_cons, Nat.reduceAdd]
  repeat refine AWP.nest ?_
  first | refine AWP.seq (AWP.block ?_) | refine AWP.block ?_
  refine AWP.loop (fun k st => ∃ (i : Nat) (a : Int) (r : List (Int × Int)), i ≤ gs.length ∧ k = gs.length - i ∧ -1 ≤ a ∧ a ≤ 65534 ∧ r.length = i ∧ i ≤ 30 ∧ r ++ rsg 2000 65534 (30 - i) a (gs.drop i) (hs.drop i) = rsg 2000 65534 30 (-1) gs hs ∧ st = ⟨[(1, .d false (.sl 1 (ints .u16 hs))), (6, .own 0 i), (7, .own 1 i), (8, .d true (.v (.int .i64 a))), (11, .d false (.sl 1 (ints .u16 gs))), (12, .d true (.v (.int .i64 (gs.length : Int)))), (13, .d true (.v (.int .i64 (i : Int))))], [some (.row 55 2 i true (prs r)), some (.row 96 2 i true (prs9 r))]⟩) (gs.length) ?_ ?_
  · exact ⟨0, -1, [], Nat.zero_le _, rfl, by decide, by decide, rfl, by decide, rfl, rfl⟩
  rintro k st ⟨i, a, r, hi, hk, ha0, ha1, hrl, hi30, hr, rfl⟩
  repeat refine AWP.nest ?_
  first | refine rsa hG [] [1, 6, 7, 8, 11, 12, 13, 14] fun K hK => ?_ | refine rna hG [] [1, 6, 7, 8, 11, 12, 13, 14] fun K hK => ?_
  repeat first | ((with_reducible refine shN ?_); refine sL ?_) | ((with_reducible refine shG ?_); refine sG ?_)
  refine Eq.mpr evalL_nil (hK _ ?_)
  clear hK K
  simp only [evU, St.keep, List.map_cons, look, reduceIte, Nat.reduceEqDiff]
  try show AWP _ _ _ _ _
  first | refine AWP.seq (AWP.cond (b := _) rfl (fun hc => ?_) (fun hc => ?_)) | refine AWP.cond (b := _) rfl (fun hc => ?_) (fun hc => ?_)
  rotate_left
  · refine AWP.exit ?_
    show AWP _ _ _ _ _
    simp only [evC, Int.not_lt] at hc
    have e : rsg 2000 65534 (30 - i) a (gs.drop i) (hs.drop i) = [] := rsg_stop (.inr (.inl (List.drop_eq_nil_of_le (by omega))))
    rw [e, List.append_nil] at hr
    subst hr
    repeat refine AWP.nest ?_
    first | refine rsa hG [] [4, 5] fun K hK => ?_ | refine rna hG [] [4, 5] fun K hK => ?_
    repeat first | ((with_reducible refine shN ?_); refine sL ?_) | ((with_reducible refine shG ?_); refine sG ?_)
    refine Eq.mpr evalL_nil (hK _ ?_)
    clear hK K
    simp only [evU, St.keep, List.map_cons, look, reduceIte, Nat.reduceEqDiff]
    try show AWP _ _ _ _ _
    refine AWP.frz 0 (by rw [hps]; decide) rfl ?_
    simp only [St.frz, Ob.frz, AV.frz, AV.frz1, Option.map_none, mkAgg, datas, Dat.nagg, List.map_cons, List.map_nil, Option.map_some, and_self, true_and, and_true, reduceIte, Nat.reduceEqDiff, List.set_cons_zero, List.set_cons_succ, Bool.and_true, Bool.true_and]
    refine AWP.frz 1 (by rw [hps]; decide) rfl ?_
    simp only [St.frz, Ob.frz, AV.frz, AV.frz1, Option.map_none, mkAgg, datas, Dat.nagg, List.map_cons, List.map_nil, Option.map_some, and_self, true_and, and_true, reduceIte, Nat.reduceEqDiff, List.set_cons_zero, List.set_cons_succ, Bool.and_true, Bool.true_and]
    refine AWP.ret ?_
    refine ⟨.inl rfl, ⟨⟨_, rfl, ?_⟩, fun ob hob => by cases hob⟩⟩
    simp only [look, reduceIte, Nat.reduceEqDiff]
    refine ⟨_, rfl, (.cons ?_ (.cons ?_ .nil))⟩
    · exact sub1_of rfl
    · exact sub1_of rfl
  simp only [evC, Int.not_lt] at hc
  refine AWP.skip ?_
  show AWP _ _ _ _ _
  have hi' := hc
  clear hc
  repeat refine AWP.nest ?_
  first | refine AWP.seq (AWP.block ?_) | refine AWP.block ?_
  repeat refine AWP.nest ?_
  first | refine rsa hG [] [1, 6, 7, 8, 9, 10, 11, 12, 13] fun K hK => ?_ | refine rna hG [] [1, 6, 7, 8, 9, 10, 11, 12, 13] fun K hK => ?_
  repeat first | ((with_reducible refine shN ?_); refine sL ?_) | ((with_reducible refine shG ?_); refine sG ?_)
  refine Eq.mpr evalL_nil (hK _ ?_)
  clear hK K
  simp only [evU, St.keep, List.map_cons, look, reduceIte, Nat.reduceEqDiff]
  try show AWP _ _ _ _ _
  repeat refine AWP.nest ?_
  first | refine rsa hG [] [1, 6, 7, 8, 9, 10, 11, 12, 13, 25] fun K hK => ?_ | refine rna hG [] [1, 6, 7, 8, 9, 10, 11, 12, 13, 25] fun K hK => ?_
  repeat first | ((with_reducible refine shN ?_); refine sL ?_) | ((with_reducible refine shG ?_); refine sG ?_)
  refine Eq.mpr evalL_nil (hK _ ?_)
  clear hK K
  simp only [evU, St.keep, List.map_cons, look, reduceIte, Nat.reduceEqDiff]
  try show AWP _ _ _ _ _
  repeat refine AWP.nest ?_
  first | refine AWP.seq (AWP.cond (b := _) rfl (fun hc => ?_) (fun hc => ?_)) | refine AWP.cond (b := _) rfl (fun hc => ?_) (fun hc => ?_)
  all_goals try simp only [evC] at hc
  · have e : rsg 2000 65534 (30 - i) a (gs.drop i) (hs.drop i) = [] := by
      rcases hc with h | h
      · exact rsg_stop (.inl (by omega))
      · exact rsg_stop (.inr (.inr (List.drop_eq_nil_of_le (by omega))))
    rw [e, List.append_nil] at hr
    subst hr
    refine AWP.exit ?_
    show AWP _ _ _ _ _
    repeat refine AWP.nest ?_
    first | refine rsa hG [] [4, 5] fun K hK => ?_ | refine rna hG [] [4, 5] fun K hK => ?_
    repeat first | ((with_reducible refine shN ?_); refine sL ?_) | ((with_reducible refine shG ?_); refine sG ?_)
    refine Eq.mpr evalL_nil (hK _ ?_)
    clear hK K
    simp only [evU, St.keep, List.map_cons, look, reduceIte, Nat.reduceEqDiff]
    try show AWP _ _ _ _ _
    refine AWP.frz 0 (by rw [hps]; decide) rfl ?_
    simp only [St.frz, Ob.frz, AV.frz, AV.frz1, Option.map_none, mkAgg, datas, Dat.nagg, List.map_cons, List.map_nil, Option.map_some, and_self, true_and, and_true, reduceIte, Nat.reduceEqDiff, List.set_cons_zero, List.set_cons_succ, Bool.and_true, Bool.true_and]
    refine AWP.frz 1 (by rw [hps]; decide) rfl ?_
    simp only [St.frz, Ob.frz, AV.frz, AV.frz1, Option.map_none, mkAgg, datas, Dat.nagg, List.map_cons, List.map_nil, Option.map_some, and_self, true_and, and_true, reduceIte, Nat.reduceEqDiff, List.set_cons_zero, List.set_cons_succ, Bool.and_true, Bool.true_and]
    refine AWP.ret ?_
    refine ⟨.inl rfl, ⟨⟨_, rfl, ?_⟩, fun ob hob => by cases hob⟩⟩
    simp only [look, reduceIte, Nat.reduceEqDiff]
    refine ⟨_, rfl, (.cons ?_ (.cons ?_ .nil))⟩
    · exact sub1_of rfl
    · exact sub1_of rfl
  refine AWP.skip ?_
  show AWP _ _ _ _ _
  have hst := rsg_step (md := 2000) (lim := 65534) (n := 30) (a := a) (gs := gs) (hs := hs) (i := i) (by omega) hi' (by omega)
  have g1 := hg.getD i
  have g2 := hh.getD i
  repeat refine AWP.nest ?_
  first | refine rsa hG [] [1, 6, 7, 8, 9, 11, 12, 13] fun K hK => ?_ | refine rna hG [] [1, 6, 7, 8, 9, 11, 12, 13] fun K hK => ?_
  repeat first | ((with_reducible refine shN ?_); refine sL ?_) | ((with_reducible refine shG ?_); refine sG ?_)
  refine Eq.mpr evalL_nil (hK _ ?_)
  clear hK K
  simp only [evU, St.keep, List.map_cons, look, reduceIte, Nat.reduceEqDiff]
  try show AWP _ _ _ _ _
  repeat refine AWP.nest ?_
  first | refine rsa hG [] [1, 6, 7, 8, 9, 11, 12, 13, 33] fun K hK => ?_ | refine rna hG [] [1, 6, 7, 8, 9, 11, 12, 13, 33] fun K hK => ?_
  repeat first | ((with_reducible refine shN ?_); refine sL ?_) | ((with_reducible refine shG ?_); refine sG ?_)
  refine Eq.mpr evalL_nil (hK _ ?_)
  clear hK K
  simp only [evU, St.keep, List.map_cons, look, reduceIte, Nat.reduceEqDiff]
  try show AWP _ _ _ _ _
  repeat refine AWP.nest ?_
  first | refine AWP.seq (AWP.cond (b := _) rfl (fun hc => ?_) (fun hc => ?_)) | refine AWP.cond (b := _) rfl (fun hc => ?_) (fun hc => ?_)
  all_goals try simp only [evC] at hc
  · rw [hst, if_pos hc, List.append_nil] at hr
    subst hr
    refine AWP.exit ?_
    show AWP _ _ _ _ _
    repeat refine AWP.nest ?_
    first | refine rsa hG [] [4, 5] fun K hK => ?_ | refine rna hG [] [4, 5] fun K hK => ?_
    repeat first | ((with_reducible refine shN ?_); refine sL ?_) | ((with_reducible refine shG ?_); refine sG ?_)
    refine Eq.mpr evalL_nil (hK _ ?_)
    clear hK K
    simp only [evU, St.keep, List.map_cons, look, reduceIte, Nat.reduceEqDiff]
    try show AWP _ _ _ _ _
    refine AWP.frz 0 (by rw [hps]; decide) rfl ?_
    simp only [St.frz, Ob.frz, AV.frz, AV.frz1, Option.map_none, mkAgg, datas, Dat.nagg, List.map_cons, List.map_nil, Option.map_some, and_self, true_and, and_true, reduceIte, Nat.reduceEqDiff, List.set_cons_zero, List.set_cons_succ, Bool.and_true, Bool.true_and]
    refine AWP.frz 1 (by rw [hps]; decide) rfl ?_
    simp only [St.frz, Ob.frz, AV.frz, AV.frz1, Option.map_none, mkAgg, datas, Dat.nagg, List.map_cons, List.map_nil, Option.map_some, and_self, true_and, and_true, reduceIte, Nat.reduceEqDiff, List.set_cons_zero, List.set_cons_succ, Bool.and_true, Bool.true_and]
    refine AWP.ret ?_
    refine ⟨.inl rfl, ⟨⟨_, rfl, ?_⟩, fun ob hob => by cases hob⟩⟩
    simp only [look, reduceIte, Nat.reduceEqDiff]
    refine ⟨_, rfl, (.cons ?_ (.cons ?_ .nil))⟩
    · exact sub1_of rfl
    · exact sub1_of rfl
  · rw [hst, if_neg hc] at hr
    refine AWP.skip ?_
    show AWP _ _ _ _ _
    repeat refine AWP.nest ?_
    first | refine rda hG [] [1, 6, 7, 8, 11, 12, 13] Try.mixed fun K hK => ?_ | refine dna hG [] [1, 6, 7, 8, 11, 12, 13] Try.mixed fun K hK => ?_
    repeat first | ((with_reducible refine shD ?_); refine sD ?_) | ((with_reducible refine shDG ?_); refine sDG ?_)
    refine evalD_done (by kernel_rfl) (hK _ ?_)
    clear hK K
    simp only [evU, St.keep, List.map_cons, look, reduceIte, Nat.reduceEqDiff]
    try show AWP _ _ _ _ _
    repeat refine AWP.nest ?_
    first | refine rsa hG [] [1, 6, 7, 8, 11, 12, 13] fun K hK => ?_ | refine rna hG [] [1, 6, 7, 8, 11, 12, 13] fun K hK => ?_
    repeat first | ((with_reducible refine shN ?_); refine sL ?_) | ((with_reducible refine shG ?_); refine sG ?_)
    refine Eq.mpr evalL_nil (hK _ ?_)
    clear hK K
    simp only [evU, St.keep, List.map_cons, look, reduceIte, Nat.reduceEqDiff]
    try show AWP _ _ _ _ _
    refine ⟨gs.length - (i + 1), by omega, i + 1, a + (1 + gs.getD i 0 % 2000), r ++ [(a + (1 + gs.getD i 0 % 2000), hs.getD i 0)], by omega, rfl, by omega, by omega, by simp [hrl], by omega, by rw [List.append_assoc]; exact hr, rfl⟩
def e66 : List AV → Option Ob → Option Res := fun args i => match args, i with
  | [.d false (.sl 1 xs), .d false (.sl 1 ys)], none => some ⟨xs = ints .u16 (toInts xs) ∧ W16 (toInts xs) ∧ ys = ints .u16 (toInts ys) ∧ W16 (toInts ys), .tup [.d true (.sl 2 (prs (rsg 2000 65534 30 (-1) (toInts xs) (toInts ys)))), .d true (.sl 2 (prs9 (rsg 2000 65534 30 (-1) (toInts xs) (toInts ys))))], none⟩
  | _, _ => none
def F90 : FT := F89.upd 66 e66
theorem F90_ok : FOK Try.prog F90 := FOK.upd F89_ok Try.func66 (by kernel_rfl) rfl fun args i R h => by
  unfold e66 at h
  split at h
  · rename_i xs ys
    cases h
    refine Spec.pre fun h => ?_
    have := s66 (toInts xs) (toInts ys) h.2.1 h.2.2.2
    rw [← h.1, ← h.2.2.1] at this
    exact this
  · cases h
end Go.AM

