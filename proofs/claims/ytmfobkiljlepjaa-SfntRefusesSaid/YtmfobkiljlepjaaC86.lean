/- AM: sfnt.begins. -/
import Derived.Test.YtmfobkiljlepjaaC85
import Derived.Test.YtmfobkiljlepjaaK6
set_option maxRecDepth 100000
set_option maxHeartbeats 8000000
set_option linter.unusedSimpArgs false
set_option linter.unusedVariables false
namespace Go.AM
open Go Go.Proofs



/-- The reader as an object. -/
def rdO (l : List Int) (p : Int) (q : Bool) : Ob := .cells 174 [.d false (.sl 1 (ints .u8 l)), .d true (.v (.int .i64 p)), .d true (.v (.bool q))]
theorem q5_of {l : List Int} : q5 l = !decide (12 ≤ l.length) := by
  rcases q_ok (l := l) with ⟨h, h1, h2⟩ | ⟨h, h2⟩ <;> simp [*]
theorem begT_of {l : List Int} : begT l = (decide (rv l 0 false 4 = 65536) && decide (0 < tA (nB l)) && decide (rv l (p2 l) (q2 l) 2 = tA (nB l)) && decide (rv l (p3 l) (q3 l) 2 = tB (nB l)) && decide (rv l (p4 l) (q4 l) 2 = tD (nB l)) && !q5 l) := by
  by_cases h : 12 ≤ l.length
  · obtain ⟨e1, e2, e3, e4, e5⟩ := beg_vals h
    rw [e1, e2, e3, e4, e5, q5_of, decide_eq_true h]
    unfold begT
    have ep : decide (0 < tA (n2V l 4)) = decide (1 ≤ n2V l 4 ∧ n2V l 4 ≤ 64) := decide_eq_decide.2 tA_pos
    rw [decide_eq_true h, ep]
    simp
  · rw [q5_of, decide_eq_false h]
    unfold begT
    rw [decide_eq_false h]
    simp
theorem s120 (l : List Int) (hb : Byt l) (hl : l.length ≤ 1000000000000) : Spec Try.prog 120 [.ptr 0 0] (some (.cells 174 [.d false (.sl 1 (ints .u8 l)), .d true (.v (.int .i64 0)), .d true (.v (.bool false))]))
    ⟨True, .tup [.d true (.v (.int .i64 (nB l))), .d true (.v (.bool (begT l)))], some (.cells 174 [.d false (.sl 1 (ints .u8 l)), .d true (.v (.int .i64 (p5 l))), .d true (.v (.bool (q5 l)))])⟩ := by
  have hf63 : F118 63 = e63 := rfl
  have hf88 : F118 88 = e88' := rfl
  have hf92 : F118 92 = e92' := rfl
  have hf93 : F118 93 = e93 := rfl
  have hG := (Gf_ok F118_ok)
  have hfs := And.intro @hf63 (And.intro @e63.eq_1 (And.intro @hf88 (And.intro @e88'.eq_1 (And.intro @hf92 (And.intro @e92'.eq_1 (And.intro @hf93 (And.intro @e93.eq_1 (And.intro @evP @evTb))))))))
  have hxs := @Nat.add_zero
  refine spec_of_awp (Gf_ok F118_ok) Try.func120 rfl (Nat.le_of_ble_eq_true rfl) fun E hps hN _ => ?_
  simp only [begin, List.zipIdx_cons, List.zipIdx_nil, List.map_cons, List.map_nil, Option.toList, Nat.zero_add, Nat.reduceAdd]
  have r1 : RdOK l.length 4 (p1 l) (q1 l) := RdOK.s4 (.inl ⟨Nat.zero_le _, rfl, rfl⟩)
  have r2 : RdOK l.length 6 (p2 l) (q2 l) := r1.s2
  have r3 : RdOK l.length 8 (p3 l) (q3 l) := r2.s2
  have r4 : RdOK l.length 10 (p4 l) (q4 l) := r3.s2
  have b1 := r1.bnd
  have b2 := r2.bnd
  have b3 := r3.bnd
  have b4 := r4.bnd
  have v2 : 0 ≤ nB l ∧ nB l < 65536 := rv_bound hb (p1 l) (q1 l) 2
  have n1 : rp l.length 0 false 4 = p1 l := rfl
  have m1 : rb l.length 0 false 4 = q1 l := rfl
  have n2 : rp l.length (p1 l) (q1 l) 2 = p2 l := rfl
  have m2 : rb l.length (p1 l) (q1 l) 2 = q2 l := rfl
  have n3 : rp l.length (p2 l) (q2 l) 2 = p3 l := rfl
  have m3 : rb l.length (p2 l) (q2 l) 2 = q3 l := rfl
  have n4 : rp l.length (p3 l) (q3 l) 2 = p4 l := rfl
  have m4 : rb l.length (p3 l) (q3 l) 2 = q4 l := rfl
  have n5 : rp l.length (p4 l) (q4 l) 2 = p5 l := rfl
  have m5 : rb l.length (p4 l) (q4 l) 2 = q5 l := rfl
  have nb : rv l (p1 l) (q1 l) 2 = nB l := rfl
  have ew : IntKind.i64.wrap (nB l) = nB l := w_i64 (by omega) (by omega)
  repeat refine AWP.nest ?_
  first | refine rsa hG [] [0] fun K hK => ?_ | refine rna hG [] [0] fun K hK => ?_
  repeat first | ((with_reducible refine shN ?_); refine sL ?_) | ((with_reducible refine shG ?_); refine sG ?_)
  refine Eq.mpr evalL_nil (hK _ ?_)
  clear hK K
  simp only [evU, St.keep, List.map_cons, look, reduceIte, Nat.reduceEqDiff]
  try show AWP _ _ _ _ _
  repeat refine AWP.nest ?_
  have hxs := And.intro @n1 (And.intro @m1 (And.intro @n2 (And.intro @m2 (And.intro @nb @ew))))
  first | refine rsa hG [] [0, 4, 5] fun K hK => ?_ | refine rna hG [] [0, 4, 5] fun K hK => ?_
  repeat first | ((with_reducible refine shN ?_); refine sL ?_) | ((with_reducible refine shG ?_); refine sG ?_)
  refine Eq.mpr evalL_nil (hK _ ?_)
  clear hK K hxs
  simp only [evU, St.keep, List.map_cons, look, reduceIte, Nat.reduceEqDiff]
  try show AWP _ _ _ _ _
  repeat refine AWP.nest ?_
  have hxs := And.intro @n3 (And.intro @m3 (And.intro @n4 (And.intro @m4 (And.intro @n5 @m5))))
  first | refine rsa hG [] [0, 4, 5, 6, 7, 8] fun K hK => ?_ | refine rna hG [] [0, 4, 5, 6, 7, 8] fun K hK => ?_
  repeat first | ((with_reducible refine shN ?_); refine sL ?_) | ((with_reducible refine shG ?_); refine sG ?_)
  refine Eq.mpr evalL_nil (hK _ ?_)
  clear hK K hxs
  simp only [evU, St.keep, List.map_cons, look, reduceIte, Nat.reduceEqDiff]
  try show AWP _ _ _ _ _
  repeat refine AWP.nest ?_
  first | refine rsa hG [] [0, 4, 5, 6, 7, 8, 9, 10, 11] fun K hK => ?_ | refine rna hG [] [0, 4, 5, 6, 7, 8, 9, 10, 11] fun K hK => ?_
  repeat first | ((with_reducible refine shN ?_); refine sL ?_) | ((with_reducible refine shG ?_); refine sG ?_)
  refine Eq.mpr evalL_nil (hK _ ?_)
  clear hK K
  simp only [evU, St.keep, List.map_cons, look, reduceIte, Nat.reduceEqDiff]
  try show AWP _ _ _ _ _
  rw [begT_of]
  by_cases c1 : rv l 0 false 4 = 65536
  rotate_left
  · have d1 : (rv l 0 false 4 == 65536) = false := by simpa using c1
    repeat refine AWP.nest ?_
    have hxs := @d1
    first | refine rsm hG [] [2, 3] fun K hK => ?_ | refine rnm hG [] [2, 3] fun K hK => ?_
    repeat first | ((with_reducible refine mhN ?_); refine mN ?_) | ((with_reducible refine mhG ?_); refine mT ?_) | ((with_reducible refine mhG ?_); refine mF ?_)
    refine Eq.mpr evalM_nil (hK _ ?_)
    clear hK K hxs
    simp only [evU, St.keep, List.map_cons, look, reduceIte, Nat.reduceEqDiff]
    try show AWP _ _ _ _ _
    refine AWP.ret ?_
    refine ⟨.inl rfl, ⟨⟨_, rfl, ?_⟩, fun ob hob => ?_⟩⟩
    rotate_left
    cases hob
    rotate_left
    simp only [look, reduceIte, Nat.reduceEqDiff]
    refine ⟨_, rfl, (.cons ?_ (.cons ?_ .nil))⟩
    · exact sub1_of rfl
    · exact sub1_of (by simp [c1])
    · rfl
  by_cases c2 : 0 < tA (nB l)
  rotate_left
  · repeat refine AWP.nest ?_
    have hxs := And.intro @c1 @c2
    first | refine rsm hG [] [2, 3] fun K hK => ?_ | refine rnm hG [] [2, 3] fun K hK => ?_
    repeat first | ((with_reducible refine mhN ?_); refine mN ?_) | ((with_reducible refine mhG ?_); refine mT ?_) | ((with_reducible refine mhG ?_); refine mF ?_)
    refine Eq.mpr evalM_nil (hK _ ?_)
    clear hK K hxs
    simp only [evU, St.keep, List.map_cons, look, reduceIte, Nat.reduceEqDiff]
    try show AWP _ _ _ _ _
    refine AWP.ret ?_
    refine ⟨.inl rfl, ⟨⟨_, rfl, ?_⟩, fun ob hob => ?_⟩⟩
    rotate_left
    cases hob
    rotate_left
    simp only [look, reduceIte, Nat.reduceEqDiff]
    refine ⟨_, rfl, (.cons ?_ (.cons ?_ .nil))⟩
    · exact sub1_of rfl
    · exact sub1_of (by simp [c1, c2])
    · rfl
  by_cases c3 : rv l (p2 l) (q2 l) 2 = tA (nB l)
  rotate_left
  · have d3 : (rv l (p2 l) (q2 l) 2 == tA (nB l)) = false := by simpa using c3
    repeat refine AWP.nest ?_
    have hxs := And.intro @c1 (And.intro @c2 @d3)
    first | refine rsm hG [] [2, 3] fun K hK => ?_ | refine rnm hG [] [2, 3] fun K hK => ?_
    repeat first | ((with_reducible refine mhN ?_); refine mN ?_) | ((with_reducible refine mhG ?_); refine mT ?_) | ((with_reducible refine mhG ?_); refine mF ?_)
    refine Eq.mpr evalM_nil (hK _ ?_)
    clear hK K hxs
    simp only [evU, St.keep, List.map_cons, look, reduceIte, Nat.reduceEqDiff]
    try show AWP _ _ _ _ _
    refine AWP.ret ?_
    refine ⟨.inl rfl, ⟨⟨_, rfl, ?_⟩, fun ob hob => ?_⟩⟩
    rotate_left
    cases hob
    rotate_left
    simp only [look, reduceIte, Nat.reduceEqDiff]
    refine ⟨_, rfl, (.cons ?_ (.cons ?_ .nil))⟩
    · exact sub1_of rfl
    · exact sub1_of (by simp [c1, c2, c3])
    · rfl
  by_cases c4 : rv l (p3 l) (q3 l) 2 = tB (nB l)
  rotate_left
  · have d4 : (rv l (p3 l) (q3 l) 2 == tB (nB l)) = false := by simpa using c4
    repeat refine AWP.nest ?_
    have hxs := And.intro @c1 (And.intro @c2 (And.intro @c3 @d4))
    first | refine rsm hG [] [2, 3] fun K hK => ?_ | refine rnm hG [] [2, 3] fun K hK => ?_
    repeat first | ((with_reducible refine mhN ?_); refine mN ?_) | ((with_reducible refine mhG ?_); refine mT ?_) | ((with_reducible refine mhG ?_); refine mF ?_)
    refine Eq.mpr evalM_nil (hK _ ?_)
    clear hK K hxs
    simp only [evU, St.keep, List.map_cons, look, reduceIte, Nat.reduceEqDiff]
    try show AWP _ _ _ _ _
    refine AWP.ret ?_
    refine ⟨.inl rfl, ⟨⟨_, rfl, ?_⟩, fun ob hob => ?_⟩⟩
    rotate_left
    cases hob
    rotate_left
    simp only [look, reduceIte, Nat.reduceEqDiff]
    refine ⟨_, rfl, (.cons ?_ (.cons ?_ .nil))⟩
    · exact sub1_of rfl
    · exact sub1_of (by simp [c1, c2, c3, c4])
    · rfl
  by_cases c5 : rv l (p4 l) (q4 l) 2 = tD (nB l)
  rotate_left
  · have d5 : (rv l (p4 l) (q4 l) 2 == tD (nB l)) = false := by simpa using c5
    repeat refine AWP.nest ?_
    have hxs := And.intro @c1 (And.intro @c2 (And.intro @c3 (And.intro @c4 @d5)))
    first | refine rsm hG [] [2, 3] fun K hK => ?_ | refine rnm hG [] [2, 3] fun K hK => ?_
    repeat first | ((with_reducible refine mhN ?_); refine mN ?_) | ((with_reducible refine mhG ?_); refine mT ?_) | ((with_reducible refine mhG ?_); refine mF ?_)
    refine Eq.mpr evalM_nil (hK _ ?_)
    clear hK K hxs
    simp only [evU, St.keep, List.map_cons, look, reduceIte, Nat.reduceEqDiff]
    try show AWP _ _ _ _ _
    refine AWP.ret ?_
    refine ⟨.inl rfl, ⟨⟨_, rfl, ?_⟩, fun ob hob => ?_⟩⟩
    rotate_left
    cases hob
    rotate_left
    simp only [look, reduceIte, Nat.reduceEqDiff]
    refine ⟨_, rfl, (.cons ?_ (.cons ?_ .nil))⟩
    · exact sub1_of rfl
    · exact sub1_of (by simp [c1, c2, c3, c4, c5])
    · rfl
  repeat refine AWP.nest ?_
  have hxs := And.intro @c1 (And.intro @c2 (And.intro @c3 (And.intro @c4 @c5)))
  first | refine rsm hG [] [2, 3] fun K hK => ?_ | refine rnm hG [] [2, 3] fun K hK => ?_
  repeat first | ((with_reducible refine mhN ?_); refine mN ?_) | ((with_reducible refine mhG ?_); refine mT ?_) | ((with_reducible refine mhG ?_); refine mF ?_)
  refine Eq.mpr evalM_nil (hK _ ?_)
  clear hK K hxs
  simp only [evU, St.keep, List.map_cons, look, reduceIte, Nat.reduceEqDiff]
  try show AWP _ _ _ _ _
  refine AWP.ret ?_
  refine ⟨.inl rfl, ⟨⟨_, rfl, ?_⟩, fun ob hob => ?_⟩⟩
  rotate_left
  cases hob
  rotate_left
  simp only [look, reduceIte, Nat.reduceEqDiff]
  refine ⟨_, rfl, (.cons ?_ (.cons ?_ .nil))⟩
  · exact sub1_of rfl
  · exact sub1_of (by simp [c1, c2, c3, c4, c5])
  · rfl
def e120 : List AV → Option Ob → Option Res := fun args i => match args, i with
  | [.ptr 0 0], some (.cells 174 [.d false (.sl 1 xs), .d true (.v (.int .i64 0)), .d true (.v (.bool false))]) =>
    some ⟨IsB xs ∧ (toInts xs).length ≤ 1000000000000, .tup [.d true (.v (.int .i64 (nB (toInts xs)))), .d true (.v (.bool (begT (toInts xs))))],
        some (.cells 174 [.d false (.sl 1 (ints .u8 (toInts xs))), .d true (.v (.int .i64 (p5 (toInts xs)))), .d true (.v (.bool (q5 (toInts xs))))])⟩
  | _, _ => none
def F119 : FT := F118.upd 120 e120
theorem F119_ok : FOK Try.prog F119 := FOK.upd F118_ok Try.func120 (by kernel_rfl) rfl fun args i R h => by
  unfold e120 at h
  split at h
  · rename_i xs
    cases h
    refine Spec.pre fun h => ?_
    obtain ⟨l, rfl, hb⟩ := h.1.elim
    rw [toInts_ints] at h ⊢
    exact s120 l hb h.2
  · cases h
end Go.AM

