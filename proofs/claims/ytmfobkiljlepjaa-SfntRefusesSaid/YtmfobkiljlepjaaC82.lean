/- AM: the sort of one table; slices.Clone of tables; sfnt.right. -/
import Derived.Test.YtmfobkiljlepjaaC81
set_option maxRecDepth 100000
set_option maxHeartbeats 8000000
set_option linter.unusedSimpArgs false
set_option linter.unusedVariables false
namespace Go.AM
open Go Go.Proofs



theorem s130a (S : List Tb) (hS : S.length ≤ 1) : Spec Try.prog 130 [.own 0 0, .d true (.v (.int .i64 0)), .d true (.v (.int .i64 (S.length : Int))), .fn 112 []] (some (.row 106 2 0 false (tbs S))) ⟨True, .tup [], some (.row 106 2 0 false (tbs S))⟩ := by
  have hG := (Gf_ok F108_ok)
  have hfs := And.intro @evP @evTb
  have hxs := @Nat.add_zero
  refine spec_of_awp (Gf_ok F108_ok) Try.func130 rfl (Nat.le_of_ble_eq_true rfl) fun E hps hN _ => ?_
  simp only [begin, List.zipIdx_cons, List.zipIdx_nil, List.map_cons, List.map_nil, Option.toList, Nat.zero_add, Nat.reduceAdd]
  repeat refine AWP.nest ?_
  first | refine rsa hG [] [0, 1, 2, 3, 8] fun K hK => ?_ | refine rna hG [] [0, 1, 2, 3, 8] fun K hK => ?_
  repeat first | ((with_reducible refine shN ?_); refine sL ?_) | ((with_reducible refine shG ?_); refine sG ?_)
  refine Eq.mpr evalL_nil (hK _ ?_)
  clear hK K
  simp only [evU, St.keep, List.map_cons, look, reduceIte, Nat.reduceEqDiff]
  try show AWP _ _ _ _ _
  repeat refine AWP.nest ?_
  first | refine AWP.seq (AWP.block ?_) | refine AWP.block ?_
  refine AWP.loop (fun k st => k = 0 ∧ st = ⟨[(0, .own 0 0), (1, .d true (.v (.int .i64 0))), (2, .d true (.v (.int .i64 (S.length : Int)))), (3, .fn 112 []), (8, .d true (.v (.int .i64 1)))], [some (.row 106 2 0 false (tbs S))]⟩) (0) ?_ ?_
  · exact ⟨rfl, rfl⟩
  rintro k st ⟨_, rfl⟩
  repeat refine AWP.nest ?_
  first | refine rsa hG [] [0, 1, 2, 3, 8, 14] fun K hK => ?_ | refine rna hG [] [0, 1, 2, 3, 8, 14] fun K hK => ?_
  repeat first | ((with_reducible refine shN ?_); refine sL ?_) | ((with_reducible refine shG ?_); refine sG ?_)
  refine Eq.mpr evalL_nil (hK _ ?_)
  clear hK K
  simp only [evU, St.keep, List.map_cons, look, reduceIte, Nat.reduceEqDiff]
  try show AWP _ _ _ _ _
  first | refine AWP.seq (AWP.cond (b := _) rfl (fun hc => ?_) (fun hc => ?_)) | refine AWP.cond (b := _) rfl (fun hc => ?_) (fun hc => ?_)
  · exfalso
    simp only [evC] at hc
    omega
  refine AWP.exit ?_
  refine ⟨.inr rfl, ⟨⟨_, rfl, _, rfl, .nil⟩, fun ob hob => ?_⟩⟩
  cases hob
  rfl
def e130a : List AV → Option Ob → Option Res := fun args i => match args, i with
  | [.own 0 0, .d true (.v (.int .i64 a)), .d true (.v (.int .i64 n)), .fn 112 []], some (.row 106 2 0 false xs) => some ⟨a = 0 ∧ xs = tbs (toTbs xs) ∧ n = (toTbs xs).length ∧ (toTbs xs).length ≤ 1, .tup [], some (.row 106 2 0 false (tbs (toTbs xs)))⟩
  | _, _ => none
def F109 : FT := F108.upd 130 e130a
theorem F109_ok : FOK Try.prog F109 := FOK.upd F108_ok Try.func130 (by kernel_rfl) rfl fun args i R h => by
  unfold e130a at h
  split at h
  · rename_i a n xs
    cases h
    refine Spec.pre fun h => ?_
    obtain ⟨rfl, h1, rfl, h2⟩ := h
    have := s130a (toTbs xs) h2
    rw [← h1] at this ⊢
    exact this
  · cases h

theorem s128a (S : List Tb) (hS : S.length ≤ 1) : Spec Try.prog 128 [.own 0 0, .d true (.v (.int .i64 (S.length : Int))), .fn 112 []] (some (.row 106 2 0 false (tbs S))) ⟨True, .tup [], some (.row 106 2 0 false (tbs S))⟩ := by
  have hf130 : F109 130 = e130a := rfl
  have hG := (Gf_ok F109_ok)
  have hfs := And.intro @hf130 (And.intro @e130a.eq_1 (And.intro @evP @evTb))
  have hxs := @Nat.add_zero
  refine spec_of_awp (Gf_ok F109_ok) Try.func128 rfl (Nat.le_of_ble_eq_true rfl) fun E hps hN _ => ?_
  simp only [begin, List.zipIdx_cons, List.zipIdx_nil, List.map_cons, List.map_nil, Option.toList, Nat.zero_add, Nat.reduceAdd]
  repeat refine AWP.nest ?_
  first | refine rsa hG [] [0, 1, 2, 6] fun K hK => ?_ | refine rna hG [] [0, 1, 2, 6] fun K hK => ?_
  repeat first | ((with_reducible refine shN ?_); refine sL ?_) | ((with_reducible refine shG ?_); refine sG ?_)
  refine Eq.mpr evalL_nil (hK _ ?_)
  clear hK K
  simp only [evU, St.keep, List.map_cons, look, reduceIte, Nat.reduceEqDiff]
  try show AWP _ _ _ _ _
  repeat refine AWP.nest ?_
  first | refine rsa hG [] [0, 1, 2, 6, 7, 8] fun K hK => ?_ | refine rna hG [] [0, 1, 2, 6, 7, 8] fun K hK => ?_
  repeat first | ((with_reducible refine shN ?_); refine sL ?_) | ((with_reducible refine shG ?_); refine sG ?_)
  refine Eq.mpr evalL_nil (hK _ ?_)
  clear hK K
  simp only [evU, St.keep, List.map_cons, look, reduceIte, Nat.reduceEqDiff]
  try show AWP _ _ _ _ _
  repeat refine AWP.nest ?_
  first | refine AWP.seq (AWP.block ?_) | refine AWP.block ?_
  refine AWP.loop (fun k st => k = 0 ∧ st = ⟨[(0, .own 0 0), (1, .d true (.v (.int .i64 (S.length : Int)))), (2, .fn 112 []), (6, .d true (.v (.int .i64 20))), (7, .d true (.v (.int .i64 0))), (8, .d true (.v (.int .i64 20)))], [some (.row 106 2 0 false (tbs S))]⟩) (0) ?_ ?_
  · exact ⟨rfl, rfl⟩
  rintro k st ⟨_, rfl⟩
  repeat refine AWP.nest ?_
  first | refine rsa hG [] [0, 1, 2, 6, 7, 8, 13] fun K hK => ?_ | refine rna hG [] [0, 1, 2, 6, 7, 8, 13] fun K hK => ?_
  repeat first | ((with_reducible refine shN ?_); refine sL ?_) | ((with_reducible refine shG ?_); refine sG ?_)
  refine Eq.mpr evalL_nil (hK _ ?_)
  clear hK K
  simp only [evU, St.keep, List.map_cons, look, reduceIte, Nat.reduceEqDiff]
  try show AWP _ _ _ _ _
  first | refine AWP.seq (AWP.cond (b := _) rfl (fun hc => ?_) (fun hc => ?_)) | refine AWP.cond (b := _) rfl (fun hc => ?_) (fun hc => ?_)
  · exfalso
    simp only [evC] at hc
    omega
  refine AWP.exit ?_
  show AWP _ _ _ _ _
  clear hc
  repeat refine AWP.nest ?_
  first | refine rsa hG [] [0, 1, 2, 6] fun K hK => ?_ | refine rna hG [] [0, 1, 2, 6] fun K hK => ?_
  repeat first | ((with_reducible refine shN ?_); refine sL ?_) | ((with_reducible refine shG ?_); refine sG ?_)
  refine Eq.mpr evalL_nil (hK _ ?_)
  clear hK K
  simp only [evU, St.keep, List.map_cons, look, reduceIte, Nat.reduceEqDiff]
  try show AWP _ _ _ _ _
  repeat refine AWP.nest ?_
  first | refine AWP.seq (AWP.block ?_) | refine AWP.block ?_
  refine AWP.loop (fun k st => k = 0 ∧ st = ⟨[(0, .own 0 0), (1, .d true (.v (.int .i64 (S.length : Int)))), (2, .fn 112 []), (6, .d true (.v (.int .i64 20)))], [some (.row 106 2 0 false (tbs S))]⟩) (0) ?_ ?_
  · exact ⟨rfl, rfl⟩
  rintro k st ⟨_, rfl⟩
  repeat refine AWP.nest ?_
  first | refine rsa hG [] [0, 1, 2, 6, 30] fun K hK => ?_ | refine rna hG [] [0, 1, 2, 6, 30] fun K hK => ?_
  repeat first | ((with_reducible refine shN ?_); refine sL ?_) | ((with_reducible refine shG ?_); refine sG ?_)
  refine Eq.mpr evalL_nil (hK _ ?_)
  clear hK K
  simp only [evU, St.keep, List.map_cons, look, reduceIte, Nat.reduceEqDiff]
  try show AWP _ _ _ _ _
  first | refine AWP.seq (AWP.cond (b := _) rfl (fun hc => ?_) (fun hc => ?_)) | refine AWP.cond (b := _) rfl (fun hc => ?_) (fun hc => ?_)
  · exfalso
    simp only [evC] at hc
    omega
  refine AWP.exit ?_
  refine ⟨.inr rfl, ⟨⟨_, rfl, _, rfl, .nil⟩, fun ob hob => ?_⟩⟩
  cases hob
  rfl
def e128a : List AV → Option Ob → Option Res := fun args i => match args, i with
  | [.own 0 0, .d true (.v (.int .i64 n)), .fn 112 []], some (.row 106 2 0 false xs) => some ⟨xs = tbs (toTbs xs) ∧ n = (toTbs xs).length ∧ (toTbs xs).length ≤ 1, .tup [], some (.row 106 2 0 false (tbs (toTbs xs)))⟩
  | _, _ => none
def F110 : FT := F109.upd 128 e128a
theorem F110_ok : FOK Try.prog F110 := FOK.upd F109_ok Try.func128 (by kernel_rfl) rfl fun args i R h => by
  unfold e128a at h
  split at h
  · rename_i n xs
    cases h
    refine Spec.pre fun h => ?_
    obtain ⟨h1, rfl, h2⟩ := h
    have := s128a (toTbs xs) h2
    rw [← h1] at this ⊢
    exact this
  · cases h

theorem s111a (S : List Tb) (hS : S.length ≤ 1) : Spec Try.prog 111 [.own 0 0, .fn 112 []] (some (.row 106 2 0 false (tbs S))) ⟨True, .tup [], some (.row 106 2 0 false (tbs S))⟩ := by
  have hf128 : F110 128 = e128a := rfl
  have hG := (Gf_ok F110_ok)
  have hfs := And.intro @hf128 (And.intro @e128a.eq_1 (And.intro @evP @evTb))
  have hxs := @Nat.add_zero
  refine spec_of_awp (Gf_ok F110_ok) Try.func111 rfl (Nat.le_of_ble_eq_true rfl) fun E hps hN _ => ?_
  simp only [begin, List.zipIdx_cons, List.zipIdx_nil, List.map_cons, List.map_nil, Option.toList, Nat.zero_add, Nat.reduceAdd]
  repeat refine AWP.nest ?_
  first | refine rsa hG [] [] fun K hK => ?_ | refine rna hG [] [] fun K hK => ?_
  repeat first | ((with_reducible refine shN ?_); refine sL ?_) | ((with_reducible refine shG ?_); refine sG ?_)
  refine Eq.mpr evalL_nil (hK _ ?_)
  clear hK K
  refine ⟨.inr rfl, ⟨⟨_, rfl, _, rfl, .nil⟩, fun ob hob => ?_⟩⟩
  cases hob
  rfl
def e111a : List AV → Option Ob → Option Res := fun args i => match args, i with
  | [.own 0 0, .fn 112 []], some (.row 106 2 0 false xs) => some ⟨xs = tbs (toTbs xs) ∧ (toTbs xs).length ≤ 1, .tup [], some (.row 106 2 0 false (tbs (toTbs xs)))⟩
  | _, _ => none
def F111 : FT := F110.upd 111 e111a
theorem F111_ok : FOK Try.prog F111 := FOK.upd F110_ok Try.func111 (by kernel_rfl) rfl fun args i R h => by
  unfold e111a at h
  split at h
  · rename_i xs
    cases h
    refine Spec.pre fun h => ?_
    have := s111a (toTbs xs) h.2
    rw [← h.1] at this ⊢
    exact this
  · cases h
theorem tbs_notflat {l : List Tb} (h : l ≠ []) : (tbs l).all Dat.flat = false := by
  cases l with
  | nil => exact absurd rfl h
  | cons t l => simp [tbs, tb, Dat.flat, Dat.isV]

theorem s110 (l : List Tb) (hne : l ≠ []) (hl : l.length ≤ 1000000) : Spec Try.prog 110 [.d false (.sl 2 (tbs l))] none ⟨True, .own 0 1, some (.row 106 2 1 false (tbs l))⟩ := by
  have hG := (Gf_ok F111_ok)
  have hfs := And.intro @evP @evTb
  have hxs := @Nat.add_zero
  refine spec_of_awp (Gf_ok F111_ok) Try.func110 rfl (Nat.le_of_ble_eq_true rfl) fun E hps hN _ => ?_
  simp only [begin, List.zipIdx_cons, List.zipIdx_nil, List.map_cons, List.map_nil, Option.toList, Nat.zero_add, Nat.reduceAdd]
  have hnf := tbs_notflat hne
  repeat refine AWP.nest ?_
  first | refine rsa hG [] [0] fun K hK => ?_ | refine rna hG [] [0] fun K hK => ?_
  repeat first | ((with_reducible refine shN ?_); refine sL ?_) | ((with_reducible refine shG ?_); refine sG ?_)
  refine Eq.mpr evalL_nil (hK _ ?_)
  clear hK K
  simp only [evU, St.keep, List.map_cons, look, reduceIte, Nat.reduceEqDiff]
  try show AWP _ _ _ _ _
  refine AWP.nest ?_
  refine AWP.nilcmp (t0 := 0) (t1 := 3) (t2 := 4) (ty := 100) T_ok (e := 106) (xs := tbs l) (sz := 2) (fr := false) rfl rfl ?_ ?_ fun b hb => ?_
  · rw [hN]; decide
  · rw [hN]; decide
  refine AWP.keep [0, 4] ?_
  simp only [St.keep, List.map_cons, List.map_nil, look, reduceIte, Nat.reduceEqDiff]
  repeat refine AWP.nest ?_
  first | refine AWP.seq (AWP.cond (b := _) rfl (fun hc => ?_) (fun hc => ?_)) | refine AWP.cond (b := _) rfl (fun hc => ?_) (fun hc => ?_)
  all_goals try simp only [evC] at hc
  · exfalso
    have := hb hc
    simp [tbs] at this
    exact hne this
  · refine AWP.skip ?_
    show AWP _ _ _ _ _
    repeat refine AWP.nest ?_
    have hxs := @hnf
    first | refine rsa hG [0] [2] fun K hK => ?_ | refine rna hG [0] [2] fun K hK => ?_
    repeat first | ((with_reducible refine shN ?_); refine sL ?_) | ((with_reducible refine shG ?_); refine sG ?_)
    refine Eq.mpr evalL_nil (hK _ ?_)
    clear hK K hxs
    simp only [evU, St.keep, List.map_cons, look, reduceIte, Nat.reduceEqDiff]
    try show AWP _ _ _ _ _
    refine AWP.ret ?_
    refine ⟨.inl rfl, ⟨⟨_, rfl, ?_⟩, fun ob hob => ?_⟩⟩
    simp only [look, reduceIte, Nat.reduceEqDiff]
    rotate_left
    cases hob
    · rfl
    · exact sub1_of rfl
def e110 : List AV → Option Ob → Option Res := fun args i => match args, i with
  | [.d false (.sl 2 xs)], none => some ⟨xs = tbs (toTbs xs) ∧ toTbs xs ≠ [] ∧ (toTbs xs).length ≤ 1000000, .own 0 1, some (.row 106 2 1 false (tbs (toTbs xs)))⟩
  | _, _ => none
def F112 : FT := F111.upd 110 e110
theorem F112_ok : FOK Try.prog F112 := FOK.upd F111_ok Try.func110 (by kernel_rfl) rfl fun args i R h => by
  unfold e110 at h
  split at h
  · rename_i xs
    cases h
    refine Spec.pre fun h => ?_
    have := s110 (toTbs xs) h.2.1 h.2.2
    rw [← h.1] at this ⊢
    exact this
  · cases h
end Go.AM

