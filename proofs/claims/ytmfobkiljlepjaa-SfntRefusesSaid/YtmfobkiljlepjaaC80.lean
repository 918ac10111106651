/- AM: sfnt.Search, ref03.Search. -/
import Derived.Test.YtmfobkiljlepjaaC30
import Derived.Test.YtmfobkiljlepjaaC7
set_option maxRecDepth 100000
set_option maxHeartbeats 8000000
set_option linter.unusedSimpArgs false
set_option linter.unusedVariables false
namespace Go.AM
open Go Go.Proofs

def F100 : FT := F52.upd 34 e34
theorem F100_ok : FOK Try.prog F100 := FOK.upd F52_ok Try.func34 (by kernel_rfl) rfl fun args i R h => (F17_ok 34 args i R h).2

theorem s38b (l : List Int) (hb : Byt l) (hl : l.length ≤ 1000000000000) : Spec Try.prog 38 [.d false (.sl 1 (ints .u8 l))] none ⟨True, .d true (.v (.int .u32 ((2981146554 - refSum 0 l % 4294967296) % 4294967296))), none⟩ := by
  have hf34 : F100 34 = e34 := rfl
  have hG := (Gf_ok F100_ok)
  have hfs := And.intro @hf34 @e34.eq_1
  have hxs := @Nat.add_zero
  refine spec_of_awp (Gf_ok F100_ok) Try.func38 rfl (Nat.le_of_ble_eq_true rfl) fun E hps hN _ => ?_
  simp only [begin, List.zipIdx_cons, List.zipIdx_nil, List.map_cons, List.map_nil, Option.toList, Nat.zero_add, Nat.reduceAdd]
  repeat refine AWP.nest ?_
  first | refine rsa hG [] [0] fun K hK => ?_ | refine rna hG [] [0] fun K hK => ?_
  repeat first | ((with_reducible refine shN ?_); refine sL ?_) | ((with_reducible refine shG ?_); refine sG ?_)
  refine Eq.mpr evalL_nil (hK _ ?_)
  clear hK K
  simp only [evU, St.keep, List.map_cons, look, reduceIte, Nat.reduceEqDiff]
  try show AWP _ _ _ _ _
  repeat refine AWP.nest ?_
  first | refine rsa hG [] [2] fun K hK => ?_ | refine rna hG [] [2] fun K hK => ?_
  repeat first | ((with_reducible refine shN ?_); refine sL ?_) | ((with_reducible refine shG ?_); refine sG ?_)
  refine Eq.mpr evalL_nil (hK _ ?_)
  clear hK K
  simp only [evU, St.keep, List.map_cons, look, reduceIte, Nat.reduceEqDiff]
  try show AWP _ _ _ _ _
  refine AWP.ret ?_
  refine ⟨.inl rfl, ⟨⟨_, rfl, ?_⟩, fun ob hob => by cases hob⟩⟩
  simp only [look, reduceIte, Nat.reduceEqDiff]
  exact sub1_of rfl
def e38b : List AV → Option Ob → Option Res := fun args i => match args, i with
  | [.d false (.sl 1 xs)], none => some ⟨IsB xs ∧ (toInts xs).length ≤ 1000000000000, .d true (.v (.int .u32 ((2981146554 - refSum 0 (toInts xs) % 4294967296) % 4294967296))), none⟩
  | _, _ => none
def F101 : FT := F100.upd 38 e38b
theorem F101_ok : FOK Try.prog F101 := FOK.upd F100_ok Try.func38 (by kernel_rfl) rfl fun args i R h => by
  unfold e38b at h
  split at h
  · cases h
    refine Spec.pre fun h => ?_
    obtain ⟨l, rfl, hb⟩ := h.1.elim
    rw [toInts_ints] at h ⊢
    exact s38b l hb h.2
  · cases h
/-- Three numbers of how many tables. -/
def tA (x : Int) : Int := if 1 ≤ x ∧ x ≤ 64 then 16 * (2 ^ Nat.log2 x.toNat : Nat) else 0
def tB (x : Int) : Int := if 1 ≤ x ∧ x ≤ 64 then (Nat.log2 x.toNat : Int) else 0
def tD (x : Int) : Int := if 1 ≤ x ∧ x ≤ 64 then 16 * x - 16 * (2 ^ Nat.log2 x.toNat : Nat) else 0
theorem log_64 {n : Nat} (h : 0 < n) (h1 : n ≤ 64) : 2 ^ Nat.log2 n ≤ n ∧ n < 2 * 2 ^ Nat.log2 n ∧ Nat.log2 n ≤ 6 ∧ 0 < 2 ^ Nat.log2 n := by
  have h2 := log2_bd (n := n) (by omega)
  refine ⟨h2.1, h2.2, ?_, Nat.pow_pos (by decide)⟩
  rcases Nat.lt_or_ge 6 (Nat.log2 n) with h4 | h4
  · have := Nat.pow_le_pow_right (show 0 < 2 by decide) (show 7 ≤ Nat.log2 n by omega)
    omega
  · exact h4


theorem s63 (x : Int) (h0 : -9223372036854775808 ≤ x) (h1 : x ≤ 9223372036854775807) : Spec Try.prog 63 [.d true (.v (.int .i64 x))] none ⟨True, .tup [.d true (.v (.int .u16 (tA x))), .d true (.v (.int .u16 (tB x))), .d true (.v (.int .u16 (tD x)))], none⟩ := by
  have hf104 : F101 104 = e104 := rfl
  have hG := (Gf_ok F101_ok)
  have hfs := And.intro @hf104 (And.intro @e104.eq_1 @evP)
  have hxs := @Nat.add_zero
  refine spec_of_awp (Gf_ok F101_ok) Try.func63 rfl (Nat.le_of_ble_eq_true rfl) fun E hps hN _ => ?_
  simp only [begin, List.zipIdx_cons, List.zipIdx_nil, List.map_cons, List.map_nil, Option.toList, Nat.zero_add, Nat.reduceAdd]
  repeat refine AWP.nest ?_
  first | refine rsa hG [] [0] fun K hK => ?_ | refine rna hG [] [0] fun K hK => ?_
  repeat first | ((with_reducible refine shN ?_); refine sL ?_) | ((with_reducible refine shG ?_); refine sG ?_)
  refine Eq.mpr evalL_nil (hK _ ?_)
  clear hK K
  simp only [evU, St.keep, List.map_cons, look, reduceIte, Nat.reduceEqDiff]
  try show AWP _ _ _ _ _
  repeat refine AWP.nest ?_
  first | refine rsa hG [] [0, 11] fun K hK => ?_ | refine rna hG [] [0, 11] fun K hK => ?_
  repeat first | ((with_reducible refine shN ?_); refine sL ?_) | ((with_reducible refine shG ?_); refine sG ?_)
  refine Eq.mpr evalL_nil (hK _ ?_)
  clear hK K
  simp only [evU, St.keep, List.map_cons, look, reduceIte, Nat.reduceEqDiff]
  try show AWP _ _ _ _ _
  repeat refine AWP.nest ?_
  first | refine AWP.seq (AWP.cond (b := _) rfl (fun hc => ?_) (fun hc => ?_)) | refine AWP.cond (b := _) rfl (fun hc => ?_) (fun hc => ?_)
  all_goals try simp only [evC] at hc
  · have hn : ¬ (1 ≤ x ∧ x ≤ 64) := by omega
    have e1 : tA x = 0 := if_neg hn
    have e2 : tB x = 0 := if_neg hn
    have e3 : tD x = 0 := if_neg hn
    rw [e1, e2, e3]
    repeat refine AWP.nest ?_
    first | refine rsa hG [] [2, 3, 4] fun K hK => ?_ | refine rna hG [] [2, 3, 4] fun K hK => ?_
    repeat first | ((with_reducible refine shN ?_); refine sL ?_) | ((with_reducible refine shG ?_); refine sG ?_)
    refine Eq.mpr evalL_nil (hK _ ?_)
    clear hK K
    simp only [evU, St.keep, List.map_cons, look, reduceIte, Nat.reduceEqDiff]
    try show AWP _ _ _ _ _
    refine AWP.ret ?_
    refine ⟨.inl rfl, ⟨⟨_, rfl, ?_⟩, fun ob hob => by cases hob⟩⟩
    simp only [look, reduceIte, Nat.reduceEqDiff]
    refine ⟨_, rfl, (.cons ?_ (.cons ?_ (.cons ?_ .nil)))⟩
    · exact sub1_of rfl
    · exact sub1_of rfl
    · exact sub1_of rfl
  refine AWP.skip ?_
  show AWP _ _ _ _ _
  have hn : 1 ≤ x ∧ x ≤ 64 := by omega
  have e1 : tA x = 16 * (2 ^ Nat.log2 x.toNat : Nat) := if_pos hn
  have e2 : tB x = (Nat.log2 x.toNat : Int) := if_pos hn
  have e3 : tD x = 16 * x - 16 * (2 ^ Nat.log2 x.toNat : Nat) := if_pos hn
  rw [e1, e2, e3]
  clear e1 e2 e3 hc h0 h1
  obtain ⟨n, rfl⟩ : ∃ n : Nat, x = n := ⟨x.toNat, by omega⟩
  rw [Int.toNat_natCast]
  obtain ⟨hp1, hp2, hp3, hp4⟩ := log_64 (n := n) (by omega) (by omega)
  have e := blen_log (n := n) (by omega)
  repeat refine AWP.nest ?_
  have hxs := @e
  first | refine rsa hG [] [0, 5] fun K hK => ?_ | refine rna hG [] [0, 5] fun K hK => ?_
  repeat first | ((with_reducible refine shN ?_); refine sL ?_) | ((with_reducible refine shG ?_); refine sG ?_)
  refine Eq.mpr evalL_nil (hK _ ?_)
  clear hK K hxs
  simp only [evU, St.keep, List.map_cons, look, reduceIte, Nat.reduceEqDiff]
  try show AWP _ _ _ _ _
  have em : min (Nat.log2 n) 16 = Nat.log2 n := by omega
  have em2 : min (Nat.log2 n) 64 = Nat.log2 n := by omega
  have e5 : IntKind.i64.wrap ((blen ((n : Int) % 18446744073709551616).toNat : Int) - 1) = (Nat.log2 n : Int) := by
    rw [show ((n : Int) % 18446744073709551616).toNat = n by omega, e, w_i64 (by omega) (by omega)]
    omega
  rw [e5]
  have ep : (2 : Int) ^ Nat.log2 n = (2 ^ Nat.log2 n : Nat) := by simp
  repeat refine AWP.nest ?_
  have hxs := And.intro @em (And.intro @em2 @ep)
  first | refine rda hG [] [2, 3, 4] Try.mixed fun K hK => ?_ | refine dna hG [] [2, 3, 4] Try.mixed fun K hK => ?_
  repeat first | ((with_reducible refine shD ?_); refine sD ?_) | ((with_reducible refine shDG ?_); refine sDG ?_)
  refine evalD_done (by kernel_rfl) (hK _ ?_)
  clear hK K hxs
  simp only [evU, St.keep, List.map_cons, look, reduceIte, Nat.reduceEqDiff]
  try show AWP _ _ _ _ _
  refine AWP.ret ?_
  refine ⟨.inl rfl, ⟨⟨_, rfl, ?_⟩, fun ob hob => by cases hob⟩⟩
  simp only [look, reduceIte, Nat.reduceEqDiff]
  refine ⟨_, rfl, (.cons ?_ (.cons ?_ (.cons ?_ .nil)))⟩
  · exact sub1_n (by omega)
  · exact sub1_n (by omega)
  · exact sub1_n (by omega)
def e63 : List AV → Option Ob → Option Res := fun args i => match args, i with
  | [.d true (.v (.int .i64 x))], none => some ⟨-9223372036854775808 ≤ x ∧ x ≤ 9223372036854775807, .tup [.d true (.v (.int .u16 (tA x))), .d true (.v (.int .u16 (tB x))), .d true (.v (.int .u16 (tD x)))], none⟩
  | _, _ => none
def F102 : FT := F101.upd 63 e63
theorem F102_ok : FOK Try.prog F102 := FOK.upd F101_ok Try.func63 (by kernel_rfl) rfl fun args i R h => by
  unfold e63 at h
  split at h
  · cases h
    exact Spec.pre fun h => s63 _ h.1 h.2
  · cases h

theorem s64 (n : Nat) (h0 : 0 < n) (h1 : n ≤ 64) : Spec Try.prog 64 [.d true (.v (.int .i64 (n : Int)))] none ⟨True, .tup [.d true (.v (.int .i64 (tA n))), .d true (.v (.int .i64 (tB n))), .d true (.v (.int .i64 (tD n)))], none⟩ := by
  have hG := (Gf_ok F102_ok)
  have hfs := @evP
  have hxs := @Nat.add_zero
  refine spec_of_awp (Gf_ok F102_ok) Try.func64 rfl (Nat.le_of_ble_eq_true rfl) fun E hps hN _ => ?_
  simp only [begin, List.zipIdx_cons, List.zipIdx_nil, List.map_cons, List.map_nil, Option.toList, Nat.zero_add, Nat.reduceAdd]
  have hn : 1 ≤ (n : Int) ∧ (n : Int) ≤ 64 := by omega
  obtain ⟨hp1, hp2, hp3, hp4⟩ := log_64 h0 h1
  have e1 : tA n = 16 * (2 ^ Nat.log2 n : Nat) := by unfold tA; rw [if_pos hn, Int.toNat_natCast]
  have e2 : tB n = (Nat.log2 n : Int) := by unfold tB; rw [if_pos hn, Int.toNat_natCast]
  have e3 : tD n = 16 * (n : Int) - 16 * (2 ^ Nat.log2 n : Nat) := by unfold tD; rw [if_pos hn, Int.toNat_natCast]
  rw [e1, e2, e3]
  clear e1 e2 e3
  repeat refine AWP.nest ?_
  first | refine rsa hG [] [0] fun K hK => ?_ | refine rna hG [] [0] fun K hK => ?_
  repeat first | ((with_reducible refine shN ?_); refine sL ?_) | ((with_reducible refine shG ?_); refine sG ?_)
  refine Eq.mpr evalL_nil (hK _ ?_)
  clear hK K
  simp only [evU, St.keep, List.map_cons, look, reduceIte, Nat.reduceEqDiff]
  try show AWP _ _ _ _ _
  repeat refine AWP.nest ?_
  first | refine rsa hG [] [0, 5, 6] fun K hK => ?_ | refine rna hG [] [0, 5, 6] fun K hK => ?_
  repeat first | ((with_reducible refine shN ?_); refine sL ?_) | ((with_reducible refine shG ?_); refine sG ?_)
  refine Eq.mpr evalL_nil (hK _ ?_)
  clear hK K
  simp only [evU, St.keep, List.map_cons, look, reduceIte, Nat.reduceEqDiff]
  try show AWP _ _ _ _ _
  repeat refine AWP.nest ?_
  first | refine AWP.seq (AWP.block ?_) | refine AWP.block ?_
  refine AWP.loop (fun k st => ∃ (j t : Nat), j ≤ Nat.log2 n ∧ k = Nat.log2 n - j ∧ t = 2 ^ j ∧ t ≤ n ∧ st = ⟨[(0, .d true (.v (.int .i64 (n : Int)))), (5, .d true (.v (.int .i64 (j : Int)))), (6, .d true (.v (.int .i64 (t : Int))))], []⟩) (Nat.log2 n) ?_ ?_
  · exact ⟨0, 1, Nat.zero_le _, rfl, rfl, h0, rfl⟩
  rintro k st ⟨j, t, hj, hk, ht, htn, rfl⟩
  repeat refine AWP.nest ?_
  first | refine rsa hG [] [0, 5, 6, 10] fun K hK => ?_ | refine rna hG [] [0, 5, 6, 10] fun K hK => ?_
  repeat first | ((with_reducible refine shN ?_); refine sL ?_) | ((with_reducible refine shG ?_); refine sG ?_)
  refine Eq.mpr evalL_nil (hK _ ?_)
  clear hK K
  simp only [evU, St.keep, List.map_cons, look, reduceIte, Nat.reduceEqDiff]
  try show AWP _ _ _ _ _
  first | refine AWP.seq (AWP.cond (b := _) rfl (fun hc => ?_) (fun hc => ?_)) | refine AWP.cond (b := _) rfl (fun hc => ?_) (fun hc => ?_)
  rotate_left
  · refine AWP.exit ?_
    show AWP _ _ _ _ _
    simp only [evC, Int.not_lt] at hc
    have hjl : j = Nat.log2 n := by
      rcases Nat.lt_or_ge j (Nat.log2 n) with h | h
      · exfalso
        have := Nat.pow_le_pow_right (show 0 < 2 by decide) (show j + 1 ≤ Nat.log2 n from h)
        rw [Nat.pow_succ, ← ht] at this
        omega
      · omega
    subst hjl
    rw [← ht]
    rw [← ht] at hp1 hp2 hp4
    repeat refine AWP.nest ?_
    first | refine rsa hG [] [2, 3, 4] fun K hK => ?_ | refine rna hG [] [2, 3, 4] fun K hK => ?_
    repeat first | ((with_reducible refine shN ?_); refine sL ?_) | ((with_reducible refine shG ?_); refine sG ?_)
    refine Eq.mpr evalL_nil (hK _ ?_)
    clear hK K
    simp only [evU, St.keep, List.map_cons, look, reduceIte, Nat.reduceEqDiff]
    try show AWP _ _ _ _ _
    refine AWP.ret ?_
    refine ⟨.inl rfl, ⟨⟨_, rfl, ?_⟩, fun ob hob => by cases hob⟩⟩
    simp only [look, reduceIte, Nat.reduceEqDiff]
    refine ⟨_, rfl, (.cons ?_ (.cons ?_ (.cons ?_ .nil)))⟩
    · exact sub1_of rfl
    · exact sub1_of rfl
    · exact sub1_of rfl
  simp only [evC, Int.not_lt] at hc
  refine AWP.skip ?_
  show AWP _ _ _ _ _
  have hlt : j < Nat.log2 n := by
    rcases Nat.lt_or_ge j (Nat.log2 n) with h | h
    · exact h
    · exfalso
      have : j = Nat.log2 n := by omega
      subst this
      omega
  repeat refine AWP.nest ?_
  first | refine AWP.seq (AWP.block ?_) | refine AWP.block ?_
  repeat refine AWP.nest ?_
  first | refine rsa hG [] [0, 5, 6] fun K hK => ?_ | refine rna hG [] [0, 5, 6] fun K hK => ?_
  repeat first | ((with_reducible refine shN ?_); refine sL ?_) | ((with_reducible refine shG ?_); refine sG ?_)
  refine Eq.mpr evalL_nil (hK _ ?_)
  clear hK K
  simp only [evU, St.keep, List.map_cons, look, reduceIte, Nat.reduceEqDiff]
  try show AWP _ _ _ _ _
  repeat refine AWP.nest ?_
  first | refine rsa hG [] [0, 5, 6] fun K hK => ?_ | refine rna hG [] [0, 5, 6] fun K hK => ?_
  repeat first | ((with_reducible refine shN ?_); refine sL ?_) | ((with_reducible refine shG ?_); refine sG ?_)
  refine Eq.mpr evalL_nil (hK _ ?_)
  clear hK K
  simp only [evU, St.keep, List.map_cons, look, reduceIte, Nat.reduceEqDiff]
  try show AWP _ _ _ _ _
  exact ⟨Nat.log2 n - (j + 1), by omega, j + 1, t * 2, by omega, rfl, by rw [Nat.pow_succ, ht], by omega, rfl⟩
def e64 : List AV → Option Ob → Option Res := fun args i => match args, i with
  | [.d true (.v (.int .i64 x))], none => some ⟨1 ≤ x ∧ x ≤ 64, .tup [.d true (.v (.int .i64 (tA x))), .d true (.v (.int .i64 (tB x))), .d true (.v (.int .i64 (tD x)))], none⟩
  | _, _ => none
def F103 : FT := F102.upd 64 e64
theorem F103_ok : FOK Try.prog F103 := FOK.upd F102_ok Try.func64 (by kernel_rfl) rfl fun args i R h => by
  unfold e64 at h
  split at h
  · rename_i x
    cases h
    refine Spec.pre fun h => ?_
    have := s64 x.toNat (by omega) (by omega)
    rwa [show ((x.toNat : Nat) : Int) = x by omega] at this
  · cases h
end Go.AM

