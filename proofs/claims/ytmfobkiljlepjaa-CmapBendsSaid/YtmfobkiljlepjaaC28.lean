/- AM: ref01.Join, its row its own; a byte turned. -/
import Derived.Test.YtmfobkiljlepjaaC1
import Derived.Test.YtmfobkiljlepjaaK2
set_option maxRecDepth 100000
set_option maxHeartbeats 8000000
set_option linter.unusedSimpArgs false
set_option linter.unusedVariables false
namespace Go.AM
open Go Go.Proofs


/-! ### ref01.Join again: a row of the caller's own -/
theorem s32o (ls : List (List Int)) (hb : ∀ l ∈ ls, Byt l) (hl : ls.flatten.length ≤ 1099511627776) : Spec Try.prog 32 [.d false (.sl 1 (rows ls))] none ⟨True, .own 0 ls.length, some (.row 5 1 ls.length true (ints .u8 ls.flatten))⟩ := by
  have hG := (Gf_ok F4_ok)
  have hfs := @Nat.add_zero
  have hxs := @Nat.add_zero
  refine spec_of_awp (Gf_ok F4_ok) Try.func32 rfl (Nat.le_of_ble_eq_true rfl) fun E hps hN _ => ?_
  simp only [begin, List.zipIdx_cons, List.zipIdx_nil, List.map_cons, List.map_nil, Option.toList, Nat.zero_add, Nat.reduceAdd]
  repeat refine AWP.nest ?_
  first | refine rsa hG [] [0] fun K hK => ?_ | refine rna hG [] [0] fun K hK => ?_
  repeat first | ((with_reducible refine shN ?_); refine sL ?_) | ((with_reducible refine shG ?_); refine sG ?_)
  refine Eq.mpr evalL_nil (hK _ ?_)
  clear hK K
  simp only [evU, St.keep, List.map_cons, look, reduceIte, Nat.reduceEqDiff]
  try show AWP _ _ _ _ _
  repeat refine AWP.nest ?_
  first | refine rsa hG [] [0, 3] fun K hK => ?_ | refine rna hG [] [0, 3] fun K hK => ?_
  repeat first | ((with_reducible refine shN ?_); refine sL ?_) | ((with_reducible refine shG ?_); refine sG ?_)
  refine Eq.mpr evalL_nil (hK _ ?_)
  clear hK K
  simp only [evU, St.keep, List.map_cons, look, reduceIte, Nat.reduceEqDiff]
  try show AWP _ _ _ _ _
  repeat refine AWP.nest ?_
  first | refine rsa hG [] [3, 6, 7, 8] fun K hK => ?_ | refine rna hG [] [3, 6, 7, 8] fun K hK => ?_
  repeat first | ((with_reducible refine shN ?_); refine sL ?_) | ((with_reducible refine shG ?_); refine sG ?_)
  refine Eq.mpr evalL_nil (hK _ ?_)
  clear hK K
  simp only [evU, St.keep, List.map_cons, look, reduceIte, Nat.reduceEqDiff]
  try show AWP _ _ _ _ _
  refine AWP.len 6 rfl fun hlen => ?_
  rw [rows_length] at hlen
  refine AWP.adopt 3 5 1 (by decide) rfl ?_
  refine AWP.keep [3, 6, 7, 8] ?_
  simp only [St.adopt, St.keep, List.map_cons, List.map_nil, look, reduceIte, Nat.reduceEqDiff, List.length_nil, List.nil_append]
  repeat refine AWP.nest ?_
  first | refine AWP.seq (AWP.block ?_) | refine AWP.block ?_
  refine AWP.loop (fun n st => ∃ (i : Nat), i ≤ ls.length ∧ n = ls.length - i ∧ st = ⟨[(3, .own 0 i), (6, .d false (.sl 1 (rows ls))), (7, .d true (.v (.int .i64 (ls.length : Int)))), (8, .d true (.v (.int .i64 (i : Int))))], [some (.row 5 1 i true (ints .u8 (ls.take i).flatten))]⟩) (ls.length) ?_ ?_
  · exact ⟨0, Nat.zero_le _, rfl, rfl⟩
  rintro n st ⟨i, hi, hn, rfl⟩
  repeat refine AWP.nest ?_
  first | refine rsa hG [] [3, 6, 7, 8, 9] fun K hK => ?_ | refine rna hG [] [3, 6, 7, 8, 9] fun K hK => ?_
  repeat first | ((with_reducible refine shN ?_); refine sL ?_) | ((with_reducible refine shG ?_); refine sG ?_)
  refine Eq.mpr evalL_nil (hK _ ?_)
  clear hK K
  simp only [evU, St.keep, List.map_cons, look, reduceIte, Nat.reduceEqDiff]
  try show AWP _ _ _ _ _
  first | refine AWP.seq (AWP.cond (b := _) rfl (fun hc => ?_) (fun hc => ?_)) | refine AWP.cond (b := _) rfl (fun hc => ?_) (fun hc => ?_)
  rotate_left
  · refine AWP.exit ?_
    show AWP _ _ _ _ _
    simp only [evC, Int.not_lt] at hc
    obtain rfl : i = ls.length := by omega
    rw [List.take_length]
    repeat refine AWP.nest ?_
    first | refine rsa hG [] [2] fun K hK => ?_ | refine rna hG [] [2] fun K hK => ?_
    repeat first | ((with_reducible refine shN ?_); refine sL ?_) | ((with_reducible refine shG ?_); refine sG ?_)
    refine Eq.mpr evalL_nil (hK _ ?_)
    clear hK K
    simp only [evU, St.keep, List.map_cons, look, reduceIte, Nat.reduceEqDiff]
    try show AWP _ _ _ _ _
    refine AWP.ret ?_
    refine ⟨.inl rfl, ⟨⟨_, rfl, ?_⟩, fun ob hob => ?_⟩⟩
    simp only [look, reduceIte, Nat.reduceEqDiff]
    rotate_left
    cases hob
    · rfl
    · exact sub1_of rfl
  simp only [evC, Int.not_lt] at hc
  refine AWP.skip ?_
  show AWP _ _ _ _ _
  have key : (ls.take i).flatten ++ ls.getD i [] = (ls.take (i + 1)).flatten := by
    rw [List.take_add_one, List.flatten_append, List.getD_eq_getElem?_getD, List.getElem?_eq_getElem hc]; simp
  have hk : (ls.take i).flatten.length + (ls.getD i []).length ≤ 1099511627776 := by
    rw [← List.length_append, key]
    have h1 : ls.flatten = (ls.take (i + 1)).flatten ++ (ls.drop (i + 1)).flatten := by rw [← List.flatten_append, List.take_append_drop]
    have h2 := congrArg List.length h1
    rw [List.length_append] at h2
    omega
  repeat refine AWP.nest ?_
  first | refine AWP.seq (AWP.block ?_) | refine AWP.block ?_
  repeat refine AWP.nest ?_
  first | refine rsa hG [] [3, 6, 7, 8, 5] fun K hK => ?_ | refine rna hG [] [3, 6, 7, 8, 5] fun K hK => ?_
  repeat first | ((with_reducible refine shN ?_); refine sL ?_) | ((with_reducible refine shG ?_); refine sG ?_)
  refine Eq.mpr evalL_nil (hK _ ?_)
  clear hK K
  simp only [evU, St.keep, List.map_cons, look, reduceIte, Nat.reduceEqDiff]
  try show AWP _ _ _ _ _
  repeat refine AWP.nest ?_
  first | refine rsa hG [] [3, 6, 7, 8] fun K hK => ?_ | refine rna hG [] [3, 6, 7, 8] fun K hK => ?_
  repeat first | ((with_reducible refine shN ?_); refine sL ?_) | ((with_reducible refine shG ?_); refine sG ?_)
  refine Eq.mpr evalL_nil (hK _ ?_)
  clear hK K
  simp only [evU, St.keep, List.map_cons, look, reduceIte, Nat.reduceEqDiff]
  try show AWP _ _ _ _ _
  repeat refine AWP.nest ?_
  first | refine rsa hG [] [3, 6, 7, 8] fun K hK => ?_ | refine rna hG [] [3, 6, 7, 8] fun K hK => ?_
  repeat first | ((with_reducible refine shN ?_); refine sL ?_) | ((with_reducible refine shG ?_); refine sG ?_)
  refine Eq.mpr evalL_nil (hK _ ?_)
  clear hK K
  simp only [evU, St.keep, List.map_cons, look, reduceIte, Nat.reduceEqDiff]
  try show AWP _ _ _ _ _
  refine ⟨ls.length - (i + 1), by omega, i + 1, by omega, rfl, ?_⟩
  rw [key]; rfl
def e32o : List AV → Option Ob → Option Res := fun args i => match args, i with
  | [.d false (.sl 1 xs)], none => some ⟨IsBB xs ∧ (toRows xs).flatten.length ≤ 1099511627776, .own 0 (toRows xs).length, some (.row 5 1 (toRows xs).length true (ints .u8 (toRows xs).flatten))⟩
  | _, _ => none
/-- A byte is turned. -/
def bent (l : List Int) (k : Nat) (t : Int) : List Int := l.set k (bits .xor .u8 (l.getD k 0) t)
theorem bent_byt {l : List Int} (hb : Byt l) (k : Nat) (t : Int) : Byt (bent l k t) := fun b h => by
  rcases List.mem_or_eq_of_mem_set h with h | rfl
  · exact hb b h
  · unfold bits
    simp only [w_u8]
    omega
theorem bent_len (l : List Int) (k : Nat) (t : Int) : (bent l k t).length = l.length := by simp [bent]
end Go.AM

