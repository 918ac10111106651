/- AM: the program's tables; the first functions. -/
import Derived.Test.YtmfobkiljlepjaaB1
import Derived.Test.YtmfobkiljlepjaaK5
set_option maxRecDepth 100000
set_option maxHeartbeats 8000000
set_option linter.unusedSimpArgs false
set_option linter.unusedVariables false
namespace Go.AM
open Go Go.Proofs

def Ef : FuncId → Bool := fun f => [88, 89, 90, 91, 92, 93, 99, 101, 102, 120, 124, 125].contains f
def Mu : FuncId → Bool := fun f => [111, 128, 130, 131, 133, 134].contains f
def Gf (F : FT) : Cfg := ⟨T, F, Mu, Ef, KE⟩
theorem Gf_ok {F : FT} (h : FOK Try.prog F) : (Gf F).OK Try.prog := ⟨T_ok, h, KE_ok⟩
theorem Try.mixed : Try.prog.follows .mixedOrders = true := by kernel_rfl

def F0 : FT := fun _ _ _ => none
theorem F0_ok : FOK Try.prog F0 := FOK.none


/-! ### ref01.B2 -/
theorem s59 (n : Int) (h0 : 0 ≤ n) (h1 : n < 4294967296) : Spec Try.prog 59 [.d true (.v (.int .i64 n))] none ⟨True, .d true (.sl 1 (ints .u8 [n / 256 % 256, n % 256])), none⟩ := by
  have hG := (Gf_ok F0_ok)
  have hfs := @Nat.add_zero
  have hxs := @Nat.add_zero
  refine spec_of_awp (Gf_ok F0_ok) Try.func59 rfl (Nat.le_of_ble_eq_true rfl) fun E hps hN _ => ?_
  simp only [begin, List.zipIdx_cons, List.zipIdx_nil, List.map_cons, List.map_nil, Option.toList, Nat.zero_add, Nat.reduceAdd]
  repeat refine AWP.nest ?_
  first | refine rsa hG [] [0] fun K hK => ?_ | refine rna hG [] [0] fun K hK => ?_
  repeat first | ((with_reducible refine shN ?_); refine sL ?_) | ((with_reducible refine shG ?_); refine sG ?_)
  refine Eq.mpr evalL_nil (hK _ ?_)
  clear hK K
  simp only [evU, St.keep, List.map_cons, look, reduceIte, Nat.reduceEqDiff]
  try show AWP _ _ _ _ _
  repeat refine AWP.nest ?_
  first | refine rsa hG [] [2] fun K hK => ?_ | refine rna hG [] [2] fun K hK => ?_
  repeat first | ((with_reducible refine shN ?_); refine sL ?_) | ((with_reducible refine shG ?_); refine sG ?_)
  refine Eq.mpr evalL_nil (hK _ ?_)
  clear hK K
  simp only [evU, St.keep, List.map_cons, look, reduceIte, Nat.reduceEqDiff]
  try show AWP _ _ _ _ _
  refine AWP.ret ?_
  refine ⟨.inl rfl, ⟨⟨_, rfl, ?_⟩, fun ob hob => by cases hob⟩⟩
  simp only [look, reduceIte, Nat.reduceEqDiff]
  refine sub1_of ?_
  simp only [Int.emod_emod]
def e59 : List AV → Option Ob → Option Res := fun args i => match args, i with
  | [.d true (.v (.int .i64 n))], none => some ⟨0 ≤ n ∧ n < 4294967296, .d true (.sl 1 (ints .u8 [n / 256 % 256, n % 256])), none⟩
  | _, _ => none
def F1 : FT := F0.upd 59 e59
theorem F1_ok : FOK Try.prog F1 := FOK.upd F0_ok Try.func59 (by kernel_rfl) rfl fun args i R h => by
  unfold e59 at h
  split at h
  · cases h; exact Spec.pre fun h => s59 _ h.1 h.2
  · cases h


/-! ### ref01.Join -/
theorem s32 (ls : List (List Int)) (hb : ∀ l ∈ ls, Byt l) (hl : ls.flatten.length ≤ 1099511627776) : Spec Try.prog 32 [.d false (.sl 1 (rows ls))] none ⟨True, .d true (.sl 1 (ints .u8 ls.flatten)), none⟩ := by
  have hG := (Gf_ok F1_ok)
  have hfs := @Nat.add_zero
  have hxs := @Nat.add_zero
  refine spec_of_awp (Gf_ok F1_ok) Try.func32 rfl (Nat.le_of_ble_eq_true rfl) fun E hps hN _ => ?_
  simp only [begin, List.zipIdx_cons, List.zipIdx_nil, List.map_cons, List.map_nil, Option.toList, Nat.zero_add, Nat.reduceAdd]
  repeat refine AWP.nest ?_
  first | refine rsa hG [] [0] fun K hK => ?_ | refine rna hG [] [0] fun K hK => ?_
  repeat first | ((with_reducible refine shN ?_); refine sL ?_) | ((with_reducible refine shG ?_); refine sG ?_)
  refine Eq.mpr evalL_nil (hK _ ?_)
  clear hK K
  simp only [evU, St.keep, List.map_cons, look, reduceIte, Nat.reduceEqDiff]
  try show AWP _ _ _ _ _
  repeat refine AWP.nest ?_
  first | refine rsa hG [] [0, 3] fun K hK => ?_ | refine rna hG [] [0, 3] fun K hK => ?_
  repeat first | ((with_reducible refine shN ?_); refine sL ?_) | ((with_reducible refine shG ?_); refine sG ?_)
  refine Eq.mpr evalL_nil (hK _ ?_)
  clear hK K
  simp only [evU, St.keep, List.map_cons, look, reduceIte, Nat.reduceEqDiff]
  try show AWP _ _ _ _ _
  repeat refine AWP.nest ?_
  first | refine rsa hG [] [3, 6, 7, 8] fun K hK => ?_ | refine rna hG [] [3, 6, 7, 8] fun K hK => ?_
  repeat first | ((with_reducible refine shN ?_); refine sL ?_) | ((with_reducible refine shG ?_); refine sG ?_)
  refine Eq.mpr evalL_nil (hK _ ?_)
  clear hK K
  simp only [evU, St.keep, List.map_cons, look, reduceIte, Nat.reduceEqDiff]
  try show AWP _ _ _ _ _
  refine AWP.len 6 rfl fun hlen => ?_
  rw [rows_length] at hlen
  refine AWP.adopt 3 5 1 (by decide) rfl ?_
  refine AWP.keep [3, 6, 7, 8] ?_
  simp only [St.adopt, St.keep, List.map_cons, List.map_nil, look, reduceIte, Nat.reduceEqDiff, List.length_nil, List.nil_append]
  repeat refine AWP.nest ?_
  first | refine AWP.seq (AWP.block ?_) | refine AWP.block ?_
  refine AWP.loop (fun n st => ∃ (i γ : Nat), i ≤ ls.length ∧ n = ls.length - i ∧ st = ⟨[(3, .own 0 γ), (6, .d false (.sl 1 (rows ls))), (7, .d true (.v (.int .i64 (ls.length : Int)))), (8, .d true (.v (.int .i64 (i : Int))))], [some (.row 5 1 γ true (ints .u8 (ls.take i).flatten))]⟩) (ls.length) ?_ ?_
  · exact ⟨0, 0, Nat.zero_le _, rfl, rfl⟩
  rintro n st ⟨i, γ, hi, hn, rfl⟩
  repeat refine AWP.nest ?_
  first | refine rsa hG [] [3, 6, 7, 8, 9] fun K hK => ?_ | refine rna hG [] [3, 6, 7, 8, 9] fun K hK => ?_
  repeat first | ((with_reducible refine shN ?_); refine sL ?_) | ((with_reducible refine shG ?_); refine sG ?_)
  refine Eq.mpr evalL_nil (hK _ ?_)
  clear hK K
  simp only [evU, St.keep, List.map_cons, look, reduceIte, Nat.reduceEqDiff]
  try show AWP _ _ _ _ _
  first | refine AWP.seq (AWP.cond (b := _) rfl (fun hc => ?_) (fun hc => ?_)) | refine AWP.cond (b := _) rfl (fun hc => ?_) (fun hc => ?_)
  rotate_left
  · refine AWP.exit ?_
    show AWP _ _ _ _ _
    simp only [evC, Int.not_lt] at hc
    obtain rfl : i = ls.length := by omega
    rw [List.take_length]
    refine AWP.frz 0 (by rw [hps]; decide) rfl ?_
    simp only [St.frz, Ob.frz, AV.frz, AV.frz1, Option.map_none, mkAgg, datas, Dat.nagg, List.map_cons, List.map_nil, Option.map_some, and_self, true_and, and_true, reduceIte, Nat.reduceEqDiff, List.set_cons_zero, List.set_cons_succ, Bool.and_true, Bool.true_and]
    repeat refine AWP.nest ?_
    first | refine rsa hG [] [2] fun K hK => ?_ | refine rna hG [] [2] fun K hK => ?_
    repeat first | ((with_reducible refine shN ?_); refine sL ?_) | ((with_reducible refine shG ?_); refine sG ?_)
    refine Eq.mpr evalL_nil (hK _ ?_)
    clear hK K
    simp only [evU, St.keep, List.map_cons, look, reduceIte, Nat.reduceEqDiff]
    try show AWP _ _ _ _ _
    refine AWP.ret ?_
    refine ⟨.inl rfl, ⟨⟨_, rfl, ?_⟩, fun ob hob => by cases hob⟩⟩
    simp only [look, reduceIte, Nat.reduceEqDiff]
    exact sub1_of rfl
  simp only [evC, Int.not_lt] at hc
  refine AWP.skip ?_
  show AWP _ _ _ _ _
  have key : (ls.take i).flatten ++ ls.getD i [] = (ls.take (i + 1)).flatten := by
    rw [List.take_add_one, List.flatten_append, List.getD_eq_getElem?_getD, List.getElem?_eq_getElem hc]; simp
  have hk : (ls.take i).flatten.length + (ls.getD i []).length ≤ 1099511627776 := by
    rw [← List.length_append, key]
    have h1 : ls.flatten = (ls.take (i + 1)).flatten ++ (ls.drop (i + 1)).flatten := by rw [← List.flatten_append, List.take_append_drop]
    have h2 := congrArg List.length h1
    rw [List.length_append] at h2
    omega
  repeat refine AWP.nest ?_
  first | refine AWP.seq (AWP.block ?_) | refine AWP.block ?_
  repeat refine AWP.nest ?_
  first | refine rsa hG [] [3, 6, 7, 8, 5] fun K hK => ?_ | refine rna hG [] [3, 6, 7, 8, 5] fun K hK => ?_
  repeat first | ((with_reducible refine shN ?_); refine sL ?_) | ((with_reducible refine shG ?_); refine sG ?_)
  refine Eq.mpr evalL_nil (hK _ ?_)
  clear hK K
  simp only [evU, St.keep, List.map_cons, look, reduceIte, Nat.reduceEqDiff]
  try show AWP _ _ _ _ _
  repeat refine AWP.nest ?_
  first | refine rsa hG [] [3, 6, 7, 8] fun K hK => ?_ | refine rna hG [] [3, 6, 7, 8] fun K hK => ?_
  repeat first | ((with_reducible refine shN ?_); refine sL ?_) | ((with_reducible refine shG ?_); refine sG ?_)
  refine Eq.mpr evalL_nil (hK _ ?_)
  clear hK K
  simp only [evU, St.keep, List.map_cons, look, reduceIte, Nat.reduceEqDiff]
  try show AWP _ _ _ _ _
  repeat refine AWP.nest ?_
  first | refine rsa hG [] [3, 6, 7, 8] fun K hK => ?_ | refine rna hG [] [3, 6, 7, 8] fun K hK => ?_
  repeat first | ((with_reducible refine shN ?_); refine sL ?_) | ((with_reducible refine shG ?_); refine sG ?_)
  refine Eq.mpr evalL_nil (hK _ ?_)
  clear hK K
  simp only [evU, St.keep, List.map_cons, look, reduceIte, Nat.reduceEqDiff]
  try show AWP _ _ _ _ _
  refine ⟨ls.length - (i + 1), by omega, i + 1, γ + 1, by omega, rfl, ?_⟩
  rw [key]; rfl
def e32 : List AV → Option Ob → Option Res := fun args i => match args, i with
  | [.d false (.sl 1 xs)], none => some ⟨IsBB xs ∧ (toRows xs).flatten.length ≤ 1099511627776, .d true (.sl 1 (ints .u8 (toRows xs).flatten)), none⟩
  | _, _ => none
def F2 : FT := F1.upd 32 e32
theorem F2_ok : FOK Try.prog F2 := FOK.upd F1_ok Try.func32 (by kernel_rfl) rfl fun args i R h => by
  unfold e32 at h
  split at h
  · cases h; exact Spec.pre fun h => by have := s32 _ h.1.2 h.2; rwa [← h.1.1] at this
  · cases h


/-! ### ref01.B4 -/
theorem s35 (n : Int) (h0 : 0 ≤ n) (h1 : n < 4294967296) : Spec Try.prog 35 [.d true (.v (.int .u32 n))] none ⟨True, .d true (.sl 1 (ints .u8 [n / 16777216, n / 65536 % 256, n / 256 % 256, n % 256])), none⟩ := by
  have hf32 : F2 32 = e32 := rfl
  have hf59 : F2 59 = e59 := rfl
  have hG := (Gf_ok F2_ok)
  have hfs := And.intro @hf32 (And.intro @e32.eq_1 (And.intro @hf59 @e59.eq_1))
  have hxs := @Nat.add_zero
  refine spec_of_awp (Gf_ok F2_ok) Try.func35 rfl (Nat.le_of_ble_eq_true rfl) fun E hps hN _ => ?_
  simp only [begin, List.zipIdx_cons, List.zipIdx_nil, List.map_cons, List.map_nil, Option.toList, Nat.zero_add, Nat.reduceAdd]
  repeat refine AWP.nest ?_
  first | refine rsa hG [] [0] fun K hK => ?_ | refine rna hG [] [0] fun K hK => ?_
  repeat first | ((with_reducible refine shN ?_); refine sL ?_) | ((with_reducible refine shG ?_); refine sG ?_)
  refine Eq.mpr evalL_nil (hK _ ?_)
  clear hK K
  simp only [evU, St.keep, List.map_cons, look, reduceIte, Nat.reduceEqDiff]
  try show AWP _ _ _ _ _
  repeat refine AWP.nest ?_
  first | refine rsa hG [] [2] fun K hK => ?_ | refine rna hG [] [2] fun K hK => ?_
  repeat first | ((with_reducible refine shN ?_); refine sL ?_) | ((with_reducible refine shG ?_); refine sG ?_)
  refine Eq.mpr evalL_nil (hK _ ?_)
  clear hK K
  simp only [evU, St.keep, List.map_cons, look, reduceIte, Nat.reduceEqDiff]
  try show AWP _ _ _ _ _
  refine AWP.ret ?_
  refine ⟨.inl rfl, ⟨⟨_, rfl, ?_⟩, fun ob hob => by cases hob⟩⟩
  simp only [look, reduceIte, Nat.reduceEqDiff]
  refine sub1_of ?_
  have e1 : n / 65536 % 4294967296 / 256 % 256 = n / 16777216 := by omega
  have e2 : n / 65536 % 4294967296 % 256 = n / 65536 % 256 := by omega
  have e3 : n % 65536 / 256 % 256 = n / 256 % 256 := by omega
  have e4 : n % 65536 % 256 = n % 256 := by omega
  rw [e1, e2, e3, e4]
def e35 : List AV → Option Ob → Option Res := fun args i => match args, i with
  | [.d true (.v (.int .u32 n))], none => some ⟨0 ≤ n ∧ n < 4294967296, .d true (.sl 1 (ints .u8 [n / 16777216, n / 65536 % 256, n / 256 % 256, n % 256])), none⟩
  | _, _ => none
def F3 : FT := F2.upd 35 e35
theorem F3_ok : FOK Try.prog F3 := FOK.upd F2_ok Try.func35 (by kernel_rfl) rfl fun args i R h => by
  unfold e35 at h
  split at h
  · cases h; exact Spec.pre fun h => s35 _ h.1 h.2
  · cases h

/-! ### ref01.Cut -/
theorem s31 (l : List Int) (hb : Byt l) (k : Int) (hk : k ≤ 1099511627776) : Spec Try.prog 31 [.d false (.sl 1 (ints .u8 l)), .d true (.v (.int .i64 k))] none ⟨True, .d true (.sl 1 (ints .u8 (l.take k.toNat))), none⟩ := by
  have hG := (Gf_ok F2_ok)
  have hfs := @Nat.add_zero
  have hxs := @Nat.add_zero
  refine spec_of_awp (Gf_ok F2_ok) Try.func31 rfl (Nat.le_of_ble_eq_true rfl) fun E hps hN _ => ?_
  simp only [begin, List.zipIdx_cons, List.zipIdx_nil, List.map_cons, List.map_nil, Option.toList, Nat.zero_add, Nat.reduceAdd]
  repeat refine AWP.nest ?_
  first | refine rsa hG [] [0, 1] fun K hK => ?_ | refine rna hG [] [0, 1] fun K hK => ?_
  repeat first | ((with_reducible refine shN ?_); refine sL ?_) | ((with_reducible refine shG ?_); refine sG ?_)
  refine Eq.mpr evalL_nil (hK _ ?_)
  clear hK K
  simp only [evU, St.keep, List.map_cons, look, reduceIte, Nat.reduceEqDiff]
  try show AWP _ _ _ _ _
  repeat refine AWP.nest ?_
  first | refine rsa hG [] [0, 1, 5] fun K hK => ?_ | refine rna hG [] [0, 1, 5] fun K hK => ?_
  repeat first | ((with_reducible refine shN ?_); refine sL ?_) | ((with_reducible refine shG ?_); refine sG ?_)
  refine Eq.mpr evalL_nil (hK _ ?_)
  clear hK K
  simp only [evU, St.keep, List.map_cons, look, reduceIte, Nat.reduceEqDiff]
  try show AWP _ _ _ _ _
  repeat refine AWP.nest ?_
  first | refine rsa hG [] [1, 5, 8, 9, 10] fun K hK => ?_ | refine rna hG [] [1, 5, 8, 9, 10] fun K hK => ?_
  repeat first | ((with_reducible refine shN ?_); refine sL ?_) | ((with_reducible refine shG ?_); refine sG ?_)
  refine Eq.mpr evalL_nil (hK _ ?_)
  clear hK K
  simp only [evU, St.keep, List.map_cons, look, reduceIte, Nat.reduceEqDiff]
  try show AWP _ _ _ _ _
  refine AWP.len 8 rfl fun hlen => ?_
  rw [ints_length] at hlen
  refine AWP.adopt 5 5 1 (by decide) rfl ?_
  refine AWP.keep [1, 5, 8, 9, 10] ?_
  simp only [St.adopt, St.keep, List.map_cons, List.map_nil, look, reduceIte, Nat.reduceEqDiff, List.length_nil, List.nil_append]
  repeat refine AWP.nest ?_
  first | refine AWP.seq (AWP.block ?_) | refine AWP.block ?_
  refine AWP.loop (fun n st => ∃ (i γ : Nat), i ≤ l.length ∧ n = l.length - i ∧ st = ⟨[(1, .d true (.v (.int .i64 k))), (5, .own 0 γ), (8, .d false (.sl 1 (ints .u8 l))), (9, .d true (.v (.int .i64 (l.length : Int)))), (10, .d true (.v (.int .i64 (i : Int))))], [some (.row 5 1 γ true (ints .u8 ((l.take i).take k.toNat)))]⟩) (l.length) ?_ ?_
  · exact ⟨0, 0, Nat.zero_le _, rfl, by simp [ints]⟩
  rintro n st ⟨i, γ, hi, hn, rfl⟩
  repeat refine AWP.nest ?_
  first | refine rsa hG [] [1, 5, 8, 9, 10, 11] fun K hK => ?_ | refine rna hG [] [1, 5, 8, 9, 10, 11] fun K hK => ?_
  repeat first | ((with_reducible refine shN ?_); refine sL ?_) | ((with_reducible refine shG ?_); refine sG ?_)
  refine Eq.mpr evalL_nil (hK _ ?_)
  clear hK K
  simp only [evU, St.keep, List.map_cons, look, reduceIte, Nat.reduceEqDiff]
  try show AWP _ _ _ _ _
  first | refine AWP.seq (AWP.cond (b := _) rfl (fun hc => ?_) (fun hc => ?_)) | refine AWP.cond (b := _) rfl (fun hc => ?_) (fun hc => ?_)
  rotate_left
  · refine AWP.exit ?_
    show AWP _ _ _ _ _
    simp only [evC, Int.not_lt] at hc
    obtain rfl : i = l.length := by omega
    rw [List.take_length]
    refine AWP.frz 0 (by rw [hps]; decide) rfl ?_
    simp only [St.frz, Ob.frz, AV.frz, AV.frz1, Option.map_none, mkAgg, datas, Dat.nagg, List.map_cons, List.map_nil, Option.map_some, and_self, true_and, and_true, reduceIte, Nat.reduceEqDiff, List.set_cons_zero, List.set_cons_succ, Bool.and_true, Bool.true_and]
    repeat refine AWP.nest ?_
    first | refine rsa hG [] [4] fun K hK => ?_ | refine rna hG [] [4] fun K hK => ?_
    repeat first | ((with_reducible refine shN ?_); refine sL ?_) | ((with_reducible refine shG ?_); refine sG ?_)
    refine Eq.mpr evalL_nil (hK _ ?_)
    clear hK K
    simp only [evU, St.keep, List.map_cons, look, reduceIte, Nat.reduceEqDiff]
    try show AWP _ _ _ _ _
    refine AWP.ret ?_
    refine ⟨.inl rfl, ⟨⟨_, rfl, ?_⟩, fun ob hob => by cases hob⟩⟩
    simp only [look, reduceIte, Nat.reduceEqDiff]
    exact sub1_of rfl
  simp only [evC, Int.not_lt] at hc
  refine AWP.skip ?_
  show AWP _ _ _ _ _
  have hi' := hc
  clear hc
  repeat refine AWP.nest ?_
  first | refine AWP.seq (AWP.block ?_) | refine AWP.block ?_
  repeat refine AWP.nest ?_
  first | refine rsa hG [] [1, 5, 8, 9, 10, 6, 7] fun K hK => ?_ | refine rna hG [] [1, 5, 8, 9, 10, 6, 7] fun K hK => ?_
  repeat first | ((with_reducible refine shN ?_); refine sL ?_) | ((with_reducible refine shG ?_); refine sG ?_)
  refine Eq.mpr evalL_nil (hK _ ?_)
  clear hK K
  simp only [evU, St.keep, List.map_cons, look, reduceIte, Nat.reduceEqDiff]
  try show AWP _ _ _ _ _
  repeat refine AWP.nest ?_
  first | refine rsa hG [] [1, 5, 8, 9, 10, 7, 17] fun K hK => ?_ | refine rna hG [] [1, 5, 8, 9, 10, 7, 17] fun K hK => ?_
  repeat first | ((with_reducible refine shN ?_); refine sL ?_) | ((with_reducible refine shG ?_); refine sG ?_)
  refine Eq.mpr evalL_nil (hK _ ?_)
  clear hK K
  simp only [evU, St.keep, List.map_cons, look, reduceIte, Nat.reduceEqDiff]
  try show AWP _ _ _ _ _
  have hbi := hb.getD i
  have hlt : ((l.take i).take k.toNat).length ≤ 1099511627776 := by simp only [List.length_take]; omega
  repeat refine AWP.nest ?_
  first | refine AWP.seq (AWP.cond (b := _) rfl (fun hc => ?_) (fun hc => ?_)) | refine AWP.cond (b := _) rfl (fun hc => ?_) (fun hc => ?_)
  all_goals try simp only [evC] at hc
  · have key : (l.take i).take k.toNat ++ [l.getD i 0] = (l.take (i + 1)).take k.toNat := by
      rw [List.take_take, List.take_take, Nat.min_eq_right (by omega), Nat.min_eq_right (by omega), List.take_add_one, List.getD_eq_getElem?_getD, List.getElem?_eq_getElem hi']; rfl
    repeat refine AWP.nest ?_
    first | refine rsa hG [] [1, 5, 8, 9, 10] fun K hK => ?_ | refine rna hG [] [1, 5, 8, 9, 10] fun K hK => ?_
    repeat first | ((with_reducible refine shN ?_); refine sL ?_) | ((with_reducible refine shG ?_); refine sG ?_)
    refine Eq.mpr evalL_nil (hK _ ?_)
    clear hK K
    simp only [evU, St.keep, List.map_cons, look, reduceIte, Nat.reduceEqDiff]
    try show AWP _ _ _ _ _
    repeat refine AWP.nest ?_
    first | refine rsa hG [] [1, 5, 8, 9, 10] fun K hK => ?_ | refine rna hG [] [1, 5, 8, 9, 10] fun K hK => ?_
    repeat first | ((with_reducible refine shN ?_); refine sL ?_) | ((with_reducible refine shG ?_); refine sG ?_)
    refine Eq.mpr evalL_nil (hK _ ?_)
    clear hK K
    simp only [evU, St.keep, List.map_cons, look, reduceIte, Nat.reduceEqDiff]
    try show AWP _ _ _ _ _
    refine ⟨l.length - (i + 1), by omega, i + 1, γ + 1, by omega, rfl, ?_⟩
    rw [key]; rfl
  · have key : (l.take i).take k.toNat = (l.take (i + 1)).take k.toNat := by
      rw [List.take_take, List.take_take, Nat.min_eq_left (by omega), Nat.min_eq_left (by omega)]
    refine AWP.skip ?_
    show AWP _ _ _ _ _
    repeat refine AWP.nest ?_
    first | refine rsa hG [] [1, 5, 8, 9, 10] fun K hK => ?_ | refine rna hG [] [1, 5, 8, 9, 10] fun K hK => ?_
    repeat first | ((with_reducible refine shN ?_); refine sL ?_) | ((with_reducible refine shG ?_); refine sG ?_)
    refine Eq.mpr evalL_nil (hK _ ?_)
    clear hK K
    simp only [evU, St.keep, List.map_cons, look, reduceIte, Nat.reduceEqDiff]
    try show AWP _ _ _ _ _
    refine ⟨l.length - (i + 1), by omega, i + 1, γ, by omega, rfl, ?_⟩
    rw [key]; rfl
def e31 : List AV → Option Ob → Option Res := fun args i => match args, i with
  | [.d false (.sl 1 xs), .d true (.v (.int .i64 k))], none => some ⟨IsB xs ∧ k ≤ 1099511627776, .d true (.sl 1 (ints .u8 ((toInts xs).take k.toNat))), none⟩
  | _, _ => none
def F4 : FT := F3.upd 31 e31
theorem F4_ok : FOK Try.prog F4 := FOK.upd F3_ok Try.func31 (by kernel_rfl) rfl fun args i R h => by
  unfold e31 at h
  split at h
  · cases h; exact Spec.pre fun h => by have := s31 _ h.1.2 _ h.2; rwa [← h.1.1] at this
  · cases h

end Go.AM

