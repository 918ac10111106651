/- AM: package word's Writer; Reader.Bad. -/
import Derived.Test.YtmfobkiljlepjaaC6
import Derived.Test.YtmfobkiljlepjaaB2
import Derived.Test.YtmfobkiljlepjaaK2
set_option maxRecDepth 100000
set_option maxHeartbeats 8000000
set_option linter.unusedSimpArgs false
set_option linter.unusedVariables false
namespace Go.AM
open Go Go.Proofs

theorem ints_v {k : IntKind} {l : List Int} : ∀ x ∈ ints k l, ∃ q, x = .v q := fun x hx => by
  simp only [ints, List.mem_map] at hx
  obtain ⟨n, _, rfl⟩ := hx
  exact ⟨_, rfl⟩

def b4 (n : Int) : List Int := [n / 16777216, n / 65536 % 256, n / 256 % 256, n % 256]
theorem b4_byt {n : Int} (h0 : 0 ≤ n) (h1 : n < 4294967296) : Byt (b4 n) := by
  intro b hb
  simp only [b4, List.mem_cons, List.not_mem_nil, or_false] at hb
  rcases hb with rfl | rfl | rfl | rfl <;> omega
def W32 (l : List Int) : Prop := ∀ n ∈ l, 0 ≤ n ∧ n < 4294967296
theorem W32.getD {l : List Int} (h : W32 l) (n : Nat) : 0 ≤ l.getD n 0 ∧ l.getD n 0 < 4294967296 := by
  rw [List.getD_eq_getElem?_getD]
  cases e : l[n]? with
  | none => simp
  | some x => exact h x (List.mem_of_getElem? e)
def W16 (l : List Int) : Prop := ∀ n ∈ l, 0 ≤ n ∧ n < 65536
theorem W16.getD {l : List Int} (h : W16 l) (n : Nat) : 0 ≤ l.getD n 0 ∧ l.getD n 0 < 65536 := by
  rw [List.getD_eq_getElem?_getD]
  cases e : l[n]? with
  | none => simp
  | some x => exact h x (List.mem_of_getElem? e)
def WI32 (l : List Int) : Prop := ∀ n ∈ l, -2147483648 ≤ n ∧ n ≤ 2147483647
theorem WI32.getD {l : List Int} (h : WI32 l) (n : Nat) : -2147483648 ≤ l.getD n 0 ∧ l.getD n 0 ≤ 2147483647 := by
  rw [List.getD_eq_getElem?_getD]
  cases e : l[n]? with
  | none => simp
  | some x => exact h x (List.mem_of_getElem? e)


/-! ### (*word.Writer).Put -/
theorem s99 (xs l : List Int) (hl : xs.length + l.length ≤ 1099511627776) : Spec Try.prog 99 [.ptr 0 0, .d false (.sl 1 (ints .u8 l))] (some (.buf 134 5 1 (ints .u8 xs))) ⟨True, .ptr 0 0, some (.buf 134 5 1 (ints .u8 (xs ++ l)))⟩ := by
  have hG := (Gf_ok F16_ok)
  have hfs := @Nat.add_zero
  have hxs := @Nat.add_zero
  refine spec_of_buf (Gf_ok F16_ok) (by decide) Try.func99 rfl (Nat.le_of_ble_eq_true rfl) rfl rfl ints_v rfl fun E hps hN _ => ?_
  simp only [begin, List.zipIdx_cons, List.zipIdx_nil, List.map_cons, List.map_nil, Option.toList, Nat.zero_add, Nat.reduceAdd]
  repeat refine AWP.nest ?_
  first | refine rsa hG [] [0, 1] fun K hK => ?_ | refine rna hG [] [0, 1] fun K hK => ?_
  repeat first | ((with_reducible refine shN ?_); refine sL ?_) | ((with_reducible refine shG ?_); refine sG ?_)
  refine Eq.mpr evalL_nil (hK _ ?_)
  clear hK K
  simp only [evU, St.keep, List.map_cons, look, reduceIte, Nat.reduceEqDiff]
  try show AWP _ _ _ _ _
  repeat refine AWP.nest ?_
  first | refine rsa hG [] [0, 1, 6] fun K hK => ?_ | refine rna hG [] [0, 1, 6] fun K hK => ?_
  repeat first | ((with_reducible refine shN ?_); refine sL ?_) | ((with_reducible refine shG ?_); refine sG ?_)
  refine Eq.mpr evalL_nil (hK _ ?_)
  clear hK K
  simp only [evU, St.keep, List.map_cons, look, reduceIte, Nat.reduceEqDiff]
  try show AWP _ _ _ _ _
  repeat refine AWP.nest ?_
  first | refine AWP.seq (AWP.cond (b := _) rfl (fun hc => ?_) (fun hc => ?_)) | refine AWP.cond (b := _) rfl (fun hc => ?_) (fun hc => ?_)
  all_goals try simp only [evC] at hc
  · repeat refine AWP.nest ?_
    first | refine rsa hG [] [0] fun K hK => ?_ | refine rna hG [] [0] fun K hK => ?_
    repeat first | ((with_reducible refine shN ?_); refine sL ?_) | ((with_reducible refine shG ?_); refine sG ?_)
    refine Eq.mpr evalL_nil (hK _ ?_)
    clear hK K
    simp only [evU, St.keep, List.map_cons, look, reduceIte, Nat.reduceEqDiff]
    try show AWP _ _ _ _ _
    repeat refine AWP.nest ?_
    first | refine rsa hG [] [4] fun K hK => ?_ | refine rna hG [] [4] fun K hK => ?_
    repeat first | ((with_reducible refine shN ?_); refine sL ?_) | ((with_reducible refine shG ?_); refine sG ?_)
    refine Eq.mpr evalL_nil (hK _ ?_)
    clear hK K
    simp only [evU, St.keep, List.map_cons, look, reduceIte, Nat.reduceEqDiff]
    try show AWP _ _ _ _ _
    refine AWP.ret ?_
    exact ⟨.inl rfl, ⟨⟨_, rfl, sub1_of rfl⟩, fun ob hob => by cases hob⟩, _, _, rfl, rfl⟩
  · cases hc
def e99 : List AV → Option Ob → Option Res := fun args i => match args, i with
  | [.ptr 0 0, .d false (.sl 1 ys)], some (.buf 134 5 1 xs) => some ⟨xs = ints .u8 (toInts xs) ∧ ys = ints .u8 (toInts ys) ∧ (toInts xs).length + (toInts ys).length ≤ 1099511627776, .ptr 0 0, some (.buf 134 5 1 (ints .u8 (toInts xs ++ toInts ys)))⟩
  | _, _ => none
def F20 : FT := F16.upd 99 e99
theorem F20_ok : FOK Try.prog F20 := FOK.upd F16_ok Try.func99 (by kernel_rfl) rfl fun args i R h => by
  unfold e99 at h
  split at h
  · cases h
    refine Spec.pre fun h => ?_
    have := s99 _ _ h.2.2
    rw [← h.1, ← h.2.1] at this
    exact this
  · cases h


/-! ### (*word.Writer).U16 -/
theorem s89 (xs : List Int) (hl : xs.length ≤ 1000000000000) (n : Int) (h0 : 0 ≤ n) (h1 : n < 65536) : Spec Try.prog 89 [.ptr 0 0, .d true (.v (.int .u16 n))] (some (.buf 134 5 1 (ints .u8 xs))) ⟨True, .ptr 0 0, some (.buf 134 5 1 (ints .u8 (xs ++ [n / 256, n % 256])))⟩ := by
  have hf99 : F20 99 = e99 := rfl
  have hG := (Gf_ok F20_ok)
  have hfs := And.intro @hf99 @e99.eq_1
  have hxs := @Nat.add_zero
  refine spec_of_awp (Gf_ok F20_ok) Try.func89 rfl (Nat.le_of_ble_eq_true rfl) fun E hps hN _ => ?_
  simp only [begin, List.zipIdx_cons, List.zipIdx_nil, List.map_cons, List.map_nil, Option.toList, Nat.zero_add, Nat.reduceAdd]
  repeat refine AWP.nest ?_
  first | refine rsa hG [] [0, 1] fun K hK => ?_ | refine rna hG [] [0, 1] fun K hK => ?_
  repeat first | ((with_reducible refine shN ?_); refine sL ?_) | ((with_reducible refine shG ?_); refine sG ?_)
  refine Eq.mpr evalL_nil (hK _ ?_)
  clear hK K
  simp only [evU, St.keep, List.map_cons, look, reduceIte, Nat.reduceEqDiff]
  try show AWP _ _ _ _ _
  repeat refine AWP.nest ?_
  first | refine rsa hG [] [4] fun K hK => ?_ | refine rna hG [] [4] fun K hK => ?_
  repeat first | ((with_reducible refine shN ?_); refine sL ?_) | ((with_reducible refine shG ?_); refine sG ?_)
  refine Eq.mpr evalL_nil (hK _ ?_)
  clear hK K
  simp only [evU, St.keep, List.map_cons, look, reduceIte, Nat.reduceEqDiff]
  try show AWP _ _ _ _ _
  have e1 : n.fdiv 256 % 256 = n / 256 := by rw [Int.fdiv_eq_ediv_of_nonneg _ (by decide)]; omega
  rw [e1]
  refine AWP.ret ?_
  refine ⟨.inl rfl, ⟨⟨_, rfl, ?_⟩, fun ob hob => ?_⟩⟩
  simp only [look, reduceIte, Nat.reduceEqDiff]
  rotate_left
  cases hob
  · rfl
  · exact sub1_of rfl
def e89 : List AV → Option Ob → Option Res := fun args i => match args, i with
  | [.ptr 0 0, .d true (.v (.int .u16 n))], some (.buf 134 5 1 xs) => some ⟨xs = ints .u8 (toInts xs) ∧ (toInts xs).length ≤ 1000000000000 ∧ 0 ≤ n ∧ n < 65536, .ptr 0 0, some (.buf 134 5 1 (ints .u8 (toInts xs ++ [n / 256, n % 256])))⟩
  | _, _ => none
def F21 : FT := F20.upd 89 e89
theorem F21_ok : FOK Try.prog F21 := FOK.upd F20_ok Try.func89 (by kernel_rfl) rfl fun args i R h => by
  unfold e89 at h
  split at h
  · cases h
    refine Spec.pre fun h => ?_
    have := s89 _ h.2.1 _ h.2.2.1 h.2.2.2
    rw [← h.1] at this
    exact this
  · cases h


/-! ### (*word.Writer).U32 -/
theorem s90 (xs : List Int) (hl : xs.length ≤ 999999999990) (n : Int) (h0 : 0 ≤ n) (h1 : n < 4294967296) : Spec Try.prog 90 [.ptr 0 0, .d true (.v (.int .u32 n))] (some (.buf 134 5 1 (ints .u8 xs))) ⟨True, .ptr 0 0, some (.buf 134 5 1 (ints .u8 (xs ++ b4 n)))⟩ := by
  have hf89 : F21 89 = e89 := rfl
  have hG := (Gf_ok F21_ok)
  have hfs := And.intro @hf89 @e89.eq_1
  have hxs := @Nat.add_zero
  refine spec_of_awp (Gf_ok F21_ok) Try.func90 rfl (Nat.le_of_ble_eq_true rfl) fun E hps hN _ => ?_
  simp only [begin, List.zipIdx_cons, List.zipIdx_nil, List.map_cons, List.map_nil, Option.toList, Nat.zero_add, Nat.reduceAdd]
  have e1 : n.fdiv 65536 % 65536 = n / 65536 := by rw [Int.fdiv_eq_ediv_of_nonneg _ (by decide)]; omega
  repeat refine AWP.nest ?_
  first | refine rsa hG [] [0, 1] fun K hK => ?_ | refine rna hG [] [0, 1] fun K hK => ?_
  repeat first | ((with_reducible refine shN ?_); refine sL ?_) | ((with_reducible refine shG ?_); refine sG ?_)
  refine Eq.mpr evalL_nil (hK _ ?_)
  clear hK K
  simp only [evU, St.keep, List.map_cons, look, reduceIte, Nat.reduceEqDiff]
  try show AWP _ _ _ _ _
  repeat refine AWP.nest ?_
  have hxs := @e1
  first | refine rsa hG [] [4] fun K hK => ?_ | refine rna hG [] [4] fun K hK => ?_
  repeat first | ((with_reducible refine shN ?_); refine sL ?_) | ((with_reducible refine shG ?_); refine sG ?_)
  refine Eq.mpr evalL_nil (hK _ ?_)
  clear hK K hxs
  simp only [evU, St.keep, List.map_cons, look, reduceIte, Nat.reduceEqDiff]
  try show AWP _ _ _ _ _
  refine AWP.ret ?_
  refine ⟨.inl rfl, ⟨⟨_, rfl, ?_⟩, fun ob hob => ?_⟩⟩
  simp only [look, reduceIte, Nat.reduceEqDiff]
  rotate_left
  cases hob
  · have e2 : n / 65536 / 256 = n / 16777216 := by omega
    have e3 : n % 65536 / 256 = n / 256 % 256 := by omega
    have e4 : n % 65536 % 256 = n % 256 := by omega
    rw [e2, e3, e4, List.append_assoc]
    rfl
  · exact sub1_of rfl
def e90 : List AV → Option Ob → Option Res := fun args i => match args, i with
  | [.ptr 0 0, .d true (.v (.int .u32 n))], some (.buf 134 5 1 xs) => some ⟨xs = ints .u8 (toInts xs) ∧ (toInts xs).length ≤ 999999999990 ∧ 0 ≤ n ∧ n < 4294967296, .ptr 0 0, some (.buf 134 5 1 (ints .u8 (toInts xs ++ b4 n)))⟩
  | _, _ => none
def F22 : FT := F21.upd 90 e90
theorem F22_ok : FOK Try.prog F22 := FOK.upd F21_ok Try.func90 (by kernel_rfl) rfl fun args i R h => by
  unfold e90 at h
  split at h
  · cases h
    refine Spec.pre fun h => ?_
    have := s90 _ h.2.1 _ h.2.2.1 h.2.2.2
    rw [← h.1] at this
    exact this
  · cases h


/-! ### (*word.Writer).Done -/
theorem s91 (xs : List Int) (hb : Byt xs) (hl : xs.length ≤ 1099511627776) : Spec Try.prog 91 [.ptr 0 0] (some (.buf 134 5 1 (ints .u8 xs))) ⟨True, .d true (.sl 1 (ints .u8 xs)), some (.buf 134 5 1 (ints .u8 xs))⟩ := by
  have hf85 : F22 85 = e85 := rfl
  have hG := (Gf_ok F22_ok)
  have hfs := And.intro @hf85 @e85.eq_1
  have hxs := @Nat.add_zero
  refine spec_of_buf (Gf_ok F22_ok) (by decide) Try.func91 rfl (Nat.le_of_ble_eq_true rfl) rfl rfl ints_v rfl fun E hps hN _ => ?_
  simp only [begin, List.zipIdx_cons, List.zipIdx_nil, List.map_cons, List.map_nil, Option.toList, Nat.zero_add, Nat.reduceAdd]
  repeat refine AWP.nest ?_
  first | refine rsa hG [] [0] fun K hK => ?_ | refine rna hG [] [0] fun K hK => ?_
  repeat first | ((with_reducible refine shN ?_); refine sL ?_) | ((with_reducible refine shG ?_); refine sG ?_)
  refine Eq.mpr evalL_nil (hK _ ?_)
  clear hK K
  simp only [evU, St.keep, List.map_cons, look, reduceIte, Nat.reduceEqDiff]
  try show AWP _ _ _ _ _
  repeat refine AWP.nest ?_
  first | refine rsa hG [] [0, 4] fun K hK => ?_ | refine rna hG [] [0, 4] fun K hK => ?_
  repeat first | ((with_reducible refine shN ?_); refine sL ?_) | ((with_reducible refine shG ?_); refine sG ?_)
  refine Eq.mpr evalL_nil (hK _ ?_)
  clear hK K
  simp only [evU, St.keep, List.map_cons, look, reduceIte, Nat.reduceEqDiff]
  try show AWP _ _ _ _ _
  repeat refine AWP.nest ?_
  first | refine AWP.seq (AWP.cond (b := _) rfl (fun hc => ?_) (fun hc => ?_)) | refine AWP.cond (b := _) rfl (fun hc => ?_) (fun hc => ?_)
  all_goals try simp only [evC] at hc
  · cases hc
  · refine AWP.skip ?_
    show AWP _ _ _ _ _
    repeat refine AWP.nest ?_
    first | refine rsa hG [] [2] fun K hK => ?_ | refine rna hG [] [2] fun K hK => ?_
    repeat first | ((with_reducible refine shN ?_); refine sL ?_) | ((with_reducible refine shG ?_); refine sG ?_)
    refine Eq.mpr evalL_nil (hK _ ?_)
    clear hK K
    simp only [evU, St.keep, List.map_cons, look, reduceIte, Nat.reduceEqDiff]
    try show AWP _ _ _ _ _
    refine AWP.frz 2 (by rw [hps]; decide) rfl ?_
    simp only [St.frz, Ob.frz, AV.frz, AV.frz1, Option.map_none, mkAgg, datas, Dat.nagg, List.map_cons, List.map_nil, Option.map_some, and_self, true_and, and_true, reduceIte, Nat.reduceEqDiff, List.set_cons_zero, List.set_cons_succ, Bool.and_true, Bool.true_and]
    refine AWP.ret ?_
    exact ⟨.inl rfl, ⟨⟨_, rfl, sub1_of rfl⟩, fun ob hob => by cases hob⟩, _, _, rfl, rfl⟩
def e91 : List AV → Option Ob → Option Res := fun args i => match args, i with
  | [.ptr 0 0], some (.buf 134 5 1 xs) => some ⟨IsB xs ∧ (toInts xs).length ≤ 1099511627776, .d true (.sl 1 (ints .u8 (toInts xs))), some (.buf 134 5 1 (ints .u8 (toInts xs)))⟩
  | _, _ => none
def F23 : FT := F22.upd 91 e91
theorem F23_ok : FOK Try.prog F23 := FOK.upd F22_ok Try.func91 (by kernel_rfl) rfl fun args i R h => by
  unfold e91 at h
  split at h
  · cases h
    refine Spec.pre fun h => ?_
    obtain ⟨l, rfl, hb⟩ := h.1.elim
    rw [toInts_ints] at h ⊢
    exact s91 l hb h.2
  · cases h


/-! ### (*word.Reader).Bad -/
theorem s93 (l : List Int) (p : Int) (bad : Bool) : Spec Try.prog 93 [.ptr 0 0] (some (.cells 174 [.d false (.sl 1 (ints .u8 l)), .d true (.v (.int .i64 p)), .d true (.v (.bool bad))]))
      ⟨True, .d true (.v (.bool bad)), some (.cells 174 [.d false (.sl 1 (ints .u8 l)), .d true (.v (.int .i64 p)), .d true (.v (.bool bad))])⟩ := by
  have hG := (Gf_ok F23_ok)
  have hfs := @Nat.add_zero
  have hxs := @Nat.add_zero
  refine spec_of_awp (Gf_ok F23_ok) Try.func93 rfl (Nat.le_of_ble_eq_true rfl) fun E hps hN _ => ?_
  simp only [begin, List.zipIdx_cons, List.zipIdx_nil, List.map_cons, List.map_nil, Option.toList, Nat.zero_add, Nat.reduceAdd]
  repeat refine AWP.nest ?_
  first | refine rsa hG [] [0] fun K hK => ?_ | refine rna hG [] [0] fun K hK => ?_
  repeat first | ((with_reducible refine shN ?_); refine sL ?_) | ((with_reducible refine shG ?_); refine sG ?_)
  refine Eq.mpr evalL_nil (hK _ ?_)
  clear hK K
  simp only [evU, St.keep, List.map_cons, look, reduceIte, Nat.reduceEqDiff]
  try show AWP _ _ _ _ _
  repeat refine AWP.nest ?_
  first | refine rsa hG [] [2] fun K hK => ?_ | refine rna hG [] [2] fun K hK => ?_
  repeat first | ((with_reducible refine shN ?_); refine sL ?_) | ((with_reducible refine shG ?_); refine sG ?_)
  refine Eq.mpr evalL_nil (hK _ ?_)
  clear hK K
  simp only [evU, St.keep, List.map_cons, look, reduceIte, Nat.reduceEqDiff]
  try show AWP _ _ _ _ _
  refine AWP.ret ?_
  refine ⟨.inl rfl, ⟨⟨_, rfl, ?_⟩, fun ob hob => ?_⟩⟩
  simp only [look, reduceIte, Nat.reduceEqDiff]
  rotate_left
  cases hob
  · rfl
  · exact sub1_of rfl
def e93 : List AV → Option Ob → Option Res := fun args i => match args, i with
  | [.ptr 0 0], some (.cells 174 [.d false (.sl 1 xs), .d true (.v (.int .i64 p)), .d true (.v (.bool bad))]) =>
    some ⟨xs = ints .u8 (toInts xs), .d true (.v (.bool bad)), some (.cells 174 [.d false (.sl 1 (ints .u8 (toInts xs))), .d true (.v (.int .i64 p)), .d true (.v (.bool bad))])⟩
  | _, _ => none
def F24 : FT := F23.upd 93 e93
theorem F24_ok : FOK Try.prog F24 := FOK.upd F23_ok Try.func93 (by kernel_rfl) rfl fun args i R h => by
  unfold e93 at h
  split at h
  · rename_i xs p bad
    cases h
    refine Spec.pre fun h => ?_
    have := s93 (toInts xs) p bad
    rw [← h] at this ⊢
    exact this
  · cases h
end Go.AM

