/- AM: strings.Compare; sfnt.Build's comparison. -/
import Derived.Test.YtmfobkiljlepjaaC80
import Derived.Lib.Strings
import Derived.Lib.Slices
import Derived.Lib.Walk
import Derived.Lib.Bytealg
set_option maxRecDepth 100000
set_option maxHeartbeats 8000000
set_option linter.unusedSimpArgs false
set_option linter.unusedVariables false
namespace Go.AM
open Go Go.Proofs

/-- Which string is the lesser. -/
def cmpB (a b : ByteArray) : Int := Lib.compareBytes a.data.toList b.data.toList
theorem calls129 (a b : ByteArray) (w : World) :
    Calls Try.prog 129 #[.string a, .string b] w fun e w' => e = .returned (.int .i64 (cmpB a b)) ∧ w' = w := by
  go_enter Try.func129, Try.ntmps129
  go_wp2
  rw [run_callFunc_extern Try.func132 (by kernel_rfl) (by kernel_rfl) (by kernel_rfl) (e := Extern.BytealgCompare.compare) (by kernel_rfl), Lib.run_compareString]
  simp only [Result.andThen]
  rw [Oper.upon_value]
  go_wp2
  go_ret
  exact ⟨rfl, rfl⟩
theorem s129 (a b : ByteArray) : Spec Try.prog 129 [.d true (.v (.string a)), .d true (.v (.string b))] none ⟨True, .d true (.v (.int .i64 (cmpB a b))), none⟩ := by
  intro w old hs vals hw hv _
  unfold AV.VL at hv
  obtain ⟨v1, r1, rfl, h1, hv⟩ := hv
  unfold AV.VL at hv
  obtain ⟨v2, r2, rfl, h2, hv⟩ := hv
  unfold AV.VL at hv
  subst hv
  rw [vr_int h1, vr_int h2]
  refine (calls129 a b w).mono ?_
  rintro e w' ⟨rfl, rfl⟩
  exact ⟨_, _, hs, rfl, hw, vr_v rfl, fun ob h => by cases h⟩
def e129 : List AV → Option Ob → Option Res := fun args i => match args, i with
  | [.d true (.v (.string a)), .d true (.v (.string b))], none => some ⟨True, .d true (.v (.int .i64 (cmpB a b))), none⟩
  | _, _ => none
def F104 : FT := F103.upd 129 e129
theorem F104_ok : FOK Try.prog F104 := FOK.upd F103_ok Try.func129 (by kernel_rfl) rfl fun args i R h => by
  unfold e129 at h
  split at h
  · cases h; exact s129 _ _
  · cases h


theorem s113 (a b : ByteArray) : Spec Try.prog 113 [.d true (.v (.string a)), .d true (.v (.string b))] none ⟨True, .d true (.v (.int .i64 (cmpB a b))), none⟩ := by
  have hf129 : F104 129 = e129 := rfl
  have hG := (Gf_ok F104_ok)
  have hfs := And.intro @hf129 (And.intro @e129.eq_1 @evP)
  have hxs := @Nat.add_zero
  refine spec_of_awp (Gf_ok F104_ok) Try.func113 rfl (Nat.le_of_ble_eq_true rfl) fun E hps hN _ => ?_
  simp only [begin, List.zipIdx_cons, List.zipIdx_nil, List.map_cons, List.map_nil, Option.toList, Nat.zero_add, Nat.reduceAdd]
  repeat refine AWP.nest ?_
  first | refine rsa hG [] [0, 1] fun K hK => ?_ | refine rna hG [] [0, 1] fun K hK => ?_
  repeat first | ((with_reducible refine shN ?_); refine sL ?_) | ((with_reducible refine shG ?_); refine sG ?_)
  refine Eq.mpr evalL_nil (hK _ ?_)
  clear hK K
  simp only [evU, St.keep, List.map_cons, look, reduceIte, Nat.reduceEqDiff]
  try show AWP _ _ _ _ _
  repeat refine AWP.nest ?_
  first | refine rsa hG [] [4] fun K hK => ?_ | refine rna hG [] [4] fun K hK => ?_
  repeat first | ((with_reducible refine shN ?_); refine sL ?_) | ((with_reducible refine shG ?_); refine sG ?_)
  refine Eq.mpr evalL_nil (hK _ ?_)
  clear hK K
  simp only [evU, St.keep, List.map_cons, look, reduceIte, Nat.reduceEqDiff]
  try show AWP _ _ _ _ _
  refine AWP.ret ?_
  refine ⟨.inl rfl, ⟨⟨_, rfl, ?_⟩, fun ob hob => by cases hob⟩⟩
  simp only [look, reduceIte, Nat.reduceEqDiff]
  exact sub1_of rfl
def e113 : List AV → Option Ob → Option Res := fun args i => match args, i with
  | [.d true (.v (.string a)), .d true (.v (.string b))], none => some ⟨True, .d true (.v (.int .i64 (cmpB a b))), none⟩
  | _, _ => none
def F105 : FT := F104.upd 113 e113
theorem F105_ok : FOK Try.prog F105 := FOK.upd F104_ok Try.func113 (by kernel_rfl) rfl fun args i R h => by
  unfold e113 at h
  split at h
  · cases h; exact s113 _ _
  · cases h

/-! ### tables -/
/-- Tables: a tag, and data. -/
abbrev Tb := ByteArray × List Int
def tb (t : Tb) : Dat := .agg [.v (.string t.1), .sl 1 (ints .u8 t.2)]
def tbs (l : List Tb) : List Dat := l.map tb
def untb : Dat → Tb
  | .agg [.v (.string s), .sl 1 xs] => (s, toInts xs)
  | _ => (⟨#[]⟩, [])
def toTbs (xs : List Dat) : List Tb := xs.map untb
theorem toTbs_tbs {l : List Tb} : toTbs (tbs l) = l := by
  induction l with
  | nil => rfl
  | cons a l ih =>
    simp only [toTbs, tbs, List.map_cons, List.cons.injEq] at ih ⊢
    exact ⟨by simp [untb, tb, toInts_ints], ih⟩
def tb0 : Tb := (⟨#[]⟩, [])
theorem tbs_length {l : List Tb} : (tbs l).length = l.length := by simp [tbs]
theorem tbs_append {l m : List Tb} : tbs l ++ tbs m = tbs (l ++ m) := by simp [tbs]
theorem tbs_one {s : ByteArray} {p : List Int} : [Dat.agg [.v (.string s), .sl 1 (ints .u8 p)]] = tbs [(s, p)] := rfl
theorem tbs_set {l : List Tb} {n : Nat} {s : ByteArray} {p : List Int} : (tbs l).set n (.agg [.v (.string s), .sl 1 (ints .u8 p)]) = tbs (l.set n (s, p)) := by simp [tbs, List.map_set, tb]
theorem tbs_at {l : List Tb} {n : Nat} (h : n < l.length) {z : Dat} : (tbs l).getD n z = .agg [.v (.string (l.getD n tb0).1), .sl 1 (ints .u8 (l.getD n tb0).2)] := by
  rw [List.getD_eq_getElem?_getD, List.getD_eq_getElem?_getD, tbs, List.getElem?_map, List.getElem?_eq_getElem h]
  rfl
theorem evTb : type_of% (And.intro (And.intro @tbs_length @tbs_append) (And.intro @tbs_one (And.intro @tbs_set @toTbs_tbs))) := And.intro (And.intro @tbs_length @tbs_append) (And.intro @tbs_one (And.intro @tbs_set @toTbs_tbs))

theorem s112 (a b : Tb) : Spec Try.prog 112 [.d false (tb a), .d false (tb b)] none ⟨True, .d true (.v (.int .i64 (cmpB a.1 b.1))), none⟩ := by
  unfold tb
  have hf113 : F105 113 = e113 := rfl
  have hG := (Gf_ok F105_ok)
  have hfs := And.intro @hf113 (And.intro @e113.eq_1 (And.intro @evP @evTb))
  have hxs := @Nat.add_zero
  refine spec_of_awp (Gf_ok F105_ok) Try.func112 rfl (Nat.le_of_ble_eq_true rfl) fun E hps hN _ => ?_
  simp only [begin, List.zipIdx_cons, List.zipIdx_nil, List.map_cons, List.map_nil, Option.toList, Nat.zero_add, Nat.reduceAdd]
  repeat refine AWP.nest ?_
  first | refine rsa hG [] [2, 3] fun K hK => ?_ | refine rna hG [] [2, 3] fun K hK => ?_
  repeat first | ((with_reducible refine shN ?_); refine sL ?_) | ((with_reducible refine shG ?_); refine sG ?_)
  refine Eq.mpr evalL_nil (hK _ ?_)
  clear hK K
  simp only [evU, St.keep, List.map_cons, look, reduceIte, Nat.reduceEqDiff]
  try show AWP _ _ _ _ _
  repeat refine AWP.nest ?_
  first | refine rsa hG [] [4] fun K hK => ?_ | refine rna hG [] [4] fun K hK => ?_
  repeat first | ((with_reducible refine shN ?_); refine sL ?_) | ((with_reducible refine shG ?_); refine sG ?_)
  refine Eq.mpr evalL_nil (hK _ ?_)
  clear hK K
  simp only [evU, St.keep, List.map_cons, look, reduceIte, Nat.reduceEqDiff]
  try show AWP _ _ _ _ _
  refine AWP.ret ?_
  refine ⟨.inl rfl, ⟨⟨_, rfl, ?_⟩, fun ob hob => by cases hob⟩⟩
  simp only [look, reduceIte, Nat.reduceEqDiff]
  exact sub1_of rfl
def e112 : List AV → Option Ob → Option Res := fun args i => match args, i with
  | [.d false (.agg [.v (.string a), .sl 1 xs]), .d false (.agg [.v (.string b), .sl 1 ys])], none => some ⟨xs = ints .u8 (toInts xs) ∧ ys = ints .u8 (toInts ys), .d true (.v (.int .i64 (cmpB a b))), none⟩
  | _, _ => none
def F106 : FT := F105.upd 112 e112
theorem F106_ok : FOK Try.prog F106 := FOK.upd F105_ok Try.func112 (by kernel_rfl) rfl fun args i R h => by
  unfold e112 at h
  split at h
  · rename_i a xs b ys
    cases h
    refine Spec.pre fun h => ?_
    have := s112 (a, toInts xs) (b, toInts ys)
    unfold tb at this
    simp only at this
    rwa [← h.1, ← h.2] at this
  · cases h

/-! ### whole, sum -/
def headB : ByteArray := ⟨#[104, 101, 97, 100]⟩
def wholeT (t : Tb) : Bool := (t.1.toList == headB.toList) && decide (12 ≤ (t.2.length : Int))

theorem s115 (t : Tb) : Spec Try.prog 115 [.d false (tb t)] none ⟨True, .d true (.v (.bool (wholeT t))), none⟩ := by
  unfold tb
  have hG := (Gf_ok F106_ok)
  have hfs := And.intro @evP @evTb
  have hxs := @Nat.add_zero
  refine spec_of_awp (Gf_ok F106_ok) Try.func115 rfl (Nat.le_of_ble_eq_true rfl) fun E hps hN _ => ?_
  simp only [begin, List.zipIdx_cons, List.zipIdx_nil, List.map_cons, List.map_nil, Option.toList, Nat.zero_add, Nat.reduceAdd]
  repeat refine AWP.nest ?_
  first | refine rsa hG [] [1] fun K hK => ?_ | refine rna hG [] [1] fun K hK => ?_
  repeat first | ((with_reducible refine shN ?_); refine sL ?_) | ((with_reducible refine shG ?_); refine sG ?_)
  refine Eq.mpr evalL_nil (hK _ ?_)
  clear hK K
  simp only [evU, St.keep, List.map_cons, look, reduceIte, Nat.reduceEqDiff]
  try show AWP _ _ _ _ _
  repeat refine AWP.nest ?_
  first | refine rsa hG [] [2] fun K hK => ?_ | refine rna hG [] [2] fun K hK => ?_
  repeat first | ((with_reducible refine shN ?_); refine sL ?_) | ((with_reducible refine shG ?_); refine sG ?_)
  refine Eq.mpr evalL_nil (hK _ ?_)
  clear hK K
  simp only [evU, St.keep, List.map_cons, look, reduceIte, Nat.reduceEqDiff]
  try show AWP _ _ _ _ _
  refine AWP.ret ?_
  refine ⟨.inl rfl, ⟨⟨_, rfl, ?_⟩, fun ob hob => by cases hob⟩⟩
  simp only [look, reduceIte, Nat.reduceEqDiff]
  exact sub1_of rfl
def e115 : List AV → Option Ob → Option Res := fun args i => match args, i with
  | [.d false (.agg [.v (.string s), .sl 1 xs])], none => some ⟨xs = ints .u8 (toInts xs), .d true (.v (.bool (wholeT (s, toInts xs)))), none⟩
  | _, _ => none
def F107 : FT := F106.upd 115 e115
theorem F107_ok : FOK Try.prog F107 := FOK.upd F106_ok Try.func115 (by kernel_rfl) rfl fun args i R h => by
  unfold e115 at h
  split at h
  · rename_i s xs
    cases h
    refine Spec.pre fun h => ?_
    have := s115 (s, toInts xs)
    unfold tb at this
    simp only at this
    rwa [← h] at this
  · cases h
/-- A table's data, without what makes the file whole. -/
def zerT (t : Tb) : List Int := if wholeT t = true then zeroB t.2 8 4 else t.2
def sumT (t : Tb) : Int := refSum 0 (zerT t) % 4294967296
theorem zerT_byt {t : Tb} (h : Byt t.2) : Byt (zerT t) := by
  unfold zerT
  split
  · intro b hb
    unfold zeroB at hb
    obtain ⟨p, hp, rfl⟩ := List.mem_map.1 hb
    split
    · omega
    · exact h _ (List.fst_mem_of_mem_zipIdx hp)
  · exact h
theorem zerT_len (t : Tb) : (zerT t).length = t.2.length := by
  unfold zerT
  split
  · exact zeroB_length _ _ _
  · rfl

theorem s116 (s : ByteArray) (p : List Int) (hb : Byt p) (hl : p.length ≤ 1000000000000) : Spec Try.prog 116 [.d false (.agg [.v (.string s), .sl 1 (ints .u8 p)])] none ⟨True, .d true (.v (.int .u32 (sumT (s, p)))), none⟩ := by
  have hf34 : F107 34 = e34 := rfl
  have hf39 : F107 39 = e39 := rfl
  have hf115 : F107 115 = e115 := rfl
  have hG := (Gf_ok F107_ok)
  have hfs := And.intro @hf34 (And.intro @e34.eq_1 (And.intro @hf39 (And.intro @e39.eq_1 (And.intro @hf115 (And.intro @e115.eq_1 (And.intro @evP @evTb))))))
  have hxs := @Nat.add_zero
  refine spec_of_awp (Gf_ok F107_ok) Try.func116 rfl (Nat.le_of_ble_eq_true rfl) fun E hps hN _ => ?_
  simp only [begin, List.zipIdx_cons, List.zipIdx_nil, List.map_cons, List.map_nil, Option.toList, Nat.zero_add, Nat.reduceAdd]
  repeat refine AWP.nest ?_
  first | refine rsa hG [] [1] fun K hK => ?_ | refine rna hG [] [1] fun K hK => ?_
  repeat first | ((with_reducible refine shN ?_); refine sL ?_) | ((with_reducible refine shG ?_); refine sG ?_)
  refine Eq.mpr evalL_nil (hK _ ?_)
  clear hK K
  simp only [evU, St.keep, List.map_cons, look, reduceIte, Nat.reduceEqDiff]
  try show AWP _ _ _ _ _
  repeat refine AWP.nest ?_
  first | refine rsa hG [] [1, 4] fun K hK => ?_ | refine rna hG [] [1, 4] fun K hK => ?_
  repeat first | ((with_reducible refine shN ?_); refine sL ?_) | ((with_reducible refine shG ?_); refine sG ?_)
  refine Eq.mpr evalL_nil (hK _ ?_)
  clear hK K
  simp only [evU, St.keep, List.map_cons, look, reduceIte, Nat.reduceEqDiff]
  try show AWP _ _ _ _ _
  unfold sumT zerT
  have hz : Byt (zeroB p 8 4) := by
    intro b hb2
    unfold zeroB at hb2
    obtain ⟨q, hq, rfl⟩ := List.mem_map.1 hb2
    split
    · omega
    · exact hb _ (List.fst_mem_of_mem_zipIdx hq)
  have hzl : (zeroB p 8 4).length ≤ 1000000000000 := by rw [zeroB_length]; exact hl
  have hl2 : p.length ≤ 1099511627776 := by omega
  repeat refine AWP.nest ?_
  first | refine AWP.seq (AWP.cond (b := _) rfl (fun hc => ?_) (fun hc => ?_)) | refine AWP.cond (b := _) rfl (fun hc => ?_) (fun hc => ?_)
  all_goals try simp only [evC] at hc
  · rw [if_pos hc]
    repeat refine AWP.nest ?_
    first | refine rsa hG [] [2] fun K hK => ?_ | refine rna hG [] [2] fun K hK => ?_
    repeat first | ((with_reducible refine shN ?_); refine sL ?_) | ((with_reducible refine shG ?_); refine sG ?_)
    refine Eq.mpr evalL_nil (hK _ ?_)
    clear hK K
    simp only [evU, St.keep, List.map_cons, look, reduceIte, Nat.reduceEqDiff]
    try show AWP _ _ _ _ _
    refine AWP.ret ?_
    refine ⟨.inl rfl, ⟨⟨_, rfl, ?_⟩, fun ob hob => by cases hob⟩⟩
    simp only [look, reduceIte, Nat.reduceEqDiff]
    exact sub1_of rfl
  · rw [if_neg (by simp [hc])]
    refine AWP.skip ?_
    show AWP _ _ _ _ _
    repeat refine AWP.nest ?_
    first | refine rsa hG [] [2] fun K hK => ?_ | refine rna hG [] [2] fun K hK => ?_
    repeat first | ((with_reducible refine shN ?_); refine sL ?_) | ((with_reducible refine shG ?_); refine sG ?_)
    refine Eq.mpr evalL_nil (hK _ ?_)
    clear hK K
    simp only [evU, St.keep, List.map_cons, look, reduceIte, Nat.reduceEqDiff]
    try show AWP _ _ _ _ _
    refine AWP.ret ?_
    refine ⟨.inl rfl, ⟨⟨_, rfl, ?_⟩, fun ob hob => by cases hob⟩⟩
    simp only [look, reduceIte, Nat.reduceEqDiff]
    exact sub1_of rfl
def e116 : List AV → Option Ob → Option Res := fun args i => match args, i with
  | [.d false (.agg [.v (.string s), .sl 1 xs])], none => some ⟨IsB xs ∧ (toInts xs).length ≤ 1000000000000, .d true (.v (.int .u32 (sumT (s, toInts xs)))), none⟩
  | _, _ => none
def F108 : FT := F107.upd 116 e116
theorem F108_ok : FOK Try.prog F108 := FOK.upd F107_ok Try.func116 (by kernel_rfl) rfl fun args i R h => by
  unfold e116 at h
  split at h
  · rename_i s xs
    cases h
    refine Spec.pre fun h => ?_
    obtain ⟨l, rfl, hb⟩ := h.1.elim
    rw [toInts_ints] at h ⊢
    exact s116 s l hb h.2
  · cases h
end Go.AM

