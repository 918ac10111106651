/- AM: ref01.Text, ref03.Find, sfnt.Find, sfnt.Same. -/
import Derived.Test.YtmfobkiljlepjaaC94
set_option maxRecDepth 100000
set_option maxHeartbeats 8000000
set_option linter.unusedSimpArgs false
set_option linter.unusedVariables false
namespace Go.AM
open Go Go.Proofs

theorem strL_data (l : List Int) : (strL l).data.toList = l.map fun n => UInt8.ofNat n.toNat := by
  have : ∀ (l : List Int) (s : ByteArray), (l.foldl (fun r n => r.push (UInt8.ofNat n.toNat)) s).data.toList = s.data.toList ++ l.map fun n => UInt8.ofNat n.toNat := by
    intro l
    induction l with
    | nil => intro s; simp
    | cons a l ih => intro s; rw [List.foldl_cons, ih]; simp [ByteArray.push]
  unfold strL
  rw [this]
  rfl
theorem bytesL_strL {l : List Int} (hb : Byt l) : bytesL (strL l) = l := by
  unfold bytesL
  rw [strL_data, List.map_map]
  conv => rhs; rw [← List.map_id l]
  refine List.map_congr_left fun n hn => ?_
  have := hb n hn
  simp only [Function.comp, UInt8.toNat_ofNat', id]
  omega
theorem strL_eq {a b : List Int} (ha : Byt a) (hb : Byt b) : ((strL a).toList == (strL b).toList) = decide (a = b) := by
  by_cases h : a = b
  · subst h; simp
  · rw [decide_eq_false h, beq_eq_false_iff_ne]
    intro e
    rw [ByteArray.toList_eq, ByteArray.toList_eq] at e
    refine h ?_
    rw [← bytesL_strL ha, ← bytesL_strL hb]
    unfold bytesL
    rw [e]
theorem tag_eq {a b : ByteArray} : (a.toList == b.toList) = decide (a = b) := by
  by_cases h : a = b
  · subst h; simp
  · rw [decide_eq_false h, beq_eq_false_iff_ne]
    intro e
    rw [ByteArray.toList_eq, ByteArray.toList_eq] at e
    exact h (ByteArray.ext (Array.toList_inj.1 e))


/-! ### bytes.Equal -/
theorem s119 (a b : List Int) (ha : Byt a) (hb : Byt b) : Spec Try.prog 119 [.d false (.sl 1 (ints .u8 a)), .d false (.sl 1 (ints .u8 b))] none ⟨True, .d true (.v (.bool (decide (a = b)))), none⟩ := by
  have hG := (Gf_ok F129_ok)
  have hfs := And.intro @evP @evTb
  have hxs := @Nat.add_zero
  refine spec_of_awp (Gf_ok F129_ok) Try.func119 rfl (Nat.le_of_ble_eq_true rfl) fun E hps hN _ => ?_
  simp only [begin, List.zipIdx_cons, List.zipIdx_nil, List.map_cons, List.map_nil, Option.toList, Nat.zero_add, Nat.reduceAdd]
  repeat refine AWP.nest ?_
  first | refine rsa hG [] [0, 1] fun K hK => ?_ | refine rna hG [] [0, 1] fun K hK => ?_
  repeat first | ((with_reducible refine shN ?_); refine sL ?_) | ((with_reducible refine shG ?_); refine sG ?_)
  refine Eq.mpr evalL_nil (hK _ ?_)
  clear hK K
  simp only [evU, St.keep, List.map_cons, look, reduceIte, Nat.reduceEqDiff]
  try show AWP _ _ _ _ _
  repeat refine AWP.nest ?_
  first | refine rsa hG [] [4] fun K hK => ?_ | refine rna hG [] [4] fun K hK => ?_
  repeat first | ((with_reducible refine shN ?_); refine sL ?_) | ((with_reducible refine shG ?_); refine sG ?_)
  refine Eq.mpr evalL_nil (hK _ ?_)
  clear hK K
  simp only [evU, St.keep, List.map_cons, look, reduceIte, Nat.reduceEqDiff]
  try show AWP _ _ _ _ _
  refine AWP.ret ?_
  refine ⟨.inl rfl, ⟨⟨_, rfl, ?_⟩, fun ob hob => by cases hob⟩⟩
  simp only [look, reduceIte, Nat.reduceEqDiff]
  exact sub1_of (by rw [strL_eq ha hb])
def e119 : List AV → Option Ob → Option Res := fun args i => match args, i with
  | [.d false (.sl 1 xs), .d false (.sl 1 ys)], none => some ⟨IsB xs ∧ IsB ys, .d true (.v (.bool (decide (toInts xs = toInts ys)))), none⟩
  | _, _ => none
def F130 : FT := F129.upd 119 e119
theorem F130_ok : FOK Try.prog F130 := FOK.upd F129_ok Try.func119 (by kernel_rfl) rfl fun args i R h => by
  unfold e119 at h
  split at h
  · cases h
    refine Spec.pre fun h => ?_
    obtain ⟨a, rfl, ha⟩ := h.1.elim
    obtain ⟨b, rfl, hb⟩ := h.2.elim
    rw [toInts_ints, toInts_ints]
    exact s119 a b ha hb
  · cases h
/-! ### sfnt.Same$1, slices.EqualFunc, sfnt.Same -/

theorem s118 (a b : Tb) (ha : Byt a.2) (hb : Byt b.2) : Spec Try.prog 118 [.d false (tb a), .d false (tb b)] none ⟨True, .d true (.v (.bool (decide (a = b)))), none⟩ := by
  unfold tb
  have hf119 : F130 119 = e119 := rfl
  have hG := (Gf_ok F130_ok)
  have hfs := And.intro @hf119 (And.intro @e119.eq_1 (And.intro @evP @evTb))
  have hxs := @Nat.add_zero
  refine spec_of_awp (Gf_ok F130_ok) Try.func118 rfl (Nat.le_of_ble_eq_true rfl) fun E hps hN _ => ?_
  simp only [begin, List.zipIdx_cons, List.zipIdx_nil, List.map_cons, List.map_nil, Option.toList, Nat.zero_add, Nat.reduceAdd]
  repeat refine AWP.nest ?_
  first | refine rsa hG [] [2, 3] fun K hK => ?_ | refine rna hG [] [2, 3] fun K hK => ?_
  repeat first | ((with_reducible refine shN ?_); refine sL ?_) | ((with_reducible refine shG ?_); refine sG ?_)
  refine Eq.mpr evalL_nil (hK _ ?_)
  clear hK K
  simp only [evU, St.keep, List.map_cons, look, reduceIte, Nat.reduceEqDiff]
  try show AWP _ _ _ _ _
  repeat refine AWP.nest ?_
  first | refine rsa hG [] [4] fun K hK => ?_ | refine rna hG [] [4] fun K hK => ?_
  repeat first | ((with_reducible refine shN ?_); refine sL ?_) | ((with_reducible refine shG ?_); refine sG ?_)
  refine Eq.mpr evalL_nil (hK _ ?_)
  clear hK K
  simp only [evU, St.keep, List.map_cons, look, reduceIte, Nat.reduceEqDiff]
  try show AWP _ _ _ _ _
  refine AWP.ret ?_
  refine ⟨.inl rfl, ⟨⟨_, rfl, ?_⟩, fun ob hob => by cases hob⟩⟩
  simp only [look, reduceIte, Nat.reduceEqDiff]
  refine sub1_of ?_
  rw [tag_eq]
  congr 2
  obtain ⟨a1, a2⟩ := a
  obtain ⟨b1, b2⟩ := b
  simp only [Prod.mk.injEq]
  simp
def e118 : List AV → Option Ob → Option Res := fun args i => match args, i with
  | [.d false (.agg [.v (.string a), .sl 1 xs]), .d false (.agg [.v (.string b), .sl 1 ys])], none => some ⟨IsB xs ∧ IsB ys, .d true (.v (.bool (decide ((a, toInts xs) = (b, toInts ys))))), none⟩
  | _, _ => none
def F131 : FT := F130.upd 118 e118
theorem F131_ok : FOK Try.prog F131 := FOK.upd F130_ok Try.func118 (by kernel_rfl) rfl fun args i R h => by
  unfold e118 at h
  split at h
  · rename_i a xs b ys
    cases h
    refine Spec.pre fun h => ?_
    obtain ⟨p, rfl, hp⟩ := h.1.elim
    obtain ⟨q, rfl, hq⟩ := h.2.elim
    rw [toInts_ints, toInts_ints]
    exact s118 (a, p) (b, q) hp hq
  · cases h
theorem DatB.at {l : List Tb} (h : DatB l) (i : Nat) : Byt (l.getD i tb0).2 := by
  rw [List.getD_eq_getElem?_getD]
  cases e : l[i]? with
  | none => exact Byt.nil
  | some t => exact h t (List.mem_of_getElem? e)
theorem list_eq {a b : List Tb} (hl : a.length = b.length) (h : ∀ j, j < a.length → a.getD j tb0 = b.getD j tb0) : a = b := by
  apply List.ext_getElem hl
  intro j h1 h2
  have := h j h1
  rw [List.getD_eq_getElem?_getD, List.getD_eq_getElem?_getD, List.getElem?_eq_getElem h1, List.getElem?_eq_getElem h2] at this
  exact this

theorem s117 (a b : List Tb) (ha : DatB a) (hb : DatB b) : Spec Try.prog 117 [.d false (.sl 2 (tbs a)), .d false (.sl 2 (tbs b)), .fn 118 []] none ⟨True, .d true (.v (.bool (decide (a = b)))), none⟩ := by
  have hG := (Gf_ok F131_ok)
  have hfs := And.intro (@id (F131 118 = e118) rfl) (And.intro @e118.eq_1 (And.intro @evP @evTb))
  have hxs := @Nat.add_zero
  refine spec_of_awp (Gf_ok F131_ok) Try.func117 rfl (Nat.le_of_ble_eq_true rfl) fun E hps hN _ => ?_
  simp only [begin, List.zipIdx_cons, List.zipIdx_nil, List.map_cons, List.map_nil, Option.toList, Nat.zero_add, Nat.reduceAdd]
  repeat refine AWP.nest ?_
  first | refine rsa hG [] [0, 1, 2] fun K hK => ?_ | refine rna hG [] [0, 1, 2] fun K hK => ?_
  repeat first | ((with_reducible refine shN ?_); refine sL ?_) | ((with_reducible refine shG ?_); refine sG ?_)
  refine Eq.mpr evalL_nil (hK _ ?_)
  clear hK K
  simp only [evU, St.keep, List.map_cons, look, reduceIte, Nat.reduceEqDiff]
  try show AWP _ _ _ _ _
  repeat refine AWP.nest ?_
  first | refine rsa hG [] [0, 1, 2, 14] fun K hK => ?_ | refine rna hG [] [0, 1, 2, 14] fun K hK => ?_
  repeat first | ((with_reducible refine shN ?_); refine sL ?_) | ((with_reducible refine shG ?_); refine sG ?_)
  refine Eq.mpr evalL_nil (hK _ ?_)
  clear hK K
  simp only [evU, St.keep, List.map_cons, look, reduceIte, Nat.reduceEqDiff]
  try show AWP _ _ _ _ _
  refine AWP.len 0 rfl fun hlen => ?_
  rw [tbs_length] at hlen
  repeat refine AWP.nest ?_
  first | refine AWP.seq (AWP.cond (b := _) rfl (fun hc => ?_) (fun hc => ?_)) | refine AWP.cond (b := _) rfl (fun hc => ?_) (fun hc => ?_)
  all_goals try simp only [evC] at hc
  · have hne : a ≠ b := fun e => by subst e; exact hc rfl
    rw [decide_eq_false hne]
    repeat refine AWP.nest ?_
    first | refine rsa hG [] [6] fun K hK => ?_ | refine rna hG [] [6] fun K hK => ?_
    repeat first | ((with_reducible refine shN ?_); refine sL ?_) | ((with_reducible refine shG ?_); refine sG ?_)
    refine Eq.mpr evalL_nil (hK _ ?_)
    clear hK K
    simp only [evU, St.keep, List.map_cons, look, reduceIte, Nat.reduceEqDiff]
    try show AWP _ _ _ _ _
    refine AWP.ret ?_
    refine ⟨.inl rfl, ⟨⟨_, rfl, ?_⟩, fun ob hob => by cases hob⟩⟩
    simp only [look, reduceIte, Nat.reduceEqDiff]
    exact sub1_of rfl
  refine AWP.skip ?_
  show AWP _ _ _ _ _
  have hl : a.length = b.length := by omega
  clear hc
  repeat refine AWP.nest ?_
  first | refine rsa hG [] [1, 2, 15, 16, 17] fun K hK => ?_ | refine rna hG [] [1, 2, 15, 16, 17] fun K hK => ?_
  repeat first | ((with_reducible refine shN ?_); refine sL ?_) | ((with_reducible refine shG ?_); refine sG ?_)
  refine Eq.mpr evalL_nil (hK _ ?_)
  clear hK K
  simp only [evU, St.keep, List.map_cons, look, reduceIte, Nat.reduceEqDiff]
  try show AWP _ _ _ _ _
  repeat refine AWP.nest ?_
  first | refine AWP.seq (AWP.block ?_) | refine AWP.block ?_
  refine AWP.loop (fun k st => ∃ (i : Nat), i ≤ a.length ∧ k = a.length - i ∧ (∀ j, j < i → a.getD j tb0 = b.getD j tb0) ∧ st = ⟨[(1, .d false (.sl 2 (tbs b))), (2, .fn 118 []), (15, .d false (.sl 2 (tbs a))), (16, .d true (.v (.int .i64 (a.length : Int)))), (17, .d true (.v (.int .i64 (i : Int))))], []⟩) (a.length) ?_ ?_
  · exact ⟨0, Nat.zero_le _, rfl, fun j h => absurd h (Nat.not_lt_zero j), rfl⟩
  rintro k st ⟨i, hi, hk, hj, rfl⟩
  repeat refine AWP.nest ?_
  first | refine rsa hG [] [1, 2, 15, 16, 17, 18] fun K hK => ?_ | refine rna hG [] [1, 2, 15, 16, 17, 18] fun K hK => ?_
  repeat first | ((with_reducible refine shN ?_); refine sL ?_) | ((with_reducible refine shG ?_); refine sG ?_)
  refine Eq.mpr evalL_nil (hK _ ?_)
  clear hK K
  simp only [evU, St.keep, List.map_cons, look, reduceIte, Nat.reduceEqDiff]
  try show AWP _ _ _ _ _
  first | refine AWP.seq (AWP.cond (b := _) rfl (fun hc => ?_) (fun hc => ?_)) | refine AWP.cond (b := _) rfl (fun hc => ?_) (fun hc => ?_)
  rotate_left
  · refine AWP.exit ?_
    show AWP _ _ _ _ _
    simp only [evC, Int.not_lt] at hc
    have heq : a = b := list_eq hl fun j hj' => hj j (by omega)
    rw [decide_eq_true heq]
    repeat refine AWP.nest ?_
    first | refine rsa hG [] [6] fun K hK => ?_ | refine rna hG [] [6] fun K hK => ?_
    repeat first | ((with_reducible refine shN ?_); refine sL ?_) | ((with_reducible refine shG ?_); refine sG ?_)
    refine Eq.mpr evalL_nil (hK _ ?_)
    clear hK K
    simp only [evU, St.keep, List.map_cons, look, reduceIte, Nat.reduceEqDiff]
    try show AWP _ _ _ _ _
    refine AWP.ret ?_
    refine ⟨.inl rfl, ⟨⟨_, rfl, ?_⟩, fun ob hob => by cases hob⟩⟩
    simp only [look, reduceIte, Nat.reduceEqDiff]
    exact sub1_of rfl
  simp only [evC, Int.not_lt] at hc
  refine AWP.skip ?_
  show AWP _ _ _ _ _
  have hi' : i < a.length := by omega
  clear hc
  have hat : ∀ z, (tbs a).getD i z = .agg [.v (.string (a.getD i tb0).1), .sl 1 (ints .u8 (a.getD i tb0).2)] := fun z => tbs_at hi'
  have hbt : ∀ z, (tbs b).getD i z = .agg [.v (.string (b.getD i tb0).1), .sl 1 (ints .u8 (b.getD i tb0).2)] := fun z => tbs_at (by omega)
  have hba := ha.at i
  have hbb := hb.at i
  repeat refine AWP.nest ?_
  first | refine AWP.seq (AWP.block ?_) | refine AWP.block ?_
  repeat refine AWP.nest ?_
  have hxs := @hat
  first | refine rsa hG [] [1, 2, 7, 8, 15, 16, 17] fun K hK => ?_ | refine rna hG [] [1, 2, 7, 8, 15, 16, 17] fun K hK => ?_
  repeat first | ((with_reducible refine shN ?_); refine sL ?_) | ((with_reducible refine shG ?_); refine sG ?_)
  refine Eq.mpr evalL_nil (hK _ ?_)
  clear hK K hxs
  simp only [evU, St.keep, List.map_cons, look, reduceIte, Nat.reduceEqDiff]
  try show AWP _ _ _ _ _
  repeat refine AWP.nest ?_
  have hxs := @hbt
  first | refine rsa hG [] [1, 2, 8, 9, 15, 16, 17] fun K hK => ?_ | refine rna hG [] [1, 2, 8, 9, 15, 16, 17] fun K hK => ?_
  repeat first | ((with_reducible refine shN ?_); refine sL ?_) | ((with_reducible refine shG ?_); refine sG ?_)
  refine Eq.mpr evalL_nil (hK _ ?_)
  clear hK K hxs
  simp only [evU, St.keep, List.map_cons, look, reduceIte, Nat.reduceEqDiff]
  try show AWP _ _ _ _ _
  repeat refine AWP.nest ?_
  first | refine rsa hG [] [1, 2, 15, 16, 17, 30] fun K hK => ?_ | refine rna hG [] [1, 2, 15, 16, 17, 30] fun K hK => ?_
  repeat first | ((with_reducible refine shN ?_); refine sL ?_) | ((with_reducible refine shG ?_); refine sG ?_)
  refine Eq.mpr evalL_nil (hK _ ?_)
  clear hK K
  simp only [evU, St.keep, List.map_cons, look, reduceIte, Nat.reduceEqDiff]
  try show AWP _ _ _ _ _
  repeat refine AWP.nest ?_
  first | refine AWP.seq (AWP.cond (b := _) rfl (fun hc => ?_) (fun hc => ?_)) | refine AWP.cond (b := _) rfl (fun hc => ?_) (fun hc => ?_)
  all_goals try simp only [evC] at hc
  · have hne : a ≠ b := fun e => by
      rw [← e] at hc
      simp at hc
    rw [decide_eq_false hne]
    repeat refine AWP.nest ?_
    first | refine rsa hG [] [6] fun K hK => ?_ | refine rna hG [] [6] fun K hK => ?_
    repeat first | ((with_reducible refine shN ?_); refine sL ?_) | ((with_reducible refine shG ?_); refine sG ?_)
    refine Eq.mpr evalL_nil (hK _ ?_)
    clear hK K
    simp only [evU, St.keep, List.map_cons, look, reduceIte, Nat.reduceEqDiff]
    try show AWP _ _ _ _ _
    refine AWP.ret ?_
    refine ⟨.inl rfl, ⟨⟨_, rfl, ?_⟩, fun ob hob => by cases hob⟩⟩
    simp only [look, reduceIte, Nat.reduceEqDiff]
    exact sub1_of rfl
  refine AWP.skip ?_
  show AWP _ _ _ _ _
  have hei : a.getD i tb0 = b.getD i tb0 := by
    have hh : (a.getD i tb0).1 = (b.getD i tb0).1 ∧ (a.getD i tb0).2 = (b.getD i tb0).2 := by simpa using hc
    exact Prod.ext hh.1 hh.2
  clear hc
  refine AWP.trunc 0 (by rw [hps]; decide) rfl ?_
  simp only [St.trunc, List.take_zero, List.take_succ_cons]
  repeat refine AWP.nest ?_
  first | refine rsa hG [] [1, 2, 15, 16, 17] fun K hK => ?_ | refine rna hG [] [1, 2, 15, 16, 17] fun K hK => ?_
  repeat first | ((with_reducible refine shN ?_); refine sL ?_) | ((with_reducible refine shG ?_); refine sG ?_)
  refine Eq.mpr evalL_nil (hK _ ?_)
  clear hK K
  simp only [evU, St.keep, List.map_cons, look, reduceIte, Nat.reduceEqDiff]
  try show AWP _ _ _ _ _
  refine ⟨a.length - (i + 1), by omega, i + 1, by omega, rfl, fun j hj' => ?_, rfl⟩
  by_cases hji : j < i
  · exact hj j hji
  · rw [show j = i by omega]; exact hei
def e117 : List AV → Option Ob → Option Res := fun args i => match args, i with
  | [.d false (.sl 2 xs), .d false (.sl 2 ys), .fn 118 []], none => some ⟨xs = tbs (toTbs xs) ∧ ys = tbs (toTbs ys) ∧ DatB (toTbs xs) ∧ DatB (toTbs ys), .d true (.v (.bool (decide (toTbs xs = toTbs ys)))), none⟩
  | _, _ => none
def F132 : FT := F131.upd 117 e117
theorem F132_ok : FOK Try.prog F132 := FOK.upd F131_ok Try.func117 (by kernel_rfl) rfl fun args i R h => by
  unfold e117 at h
  split at h
  · rename_i xs ys
    cases h
    refine Spec.pre fun h => ?_
    have := s117 (toTbs xs) (toTbs ys) h.2.2.1 h.2.2.2
    rw [← h.1, ← h.2.1] at this
    exact this
  · cases h

theorem s79 (a b : List Tb) (ha : DatB a) (hb : DatB b) : Spec Try.prog 79 [.d false (.sl 2 (tbs a)), .d false (.sl 2 (tbs b))] none ⟨True, .d true (.v (.bool (decide (a = b)))), none⟩ := by
  have hf117 : F132 117 = e117 := rfl
  have hG := (Gf_ok F132_ok)
  have hfs := And.intro @hf117 (And.intro @e117.eq_1 (And.intro @evP @evTb))
  have hxs := @Nat.add_zero
  refine spec_of_awp (Gf_ok F132_ok) Try.func79 rfl (Nat.le_of_ble_eq_true rfl) fun E hps hN _ => ?_
  simp only [begin, List.zipIdx_cons, List.zipIdx_nil, List.map_cons, List.map_nil, Option.toList, Nat.zero_add, Nat.reduceAdd]
  repeat refine AWP.nest ?_
  first | refine rsa hG [] [0, 1] fun K hK => ?_ | refine rna hG [] [0, 1] fun K hK => ?_
  repeat first | ((with_reducible refine shN ?_); refine sL ?_) | ((with_reducible refine shG ?_); refine sG ?_)
  refine Eq.mpr evalL_nil (hK _ ?_)
  clear hK K
  simp only [evU, St.keep, List.map_cons, look, reduceIte, Nat.reduceEqDiff]
  try show AWP _ _ _ _ _
  repeat refine AWP.nest ?_
  first | refine rsa hG [] [4] fun K hK => ?_ | refine rna hG [] [4] fun K hK => ?_
  repeat first | ((with_reducible refine shN ?_); refine sL ?_) | ((with_reducible refine shG ?_); refine sG ?_)
  refine Eq.mpr evalL_nil (hK _ ?_)
  clear hK K
  simp only [evU, St.keep, List.map_cons, look, reduceIte, Nat.reduceEqDiff]
  try show AWP _ _ _ _ _
  refine AWP.ret ?_
  refine ⟨.inl rfl, ⟨⟨_, rfl, ?_⟩, fun ob hob => by cases hob⟩⟩
  simp only [look, reduceIte, Nat.reduceEqDiff]
  exact sub1_of rfl
def e79 : List AV → Option Ob → Option Res := fun args i => match args, i with
  | [.d false (.sl 2 xs), .d false (.sl 2 ys)], none => some ⟨xs = tbs (toTbs xs) ∧ ys = tbs (toTbs ys) ∧ DatB (toTbs xs) ∧ DatB (toTbs ys), .d true (.v (.bool (decide (toTbs xs = toTbs ys)))), none⟩
  | _, _ => none
def F133 : FT := F132.upd 79 e79
theorem F133_ok : FOK Try.prog F133 := FOK.upd F132_ok Try.func79 (by kernel_rfl) rfl fun args i R h => by
  unfold e79 at h
  split at h
  · rename_i xs ys
    cases h
    refine Spec.pre fun h => ?_
    have := s79 (toTbs xs) (toTbs ys) h.2.2.1 h.2.2.2
    rw [← h.1, ← h.2.1] at this
    exact this
  · cases h
/-! ### ref01.Text, ref03.Find -/
def txtS (s : ByteArray) (n : Int) : ByteArray := cutS s 0 (minI s.size n)

theorem s75 (s : ByteArray) (n : Int) (hn : 0 ≤ n) : Spec Try.prog 75 [.d true (.v (.string s)), .d true (.v (.int .i64 n))] none ⟨True, .d true (.v (.string (txtS s n))), none⟩ := by
  have hG := (Gf_ok F133_ok)
  have hfs := And.intro @evP @evTb
  have hxs := @Nat.add_zero
  refine spec_of_awp (Gf_ok F133_ok) Try.func75 rfl (Nat.le_of_ble_eq_true rfl) fun E hps hN _ => ?_
  simp only [begin, List.zipIdx_cons, List.zipIdx_nil, List.map_cons, List.map_nil, Option.toList, Nat.zero_add, Nat.reduceAdd]
  have h1 : 0 ≤ minI s.size n ∧ minI s.size n ≤ s.size := by unfold minI; split <;> omega
  repeat refine AWP.nest ?_
  first | refine rsa hG [] [0, 1] fun K hK => ?_ | refine rna hG [] [0, 1] fun K hK => ?_
  repeat first | ((with_reducible refine shN ?_); refine sL ?_) | ((with_reducible refine shG ?_); refine sG ?_)
  refine Eq.mpr evalL_nil (hK _ ?_)
  clear hK K
  simp only [evU, St.keep, List.map_cons, look, reduceIte, Nat.reduceEqDiff]
  try show AWP _ _ _ _ _
  repeat refine AWP.nest ?_
  first | refine rsa hG [] [4] fun K hK => ?_ | refine rna hG [] [4] fun K hK => ?_
  repeat first | ((with_reducible refine shN ?_); refine sL ?_) | ((with_reducible refine shG ?_); refine sG ?_)
  refine Eq.mpr evalL_nil (hK _ ?_)
  clear hK K
  simp only [evU, St.keep, List.map_cons, look, reduceIte, Nat.reduceEqDiff]
  try show AWP _ _ _ _ _
  refine AWP.ret ?_
  refine ⟨.inl rfl, ⟨⟨_, rfl, ?_⟩, fun ob hob => by cases hob⟩⟩
  simp only [look, reduceIte, Nat.reduceEqDiff]
  exact sub1_of rfl
def e75 : List AV → Option Ob → Option Res := fun args i => match args, i with
  | [.d true (.v (.string s)), .d true (.v (.int .i64 n))], none => some ⟨0 ≤ n, .d true (.v (.string (txtS s n))), none⟩
  | _, _ => none
def F134 : FT := F133.upd 75 e75
theorem F134_ok : FOK Try.prog F134 := FOK.upd F133_ok Try.func75 (by kernel_rfl) rfl fun args i R h => by
  unfold e75 at h
  split at h
  · cases h
    exact Spec.pre fun h => s75 _ _ h
  · cases h
theorem find_drop {s : ByteArray} {l : List Tb} {i : Nat} (h : i < l.length) : findT s (l.drop i) (i : Int) = if ((l.getD i tb0).1.toList == s.toList) = true then (i : Int) else findT s (l.drop (i + 1)) ((i + 1 : Nat) : Int) := by
  rw [List.drop_eq_getElem_cons h, findT, List.getD_eq_getElem?_getD, List.getElem?_eq_getElem h]
  rfl

theorem s77 (l : List Tb) (s : ByteArray) : Spec Try.prog 77 [.d false (.sl 2 (tbs l)), .d true (.v (.string s))] none ⟨True, .d true (.v (.int .i64 (findT s l 0))), none⟩ := by
  have hG := (Gf_ok F134_ok)
  have hfs := And.intro @evP @evTb
  have hxs := @Nat.add_zero
  refine spec_of_awp (Gf_ok F134_ok) Try.func77 rfl (Nat.le_of_ble_eq_true rfl) fun E hps hN _ => ?_
  simp only [begin, List.zipIdx_cons, List.zipIdx_nil, List.map_cons, List.map_nil, Option.toList, Nat.zero_add, Nat.reduceAdd]
  obtain ⟨W, hW⟩ : ∃ W, findT s l 0 = W := ⟨_, rfl⟩
  rw [hW]
  repeat refine AWP.nest ?_
  first | refine rsa hG [] [0, 1] fun K hK => ?_ | refine rna hG [] [0, 1] fun K hK => ?_
  repeat first | ((with_reducible refine shN ?_); refine sL ?_) | ((with_reducible refine shG ?_); refine sG ?_)
  refine Eq.mpr evalL_nil (hK _ ?_)
  clear hK K
  simp only [evU, St.keep, List.map_cons, look, reduceIte, Nat.reduceEqDiff]
  try show AWP _ _ _ _ _
  repeat refine AWP.nest ?_
  first | refine rsa hG [] [1, 7, 8, 9] fun K hK => ?_ | refine rna hG [] [1, 7, 8, 9] fun K hK => ?_
  repeat first | ((with_reducible refine shN ?_); refine sL ?_) | ((with_reducible refine shG ?_); refine sG ?_)
  refine Eq.mpr evalL_nil (hK _ ?_)
  clear hK K
  simp only [evU, St.keep, List.map_cons, look, reduceIte, Nat.reduceEqDiff]
  try show AWP _ _ _ _ _
  refine AWP.len 7 rfl fun hlen => ?_
  rw [tbs_length] at hlen
  repeat refine AWP.nest ?_
  first | refine AWP.seq (AWP.block ?_) | refine AWP.block ?_
  refine AWP.loop (fun k st => ∃ (i : Nat), i ≤ l.length ∧ k = l.length - i ∧ findT s (l.drop i) (i : Int) = W ∧ st = ⟨[(1, .d true (.v (.string s))), (7, .d false (.sl 2 (tbs l))), (8, .d true (.v (.int .i64 (l.length : Int)))), (9, .d true (.v (.int .i64 (i : Int))))], []⟩) (l.length) ?_ ?_
  · exact ⟨0, Nat.zero_le _, rfl, hW, rfl⟩
  rintro k st ⟨i, hi, hk, hf, rfl⟩
  repeat refine AWP.nest ?_
  first | refine rsa hG [] [1, 7, 8, 9, 10] fun K hK => ?_ | refine rna hG [] [1, 7, 8, 9, 10] fun K hK => ?_
  repeat first | ((with_reducible refine shN ?_); refine sL ?_) | ((with_reducible refine shG ?_); refine sG ?_)
  refine Eq.mpr evalL_nil (hK _ ?_)
  clear hK K
  simp only [evU, St.keep, List.map_cons, look, reduceIte, Nat.reduceEqDiff]
  try show AWP _ _ _ _ _
  first | refine AWP.seq (AWP.cond (b := _) rfl (fun hc => ?_) (fun hc => ?_)) | refine AWP.cond (b := _) rfl (fun hc => ?_) (fun hc => ?_)
  rotate_left
  · refine AWP.exit ?_
    show AWP _ _ _ _ _
    simp only [evC, Int.not_lt] at hc
    rw [List.drop_eq_nil_of_le (by omega)] at hf
    rw [← hf]
    repeat refine AWP.nest ?_
    first | refine rsa hG [] [4] fun K hK => ?_ | refine rna hG [] [4] fun K hK => ?_
    repeat first | ((with_reducible refine shN ?_); refine sL ?_) | ((with_reducible refine shG ?_); refine sG ?_)
    refine Eq.mpr evalL_nil (hK _ ?_)
    clear hK K
    simp only [evU, St.keep, List.map_cons, look, reduceIte, Nat.reduceEqDiff]
    try show AWP _ _ _ _ _
    refine AWP.ret ?_
    refine ⟨.inl rfl, ⟨⟨_, rfl, ?_⟩, fun ob hob => by cases hob⟩⟩
    simp only [look, reduceIte, Nat.reduceEqDiff]
    exact sub1_of rfl
  simp only [evC, Int.not_lt] at hc
  refine AWP.skip ?_
  show AWP _ _ _ _ _
  have hi' : i < l.length := by omega
  clear hc
  rw [find_drop hi'] at hf
  have hat : ∀ z, (tbs l).getD i z = .agg [.v (.string (l.getD i tb0).1), .sl 1 (ints .u8 (l.getD i tb0).2)] := fun z => tbs_at hi'
  repeat refine AWP.nest ?_
  first | refine AWP.seq (AWP.block ?_) | refine AWP.block ?_
  repeat refine AWP.nest ?_
  have hxs := @hat
  first | refine rsa hG [] [1, 5, 6, 7, 8, 9] fun K hK => ?_ | refine rna hG [] [1, 5, 6, 7, 8, 9] fun K hK => ?_
  repeat first | ((with_reducible refine shN ?_); refine sL ?_) | ((with_reducible refine shG ?_); refine sG ?_)
  refine Eq.mpr evalL_nil (hK _ ?_)
  clear hK K hxs
  simp only [evU, St.keep, List.map_cons, look, reduceIte, Nat.reduceEqDiff]
  try show AWP _ _ _ _ _
  repeat refine AWP.nest ?_
  first | refine rsa hG [] [1, 5, 7, 8, 9, 17] fun K hK => ?_ | refine rna hG [] [1, 5, 7, 8, 9, 17] fun K hK => ?_
  repeat first | ((with_reducible refine shN ?_); refine sL ?_) | ((with_reducible refine shG ?_); refine sG ?_)
  refine Eq.mpr evalL_nil (hK _ ?_)
  clear hK K
  simp only [evU, St.keep, List.map_cons, look, reduceIte, Nat.reduceEqDiff]
  try show AWP _ _ _ _ _
  repeat refine AWP.nest ?_
  first | refine AWP.seq (AWP.cond (b := _) rfl (fun hc => ?_) (fun hc => ?_)) | refine AWP.cond (b := _) rfl (fun hc => ?_) (fun hc => ?_)
  all_goals try simp only [evC] at hc
  · rw [if_pos (by rw [beq_iff_eq]; exact hc)] at hf
    rw [← hf]
    repeat refine AWP.nest ?_
    first | refine rsa hG [] [4] fun K hK => ?_ | refine rna hG [] [4] fun K hK => ?_
    repeat first | ((with_reducible refine shN ?_); refine sL ?_) | ((with_reducible refine shG ?_); refine sG ?_)
    refine Eq.mpr evalL_nil (hK _ ?_)
    clear hK K
    simp only [evU, St.keep, List.map_cons, look, reduceIte, Nat.reduceEqDiff]
    try show AWP _ _ _ _ _
    refine AWP.ret ?_
    refine ⟨.inl rfl, ⟨⟨_, rfl, ?_⟩, fun ob hob => by cases hob⟩⟩
    simp only [look, reduceIte, Nat.reduceEqDiff]
    exact sub1_of rfl
  refine AWP.skip ?_
  show AWP _ _ _ _ _
  rw [if_neg (by rw [beq_iff_eq]; exact hc)] at hf
  clear hc
  refine AWP.trunc 0 (by rw [hps]; decide) rfl ?_
  simp only [St.trunc, List.take_zero, List.take_succ_cons]
  repeat refine AWP.nest ?_
  first | refine rsa hG [] [1, 7, 8, 9] fun K hK => ?_ | refine rna hG [] [1, 7, 8, 9] fun K hK => ?_
  repeat first | ((with_reducible refine shN ?_); refine sL ?_) | ((with_reducible refine shG ?_); refine sG ?_)
  refine Eq.mpr evalL_nil (hK _ ?_)
  clear hK K
  simp only [evU, St.keep, List.map_cons, look, reduceIte, Nat.reduceEqDiff]
  try show AWP _ _ _ _ _
  exact ⟨l.length - (i + 1), by omega, i + 1, by omega, rfl, hf, rfl⟩
def e77 : List AV → Option Ob → Option Res := fun args i => match args, i with
  | [.d false (.sl 2 xs), .d true (.v (.string s))], none => some ⟨xs = tbs (toTbs xs), .d true (.v (.int .i64 (findT s (toTbs xs) 0))), none⟩
  | _, _ => none
def F135 : FT := F134.upd 77 e77
theorem F135_ok : FOK Try.prog F135 := FOK.upd F134_ok Try.func77 (by kernel_rfl) rfl fun args i R h => by
  unfold e77 at h
  split at h
  · rename_i xs s
    cases h
    refine Spec.pre fun h => ?_
    have := s77 (toTbs xs) s
    rw [← h] at this
    exact this
  · cases h
/-! ### sfnt.Find -/

theorem s109 (t : Tb) (s : ByteArray) : Spec Try.prog 109 [.d false (tb t), .sel false [.v (.string s)]] none ⟨True, .d true (.v (.bool (t.1.toList == s.toList))), none⟩ := by
  unfold tb
  have hG := (Gf_ok F135_ok)
  have hfs := And.intro @evP @evTb
  have hxs := @Nat.add_zero
  refine spec_of_awp (Gf_ok F135_ok) Try.func109 rfl (Nat.le_of_ble_eq_true rfl) fun E hps hN _ => ?_
  simp only [begin, List.zipIdx_cons, List.zipIdx_nil, List.map_cons, List.map_nil, Option.toList, Nat.zero_add, Nat.reduceAdd]
  repeat refine AWP.nest ?_
  first | refine rsa hG [] [1, 2] fun K hK => ?_ | refine rna hG [] [1, 2] fun K hK => ?_
  repeat first | ((with_reducible refine shN ?_); refine sL ?_) | ((with_reducible refine shG ?_); refine sG ?_)
  refine Eq.mpr evalL_nil (hK _ ?_)
  clear hK K
  simp only [evU, St.keep, List.map_cons, look, reduceIte, Nat.reduceEqDiff]
  try show AWP _ _ _ _ _
  repeat refine AWP.nest ?_
  first | refine rsa hG [] [3] fun K hK => ?_ | refine rna hG [] [3] fun K hK => ?_
  repeat first | ((with_reducible refine shN ?_); refine sL ?_) | ((with_reducible refine shG ?_); refine sG ?_)
  refine Eq.mpr evalL_nil (hK _ ?_)
  clear hK K
  simp only [evU, St.keep, List.map_cons, look, reduceIte, Nat.reduceEqDiff]
  try show AWP _ _ _ _ _
  refine AWP.ret ?_
  refine ⟨.inl rfl, ⟨⟨_, rfl, ?_⟩, fun ob hob => by cases hob⟩⟩
  simp only [look, reduceIte, Nat.reduceEqDiff]
  exact sub1_of rfl
def e109 : List AV → Option Ob → Option Res := fun args i => match args, i with
  | [.d false (.agg [.v (.string a), .sl 1 xs]), .sel false [.v (.string s)]], none => some ⟨xs = ints .u8 (toInts xs), .d true (.v (.bool (a.toList == s.toList))), none⟩
  | _, _ => none
def F136 : FT := F135.upd 109 e109
theorem F136_ok : FOK Try.prog F136 := FOK.upd F135_ok Try.func109 (by kernel_rfl) rfl fun args i R h => by
  unfold e109 at h
  split at h
  · rename_i a xs s
    cases h
    refine Spec.pre fun h => ?_
    have := s109 (a, toInts xs) s
    unfold tb at this
    simp only at this
    rw [← h] at this
    exact this
  · cases h

theorem s108 (l : List Tb) (s : ByteArray) : Spec Try.prog 108 [.d false (.sl 2 (tbs l)), .fn 109 [.sel false [.v (.string s)]]] none ⟨True, .d true (.v (.int .i64 (findT s l 0))), none⟩ := by
  have hG := (Gf_ok F136_ok)
  have hfs := And.intro (@id (F136 109 = e109) rfl) (And.intro @e109.eq_1 (And.intro @evP @evTb))
  have hxs := @Nat.add_zero
  refine spec_of_awp (Gf_ok F136_ok) Try.func108 rfl (Nat.le_of_ble_eq_true rfl) fun E hps hN _ => ?_
  simp only [begin, List.zipIdx_cons, List.zipIdx_nil, List.map_cons, List.map_nil, Option.toList, Nat.zero_add, Nat.reduceAdd]
  obtain ⟨W, hW⟩ : ∃ W, findT s l 0 = W := ⟨_, rfl⟩
  rw [hW]
  repeat refine AWP.nest ?_
  first | refine rsa hG [] [0, 1] fun K hK => ?_ | refine rna hG [] [0, 1] fun K hK => ?_
  repeat first | ((with_reducible refine shN ?_); refine sL ?_) | ((with_reducible refine shG ?_); refine sG ?_)
  refine Eq.mpr evalL_nil (hK _ ?_)
  clear hK K
  simp only [evU, St.keep, List.map_cons, look, reduceIte, Nat.reduceEqDiff]
  try show AWP _ _ _ _ _
  repeat refine AWP.nest ?_
  first | refine rsa hG [] [0, 1, 7, 8] fun K hK => ?_ | refine rna hG [] [0, 1, 7, 8] fun K hK => ?_
  repeat first | ((with_reducible refine shN ?_); refine sL ?_) | ((with_reducible refine shG ?_); refine sG ?_)
  refine Eq.mpr evalL_nil (hK _ ?_)
  clear hK K
  simp only [evU, St.keep, List.map_cons, look, reduceIte, Nat.reduceEqDiff]
  try show AWP _ _ _ _ _
  refine AWP.len 0 rfl fun hlen => ?_
  rw [tbs_length] at hlen
  repeat refine AWP.nest ?_
  first | refine AWP.seq (AWP.block ?_) | refine AWP.block ?_
  refine AWP.loop (fun k st => ∃ (i : Nat), i ≤ l.length ∧ k = l.length - i ∧ findT s (l.drop i) (i : Int) = W ∧ st = ⟨[(0, .d false (.sl 2 (tbs l))), (1, .fn 109 [.sel false [.v (.string s)]]), (7, .d true (.v (.int .i64 (l.length : Int)))), (8, .d true (.v (.int .i64 (i : Int))))], []⟩) (l.length) ?_ ?_
  · exact ⟨0, Nat.zero_le _, rfl, hW, rfl⟩
  rintro k st ⟨i, hi, hk, hf, rfl⟩
  repeat refine AWP.nest ?_
  first | refine rsa hG [] [0, 1, 7, 8, 9] fun K hK => ?_ | refine rna hG [] [0, 1, 7, 8, 9] fun K hK => ?_
  repeat first | ((with_reducible refine shN ?_); refine sL ?_) | ((with_reducible refine shG ?_); refine sG ?_)
  refine Eq.mpr evalL_nil (hK _ ?_)
  clear hK K
  simp only [evU, St.keep, List.map_cons, look, reduceIte, Nat.reduceEqDiff]
  try show AWP _ _ _ _ _
  first | refine AWP.seq (AWP.cond (b := _) rfl (fun hc => ?_) (fun hc => ?_)) | refine AWP.cond (b := _) rfl (fun hc => ?_) (fun hc => ?_)
  rotate_left
  · refine AWP.exit ?_
    show AWP _ _ _ _ _
    simp only [evC, Int.not_lt] at hc
    rw [List.drop_eq_nil_of_le (by omega)] at hf
    rw [← hf]
    repeat refine AWP.nest ?_
    first | refine rsa hG [] [4] fun K hK => ?_ | refine rna hG [] [4] fun K hK => ?_
    repeat first | ((with_reducible refine shN ?_); refine sL ?_) | ((with_reducible refine shG ?_); refine sG ?_)
    refine Eq.mpr evalL_nil (hK _ ?_)
    clear hK K
    simp only [evU, St.keep, List.map_cons, look, reduceIte, Nat.reduceEqDiff]
    try show AWP _ _ _ _ _
    refine AWP.ret ?_
    refine ⟨.inl rfl, ⟨⟨_, rfl, ?_⟩, fun ob hob => by cases hob⟩⟩
    simp only [look, reduceIte, Nat.reduceEqDiff]
    exact sub1_of rfl
  simp only [evC, Int.not_lt] at hc
  refine AWP.skip ?_
  show AWP _ _ _ _ _
  have hi' : i < l.length := by omega
  clear hc
  rw [find_drop hi'] at hf
  have hat : ∀ z, (tbs l).getD i z = .agg [.v (.string (l.getD i tb0).1), .sl 1 (ints .u8 (l.getD i tb0).2)] := fun z => tbs_at hi'
  have p0 : ints .u8 (l.getD i tb0).2 = ints .u8 (toInts (ints .u8 (l.getD i tb0).2)) := by rw [toInts_ints]
  repeat refine AWP.nest ?_
  first | refine AWP.seq (AWP.block ?_) | refine AWP.block ?_
  repeat refine AWP.nest ?_
  first | refine rsa hG [] [0, 1, 5, 7, 8] fun K hK => ?_ | refine rna hG [] [0, 1, 5, 7, 8] fun K hK => ?_
  repeat first | ((with_reducible refine shN ?_); refine sL ?_) | ((with_reducible refine shG ?_); refine sG ?_)
  refine Eq.mpr evalL_nil (hK _ ?_)
  clear hK K
  simp only [evU, St.keep, List.map_cons, look, reduceIte, Nat.reduceEqDiff]
  try show AWP _ _ _ _ _
  repeat refine AWP.nest ?_
  have hxs := @hat
  first | refine rsa hG [] [0, 1, 5, 7, 8, 16] fun K hK => ?_ | refine rna hG [] [0, 1, 5, 7, 8, 16] fun K hK => ?_
  repeat first | ((with_reducible refine shN ?_); refine sL ?_) | ((with_reducible refine shG ?_); refine sG ?_)
  refine Eq.mpr evalL_nil (hK _ ?_)
  clear hK K hxs
  simp only [evU, St.keep, List.map_cons, look, reduceIte, Nat.reduceEqDiff]
  try show AWP _ _ _ _ _
  clear p0
  repeat refine AWP.nest ?_
  first | refine AWP.seq (AWP.cond (b := _) rfl (fun hc => ?_) (fun hc => ?_)) | refine AWP.cond (b := _) rfl (fun hc => ?_) (fun hc => ?_)
  all_goals try simp only [evC] at hc
  · rw [if_pos (by rw [beq_iff_eq]; exact hc)] at hf
    rw [← hf]
    repeat refine AWP.nest ?_
    first | refine rsa hG [] [4] fun K hK => ?_ | refine rna hG [] [4] fun K hK => ?_
    repeat first | ((with_reducible refine shN ?_); refine sL ?_) | ((with_reducible refine shG ?_); refine sG ?_)
    refine Eq.mpr evalL_nil (hK _ ?_)
    clear hK K
    simp only [evU, St.keep, List.map_cons, look, reduceIte, Nat.reduceEqDiff]
    try show AWP _ _ _ _ _
    refine AWP.ret ?_
    refine ⟨.inl rfl, ⟨⟨_, rfl, ?_⟩, fun ob hob => by cases hob⟩⟩
    simp only [look, reduceIte, Nat.reduceEqDiff]
    exact sub1_of rfl
  refine AWP.skip ?_
  show AWP _ _ _ _ _
  rw [if_neg (by rw [beq_iff_eq]; exact hc)] at hf
  clear hc
  repeat refine AWP.nest ?_
  first | refine rsa hG [] [0, 1, 7, 8] fun K hK => ?_ | refine rna hG [] [0, 1, 7, 8] fun K hK => ?_
  repeat first | ((with_reducible refine shN ?_); refine sL ?_) | ((with_reducible refine shG ?_); refine sG ?_)
  refine Eq.mpr evalL_nil (hK _ ?_)
  clear hK K
  simp only [evU, St.keep, List.map_cons, look, reduceIte, Nat.reduceEqDiff]
  try show AWP _ _ _ _ _
  exact ⟨l.length - (i + 1), by omega, i + 1, by omega, rfl, hf, rfl⟩
def e108 : List AV → Option Ob → Option Res := fun args i => match args, i with
  | [.d false (.sl 2 xs), .fn 109 [.sel false [.v (.string s)]]], none => some ⟨xs = tbs (toTbs xs), .d true (.v (.int .i64 (findT s (toTbs xs) 0))), none⟩
  | _, _ => none
def F137 : FT := F136.upd 108 e108
theorem F137_ok : FOK Try.prog F137 := FOK.upd F136_ok Try.func108 (by kernel_rfl) rfl fun args i R h => by
  unfold e108 at h
  split at h
  · rename_i xs s
    cases h
    refine Spec.pre fun h => ?_
    have := s108 (toTbs xs) s
    rw [← h] at this
    exact this
  · cases h
/-- What Find tells. -/
def findD (l : List Tb) (s : ByteArray) : List Int := if findT s l 0 < 0 then [] else (l.getD (findT s l 0).toNat tb0).2

theorem s76 (l : List Tb) (s : ByteArray) (hb : DatB l) (hl : ∀ t ∈ l, t.2.length ≤ 1000000) : Spec Try.prog 76 [.d false (.sl 2 (tbs l)), .d true (.v (.string s))] none ⟨True, .tup [.own 0 1, .d true (.v (.bool (decide (0 ≤ findT s l 0))))], some (.row 5 1 1 true (ints .u8 (findD l s)))⟩ := by
  have hf85 : F137 85 = e85 := rfl
  have hf108 : F137 108 = e108 := rfl
  have hG := (Gf_ok F137_ok)
  have hfs := And.intro @hf85 (And.intro @e85.eq_1 (And.intro @hf108 (And.intro @e108.eq_1 (And.intro @evP @evTb))))
  have hxs := @Nat.add_zero
  refine spec_of_awp (Gf_ok F137_ok) Try.func76 rfl (Nat.le_of_ble_eq_true rfl) fun E hps hN _ => ?_
  simp only [begin, List.zipIdx_cons, List.zipIdx_nil, List.map_cons, List.map_nil, Option.toList, Nat.zero_add, Nat.reduceAdd]
  repeat refine AWP.nest ?_
  first | refine rsa hG [] [0, 3] fun K hK => ?_ | refine rna hG [] [0, 3] fun K hK => ?_
  repeat first | ((with_reducible refine shN ?_); refine sL ?_) | ((with_reducible refine shG ?_); refine sG ?_)
  refine Eq.mpr evalL_nil (hK _ ?_)
  clear hK K
  simp only [evU, St.keep, List.map_cons, look, reduceIte, Nat.reduceEqDiff]
  try show AWP _ _ _ _ _
  refine AWP.frzC 3 0 (by rw [hps]; decide) rfl rfl rfl ?_
  refine AWP.keep [0, 3] ?_
  simp only [St.keep, List.map_cons, List.map_nil, look, reduceIte, Nat.reduceEqDiff]
  refine AWP.trunc 0 (by rw [hps]; decide) rfl ?_
  simp only [St.trunc, List.take_zero, List.take_succ_cons]
  repeat refine AWP.nest ?_
  first | refine rsa hG [] [0, 6] fun K hK => ?_ | refine rna hG [] [0, 6] fun K hK => ?_
  repeat first | ((with_reducible refine shN ?_); refine sL ?_) | ((with_reducible refine shG ?_); refine sG ?_)
  refine Eq.mpr evalL_nil (hK _ ?_)
  clear hK K
  simp only [evU, St.keep, List.map_cons, look, reduceIte, Nat.reduceEqDiff]
  try show AWP _ _ _ _ _
  have hfl := findT_le (s := s) (l := l) (i := 0)
  unfold findD
  obtain ⟨j, hj⟩ : ∃ j, findT s l 0 = j := ⟨_, rfl⟩
  rw [hj] at hfl ⊢
  repeat refine AWP.nest ?_
  first | refine rsa hG [] [0, 6, 11] fun K hK => ?_ | refine rna hG [] [0, 6, 11] fun K hK => ?_
  repeat first | ((with_reducible refine shN ?_); refine sL ?_) | ((with_reducible refine shG ?_); refine sG ?_)
  refine Eq.mpr evalL_nil (hK _ ?_)
  clear hK K
  simp only [evU, St.keep, List.map_cons, look, reduceIte, Nat.reduceEqDiff]
  try show AWP _ _ _ _ _
  repeat refine AWP.nest ?_
  first | refine AWP.seq (AWP.cond (b := _) rfl (fun hc => ?_) (fun hc => ?_)) | refine AWP.cond (b := _) rfl (fun hc => ?_) (fun hc => ?_)
  all_goals try simp only [evC] at hc
  · rw [if_pos hc, decide_eq_false (by omega)]
    repeat refine AWP.nest ?_
    first | refine rsa hG [] [4, 5] fun K hK => ?_ | refine rna hG [] [4, 5] fun K hK => ?_
    repeat first | ((with_reducible refine shN ?_); refine sL ?_) | ((with_reducible refine shG ?_); refine sG ?_)
    refine Eq.mpr evalL_nil (hK _ ?_)
    clear hK K
    simp only [evU, St.keep, List.map_cons, look, reduceIte, Nat.reduceEqDiff]
    try show AWP _ _ _ _ _
    refine AWP.adopt 4 5 1 (by decide) rfl ?_
    simp only [St.adopt, St.keep, List.map_cons, List.map_nil, look, reduceIte, Nat.reduceEqDiff, List.nil_append, List.length_nil, List.cons_append, List.length_cons, Nat.reduceAdd]
    refine AWP.bump 4 1 rfl rfl ?_
    simp only [List.set_cons_zero, Nat.reduceAdd]
    refine AWP.ret ?_
    refine ⟨.inl rfl, ⟨⟨_, rfl, ?_⟩, fun ob hob => ?_⟩⟩
    rotate_left
    cases hob
    rotate_left
    simp only [look, reduceIte, Nat.reduceEqDiff]
    refine ⟨_, rfl, (.cons ?_ (.cons ?_ .nil))⟩
    · exact sub1_of rfl
    · exact sub1_of rfl
    · rfl
  refine AWP.skip ?_
  show AWP _ _ _ _ _
  rw [if_neg hc, decide_eq_true (by omega)]
  obtain ⟨i, rfl⟩ : ∃ i : Nat, j = i := ⟨j.toNat, by omega⟩
  have hi' : i < l.length := by omega
  clear hc hfl hj
  rw [Int.toNat_natCast]
  have hat : ∀ z, (tbs l).getD i z = .agg [.v (.string (l.getD i tb0).1), .sl 1 (ints .u8 (l.getD i tb0).2)] := fun z => tbs_at hi'
  have hln : (l.getD i tb0).2.length ≤ 1000000 := by
    rw [List.getD_eq_getElem?_getD, List.getElem?_eq_getElem hi']
    exact hl _ (List.getElem_mem _)
  have hbi := hb.at i
  repeat refine AWP.nest ?_
  have hxs := @hat
  first | refine rsa hG [] [4, 5] fun K hK => ?_ | refine rna hG [] [4, 5] fun K hK => ?_
  repeat first | ((with_reducible refine shN ?_); refine sL ?_) | ((with_reducible refine shG ?_); refine sG ?_)
  refine Eq.mpr evalL_nil (hK _ ?_)
  clear hK K hxs
  simp only [evU, St.keep, List.map_cons, look, reduceIte, Nat.reduceEqDiff]
  try show AWP _ _ _ _ _
  refine AWP.ret ?_
  refine ⟨.inl rfl, ⟨⟨_, rfl, ?_⟩, fun ob hob => ?_⟩⟩
  rotate_left
  cases hob
  rotate_left
  simp only [look, reduceIte, Nat.reduceEqDiff]
  refine ⟨_, rfl, (.cons ?_ (.cons ?_ .nil))⟩
  · exact sub1_of rfl
  · exact sub1_of rfl
  · rfl
def e76 : List AV → Option Ob → Option Res := fun args i => match args, i with
  | [.d false (.sl 2 xs), .d true (.v (.string s))], none => some ⟨xs = tbs (toTbs xs) ∧ DatB (toTbs xs) ∧ ∀ t ∈ toTbs xs, t.2.length ≤ 1000000, .tup [.own 0 1, .d true (.v (.bool (decide (0 ≤ findT s (toTbs xs) 0))))], some (.row 5 1 1 true (ints .u8 (findD (toTbs xs) s)))⟩
  | _, _ => none
def F138 : FT := F137.upd 76 e76
theorem F138_ok : FOK Try.prog F138 := FOK.upd F137_ok Try.func76 (by kernel_rfl) rfl fun args i R h => by
  unfold e76 at h
  split at h
  · rename_i xs s
    cases h
    refine Spec.pre fun h => ?_
    have := s76 (toTbs xs) s h.2.1 h.2.2
    rw [← h.1] at this
    exact this
  · cases h
end Go.AM

