/- AM: sfnt.Parse. -/
import Derived.Test.YtmfobkiljlepjaaC87
import Derived.Test.YtmfobkiljlepjaaC31
set_option maxRecDepth 100000
set_option maxHeartbeats 8000000
set_option linter.unusedSimpArgs false
set_option linter.unusedVariables false
namespace Go.AM
open Go Go.Proofs

/-- What the directory says of its i-th table. -/
def tagT (l : List Int) (i : Nat) : ByteArray := strL ((l.drop (12 + 16 * i)).take 4)
def smT (l : List Int) (i : Nat) : Int := n4V l (16 + 16 * (i : Int))
def ofT (l : List Int) (i : Nat) : Int := n4V l (20 + 16 * (i : Int))
def lnT (l : List Int) (i : Nat) : Int := n4V l (24 + 16 * (i : Int))
def leS (a b : ByteArray) : Bool := Op.bytesLess a.toList b.toList || a.toList == b.toList
def tabT (l : List Int) (i : Nat) : Tb := (tagT l i, subV l (ofT l i) (lnT l i))
def tabsT (l : List Int) (n : Nat) : List Tb := (List.range n).map (tabT l)
def smsT (l : List Int) (n : Nat) : List Int := (List.range n).map (smT l)
/-- Is the i-th row right? -/
def okT (l : List Int) (n i : Nat) : Bool := decide (12 + 16 * (i + 1) ≤ l.length) && decide (ofT l i + lnT l i ≤ (l.length : Int)) && decide (ofT l i % 4 = 0) && decide (12 + 16 * (n : Int) ≤ ofT l i) && !(decide (0 < i) && leS (tagT l i) (tagT l (i - 1)))
def allT (l : List Int) (n : Nat) : Bool := (List.range n).all (okT l n)
/-- Is the i-th table's sum right? -/
def okM (l : List Int) (i : Nat) : Bool := decide (sumT (tabT l i) = smT l i) && !(wholeT (tabT l i) && decide (refSum 0 l % 4294967296 ≠ 2981146554))
def allM (l : List Int) (n : Nat) : Bool := (List.range n).all (okM l)
def parT (l : List Int) : List Tb × Int := if begT l && allT l (nB l).toNat then (if allM l (nB l).toNat then (tabsT l (nB l).toNat, 0) else ([], 3)) else ([], 2)
theorem tabsT_succ {l : List Int} {n : Nat} : tabsT l (n + 1) = tabsT l n ++ [tabT l n] := by unfold tabsT; rw [List.range_succ, List.map_append]; rfl
theorem smsT_succ {l : List Int} {n : Nat} : smsT l (n + 1) = smsT l n ++ [smT l n] := by unfold smsT; rw [List.range_succ, List.map_append]; rfl
theorem tabsT_length {l : List Int} {n : Nat} : (tabsT l n).length = n := by simp [tabsT]
theorem smsT_length {l : List Int} {n : Nat} : (smsT l n).length = n := by simp [smsT]
theorem tabsT_at {l : List Int} {n i : Nat} (h : i < n) : (tabsT l n).getD i tb0 = tabT l i := by
  rw [List.getD_eq_getElem?_getD, tabsT, List.getElem?_map, List.getElem?_range h]
  rfl
theorem smsT_at {l : List Int} {n i : Nat} (h : i < n) : (smsT l n).getD i 0 = smT l i := by
  rw [List.getD_eq_getElem?_getD, smsT, List.getElem?_map, List.getElem?_range h]
  rfl
theorem allT_iff {l : List Int} {n : Nat} : allT l n = true ↔ ∀ i, i < n → okT l n i = true := by simp [allT]
theorem allM_iff {l : List Int} {n : Nat} : allM l n = true ↔ ∀ i, i < n → okM l i = true := by simp [allM]


def F121 : FT := F120.upd 101 e101
theorem F121_ok : FOK Try.prog F121 := FOK.upd F120_ok Try.func101 (by kernel_rfl) rfl fun args i R h => (F55_ok 101 args i R h).2

theorem s80 (l : List Int) (hb : Byt l) (hl : l.length ≤ 1000000) : Spec Try.prog 80 [.d false (.sl 1 (ints .u8 l))] none
    ⟨True, .tup [.d true (.sl 2 (tbs (parT l).1)), .d true (.v (.int .i64 (parT l).2))], none⟩ := by
  have hf34 : F121 34 = e34 := rfl
  have hf87 : F121 87 = e87 := rfl
  have hf88 : F121 88 = e88' := rfl
  have hf93 : F121 93 = e93 := rfl
  have hf101 : F121 101 = e101 := rfl
  have hf115 : F121 115 = e115 := rfl
  have hf116 : F121 116 = e116 := rfl
  have hf120 : F121 120 = e120 := rfl
  have hf121 : F121 121 = e121 := rfl
  have hG := (Gf_ok F121_ok)
  have hfs := And.intro @hf34 (And.intro @e34.eq_1 (And.intro @hf87 (And.intro @e87.eq_1 (And.intro @hf88 (And.intro @e88'.eq_1 (And.intro @hf93 (And.intro @e93.eq_1 (And.intro @hf101 (And.intro @e101.eq_1 (And.intro @hf115 (And.intro @e115.eq_1 (And.intro @hf116 (And.intro @e116.eq_1 (And.intro @hf120 (And.intro @e120.eq_1 (And.intro @hf121 (And.intro @e121.eq_1 (And.intro @evP @evTb))))))))))))))))))
  have hxs := @Nat.add_zero
  refine spec_of_awp (Gf_ok F121_ok) Try.func80 rfl (Nat.le_of_ble_eq_true rfl) fun E hps hN _ => ?_
  simp only [begin, List.zipIdx_cons, List.zipIdx_nil, List.map_cons, List.map_nil, Option.toList, Nat.zero_add, Nat.reduceAdd]
  repeat refine AWP.nest ?_
  first | refine rsa hG [] [0] fun K hK => ?_ | refine rna hG [] [0] fun K hK => ?_
  repeat first | ((with_reducible refine shN ?_); refine sL ?_) | ((with_reducible refine shG ?_); refine sG ?_)
  refine Eq.mpr evalL_nil (hK _ ?_)
  clear hK K
  simp only [evU, St.keep, List.map_cons, look, reduceIte, Nat.reduceEqDiff]
  try show AWP _ _ _ _ _
  repeat refine AWP.nest ?_
  first | refine rsa hG [] [0, 4] fun K hK => ?_ | refine rna hG [] [0, 4] fun K hK => ?_
  repeat first | ((with_reducible refine shN ?_); refine sL ?_) | ((with_reducible refine shG ?_); refine sG ?_)
  refine Eq.mpr evalL_nil (hK _ ?_)
  clear hK K
  simp only [evU, St.keep, List.map_cons, look, reduceIte, Nat.reduceEqDiff]
  try show AWP _ _ _ _ _
  repeat refine AWP.nest ?_
  first | refine rsa hG [] [0, 4, 5, 6] fun K hK => ?_ | refine rna hG [] [0, 4, 5, 6] fun K hK => ?_
  repeat first | ((with_reducible refine shN ?_); refine sL ?_) | ((with_reducible refine shG ?_); refine sG ?_)
  refine Eq.mpr evalL_nil (hK _ ?_)
  clear hK K
  simp only [evU, St.keep, List.map_cons, look, reduceIte, Nat.reduceEqDiff]
  try show AWP _ _ _ _ _
  repeat refine AWP.nest ?_
  first | refine rsa hG [] [0, 4, 5, 26] fun K hK => ?_ | refine rna hG [] [0, 4, 5, 26] fun K hK => ?_
  repeat first | ((with_reducible refine shN ?_); refine sL ?_) | ((with_reducible refine shG ?_); refine sG ?_)
  refine Eq.mpr evalL_nil (hK _ ?_)
  clear hK K
  simp only [evU, St.keep, List.map_cons, look, reduceIte, Nat.reduceEqDiff]
  try show AWP _ _ _ _ _
  repeat refine AWP.nest ?_
  first | refine AWP.seq (AWP.cond (b := _) rfl (fun hc => ?_) (fun hc => ?_)) | refine AWP.cond (b := _) rfl (fun hc => ?_) (fun hc => ?_)
  all_goals try simp only [evC] at hc
  · have e : parT l = ([], 2) := by
      have : begT l = false := by simpa using hc
      unfold parT
      rw [this]
      rfl
    rw [e]
    repeat refine AWP.nest ?_
    first | refine rsa hG [] [2, 3] fun K hK => ?_ | refine rna hG [] [2, 3] fun K hK => ?_
    repeat first | ((with_reducible refine shN ?_); refine sL ?_) | ((with_reducible refine shG ?_); refine sG ?_)
    refine Eq.mpr evalL_nil (hK _ ?_)
    clear hK K
    simp only [evU, St.keep, List.map_cons, look, reduceIte, Nat.reduceEqDiff]
    try show AWP _ _ _ _ _
    refine AWP.ret ?_
    refine ⟨.inl rfl, ⟨⟨_, rfl, ?_⟩, fun ob hob => by cases hob⟩⟩
    simp only [look, reduceIte, Nat.reduceEqDiff]
    refine ⟨_, rfl, (.cons ?_ (.cons ?_ .nil))⟩
    · exact .nil _ _ _
    · exact sub1_of rfl
  refine AWP.skip ?_
  show AWP _ _ _ _ _
  have hbg : begT l = true := by simpa using hc
  have hbg2 := hbg
  unfold begT at hbg2
  simp only [Bool.and_eq_true, decide_eq_true_eq] at hbg2
  obtain ⟨⟨⟨⟨⟨h12, hv⟩, hn1, hn64⟩, hA⟩, hB⟩, hD⟩ := hbg2
  have hnB : nB l = n2V l 4 := (beg_vals h12).2.1
  obtain ⟨n, hn⟩ : ∃ n : Nat, nB l = n := ⟨(nB l).toNat, by omega⟩
  have hpar : parT l = if allT l n then (if allM l n then (tabsT l n, 0) else ([], 3)) else ([], 2) := by
    unfold parT
    rw [hbg, hn, Int.toNat_natCast, Bool.true_and]
  have hq5 : q5 l = false := by rw [q5_of, decide_eq_true h12]; rfl
  have hp5 : p5 l = 12 := by
    rcases q_ok (l := l) with h | h
    · exact h.2.1
    · omega
  have hn1' : 1 ≤ n := by omega
  have hn2' : n ≤ 64 := by omega
  rw [hn, hq5, hp5]
  clear hnB hn hq5 hp5 hn1 hn64 hc hA hB hD hv
  rw [hpar]
  clear hpar
  repeat refine AWP.nest ?_
  first | refine rsa hG [] [0, 4, 5, 7] fun K hK => ?_ | refine rna hG [] [0, 4, 5, 7] fun K hK => ?_
  repeat first | ((with_reducible refine shN ?_); refine sL ?_) | ((with_reducible refine shG ?_); refine sG ?_)
  refine Eq.mpr evalL_nil (hK _ ?_)
  clear hK K
  simp only [evU, St.keep, List.map_cons, look, reduceIte, Nat.reduceEqDiff]
  try show AWP _ _ _ _ _
  repeat refine AWP.nest ?_
  first | refine rsa hG [] [0, 4, 5, 7, 8] fun K hK => ?_ | refine rna hG [] [0, 4, 5, 7, 8] fun K hK => ?_
  repeat first | ((with_reducible refine shN ?_); refine sL ?_) | ((with_reducible refine shG ?_); refine sG ?_)
  refine Eq.mpr evalL_nil (hK _ ?_)
  clear hK K
  simp only [evU, St.keep, List.map_cons, look, reduceIte, Nat.reduceEqDiff]
  try show AWP _ _ _ _ _
  repeat refine AWP.nest ?_
  first | refine rsa hG [] [0, 4, 5, 7, 8, 27, 28] fun K hK => ?_ | refine rna hG [] [0, 4, 5, 7, 8, 27, 28] fun K hK => ?_
  repeat first | ((with_reducible refine shN ?_); refine sL ?_) | ((with_reducible refine shG ?_); refine sG ?_)
  refine Eq.mpr evalL_nil (hK _ ?_)
  clear hK K
  simp only [evU, St.keep, List.map_cons, look, reduceIte, Nat.reduceEqDiff]
  try show AWP _ _ _ _ _
  refine AWP.adopt 7 106 2 (by decide) rfl ?_
  refine AWP.adopt 8 25 1 (by decide) rfl ?_
  simp only [St.adopt, St.keep, List.map_cons, List.map_nil, look, reduceIte, Nat.reduceEqDiff, List.nil_append, List.length_nil, List.cons_append, List.length_cons, Nat.reduceAdd]
  refine AWP.keep [0, 4, 5, 7, 8, 27, 28] ?_
  simp only [St.adopt, St.keep, List.map_cons, List.map_nil, look, reduceIte, Nat.reduceEqDiff, List.nil_append, List.length_nil, List.cons_append, List.length_cons, Nat.reduceAdd]
  repeat refine AWP.nest ?_
  first | refine AWP.seq (AWP.block ?_) | refine AWP.block ?_
  refine AWP.loop (fun k st => ∃ (i : Nat), i ≤ n ∧ k = n - i ∧ (∀ j, j < i → okT l n j = true) ∧ st = ⟨[(0, .d false (.sl 1 (ints .u8 l))), (4, .ptr 0 0), (5, .d true (.v (.int .i64 (n : Int)))), (7, .own 1 i), (8, .own 2 i), (27, .d true (.v (.int .i64 (n : Int)))), (28, .d true (.v (.int .i64 (i : Int))))], [some (.cells 174 [.d false (.sl 1 (ints .u8 l)), .d true (.v (.int .i64 (12 + 16 * (i : Int)))), .d true (.v (.bool false))]), some (.row 106 2 i true (tbs (tabsT l i))), some (.row 25 1 i true (ints .u32 (smsT l i)))]⟩) (n) ?_ ?_
  · exact ⟨0, Nat.zero_le _, rfl, fun j h => absurd h (Nat.not_lt_zero j), rfl⟩
  rintro k st ⟨i, hi, hk, hj, rfl⟩
  repeat refine AWP.nest ?_
  first | refine rsa hG [] [0, 4, 5, 7, 8, 27, 28, 29] fun K hK => ?_ | refine rna hG [] [0, 4, 5, 7, 8, 27, 28, 29] fun K hK => ?_
  repeat first | ((with_reducible refine shN ?_); refine sL ?_) | ((with_reducible refine shG ?_); refine sG ?_)
  refine Eq.mpr evalL_nil (hK _ ?_)
  clear hK K
  simp only [evU, St.keep, List.map_cons, look, reduceIte, Nat.reduceEqDiff]
  try show AWP _ _ _ _ _
  first | refine AWP.seq (AWP.cond (b := _) rfl (fun hc => ?_) (fun hc => ?_)) | refine AWP.cond (b := _) rfl (fun hc => ?_) (fun hc => ?_)
  rotate_left
  · refine AWP.exit ?_
    show AWP _ _ _ _ _
    simp only [evC, Int.not_lt] at hc
    obtain rfl : i = n := by omega
    have hall : allT l i = true := allT_iff.2 hj
    rw [hall, if_pos rfl]
    clear hc hi hj hall
    have htl : (tabsT l i).length = i := tabsT_length
    have hsl : (smsT l i).length = i := smsT_length
    repeat refine AWP.nest ?_
    have hxs := @htl
    first | refine rsa hG [] [0, 7, 8, 93, 94, 95] fun K hK => ?_ | refine rna hG [] [0, 7, 8, 93, 94, 95] fun K hK => ?_
    repeat first | ((with_reducible refine shN ?_); refine sL ?_) | ((with_reducible refine shG ?_); refine sG ?_)
    refine Eq.mpr evalL_nil (hK _ ?_)
    clear hK K hxs
    simp only [evU, St.keep, List.map_cons, look, reduceIte, Nat.reduceEqDiff]
    try show AWP _ _ _ _ _
    repeat refine AWP.nest ?_
    first | refine AWP.seq (AWP.block ?_) | refine AWP.block ?_
    refine AWP.loop (fun k st => ∃ (j : Nat), j ≤ i ∧ k = i - j ∧ (∀ q, q < j → okM l q = true) ∧ st = ⟨[(0, .d false (.sl 1 (ints .u8 l))), (7, .own 1 i), (8, .own 2 i), (93, .own 1 i), (94, .d true (.v (.int .i64 (i : Int)))), (95, .d true (.v (.int .i64 (j : Int))))], [some (.cells 174 [.d false (.sl 1 (ints .u8 l)), .d true (.v (.int .i64 (12 + 16 * (i : Int)))), .d true (.v (.bool false))]), some (.row 106 2 i true (tbs (tabsT l i))), some (.row 25 1 i true (ints .u32 (smsT l i)))]⟩) (i) ?_ ?_
    · exact ⟨0, Nat.zero_le _, rfl, fun j h => absurd h (Nat.not_lt_zero j), rfl⟩
    rintro k st ⟨j, hjn, hk, hj, rfl⟩
    repeat refine AWP.nest ?_
    first | refine rsa hG [] [0, 7, 8, 93, 94, 95, 96] fun K hK => ?_ | refine rna hG [] [0, 7, 8, 93, 94, 95, 96] fun K hK => ?_
    repeat first | ((with_reducible refine shN ?_); refine sL ?_) | ((with_reducible refine shG ?_); refine sG ?_)
    refine Eq.mpr evalL_nil (hK _ ?_)
    clear hK K
    simp only [evU, St.keep, List.map_cons, look, reduceIte, Nat.reduceEqDiff]
    try show AWP _ _ _ _ _
    first | refine AWP.seq (AWP.cond (b := _) rfl (fun hc => ?_) (fun hc => ?_)) | refine AWP.cond (b := _) rfl (fun hc => ?_) (fun hc => ?_)
    rotate_left
    · refine AWP.exit ?_
      show AWP _ _ _ _ _
      simp only [evC, Int.not_lt] at hc
      obtain rfl : j = i := by omega
      have hall : allM l j = true := allM_iff.2 hj
      rw [hall, if_pos rfl]
      repeat refine AWP.nest ?_
      first | refine rsa hG [] [2, 3] fun K hK => ?_ | refine rna hG [] [2, 3] fun K hK => ?_
      repeat first | ((with_reducible refine shN ?_); refine sL ?_) | ((with_reducible refine shG ?_); refine sG ?_)
      refine Eq.mpr evalL_nil (hK _ ?_)
      clear hK K
      simp only [evU, St.keep, List.map_cons, look, reduceIte, Nat.reduceEqDiff]
      try show AWP _ _ _ _ _
      refine AWP.frz 1 (by rw [hps]; decide) rfl ?_
      simp only [St.frz, Ob.frz, AV.frz, AV.frz1, Option.map_none, mkAgg, datas, Dat.nagg, List.map_cons, List.map_nil, Option.map_some, and_self, true_and, and_true, reduceIte, Nat.reduceEqDiff, List.set_cons_zero, List.set_cons_succ, Bool.and_true, Bool.true_and]
      refine AWP.ret ?_
      refine ⟨.inl rfl, ⟨⟨_, rfl, ?_⟩, fun ob hob => by cases hob⟩⟩
      simp only [look, reduceIte, Nat.reduceEqDiff]
      refine ⟨_, rfl, (.cons ?_ (.cons ?_ .nil))⟩
      · exact sub1_of rfl
      · exact sub1_of rfl
    simp only [evC, Int.not_lt] at hc
    refine AWP.skip ?_
    show AWP _ _ _ _ _
    have hj' : j < i := by omega
    clear hc
    have hat : ∀ z, (tbs (tabsT l i)).getD j z = .agg [.v (.string (tabT l j).1), .sl 1 (ints .u8 (tabT l j).2)] := fun z => by
      rw [tbs_at (by rw [tabsT_length]; omega), tabsT_at hj']
    have hst : (smsT l i).getD j 0 = smT l j := smsT_at hj'
    have ht1 : Byt (tabT l j).2 := by
      show Byt (subV _ _ _)
      unfold subV
      split
      · exact (hb.drop _).take _
      · exact Byt.nil
    have ht2 : (tabT l j).2.length ≤ 1000000000000 := by
      show (subV _ _ _).length ≤ _
      unfold subV
      split
      · simp only [List.length_take, List.length_drop]; omega
      · simp
    have eta : ((tabT l j).1, (tabT l j).2) = tabT l j := rfl
    have hokM : okM l j = (decide (sumT (tabT l j) = smT l j) && !(wholeT (tabT l j) && decide (refSum 0 l % 4294967296 ≠ 2981146554))) := rfl
    repeat refine AWP.nest ?_
    first | refine AWP.seq (AWP.block ?_) | refine AWP.block ?_
    repeat refine AWP.nest ?_
    have hxs := And.intro @hat @htl
    first | refine rsa hG [] [0, 7, 8, 16, 17, 93, 94, 95] fun K hK => ?_ | refine rna hG [] [0, 7, 8, 16, 17, 93, 94, 95] fun K hK => ?_
    repeat first | ((with_reducible refine shN ?_); refine sL ?_) | ((with_reducible refine shG ?_); refine sG ?_)
    refine Eq.mpr evalL_nil (hK _ ?_)
    clear hK K hxs
    simp only [evU, St.keep, List.map_cons, look, reduceIte, Nat.reduceEqDiff]
    try show AWP _ _ _ _ _
    repeat refine AWP.nest ?_
    have hxs := And.intro @eta (And.intro @hst @hsl)
    first | refine rda hG [] [0, 7, 8, 93, 94, 95, 115] Try.mixed fun K hK => ?_ | refine dna hG [] [0, 7, 8, 93, 94, 95, 115] Try.mixed fun K hK => ?_
    repeat first | ((with_reducible refine shD ?_); refine sD ?_) | ((with_reducible refine shDG ?_); refine sDG ?_)
    refine evalD_done (by kernel_rfl) (hK _ ?_)
    clear hK K hxs
    simp only [evU, St.keep, List.map_cons, look, reduceIte, Nat.reduceEqDiff]
    try show AWP _ _ _ _ _
    repeat refine AWP.nest ?_
    first | refine AWP.seq (AWP.cond (b := _) rfl (fun hc => ?_) (fun hc => ?_)) | refine AWP.cond (b := _) rfl (fun hc => ?_) (fun hc => ?_)
    all_goals try simp only [evC] at hc
    · have hno : okM l j = false := by
        rw [hokM]
        rcases hc with h | h
        · rw [decide_eq_false h]; rfl
        · rw [show wholeT (tabT l j) = true from h.1, decide_eq_true (show refSum 0 l % 4294967296 ≠ 2981146554 from h.2)]; simp
      have hall : allM l i = false := by
        cases h : allM l i with
        | false => rfl
        | true => rw [allM_iff.1 h j hj'] at hno; cases hno
      rw [hall]
      repeat refine AWP.nest ?_
      first | refine rsa hG [] [2, 3] fun K hK => ?_ | refine rna hG [] [2, 3] fun K hK => ?_
      repeat first | ((with_reducible refine shN ?_); refine sL ?_) | ((with_reducible refine shG ?_); refine sG ?_)
      refine Eq.mpr evalL_nil (hK _ ?_)
      clear hK K
      simp only [evU, St.keep, List.map_cons, look, reduceIte, Nat.reduceEqDiff]
      try show AWP _ _ _ _ _
      refine AWP.ret ?_
      refine ⟨.inl rfl, ⟨⟨_, rfl, ?_⟩, fun ob hob => by cases hob⟩⟩
      simp only [look, reduceIte, Nat.reduceEqDiff]
      refine ⟨_, rfl, (.cons ?_ (.cons ?_ .nil))⟩
      · exact .nil _ _ _
      · exact sub1_of rfl
    refine AWP.skip ?_
    show AWP _ _ _ _ _
    refine AWP.trunc 3 (by rw [hps]; decide) rfl ?_
    simp only [St.trunc, List.take_zero, List.take_succ_cons]
    repeat refine AWP.nest ?_
    first | refine rsa hG [] [0, 7, 8, 93, 94, 95] fun K hK => ?_ | refine rna hG [] [0, 7, 8, 93, 94, 95] fun K hK => ?_
    repeat first | ((with_reducible refine shN ?_); refine sL ?_) | ((with_reducible refine shG ?_); refine sG ?_)
    refine Eq.mpr evalL_nil (hK _ ?_)
    clear hK K
    simp only [evU, St.keep, List.map_cons, look, reduceIte, Nat.reduceEqDiff]
    try show AWP _ _ _ _ _
    refine ⟨i - (j + 1), by omega, j + 1, by omega, rfl, ?_, rfl⟩
    intro q hq
    by_cases hqj : q < j
    · exact hj q hqj
    rw [show q = j by omega, hokM]
    obtain ⟨h1, h2⟩ := hc
    rw [decide_eq_true h1]
    rcases h2 with h | h
    · rw [h]; rfl
    · rw [decide_eq_false (fun h3 => h3 h)]; simp
  simp only [evC, Int.not_lt] at hc
  refine AWP.skip ?_
  show AWP _ _ _ _ _
  have hi' : i < n := by omega
  clear hc
  have r0 : RdOK l.length (12 + 16 * i) (12 + 16 * (i : Int)) false := .inl ⟨by
    rcases Nat.eq_zero_or_pos i with h | h
    · omega
    · have := hj (i - 1) (by omega)
      unfold okT at this
      simp only [Bool.and_eq_true, decide_eq_true_eq] at this
      omega, by omega, rfl⟩
  have r1 := r0.s4
  have r2 := r1.s4
  have r3 := r2.s4
  have r4 := r3.s4
  obtain ⟨P1, hP1⟩ : ∃ x, rp l.length (12 + 16 * (i : Int)) false 4 = x := ⟨_, rfl⟩
  obtain ⟨Q1, hQ1⟩ : ∃ x, rb l.length (12 + 16 * (i : Int)) false 4 = x := ⟨_, rfl⟩
  rw [hP1, hQ1] at r1 r2 r3 r4
  obtain ⟨P2, hP2⟩ : ∃ x, rp l.length P1 Q1 4 = x := ⟨_, rfl⟩
  obtain ⟨Q2, hQ2⟩ : ∃ x, rb l.length P1 Q1 4 = x := ⟨_, rfl⟩
  rw [hP2, hQ2] at r2 r3 r4
  obtain ⟨P3, hP3⟩ : ∃ x, rp l.length P2 Q2 4 = x := ⟨_, rfl⟩
  obtain ⟨Q3, hQ3⟩ : ∃ x, rb l.length P2 Q2 4 = x := ⟨_, rfl⟩
  rw [hP3, hQ3] at r3 r4
  obtain ⟨P4, hP4⟩ : ∃ x, rp l.length P3 Q3 4 = x := ⟨_, rfl⟩
  obtain ⟨Q4, hQ4⟩ : ∃ x, rb l.length P3 Q3 4 = x := ⟨_, rfl⟩
  rw [hP4, hQ4] at r4
  have b0 := r0.bnd
  have b1 := r1.bnd
  have b2 := r2.bnd
  have b3 := r3.bnd
  have v1b : 0 ≤ rv l P1 Q1 4 ∧ rv l P1 Q1 4 < 4294967296 := rv_bound hb P1 Q1 4
  have v2b : 0 ≤ rv l P2 Q2 4 ∧ rv l P2 Q2 4 < 4294967296 := rv_bound hb P2 Q2 4
  have v3b : 0 ≤ rv l P3 Q3 4 ∧ rv l P3 Q3 4 < 4294967296 := rv_bound hb P3 Q3 4
  have btk := tkB_byt hb (12 + 16 * (i : Int)) false 4
  repeat refine AWP.nest ?_
  first | refine AWP.seq (AWP.block ?_) | refine AWP.block ?_
  repeat refine AWP.nest ?_
  first | refine rsa hG [] [0, 4, 5, 7, 8, 9, 27, 28] fun K hK => ?_ | refine rna hG [] [0, 4, 5, 7, 8, 9, 27, 28] fun K hK => ?_
  repeat first | ((with_reducible refine shN ?_); refine sL ?_) | ((with_reducible refine shG ?_); refine sG ?_)
  refine Eq.mpr evalL_nil (hK _ ?_)
  clear hK K
  simp only [evU, St.keep, List.map_cons, look, reduceIte, Nat.reduceEqDiff]
  try show AWP _ _ _ _ _
  repeat refine AWP.nest ?_
  have hxs := And.intro @hP1 @hQ1
  first | refine rsa hG [] [0, 4, 5, 7, 8, 9, 10, 27, 28] fun K hK => ?_ | refine rna hG [] [0, 4, 5, 7, 8, 9, 10, 27, 28] fun K hK => ?_
  repeat first | ((with_reducible refine shN ?_); refine sL ?_) | ((with_reducible refine shG ?_); refine sG ?_)
  refine Eq.mpr evalL_nil (hK _ ?_)
  clear hK K hxs
  simp only [evU, St.keep, List.map_cons, look, reduceIte, Nat.reduceEqDiff]
  try show AWP _ _ _ _ _
  repeat refine AWP.nest ?_
  have hxs := And.intro @hP2 (And.intro @hQ2 (And.intro @hP3 (And.intro @hQ3 (And.intro @hP4 @hQ4))))
  first | refine rsa hG [] [0, 4, 5, 7, 8, 9, 10, 11, 12, 13, 27, 28] fun K hK => ?_ | refine rna hG [] [0, 4, 5, 7, 8, 9, 10, 11, 12, 13, 27, 28] fun K hK => ?_
  repeat first | ((with_reducible refine shN ?_); refine sL ?_) | ((with_reducible refine shG ?_); refine sG ?_)
  refine Eq.mpr evalL_nil (hK _ ?_)
  clear hK K hxs
  simp only [evU, St.keep, List.map_cons, look, reduceIte, Nat.reduceEqDiff]
  try show AWP _ _ _ _ _
  repeat refine AWP.nest ?_
  first | refine rsa hG [] [0, 4, 5, 7, 8, 9, 10, 11, 12, 13, 14, 15, 27, 28] fun K hK => ?_ | refine rna hG [] [0, 4, 5, 7, 8, 9, 10, 11, 12, 13, 14, 15, 27, 28] fun K hK => ?_
  repeat first | ((with_reducible refine shN ?_); refine sL ?_) | ((with_reducible refine shG ?_); refine sG ?_)
  refine Eq.mpr evalL_nil (hK _ ?_)
  clear hK K
  simp only [evU, St.keep, List.map_cons, look, reduceIte, Nat.reduceEqDiff]
  try show AWP _ _ _ _ _
  obtain ⟨v1, hv1⟩ : ∃ x, rv l P1 Q1 4 = x := ⟨_, rfl⟩
  obtain ⟨v2, hv2⟩ : ∃ x, rv l P2 Q2 4 = x := ⟨_, rfl⟩
  obtain ⟨v3, hv3⟩ : ∃ x, rv l P3 Q3 4 = x := ⟨_, rfl⟩
  obtain ⟨tk, htk⟩ : ∃ x, tkB l (12 + 16 * (i : Int)) false 4 = x := ⟨_, rfl⟩
  rw [hv1, hv2, hv3, htk]
  rw [hv1] at v1b
  rw [hv2] at v2b
  rw [hv3] at v3b
  have hok : okT l n i = (!Q4 && decide (v2 + v3 ≤ (l.length : Int)) && decide (v2 % 4 = 0) && decide (12 + 16 * (n : Int) ≤ v2) && !(decide (0 < i) && leS (strL tk) (tagT l (i - 1)))) ∧ (Q4 = false → P4 = 12 + 16 * ((i + 1 : Nat) : Int) ∧ v1 = smT l i ∧ v2 = ofT l i ∧ v3 = lnT l i ∧ strL tk = tagT l i) := by
    by_cases h16 : 12 + 16 * (i + 1) ≤ l.length
    · have e1 := r4.yes (by omega)
      have e2 : v1 = smT l i := by
        rw [← hv1, r1.v4 (by omega), be4_at (by omega)]
        unfold smT
        congr 1
        omega
      have e3 : v2 = ofT l i := by
        rw [← hv2, r2.v4 (by omega), be4_at (by omega)]
        unfold ofT
        congr 1
        omega
      have e4 : v3 = lnT l i := by
        rw [← hv3, r3.v4 (by omega), be4_at (by omega)]
        unfold lnT
        congr 1
        omega
      have e5 : strL tk = tagT l i := by
        have : nxOK l.length (12 + 16 * (i : Int)).toNat false 4 = true := by simp only [nxOK, Bool.not_false, Bool.true_and, decide_eq_true_eq]; omega
        rw [← htk]
        unfold tkB tagT
        rw [this, if_pos rfl, show (12 + 16 * (i : Int)).toNat = 12 + 16 * i by omega]
        rfl
      refine ⟨?_, fun _ => ⟨by rw [e1.1]; omega, e2, e3, e4, e5⟩⟩
      unfold okT
      rw [e1.2, ← e3, ← e4, ← e5, decide_eq_true h16]
      rfl
    · have e1 : Q4 = true := by
        rcases r4 with h | h
        · omega
        · exact h.2.1
      refine ⟨?_, fun h => by rw [e1] at h; cases h⟩
      unfold okT
      rw [e1, decide_eq_false h16]
      rfl
  obtain ⟨hok, hvs⟩ := hok
  have em : (12 + 16 * (n : Int)) % 4294967296 = 12 + 16 * (n : Int) := by omega
  have hle : leS (strL tk) (tagT l (i - 1)) = (Op.bytesLess (strL tk).toList (tagT l (i - 1)).toList || (strL tk).toList == (tagT l (i - 1)).toList) := rfl
  have htl : (tabsT l i).length = i := tabsT_length
  have hsl : (smsT l i).length = i := smsT_length
  clear hP1 hQ1 hP2 hQ2 hP3 hQ3 hP4 hQ4 hv1 hv2 hv3 htk r0 r1 r2 r3 r4 b0 b1 b2 b3
  rcases Nat.eq_zero_or_pos i with hi0 | hi0
  · subst hi0
    repeat refine AWP.nest ?_
    have hxs := @em
    first | refine rda hG [] [0, 4, 5, 7, 8, 9, 10, 11, 12, 13, 14, 15, 27, 28, 81] Try.mixed fun K hK => ?_ | refine dna hG [] [0, 4, 5, 7, 8, 9, 10, 11, 12, 13, 14, 15, 27, 28, 81] Try.mixed fun K hK => ?_
    repeat first | ((with_reducible refine shD ?_); refine sD ?_) | ((with_reducible refine shDG ?_); refine sDG ?_)
    refine evalD_done (by kernel_rfl) (hK _ ?_)
    clear hK K hxs
    simp only [evU, St.keep, List.map_cons, look, reduceIte, Nat.reduceEqDiff]
    try show AWP _ _ _ _ _
    repeat refine AWP.nest ?_
    first | refine AWP.seq (AWP.cond (b := _) rfl (fun hc => ?_) (fun hc => ?_)) | refine AWP.cond (b := _) rfl (fun hc => ?_) (fun hc => ?_)
    all_goals try simp only [evC] at hc
    · have hno : okT l n 0 = false := by
        rw [hok]
        rcases hc with (((h | h) | h) | h) | h
        · rw [h]; rfl
        · rw [decide_eq_false (show ¬ (v2 + v3 ≤ (l.length : Int)) by simpa using h)]; simp
        · rw [decide_eq_false h]; simp
        · rw [decide_eq_false (show ¬ (12 + 16 * (n : Int) ≤ v2) by omega)]; simp
        · exact absurd h.1 (by simp)
      have hall : allT l n = false := by
        cases h : allT l n with
        | false => rfl
        | true => rw [allT_iff.1 h 0 hi'] at hno; cases hno
      rw [hall]
      repeat refine AWP.nest ?_
      first | refine rsa hG [] [2, 3] fun K hK => ?_ | refine rna hG [] [2, 3] fun K hK => ?_
      repeat first | ((with_reducible refine shN ?_); refine sL ?_) | ((with_reducible refine shG ?_); refine sG ?_)
      refine Eq.mpr evalL_nil (hK _ ?_)
      clear hK K
      simp only [evU, St.keep, List.map_cons, look, reduceIte, Nat.reduceEqDiff]
      try show AWP _ _ _ _ _
      refine AWP.ret ?_
      refine ⟨.inl rfl, ⟨⟨_, rfl, ?_⟩, fun ob hob => by cases hob⟩⟩
      simp only [look, reduceIte, Nat.reduceEqDiff]
      refine ⟨_, rfl, (.cons ?_ (.cons ?_ .nil))⟩
      · exact .nil _ _ _
      · exact sub1_of rfl
    refine AWP.skip ?_
    show AWP _ _ _ _ _
    have hyes : Q4 = false ∧ okT l n 0 = true := by
      obtain ⟨⟨⟨⟨h1, h2⟩, h3⟩, h4⟩, _⟩ := hc
      refine ⟨h1, ?_⟩
      rw [hok, h1, decide_eq_true (show v2 + v3 ≤ (l.length : Int) by simpa using h2), decide_eq_true h3, decide_eq_true (show 12 + 16 * (n : Int) ≤ v2 by omega)]
      rfl
    obtain ⟨hQ4, hyes⟩ := hyes
    obtain ⟨w1, w2, w3, w4, w5⟩ := hvs hQ4
    rw [hQ4, w1, w2, w3, w4, w5]
    repeat refine AWP.nest ?_
    first | refine rsa hG [] [0, 4, 5, 7, 8, 9, 10, 11, 14, 27, 28] fun K hK => ?_ | refine rna hG [] [0, 4, 5, 7, 8, 9, 10, 11, 14, 27, 28] fun K hK => ?_
    repeat first | ((with_reducible refine shN ?_); refine sL ?_) | ((with_reducible refine shG ?_); refine sG ?_)
    refine Eq.mpr evalL_nil (hK _ ?_)
    clear hK K
    simp only [evU, St.keep, List.map_cons, look, reduceIte, Nat.reduceEqDiff]
    try show AWP _ _ _ _ _
    repeat refine AWP.nest ?_
    first | refine rsa hG [] [0, 4, 5, 7, 8, 27, 28] fun K hK => ?_ | refine rna hG [] [0, 4, 5, 7, 8, 27, 28] fun K hK => ?_
    repeat first | ((with_reducible refine shN ?_); refine sL ?_) | ((with_reducible refine shG ?_); refine sG ?_)
    refine Eq.mpr evalL_nil (hK _ ?_)
    clear hK K
    simp only [evU, St.keep, List.map_cons, look, reduceIte, Nat.reduceEqDiff]
    try show AWP _ _ _ _ _
    refine AWP.trunc 3 (by rw [hps]; decide) rfl ?_
    simp only [St.trunc, List.take_zero, List.take_succ_cons]
    repeat refine AWP.nest ?_
    first | refine rsa hG [] [0, 4, 5, 7, 8, 27, 28] fun K hK => ?_ | refine rna hG [] [0, 4, 5, 7, 8, 27, 28] fun K hK => ?_
    repeat first | ((with_reducible refine shN ?_); refine sL ?_) | ((with_reducible refine shG ?_); refine sG ?_)
    refine Eq.mpr evalL_nil (hK _ ?_)
    clear hK K
    simp only [evU, St.keep, List.map_cons, look, reduceIte, Nat.reduceEqDiff]
    try show AWP _ _ _ _ _
    refine ⟨n - (0 + 1), by omega, 0 + 1, by omega, rfl, ?_, ?_⟩
    · intro j hjl
      by_cases hji : j < 0
      · exact hj j hji
      · rwa [show j = 0 by omega]
    rw [tabsT_succ, smsT_succ]
    rfl
  have hat : ∀ z, (tbs (tabsT l i)).getD ((i : Int) - 1).toNat z = .agg [.v (.string (tagT l (i - 1))), .sl 1 (ints .u8 (tabT l (i - 1)).2)] := fun z => by
    rw [show ((i : Int) - 1).toNat = i - 1 by omega, tbs_at (by rw [tabsT_length]; omega), tabsT_at (by omega)]
    rfl
  repeat refine AWP.nest ?_
  have hxs := And.intro @hat (And.intro @em @htl)
  first | refine rda hG [] [0, 4, 5, 7, 8, 9, 10, 11, 12, 13, 14, 15, 27, 28, 81] Try.mixed fun K hK => ?_ | refine dna hG [] [0, 4, 5, 7, 8, 9, 10, 11, 12, 13, 14, 15, 27, 28, 81] Try.mixed fun K hK => ?_
  repeat first | ((with_reducible refine shD ?_); refine sD ?_) | ((with_reducible refine shDG ?_); refine sDG ?_)
  refine evalD_done (by kernel_rfl) (hK _ ?_)
  clear hK K hxs
  simp only [evU, St.keep, List.map_cons, look, reduceIte, Nat.reduceEqDiff]
  try show AWP _ _ _ _ _
  repeat refine AWP.nest ?_
  first | refine AWP.seq (AWP.cond (b := _) rfl (fun hc => ?_) (fun hc => ?_)) | refine AWP.cond (b := _) rfl (fun hc => ?_) (fun hc => ?_)
  all_goals try simp only [evC] at hc
  · have hno : okT l n i = false := by
      rw [hok]
      rcases hc with (((h | h) | h) | h) | h
      · rw [h]; rfl
      · rw [decide_eq_false (show ¬ (v2 + v3 ≤ (l.length : Int)) by simpa using h)]; simp
      · rw [decide_eq_false h]; simp
      · rw [decide_eq_false (show ¬ (12 + 16 * (n : Int) ≤ v2) by omega)]; simp
      · rw [show leS (strL tk) (tagT l (i - 1)) = true by rw [hle]; simpa using h.2, decide_eq_true hi0]; simp
    have hall : allT l n = false := by
      cases h : allT l n with
      | false => rfl
      | true => rw [allT_iff.1 h i hi'] at hno; cases hno
    rw [hall]
    repeat refine AWP.nest ?_
    first | refine rsa hG [] [2, 3] fun K hK => ?_ | refine rna hG [] [2, 3] fun K hK => ?_
    repeat first | ((with_reducible refine shN ?_); refine sL ?_) | ((with_reducible refine shG ?_); refine sG ?_)
    refine Eq.mpr evalL_nil (hK _ ?_)
    clear hK K
    simp only [evU, St.keep, List.map_cons, look, reduceIte, Nat.reduceEqDiff]
    try show AWP _ _ _ _ _
    refine AWP.ret ?_
    refine ⟨.inl rfl, ⟨⟨_, rfl, ?_⟩, fun ob hob => by cases hob⟩⟩
    simp only [look, reduceIte, Nat.reduceEqDiff]
    refine ⟨_, rfl, (.cons ?_ (.cons ?_ .nil))⟩
    · exact .nil _ _ _
    · exact sub1_of rfl
  refine AWP.skip ?_
  show AWP _ _ _ _ _
  have hyes : Q4 = false ∧ okT l n i = true := by
    obtain ⟨⟨⟨⟨h1, h2⟩, h3⟩, h4⟩, h5⟩ := hc
    refine ⟨h1, ?_⟩
    rw [hok, h1, decide_eq_true (show v2 + v3 ≤ (l.length : Int) by simpa using h2), decide_eq_true h3, decide_eq_true (show 12 + 16 * (n : Int) ≤ v2 by omega), show leS (strL tk) (tagT l (i - 1)) = false by rw [hle]; simpa using h5.resolve_left (by omega)]
    simp
  obtain ⟨hQ4, hyes⟩ := hyes
  obtain ⟨w1, w2, w3, w4, w5⟩ := hvs hQ4
  rw [hQ4, w1, w2, w3, w4, w5]
  repeat refine AWP.nest ?_
  first | refine rsa hG [] [0, 4, 5, 7, 8, 9, 10, 11, 14, 27, 28] fun K hK => ?_ | refine rna hG [] [0, 4, 5, 7, 8, 9, 10, 11, 14, 27, 28] fun K hK => ?_
  repeat first | ((with_reducible refine shN ?_); refine sL ?_) | ((with_reducible refine shG ?_); refine sG ?_)
  refine Eq.mpr evalL_nil (hK _ ?_)
  clear hK K
  simp only [evU, St.keep, List.map_cons, look, reduceIte, Nat.reduceEqDiff]
  try show AWP _ _ _ _ _
  repeat refine AWP.nest ?_
  first | refine rsa hG [] [0, 4, 5, 7, 8, 27, 28] fun K hK => ?_ | refine rna hG [] [0, 4, 5, 7, 8, 27, 28] fun K hK => ?_
  repeat first | ((with_reducible refine shN ?_); refine sL ?_) | ((with_reducible refine shG ?_); refine sG ?_)
  refine Eq.mpr evalL_nil (hK _ ?_)
  clear hK K
  simp only [evU, St.keep, List.map_cons, look, reduceIte, Nat.reduceEqDiff]
  try show AWP _ _ _ _ _
  refine AWP.trunc 3 (by rw [hps]; decide) rfl ?_
  simp only [St.trunc, List.take_zero, List.take_succ_cons]
  repeat refine AWP.nest ?_
  first | refine rsa hG [] [0, 4, 5, 7, 8, 27, 28] fun K hK => ?_ | refine rna hG [] [0, 4, 5, 7, 8, 27, 28] fun K hK => ?_
  repeat first | ((with_reducible refine shN ?_); refine sL ?_) | ((with_reducible refine shG ?_); refine sG ?_)
  refine Eq.mpr evalL_nil (hK _ ?_)
  clear hK K
  simp only [evU, St.keep, List.map_cons, look, reduceIte, Nat.reduceEqDiff]
  try show AWP _ _ _ _ _
  refine ⟨n - (i + 1), by omega, i + 1, by omega, rfl, ?_, ?_⟩
  · intro j hjl
    by_cases hji : j < i
    · exact hj j hji
    · rwa [show j = i by omega]
  rw [tabsT_succ, smsT_succ]
  rfl
def e80 : List AV → Option Ob → Option Res := fun args i => match args, i with
  | [.d false (.sl 1 xs)], none => some ⟨IsB xs ∧ (toInts xs).length ≤ 1000000, .tup [.d true (.sl 2 (tbs (parT (toInts xs)).1)), .d true (.v (.int .i64 (parT (toInts xs)).2))], none⟩
  | _, _ => none
def F122 : FT := F121.upd 80 e80
theorem F122_ok : FOK Try.prog F122 := FOK.upd F121_ok Try.func80 (by kernel_rfl) rfl fun args i R h => by
  unfold e80 at h
  split at h
  · rename_i xs
    cases h
    refine Spec.pre fun h => ?_
    obtain ⟨l, rfl, hb⟩ := h.1.elim
    rw [toInts_ints] at h ⊢
    exact s80 l hb h.2
  · cases h
end Go.AM

