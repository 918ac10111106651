/- AM: sfnt.right; slices.Clone of tables; what a table without data is. -/
import Derived.Test.YtmfobkiljlepjaaC95
import Derived.Test.YtmfobkiljlepjaaK7
set_option maxRecDepth 100000
set_option maxHeartbeats 8000000
set_option linter.unusedSimpArgs false
set_option linter.unusedVariables false
namespace Go.AM
open Go Go.Proofs

theorem RL_low {C : Cx} {xs : List Dat} {fl : List Value} (h : Dat.RL C.w (C.Sh true) xs fl) : Dat.RL C.w (C.Sh false) xs fl := Dat.RL.stable (fun b hb => ⟨hb.any, rfl⟩) _ _ h
theorem RL_nil {w : World} {B : Nat → Prop} {R : List Tb} {s : ByteArray} {fl : List Value} (h : Dat.RL w B (tbs R ++ [.agg [.v (.string s), .v (.slice none 0 0)]]) fl) : Dat.RL w B (tbs (R ++ [(s, [])])) fl := by
  rw [← tbs_append]
  obtain ⟨c1, c2, e, h1, h2⟩ := Dat.RL.append.1 h
  refine Dat.RL.append.2 ⟨c1, c2, e, h1, ?_⟩
  show Dat.RL w B [.agg [.v (.string s), .sl 1 []]] c2
  unfold Dat.RL at h2 ⊢
  obtain ⟨c1, c2, e2, g1, g2⟩ := h2
  unfold Dat.RL at g2 ⊢
  refine ⟨c1, c2, e2, ?_, g2⟩
  unfold Dat.R at g1 ⊢
  unfold Dat.RF at g1 ⊢
  obtain ⟨x, xs, e3, n1, k1, k2⟩ := g1
  refine ⟨x, xs, e3, n1, k1, ?_⟩
  unfold Dat.RF at k2 ⊢
  obtain ⟨y, ys, e4, n2, m1, m2⟩ := k2
  refine ⟨y, ys, e4, rfl, ?_, m2⟩
  unfold Dat.R at m1 ⊢
  refine ⟨none, 0, m1.1, Nat.le_refl _, Nat.zero_le _, by simp, .inl rfl⟩
theorem tbs_wd {l : List Tb} : ∀ x ∈ tbs l, x.wd = 2 := by
  intro x hx
  unfold tbs at hx
  obtain ⟨t, _, rfl⟩ := List.mem_map.1 hx
  rfl
/-! ### slices.Clone -/


theorem s110z : Spec Try.prog 110 [.d false (.sl 2 [])] none ⟨True, .own 0 1, some (.row 106 2 1 false [])⟩ := by
  have hG := (Gf_ok F138_ok)
  have hfs := And.intro @evP @evTb
  have hxs := @Nat.add_zero
  refine spec_of_awp (Gf_ok F138_ok) Try.func110 rfl (Nat.le_of_ble_eq_true rfl) fun E hps hN _ => ?_
  simp only [begin, List.zipIdx_cons, List.zipIdx_nil, List.map_cons, List.map_nil, Option.toList, Nat.zero_add, Nat.reduceAdd]
  repeat refine AWP.nest ?_
  first | refine rsa hG [] [0] fun K hK => ?_ | refine rna hG [] [0] fun K hK => ?_
  repeat first | ((with_reducible refine shN ?_); refine sL ?_) | ((with_reducible refine shG ?_); refine sG ?_)
  refine Eq.mpr evalL_nil (hK _ ?_)
  clear hK K
  simp only [evU, St.keep, List.map_cons, look, reduceIte, Nat.reduceEqDiff]
  try show AWP _ _ _ _ _
  refine AWP.nest ?_
  refine AWP.nilcmp (t0 := 0) (t1 := 3) (t2 := 4) (ty := 100) T_ok (e := 106) (xs := []) (sz := 2) (fr := false) rfl rfl ?_ ?_ fun b hb => ?_
  · rw [hN]; decide
  · rw [hN]; decide
  refine AWP.keep [0, 4] ?_
  simp only [St.keep, List.map_cons, List.map_nil, look, reduceIte, Nat.reduceEqDiff]
  repeat refine AWP.nest ?_
  first | refine AWP.seq (AWP.cond (b := _) rfl (fun hc => ?_) (fun hc => ?_)) | refine AWP.cond (b := _) rfl (fun hc => ?_) (fun hc => ?_)
  all_goals try simp only [evC] at hc
  · repeat refine AWP.nest ?_
    first | refine rsa hG [] [2] fun K hK => ?_ | refine rna hG [] [2] fun K hK => ?_
    repeat first | ((with_reducible refine shN ?_); refine sL ?_) | ((with_reducible refine shG ?_); refine sG ?_)
    refine Eq.mpr evalL_nil (hK _ ?_)
    clear hK K
    simp only [evU, St.keep, List.map_cons, look, reduceIte, Nat.reduceEqDiff]
    try show AWP _ _ _ _ _
    refine AWP.adopt 2 106 2 (by decide) rfl ?_
    simp only [St.adopt, St.keep, List.map_cons, List.map_nil, look, reduceIte, Nat.reduceEqDiff, List.nil_append, List.length_nil, List.cons_append, List.length_cons, Nat.reduceAdd]
    refine AWP.bump 2 1 rfl rfl ?_
    refine AWP.rowto 0 false [] rfl rfl (fun x h => by cases h) (fun C fl h => RL_low h) ?_
    simp only [List.set_cons_zero, Nat.reduceAdd]
    refine AWP.ret ?_
    refine ⟨.inl rfl, ⟨⟨_, rfl, ?_⟩, fun ob hob => ?_⟩⟩
    simp only [look, reduceIte, Nat.reduceEqDiff]
    rotate_left
    cases hob
    · rfl
    · exact sub1_of rfl
  · refine AWP.skip ?_
    show AWP _ _ _ _ _
    repeat refine AWP.nest ?_
    first | refine rsa hG [0] [2] fun K hK => ?_ | refine rna hG [0] [2] fun K hK => ?_
    repeat first | ((with_reducible refine shN ?_); refine sL ?_) | ((with_reducible refine shG ?_); refine sG ?_)
    refine Eq.mpr evalL_nil (hK _ ?_)
    clear hK K
    simp only [evU, St.keep, List.map_cons, look, reduceIte, Nat.reduceEqDiff]
    try show AWP _ _ _ _ _
    refine AWP.rowto 0 false [] rfl rfl (fun x h => by cases h) (fun C fl h => RL_low h) ?_
    simp only [List.set_cons_zero, Nat.reduceAdd]
    refine AWP.ret ?_
    refine ⟨.inl rfl, ⟨⟨_, rfl, ?_⟩, fun ob hob => ?_⟩⟩
    simp only [look, reduceIte, Nat.reduceEqDiff]
    rotate_left
    cases hob
    · rfl
    · exact sub1_of rfl
def e110a : List AV → Option Ob → Option Res := fun args i => match args, i with
  | [.d false (.sl 2 xs)], none => some ⟨xs = tbs (toTbs xs) ∧ (toTbs xs).length ≤ 1000000, .own 0 1, some (.row 106 2 1 false (tbs (toTbs xs)))⟩
  | _, _ => none
def F139 : FT := F138.upd 110 e110a
theorem F139_ok : FOK Try.prog F139 := FOK.upd F138_ok Try.func110 (by kernel_rfl) rfl fun args i R h => by
  unfold e110a at h
  split at h
  · rename_i xs
    cases h
    refine Spec.pre fun h => ?_
    by_cases hn : toTbs xs = []
    · have hx := h.1
      rw [hn] at hx ⊢
      have hx' : xs = [] := hx
      subst hx'
      exact s110z
    · have := s110 (toTbs xs) hn h.2
      rw [← h.1] at this ⊢
      exact this
  · cases h
/-! ### sfnt.right -/
/-- Is the i-th table right? -/
def okR (S : List Tb) (i : Nat) : Bool := decide ((S.getD i tb0).1.size = 4) && !(decide (0 < i) && leS (S.getD i tb0).1 (S.getD (i - 1) tb0).1)
def rightT (S : List Tb) : Bool := (List.range S.length).all (okR S) && decide (1 ≤ S.length ∧ S.length ≤ 64)
theorem rightT_bad {S : List Tb} {i : Nat} (hi : i < S.length) (h : okR S i = false) : rightT S = false := by
  cases hr : rightT S with
  | false => rfl
  | true =>
    unfold rightT at hr
    rw [Bool.and_eq_true, List.all_eq_true] at hr
    rw [hr.1 i (List.mem_range.2 hi)] at h
    cases h
def sumL (S : List Tb) (i : Nat) : Nat := ((S.take i).map fun t => t.2.length).sum
theorem sumL_succ {S : List Tb} {i : Nat} (hi : i < S.length) : sumL S (i + 1) = sumL S i + (S.getD i tb0).2.length := by
  unfold sumL
  rw [take_tb hi, List.map_append, List.sum_append]
  simp
theorem sumL_le {S : List Tb} (hs : ∀ t ∈ S, t.2.length ≤ 60000) : ∀ i, i ≤ S.length → sumL S i ≤ 60000 * i
  | 0, _ => by simp [sumL]
  | i + 1, hi => by
    have := sumL_le hs i (by omega)
    rw [sumL_succ (by omega)]
    have h2 : (S.getD i tb0).2.length ≤ 60000 := by
      rw [List.getD_eq_getElem?_getD, List.getElem?_eq_getElem (by omega)]
      exact hs _ (List.getElem_mem _)
    omega

theorem s114 (S : List Tb) (hS : S.length ≤ 1000) (hs : ∀ t ∈ S, t.2.length ≤ 60000) : Spec Try.prog 114 [.d false (.sl 2 (tbs S))] none ⟨True, .d true (.v (.bool (rightT S))), none⟩ := by
  have hG := (Gf_ok F139_ok)
  have hfs := And.intro @evP @evTb
  have hxs := @Nat.add_zero
  refine spec_of_awp (Gf_ok F139_ok) Try.func114 rfl (Nat.le_of_ble_eq_true rfl) fun E hps hN _ => ?_
  simp only [begin, List.zipIdx_cons, List.zipIdx_nil, List.map_cons, List.map_nil, Option.toList, Nat.zero_add, Nat.reduceAdd]
  have c0 : (0 : Int) = ((sumL S 0 : Nat) : Int) := rfl
  repeat refine AWP.nest ?_
  first | refine rsa hG [] [0] fun K hK => ?_ | refine rna hG [] [0] fun K hK => ?_
  repeat first | ((with_reducible refine shN ?_); refine sL ?_) | ((with_reducible refine shG ?_); refine sG ?_)
  refine Eq.mpr evalL_nil (hK _ ?_)
  clear hK K
  simp only [evU, St.keep, List.map_cons, look, reduceIte, Nat.reduceEqDiff]
  try show AWP _ _ _ _ _
  repeat refine AWP.nest ?_
  first | refine rsa hG [] [0, 3] fun K hK => ?_ | refine rna hG [] [0, 3] fun K hK => ?_
  repeat first | ((with_reducible refine shN ?_); refine sL ?_) | ((with_reducible refine shG ?_); refine sG ?_)
  refine Eq.mpr evalL_nil (hK _ ?_)
  clear hK K
  simp only [evU, St.keep, List.map_cons, look, reduceIte, Nat.reduceEqDiff]
  try show AWP _ _ _ _ _
  repeat refine AWP.nest ?_
  first | refine rsa hG [] [0, 3, 6, 7, 8] fun K hK => ?_ | refine rna hG [] [0, 3, 6, 7, 8] fun K hK => ?_
  repeat first | ((with_reducible refine shN ?_); refine sL ?_) | ((with_reducible refine shG ?_); refine sG ?_)
  refine Eq.mpr evalL_nil (hK _ ?_)
  clear hK K
  simp only [evU, St.keep, List.map_cons, look, reduceIte, Nat.reduceEqDiff]
  try show AWP _ _ _ _ _
  repeat refine AWP.nest ?_
  first | refine AWP.seq (AWP.block ?_) | refine AWP.block ?_
  refine AWP.loop (fun k st => ∃ (i : Nat), i ≤ S.length ∧ k = S.length - i ∧ (∀ j, j < i → okR S j = true) ∧ st = ⟨[(0, .d false (.sl 2 (tbs S))), (3, .d true (.v (.int .i64 (sumL S i : Int)))), (6, .d false (.sl 2 (tbs S))), (7, .d true (.v (.int .i64 (S.length : Int)))), (8, .d true (.v (.int .i64 (i : Int))))], []⟩) (S.length) ?_ ?_
  · exact ⟨0, Nat.zero_le _, rfl, fun j h => absurd h (Nat.not_lt_zero j), rfl⟩
  rintro k st ⟨i, hi, hk, hj, rfl⟩
  repeat refine AWP.nest ?_
  first | refine rsa hG [] [0, 3, 6, 7, 8, 9] fun K hK => ?_ | refine rna hG [] [0, 3, 6, 7, 8, 9] fun K hK => ?_
  repeat first | ((with_reducible refine shN ?_); refine sL ?_) | ((with_reducible refine shG ?_); refine sG ?_)
  refine Eq.mpr evalL_nil (hK _ ?_)
  clear hK K
  simp only [evU, St.keep, List.map_cons, look, reduceIte, Nat.reduceEqDiff]
  try show AWP _ _ _ _ _
  first | refine AWP.seq (AWP.cond (b := _) rfl (fun hc => ?_) (fun hc => ?_)) | refine AWP.cond (b := _) rfl (fun hc => ?_) (fun hc => ?_)
  rotate_left
  · refine AWP.exit ?_
    show AWP _ _ _ _ _
    simp only [evC, Int.not_lt] at hc
    obtain rfl : i = S.length := by omega
    have hall : (List.range S.length).all (okR S) = true := by
      rw [List.all_eq_true]
      intro j hj'
      exact hj j (List.mem_range.1 hj')
    unfold rightT
    rw [hall, Bool.true_and]
    repeat refine AWP.nest ?_
    first | refine rsa hG [] [2] fun K hK => ?_ | refine rna hG [] [2] fun K hK => ?_
    repeat first | ((with_reducible refine shN ?_); refine sL ?_) | ((with_reducible refine shG ?_); refine sG ?_)
    refine Eq.mpr evalL_nil (hK _ ?_)
    clear hK K
    simp only [evU, St.keep, List.map_cons, look, reduceIte, Nat.reduceEqDiff]
    try show AWP _ _ _ _ _
    refine AWP.ret ?_
    refine ⟨.inl rfl, ⟨⟨_, rfl, ?_⟩, fun ob hob => by cases hob⟩⟩
    simp only [look, reduceIte, Nat.reduceEqDiff]
    refine sub1_of ?_
    by_cases h1 : 1 ≤ S.length <;> by_cases h2 : S.length ≤ 64
    · simp [h1, h2]; omega
    · simp [h1, h2]; omega
    · simp [h1, h2]; omega
    · omega
  simp only [evC, Int.not_lt] at hc
  refine AWP.skip ?_
  show AWP _ _ _ _ _
  have hi' : i < S.length := by omega
  clear hc
  have hsl := sumL_le hs (i + 1) (by omega)
  rw [sumL_succ hi'] at hsl
  have cs : ((sumL S i : Nat) : Int) + ((S.getD i tb0).2.length : Int) = ((sumL S (i + 1) : Nat) : Int) := by rw [sumL_succ hi']; omega
  have hat : ∀ z, (tbs S).getD i z = .agg [.v (.string (S.getD i tb0).1), .sl 1 (ints .u8 (S.getD i tb0).2)] := fun z => tbs_at hi'
  have hok : okR S i = (decide ((S.getD i tb0).1.size = 4) && !(decide (0 < i) && leS (S.getD i tb0).1 (S.getD (i - 1) tb0).1)) := rfl
  have fin : okR S i = true → ∀ j, j < i + 1 → okR S j = true := fun hyes j hjl => by
    by_cases hji : j < i
    · exact hj j hji
    · rwa [show j = i by omega]
  repeat refine AWP.nest ?_
  first | refine AWP.seq (AWP.block ?_) | refine AWP.block ?_
  repeat refine AWP.nest ?_
  have hxs := @hat
  first | refine rsa hG [] [0, 3, 4, 5, 6, 7, 8] fun K hK => ?_ | refine rna hG [] [0, 3, 4, 5, 6, 7, 8] fun K hK => ?_
  repeat first | ((with_reducible refine shN ?_); refine sL ?_) | ((with_reducible refine shG ?_); refine sG ?_)
  refine Eq.mpr evalL_nil (hK _ ?_)
  clear hK K hxs
  simp only [evU, St.keep, List.map_cons, look, reduceIte, Nat.reduceEqDiff]
  try show AWP _ _ _ _ _
  repeat refine AWP.nest ?_
  have hxs := @cs
  first | refine rsa hG [] [0, 3, 4, 5, 6, 7, 8] fun K hK => ?_ | refine rna hG [] [0, 3, 4, 5, 6, 7, 8] fun K hK => ?_
  repeat first | ((with_reducible refine shN ?_); refine sL ?_) | ((with_reducible refine shG ?_); refine sG ?_)
  refine Eq.mpr evalL_nil (hK _ ?_)
  clear hK K hxs
  simp only [evU, St.keep, List.map_cons, look, reduceIte, Nat.reduceEqDiff]
  try show AWP _ _ _ _ _
  have at1 := tbs_at' (l := S) (i := (i : Int) - 1) (n := i - 1) (by omega) (by omega)
  have hle : leS (S.getD i tb0).1 (S.getD (i - 1) tb0).1 = (Op.bytesLess (S.getD i tb0).1.toList (S.getD (i - 1) tb0).1.toList || (S.getD i tb0).1.toList == (S.getD (i - 1) tb0).1.toList) := rfl
  repeat refine AWP.nest ?_
  have hxs := @at1
  first | refine rda hG [] [0, 3, 6, 7, 8, 40] Try.mixed fun K hK => ?_ | refine dna hG [] [0, 3, 6, 7, 8, 40] Try.mixed fun K hK => ?_
  repeat first | ((with_reducible refine shD ?_); refine sD ?_) | ((with_reducible refine shDG ?_); refine sDG ?_)
  refine evalD_done (by kernel_rfl) (hK _ ?_)
  clear hK K hxs
  simp only [evU, St.keep, List.map_cons, look, reduceIte, Nat.reduceEqDiff]
  try show AWP _ _ _ _ _
  repeat refine AWP.nest ?_
  first | refine AWP.seq (AWP.cond (b := _) rfl (fun hc => ?_) (fun hc => ?_)) | refine AWP.cond (b := _) rfl (fun hc => ?_) (fun hc => ?_)
  all_goals try simp only [evC] at hc
  · rw [rightT_bad hi' (by
      rw [hok]
      rcases hc with (h | h) | h
      · omega
      · rw [decide_eq_false (by omega)]; rfl
      · rw [show leS (S.getD i tb0).1 (S.getD (i - 1) tb0).1 = true by rw [hle, Bool.or_eq_true, beq_iff_eq]; exact h.2, decide_eq_true (show 0 < i by omega)]; simp)]
    repeat refine AWP.nest ?_
    first | refine rsa hG [] [2] fun K hK => ?_ | refine rna hG [] [2] fun K hK => ?_
    repeat first | ((with_reducible refine shN ?_); refine sL ?_) | ((with_reducible refine shG ?_); refine sG ?_)
    refine Eq.mpr evalL_nil (hK _ ?_)
    clear hK K
    simp only [evU, St.keep, List.map_cons, look, reduceIte, Nat.reduceEqDiff]
    try show AWP _ _ _ _ _
    refine AWP.ret ?_
    refine ⟨.inl rfl, ⟨⟨_, rfl, ?_⟩, fun ob hob => by cases hob⟩⟩
    simp only [look, reduceIte, Nat.reduceEqDiff]
    exact sub1_of rfl
  refine AWP.skip ?_
  show AWP _ _ _ _ _
  have hyes : okR S i = true := by
    obtain ⟨⟨_, h2⟩, h3⟩ := hc
    rw [hok, decide_eq_true (show (S.getD i tb0).1.size = 4 by omega), Bool.true_and]
    rcases h3 with h3 | h3
    · rw [decide_eq_false (show ¬ 0 < i by omega)]; rfl
    · rw [show leS (S.getD i tb0).1 (S.getD (i - 1) tb0).1 = false by rw [hle, Bool.or_eq_false_iff, beq_eq_false_iff_ne]; exact h3]; simp
  clear hc
  refine AWP.keep [0, 3, 6, 7, 8] ?_
  simp only [St.keep, List.map_cons, List.map_nil, look, reduceIte, Nat.reduceEqDiff]
  refine AWP.trunc 0 (by rw [hps]; decide) rfl ?_
  simp only [St.trunc, List.take_zero, List.take_succ_cons]
  repeat refine AWP.nest ?_
  first | refine rsa hG [] [0, 3, 6, 7, 8] fun K hK => ?_ | refine rna hG [] [0, 3, 6, 7, 8] fun K hK => ?_
  repeat first | ((with_reducible refine shN ?_); refine sL ?_) | ((with_reducible refine shG ?_); refine sG ?_)
  refine Eq.mpr evalL_nil (hK _ ?_)
  clear hK K
  simp only [evU, St.keep, List.map_cons, look, reduceIte, Nat.reduceEqDiff]
  try show AWP _ _ _ _ _
  exact ⟨S.length - (i + 1), by omega, i + 1, by omega, rfl, fin hyes, rfl⟩
def e114 : List AV → Option Ob → Option Res := fun args i => match args, i with
  | [.d false (.sl 2 xs)], none => some ⟨xs = tbs (toTbs xs) ∧ (toTbs xs).length ≤ 1000 ∧ ∀ t ∈ toTbs xs, t.2.length ≤ 60000, .d true (.v (.bool (rightT (toTbs xs)))), none⟩
  | _, _ => none
def F140 : FT := F139.upd 114 e114
theorem F140_ok : FOK Try.prog F140 := FOK.upd F139_ok Try.func114 (by kernel_rfl) rfl fun args i R h => by
  unfold e114 at h
  split at h
  · rename_i xs
    cases h
    refine Spec.pre fun h => ?_
    have := s114 (toTbs xs) h.2.1 h.2.2
    rw [← h.1] at this
    exact this
  · cases h
theorem rightT_iff {S : List Tb} : rightT S = true ↔ 1 ≤ S.length ∧ S.length ≤ 64 ∧ Tags4 S ∧ upT S := by
  have hg : ∀ i, (h : i < S.length) → S.getD i tb0 = S[i] := fun i h => by rw [List.getD_eq_getElem?_getD, List.getElem?_eq_getElem h]; rfl
  have hlt : ∀ a b : Tb, leS b.1 a.1 = false ↔ ltT a b = true := fun a b => by
    unfold leS
    rw [Bool.or_eq_false_iff, beq_eq_false_iff_ne, ltT_eq]
    constructor
    · rintro ⟨h1, h2⟩
      rcases bl_tri b.1.toList a.1.toList with h3 | h3 | h3
      · rw [h3] at h1; cases h1
      · exact absurd h3 h2
      · exact h3
    · intro h
      refine ⟨bl_asy h, fun e => ?_⟩
      rw [e, bl_irr] at h
      cases h
  unfold rightT
  rw [Bool.and_eq_true, List.all_eq_true, decide_eq_true_eq]
  constructor
  · rintro ⟨h, h1, h2⟩
    refine ⟨h1, h2, fun t ht => ?_, ?_⟩
    · obtain ⟨i, hi, rfl⟩ := List.getElem_of_mem ht
      have := h i (List.mem_range.2 hi)
      unfold okR at this
      rw [Bool.and_eq_true, decide_eq_true_eq, hg i hi] at this
      exact this.1
    · have step : ∀ i, (hi : i + 1 < S.length) → ltT (S[i]'(by omega)) S[i + 1] = true := fun i hi => by
        have := h (i + 1) (List.mem_range.2 hi)
        unfold okR at this
        rw [Bool.and_eq_true, Bool.not_eq_true', Bool.and_eq_false_iff, hg (i + 1) hi, Nat.add_sub_cancel, hg i (by omega)] at this
        rcases this.2 with h3 | h3
        · simp at h3
        · exact (hlt _ _).1 h3
      unfold upT
      rw [List.pairwise_iff_getElem]
      have all : ∀ d i, (hi : i + 1 + d < S.length) → ltT (S[i]'(by omega)) (S[i + 1 + d]) = true := by
        intro d
        induction d with
        | zero => intro i hi; exact step i hi
        | succ d ih => intro i hi; exact ltT_tr (ih i (by omega)) (step (i + 1 + d) hi)
      intro i j hi hj hij
      have := all (j - (i + 1)) i (by omega)
      have e : i + 1 + (j - (i + 1)) = j := by omega
      simp only [e] at this
      exact this
  · rintro ⟨h1, h2, h3, h4⟩
    refine ⟨fun i hi => ?_, h1, h2⟩
    have hi := List.mem_range.1 hi
    unfold okR
    rw [Bool.and_eq_true, decide_eq_true_eq, hg i hi]
    refine ⟨h3 _ (List.getElem_mem _), ?_⟩
    rw [Bool.not_eq_true', Bool.and_eq_false_iff, decide_eq_false_iff_not]
    rcases Nat.eq_zero_or_pos i with h0 | h0
    · exact .inl (by omega)
    · right
      rw [hg (i - 1) (by omega)]
      exact (hlt _ _).2 (List.pairwise_iff_getElem.1 h4 (i - 1) i (by omega) hi (by omega))
end Go.AM

