/- AM: seg.Parse. -/
import Derived.Test.YtmfobkiljlepjaaC33
set_option maxRecDepth 100000
set_option maxHeartbeats 8000000
set_option linter.unusedSimpArgs false
set_option linter.unusedVariables false
namespace Go.AM
open Go Go.Proofs

theorem n2V_take {l : List Int} {S k : Nat} (h : k + 2 ≤ S) (hS : S ≤ l.length) : n2V (l.take S) (k : Int) = n2V l (k : Int) := by
  have hl : (l.take S).length = S := by simp only [List.length_take]; omega
  rw [← be2_at (l := l.take S) (k := k) (by omega), ← be2_at (l := l) (k := k) (by omega), List.drop_take, List.take_take, show min 2 (S - k) = 2 by omega]
theorem or_low64 {x b : Int} (hx : 0 ≤ x) (hx2 : x < 256) (h0 : 0 ≤ b) (h1 : b < 256) : AM.bits .or .i64 (x * 256) b = x * 256 + b := by
  rw [bits_kit]
  exact bits_join .i64 32 (by decide) (fun n h h' => by rw [w_i64 (by omega) (by omega)]) 8 _ _ (by omega) (by omega) (by omega) h0 (by omega) (by omega)
/-- What is read of a table: its segments, and its bytes. -/
def segP (l : List Int) : List (Int × Int × Int × Int) := if rightS l = true then segsR l (nS l) else []
def datP (l : List Int) : List Int := if rightS l = true then l.take (n2V l 2).toNat else []
def segT (l : List Int) (n i : Nat) : List (Int × Int × Int × Int) := (List.range i).map (segR l n)
theorem segT_len (l : List Int) (n i : Nat) : (segT l n i).length = i := by simp [segT]
theorem segT_snoc (l : List Int) (n i : Nat) : segT l n (i + 1) = segT l n i ++ [segR l n i] := by simp [segT, List.range_succ]


theorem s52 (l : List Int) (hb : Byt l) (hl : l.length ≤ 1000000000) : Spec Try.prog 52 [.d false (.sl 1 (ints .u8 l))] none ⟨True, .tup [.d true (.agg [.sl 4 (sgs (segP l)), .sl 1 (ints .u8 (datP l))]), .d true (.v (.int .i64 (if rightS l = true then 0 else 2)))], none⟩ := by
  have hf87 : F61 87 = e87 := rfl
  have hf92 : F61 92 = e92' := rfl
  have hf100 : F61 100 = e100 := rfl
  have hf101 : F61 101 = e101 := rfl
  have hf102 : F61 102 = e102 := rfl
  have hG := (Gf_ok F61_ok)
  have hfs := And.intro @hf87 (And.intro @e87.eq_1 (And.intro @hf92 (And.intro @e92'.eq_1 (And.intro @hf100 (And.intro @e100.eq_1 (And.intro @hf101 (And.intro @e101.eq_1 (And.intro @hf102 (And.intro @e102.eq_1 (And.intro @evP @evS))))))))))
  have hxs := @Nat.add_zero
  refine spec_of_awp (Gf_ok F61_ok) Try.func52 rfl (Nat.le_of_ble_eq_true rfl) fun E hps hN _ => ?_
  simp only [begin, List.zipIdx_cons, List.zipIdx_nil, List.map_cons, List.map_nil, Option.toList, Nat.zero_add, Nat.reduceAdd]
  repeat refine AWP.nest ?_
  first | refine rsa hG [] [0, 2] fun K hK => ?_ | refine rna hG [] [0, 2] fun K hK => ?_
  repeat first | ((with_reducible refine shN ?_); refine sL ?_) | ((with_reducible refine shG ?_); refine sG ?_)
  refine Eq.mpr evalL_nil (hK _ ?_)
  clear hK K
  simp only [evU, St.keep, List.map_cons, look, reduceIte, Nat.reduceEqDiff]
  try show AWP _ _ _ _ _
  repeat refine AWP.nest ?_
  first | refine rsa hG [] [0, 2, 4, 5] fun K hK => ?_ | refine rna hG [] [0, 2, 4, 5] fun K hK => ?_
  repeat first | ((with_reducible refine shN ?_); refine sL ?_) | ((with_reducible refine shG ?_); refine sG ?_)
  refine Eq.mpr evalL_nil (hK _ ?_)
  clear hK K
  simp only [evU, St.keep, List.map_cons, look, reduceIte, Nat.reduceEqDiff]
  try show AWP _ _ _ _ _
  repeat refine AWP.nest ?_
  first | refine rsa hG [] [0, 2, 4, 22] fun K hK => ?_ | refine rna hG [] [0, 2, 4, 22] fun K hK => ?_
  repeat first | ((with_reducible refine shN ?_); refine sL ?_) | ((with_reducible refine shG ?_); refine sG ?_)
  refine Eq.mpr evalL_nil (hK _ ?_)
  clear hK K
  simp only [evU, St.keep, List.map_cons, look, reduceIte, Nat.reduceEqDiff]
  try show AWP _ _ _ _ _
  have hno : rightS l = false → segP l = [] ∧ datP l = [] := fun h => by unfold segP datP; rw [h]; exact ⟨rfl, rfl⟩
  repeat refine AWP.nest ?_
  first | refine AWP.seq (AWP.cond (b := _) rfl (fun hc => ?_) (fun hc => ?_)) | refine AWP.cond (b := _) rfl (fun hc => ?_) (fun hc => ?_)
  all_goals try simp only [evC] at hc
  · have hf : rightS l = false := rightS_no fun h => by rw [h.1, h.2.1] at hc; cases hc
    rw [(hno hf).1, (hno hf).2, hf]
    repeat refine AWP.nest ?_
    first | refine rsa hG [] [2, 3] fun K hK => ?_ | refine rna hG [] [2, 3] fun K hK => ?_
    repeat first | ((with_reducible refine shN ?_); refine sL ?_) | ((with_reducible refine shG ?_); refine sG ?_)
    refine Eq.mpr evalL_nil (hK _ ?_)
    clear hK K
    simp only [evU, St.keep, List.map_cons, look, reduceIte, Nat.reduceEqDiff]
    try show AWP _ _ _ _ _
    refine AWP.tellC 0 0 rfl rfl (.nil true true 4) ?_
    refine AWP.tellC 0 1 rfl rfl (.nil true true 1) ?_
    refine AWP.ret ?_
    refine ⟨.inl rfl, ⟨⟨_, rfl, ?_⟩, fun ob hob => by cases hob⟩⟩
    simp only [look, reduceIte, Nat.reduceEqDiff]
    refine ⟨_, rfl, (.cons ?_ (.cons ?_ .nil))⟩
    · exact sub1_of rfl
    · exact sub1_of rfl
  refine AWP.skip ?_
  show AWP _ _ _ _ _
  obtain ⟨hd, hs⟩ : hdS l = true ∧ srS l = true := by
    have : (hdS l && srS l) = true := by simpa using hc
    simpa using this
  clear hc
  rw [hd, if_pos rfl]
  obtain ⟨hn0, hn1, hn6, hnS, hSl, h24⟩ := hdS_num hb hd
  have z2 := n2V_bound hb 2
  obtain ⟨S, hS⟩ : ∃ S : Nat, n2V l 2 = S := ⟨(n2V l 2).toNat, by omega⟩
  obtain ⟨n, hn⟩ : ∃ n : Nat, nS l = n := ⟨_, rfl⟩
  rw [hS] at hnS hSl z2
  rw [hn] at hn0 hn1 hn6 hnS ⊢
  have g2 := hb.getD 2
  have g3 := hb.getD 3
  have eo : bits BinOp.or IntKind.i64 (l.getD 2 0 * 256) (l.getD 3 0) = (S : Int) := by
    rw [or_low64 g2.1 g2.2 g3.1 g3.2, ← hS]
    have hk : n2OK l.length (2 : Int) = true := by simp only [n2OK, decide_eq_true_eq]; omega
    unfold n2V
    rw [hk, if_pos rfl]
    show _ = 256 * l.getD 2 0 + l.getD 3 0
    omega
  repeat refine AWP.nest ?_
  have hxs := @eo
  first | refine rda hG [] [0, 2, 4, 6] Try.mixed fun K hK => ?_ | refine dna hG [] [0, 2, 4, 6] Try.mixed fun K hK => ?_
  repeat first | ((with_reducible refine shD ?_); refine sD ?_) | ((with_reducible refine shDG ?_); refine sDG ?_)
  refine evalD_done (by kernel_rfl) (hK _ ?_)
  clear hK K hxs
  simp only [evU, St.keep, List.map_cons, look, reduceIte, Nat.reduceEqDiff]
  try show AWP _ _ _ _ _
  clear eo g2 g3
  have hq : Byt (l.take S) := hb.take _
  have hql : (l.take S).length = S := by simp only [List.length_take]; omega
  have t1 : rp S 0 false 14 = 14 ∧ rb S 0 false 14 = false := by
    have : nxOK S (Int.toNat 0) false 14 = true := by simp only [nxOK, Bool.not_false, Bool.true_and, decide_eq_true_eq]; omega
    unfold rp rb
    rw [this]
    exact ⟨rfl, rfl⟩
  repeat refine AWP.nest ?_
  first | refine rsa hG [] [0, 2, 4, 6, 7] fun K hK => ?_ | refine rna hG [] [0, 2, 4, 6, 7] fun K hK => ?_
  repeat first | ((with_reducible refine shN ?_); refine sL ?_) | ((with_reducible refine shG ?_); refine sG ?_)
  refine Eq.mpr evalL_nil (hK _ ?_)
  clear hK K
  simp only [evU, St.keep, List.map_cons, look, reduceIte, Nat.reduceEqDiff]
  try show AWP _ _ _ _ _
  repeat refine AWP.nest ?_
  have hxs := And.intro @hql (And.intro @t1.1 @t1.2)
  first | refine rsa hG [] [0, 2, 4, 6, 7] fun K hK => ?_ | refine rna hG [] [0, 2, 4, 6, 7] fun K hK => ?_
  repeat first | ((with_reducible refine shN ?_); refine sL ?_) | ((with_reducible refine shG ?_); refine sG ?_)
  refine Eq.mpr evalL_nil (hK _ ?_)
  clear hK K hxs
  simp only [evU, St.keep, List.map_cons, look, reduceIte, Nat.reduceEqDiff]
  try show AWP _ _ _ _ _
  have e102' : ((14 : Int) + 2 * (n : Int)).toNat = 14 + 2 * n := by omega
  repeat refine AWP.nest ?_
  have hxs := @hql
  first | refine rsa hG [] [0, 2, 4, 6, 7, 8] fun K hK => ?_ | refine rna hG [] [0, 2, 4, 6, 7, 8] fun K hK => ?_
  repeat first | ((with_reducible refine shN ?_); refine sL ?_) | ((with_reducible refine shG ?_); refine sG ?_)
  refine Eq.mpr evalL_nil (hK _ ?_)
  clear hK K hxs
  simp only [evU, St.keep, List.map_cons, look, reduceIte, Nat.reduceEqDiff]
  try show AWP _ _ _ _ _
  obtain ⟨r1, r2, r3⟩ := read2 (l := l.take S) (p := (14 : Int) + 2 * (n : Int)) (14 + 2 * n) (by omega) (by omega)
  rw [hql] at r2 r3
  have wp := n2V_bound hq ((14 : Int) + 2 * (n : Int))
  repeat refine AWP.nest ?_
  have hxs := And.intro @hql (And.intro @r1 (And.intro @r2 @r3))
  first | refine rsa hG [] [0, 2, 4, 6, 7, 8, 9] fun K hK => ?_ | refine rna hG [] [0, 2, 4, 6, 7, 8, 9] fun K hK => ?_
  repeat first | ((with_reducible refine shN ?_); refine sL ?_) | ((with_reducible refine shG ?_); refine sG ?_)
  refine Eq.mpr evalL_nil (hK _ ?_)
  clear hK K hxs
  simp only [evU, St.keep, List.map_cons, look, reduceIte, Nat.reduceEqDiff]
  try show AWP _ _ _ _ _
  have ep : ((14 : Int) + 2 * (n : Int) + 2) = 16 + 2 * n := by omega
  have ep2 : ((16 : Int) + 2 * (n : Int)).toNat = 16 + 2 * n := by omega
  have ep3 : ((16 : Int) + 2 * (n : Int) + 2 * (n : Int)).toNat = 16 + 4 * n := by omega
  have ep4 : ((16 : Int) + 2 * (n : Int) + 2 * (n : Int) + 2 * (n : Int)).toNat = 16 + 6 * n := by omega
  rw [ep]
  repeat refine AWP.nest ?_
  have hxs := And.intro @hql (And.intro @ep2 (And.intro @ep3 @ep4))
  first | refine rsa hG [] [0, 2, 4, 6, 8, 9, 10, 11, 12] fun K hK => ?_ | refine rna hG [] [0, 2, 4, 6, 8, 9, 10, 11, 12] fun K hK => ?_
  repeat first | ((with_reducible refine shN ?_); refine sL ?_) | ((with_reducible refine shG ?_); refine sG ?_)
  refine Eq.mpr evalL_nil (hK _ ?_)
  clear hK K hxs
  simp only [evU, St.keep, List.map_cons, look, reduceIte, Nat.reduceEqDiff]
  try show AWP _ _ _ _ _
  have t2 : tkB l 0 false S = l.take S := by
    have : nxOK l.length (Int.toNat 0) false (S : Int) = true := by simp only [nxOK, Bool.not_false, Bool.true_and, decide_eq_true_eq]; omega
    unfold tkB
    rw [this, if_pos rfl]
    show (l.drop 0).take (S : Int).toNat = _
    rw [List.drop_zero, Int.toNat_natCast]
  repeat refine AWP.nest ?_
  have hxs := @t2
  first | refine rsa hG [] [2, 4, 6, 8, 9, 10, 11, 12, 13] fun K hK => ?_ | refine rna hG [] [2, 4, 6, 8, 9, 10, 11, 12, 13] fun K hK => ?_
  repeat first | ((with_reducible refine shN ?_); refine sL ?_) | ((with_reducible refine shG ?_); refine sG ?_)
  refine Eq.mpr evalL_nil (hK _ ?_)
  clear hK K hxs
  simp only [evU, St.keep, List.map_cons, look, reduceIte, Nat.reduceEqDiff]
  try show AWP _ _ _ _ _
  repeat refine AWP.nest ?_
  first | refine rsa hG [] [2, 4, 6, 8, 9, 10, 11, 12, 13, 59, 60] fun K hK => ?_ | refine rna hG [] [2, 4, 6, 8, 9, 10, 11, 12, 13, 59, 60] fun K hK => ?_
  repeat first | ((with_reducible refine shN ?_); refine sL ?_) | ((with_reducible refine shG ?_); refine sG ?_)
  refine Eq.mpr evalL_nil (hK _ ?_)
  clear hK K
  simp only [evU, St.keep, List.map_cons, look, reduceIte, Nat.reduceEqDiff]
  try show AWP _ _ _ _ _
  refine AWP.adoptC 3 0 145 4 (by decide) rfl rfl ?_
  simp only [List.set_cons_zero, List.set_cons_succ, List.cons_append, List.nil_append, List.length_cons, List.length_nil, Nat.reduceAdd]
  have hc1 : ∀ i, i < n → (colV (l.take S) 14 n).getD i 0 = n2V l (14 + 2 * (i : Int)) := fun i h => by
    rw [colV_at h, n2V_take (by omega) (by omega)]
    congr 1
  have hc2 : ∀ i, i < n → (colV (l.take S) (16 + 2 * n) n).getD i 0 = n2V l (16 + 2 * (n : Int) + 2 * (i : Int)) := fun i h => by
    rw [colV_at h, n2V_take (by omega) (by omega)]
    congr 1
  have hc3 : ∀ i, i < n → (colV (l.take S) (16 + 4 * n) n).getD i 0 = n2V l (16 + 4 * (n : Int) + 2 * (i : Int)) := fun i h => by
    rw [colV_at h, n2V_take (by omega) (by omega)]
    congr 1
  have hc4 : ∀ i, i < n → (colV (l.take S) (16 + 6 * n) n).getD i 0 = n2V l (16 + 6 * (n : Int) + 2 * (i : Int)) := fun i h => by
    rw [colV_at h, n2V_take (by omega) (by omega)]
    congr 1
  have hpad : n2V (l.take S) (14 + 2 * (n : Int)) = n2V l (14 + 2 * (n : Int)) := by
    have := n2V_take (l := l) (S := S) (k := 14 + 2 * n) (by omega) (by omega)
    rwa [show ((14 + 2 * n : Nat) : Int) = 14 + 2 * (n : Int) by omega] at this
  have cl1 := colV_len (l.take S) 14 n
  have cl2 := colV_len (l.take S) (16 + 2 * n) n
  have cl3 := colV_len (l.take S) (16 + 4 * n) n
  have cl4 := colV_len (l.take S) (16 + 6 * n) n
  clear t1 t2 e102' r1 r2 r3 ep ep2 ep3 ep4
  repeat refine AWP.nest ?_
  first | refine AWP.seq (AWP.block ?_) | refine AWP.block ?_
  refine AWP.loop (fun k st => ∃ (i : Nat), i ≤ n ∧ k = n - i ∧ (∀ j, j < i → okQ l n j = true) ∧ st = ⟨[(2, .ptr 0 0), (4, .d true (.v (.int .i64 (n : Int)))), (6, .d true (.v (.int .i64 (S : Int)))), (8, .d true (.sl 1 (ints .u16 (colV (l.take S) 14 n)))), (9, .d true (.v (.int .u16 (n2V (l.take S) (14 + 2 * (n : Int)))))), (10, .d true (.sl 1 (ints .u16 (colV (l.take S) (16 + 2 * n) n)))), (11, .d true (.sl 1 (ints .u16 (colV (l.take S) (16 + 4 * n) n)))), (12, .d true (.sl 1 (ints .u16 (colV (l.take S) (16 + 6 * n) n)))), (13, .ptr 3 0), (59, .d true (.v (.int .i64 (n : Int)))), (60, .d true (.v (.int .i64 (i : Int))))], [some (.cells 69 [.d true (.v (.slice none 0 0)), .d true (.v (.slice none 0 0))]), some (.cells 174 [.d false (.sl 1 (ints .u8 (l.take S))), .d true (.v (.int .i64 (16 + 2 * (n : Int) + 2 * (n : Int) + 2 * (n : Int) + 2 * (n : Int)))), .d true (.v (.bool false))]), some (.cells 174 [.d false (.sl 1 (ints .u8 l)), .d true (.v (.int .i64 (rp l.length 0 false (S : Int)))), .d true (.v (.bool (rb l.length 0 false (S : Int))))]), some (.cells 69 [.own 4 i, .d true (.sl 1 (ints .u8 (l.take S)))]), some (.row 145 4 i true (sgs (segT l n i)))]⟩) (n) ?_ ?_
  · refine ⟨0, Nat.zero_le _, rfl, (fun j h => absurd h (Nat.not_lt_zero j)), ?_⟩
    rfl
  rintro k st ⟨i, hi, hk, hj, rfl⟩
  repeat refine AWP.nest ?_
  first | refine rsa hG [] [2, 4, 6, 8, 9, 10, 11, 12, 13, 59, 60, 61] fun K hK => ?_ | refine rna hG [] [2, 4, 6, 8, 9, 10, 11, 12, 13, 59, 60, 61] fun K hK => ?_
  repeat first | ((with_reducible refine shN ?_); refine sL ?_) | ((with_reducible refine shG ?_); refine sG ?_)
  refine Eq.mpr evalL_nil (hK _ ?_)
  clear hK K
  simp only [evU, St.keep, List.map_cons, look, reduceIte, Nat.reduceEqDiff]
  try show AWP _ _ _ _ _
  first | refine AWP.seq (AWP.cond (b := _) rfl (fun hc => ?_) (fun hc => ?_)) | refine AWP.cond (b := _) rfl (fun hc => ?_) (fun hc => ?_)
  rotate_left
  · refine AWP.exit ?_
    show AWP _ _ _ _ _
    simp only [evC, Int.not_lt] at hc
    obtain rfl : i = n := by omega
    have ei : ((i : Int) - 1).toNat = i - 1 := by omega
    have eend : (colV (l.take S) 14 i).getD (i - 1) 0 = n2V l (12 + 2 * (i : Int)) := by
      rw [hc1 (i - 1) (by omega)]
      congr 1
      omega
    have hE : endS l = true ↔ n2V l (14 + 2 * (i : Int)) = 0 ∧ n2V l (12 + 2 * (i : Int)) = 65535 := by simp only [endS, hn, Bool.and_eq_true, decide_eq_true_eq]
    repeat refine AWP.nest ?_
    have hxs := And.intro @ei (And.intro @eend @hpad)
    first | refine rsa hG [] [2, 13, 152] fun K hK => ?_ | refine rna hG [] [2, 13, 152] fun K hK => ?_
    repeat first | ((with_reducible refine shN ?_); refine sL ?_) | ((with_reducible refine shG ?_); refine sG ?_)
    refine Eq.mpr evalL_nil (hK _ ?_)
    clear hK K hxs
    simp only [evU, St.keep, List.map_cons, look, reduceIte, Nat.reduceEqDiff]
    try show AWP _ _ _ _ _
    repeat refine AWP.nest ?_
    first | refine AWP.seq (AWP.cond (b := _) rfl (fun hc => ?_) (fun hc => ?_)) | refine AWP.cond (b := _) rfl (fun hc => ?_) (fun hc => ?_)
    all_goals try simp only [evC] at hc
    · have hf : rightS l = false := rightS_no fun h => by
        have := hE.1 h.2.2
        omega
      rw [(hno hf).1, (hno hf).2, hf]
      repeat refine AWP.nest ?_
      first | refine rsa hG [] [2, 3] fun K hK => ?_ | refine rna hG [] [2, 3] fun K hK => ?_
      repeat first | ((with_reducible refine shN ?_); refine sL ?_) | ((with_reducible refine shG ?_); refine sG ?_)
      refine Eq.mpr evalL_nil (hK _ ?_)
      clear hK K
      simp only [evU, St.keep, List.map_cons, look, reduceIte, Nat.reduceEqDiff]
      try show AWP _ _ _ _ _
      refine AWP.tellC 0 0 rfl rfl (.nil true true 4) ?_
      refine AWP.tellC 0 1 rfl rfl (.nil true true 1) ?_
      refine AWP.ret ?_
      refine ⟨.inl rfl, ⟨⟨_, rfl, ?_⟩, fun ob hob => by cases hob⟩⟩
      simp only [look, reduceIte, Nat.reduceEqDiff]
      refine ⟨_, rfl, (.cons ?_ (.cons ?_ .nil))⟩
      · exact sub1_of rfl
      · exact sub1_of rfl
    refine AWP.skip ?_
    show AWP _ _ _ _ _
    have hr : rightS l = true := rightS_iff.2 ⟨hd, hs, hE.2 (by omega), by rw [hn]; exact hj⟩
    have e1 : segP l = segT l i i := by unfold segP; rw [hr, if_pos rfl, hn]; rfl
    have e2 : datP l = l.take S := by unfold datP; rw [hr, if_pos rfl, hS, Int.toNat_natCast]
    rw [e1, e2, hr]
    repeat refine AWP.nest ?_
    first | refine rsa hG [] [2, 3] fun K hK => ?_ | refine rna hG [] [2, 3] fun K hK => ?_
    repeat first | ((with_reducible refine shN ?_); refine sL ?_) | ((with_reducible refine shG ?_); refine sG ?_)
    refine Eq.mpr evalL_nil (hK _ ?_)
    clear hK K
    simp only [evU, St.keep, List.map_cons, look, reduceIte, Nat.reduceEqDiff]
    try show AWP _ _ _ _ _
    refine AWP.frz 4 (by rw [hps]; decide) rfl ?_
    simp only [St.frz, Ob.frz, AV.frz, AV.frz1, Option.map_none, mkAgg, datas, Dat.nagg, List.map_cons, List.map_nil, Option.map_some, and_self, true_and, and_true, reduceIte, Nat.reduceEqDiff, List.set_cons_zero, List.set_cons_succ, Bool.and_true, Bool.true_and]
    refine AWP.ret ?_
    refine ⟨.inl rfl, ⟨⟨_, rfl, ?_⟩, fun ob hob => by cases hob⟩⟩
    simp only [look, reduceIte, Nat.reduceEqDiff]
    refine ⟨_, rfl, (.cons ?_ (.cons ?_ .nil))⟩
    · exact sub1_of rfl
    · exact sub1_of rfl
  simp only [evC, Int.not_lt] at hc
  refine AWP.skip ?_
  show AWP _ _ _ _ _
  have hi' := hc
  clear hc
  have hil := segT_len l n i
  have a1 := hc1 i hi'
  have a2 := hc2 i hi'
  have a3 := hc3 i hi'
  have a4 := hc4 i hi'
  have b1 := n2V_bound hb (14 + 2 * (i : Int))
  have b2' := n2V_bound hb (16 + 2 * (n : Int) + 2 * (i : Int))
  have b3 := n2V_bound hb (16 + 4 * (n : Int) + 2 * (i : Int))
  have b4' := n2V_bound hb (16 + 6 * (n : Int) + 2 * (i : Int))
  have b5 := n2V_bound hb (12 + 2 * (i : Int))
  have hprev : 0 < i → (colV (l.take S) 14 n).getD ((i : Int) - 1).toNat 0 = n2V l (12 + 2 * (i : Int)) := fun h => by
    rw [show ((i : Int) - 1).toNat = i - 1 by omega, hc1 (i - 1) (by omega)]
    congr 1
    omega
  repeat refine AWP.nest ?_
  first | refine AWP.seq (AWP.block ?_) | refine AWP.block ?_
  repeat refine AWP.nest ?_
  first | refine rsa hG [] [2, 4, 6, 8, 9, 10, 11, 12, 13, 59, 60, 14] fun K hK => ?_ | refine rna hG [] [2, 4, 6, 8, 9, 10, 11, 12, 13, 59, 60, 14] fun K hK => ?_
  repeat first | ((with_reducible refine shN ?_); refine sL ?_) | ((with_reducible refine shG ?_); refine sG ?_)
  refine Eq.mpr evalL_nil (hK _ ?_)
  clear hK K
  simp only [evU, St.keep, List.map_cons, look, reduceIte, Nat.reduceEqDiff]
  try show AWP _ _ _ _ _
  repeat refine AWP.nest ?_
  have hxs := And.intro @a1 (And.intro @a2 @a3)
  first | refine rda hG [] [2, 4, 6, 8, 9, 10, 11, 12, 13, 59, 60, 14, 15] Try.mixed fun K hK => ?_ | refine dna hG [] [2, 4, 6, 8, 9, 10, 11, 12, 13, 59, 60, 14, 15] Try.mixed fun K hK => ?_
  repeat first | ((with_reducible refine shD ?_); refine sD ?_) | ((with_reducible refine shDG ?_); refine sDG ?_)
  refine evalD_done (by kernel_rfl) (hK _ ?_)
  clear hK K hxs
  simp only [evU, St.keep, List.map_cons, look, reduceIte, Nat.reduceEqDiff]
  try show AWP _ _ _ _ _
  repeat refine AWP.nest ?_
  have hxs := @a4
  first | refine rda hG [] [2, 4, 6, 8, 9, 10, 11, 12, 13, 59, 60, 14, 15, 102] Try.mixed fun K hK => ?_ | refine dna hG [] [2, 4, 6, 8, 9, 10, 11, 12, 13, 59, 60, 14, 15, 102] Try.mixed fun K hK => ?_
  repeat first | ((with_reducible refine shD ?_); refine sD ?_) | ((with_reducible refine shDG ?_); refine sDG ?_)
  refine evalD_done (by kernel_rfl) (hK _ ?_)
  clear hK K hxs
  simp only [evU, St.keep, List.map_cons, look, reduceIte, Nat.reduceEqDiff]
  try show AWP _ _ _ _ _
  have hok := okQ_iff (l := l) (n := n) (i := i)
  rw [hS] at hok
  have hbadq : okQ l n i = false → rightS l = false := fun h => rightS_not (i := i) (by rw [hn]; exact hi') (by rw [hn]; exact h)
  have hjn : okQ l n i = true → ∀ j, j < i + 1 → okQ l n j = true := fun h j hj2 => by
    rcases Nat.lt_succ_iff_lt_or_eq.1 hj2 with h2 | h2
    · exact hj j h2
    · rw [h2]; exact h
  clear hj
  repeat refine AWP.nest ?_
  first | refine AWP.seq (AWP.cond (b := _) rfl (fun hc => ?_) (fun hc => ?_)) | refine AWP.cond (b := _) rfl (fun hc => ?_) (fun hc => ?_)
  all_goals try simp only [evC] at hc
  · have hf : okQ l n i = false := by
      cases e : okQ l n i with
      | false => rfl
      | true =>
        exfalso
        have := hok.1 e
        by_cases h0 : 0 < i
        · have := hprev h0
          omega
        · omega
    rw [(hno (hbadq hf)).1, (hno (hbadq hf)).2, hbadq hf]
    repeat refine AWP.nest ?_
    first | refine rsa hG [] [2, 3] fun K hK => ?_ | refine rna hG [] [2, 3] fun K hK => ?_
    repeat first | ((with_reducible refine shN ?_); refine sL ?_) | ((with_reducible refine shG ?_); refine sG ?_)
    refine Eq.mpr evalL_nil (hK _ ?_)
    clear hK K
    simp only [evU, St.keep, List.map_cons, look, reduceIte, Nat.reduceEqDiff]
    try show AWP _ _ _ _ _
    refine AWP.tellC 0 0 rfl rfl (.nil true true 4) ?_
    refine AWP.tellC 0 1 rfl rfl (.nil true true 1) ?_
    refine AWP.ret ?_
    refine ⟨.inl rfl, ⟨⟨_, rfl, ?_⟩, fun ob hob => by cases hob⟩⟩
    simp only [look, reduceIte, Nat.reduceEqDiff]
    refine ⟨_, rfl, (.cons ?_ (.cons ?_ .nil))⟩
    · exact sub1_of rfl
    · exact sub1_of rfl
  refine AWP.skip ?_
  show AWP _ _ _ _ _
  repeat refine AWP.nest ?_
  have hxs := @a4
  first | refine rsa hG [] [2, 4, 6, 8, 9, 10, 11, 12, 13, 59, 60, 14, 15, 108] fun K hK => ?_ | refine rna hG [] [2, 4, 6, 8, 9, 10, 11, 12, 13, 59, 60, 14, 15, 108] fun K hK => ?_
  repeat first | ((with_reducible refine shN ?_); refine sL ?_) | ((with_reducible refine shG ?_); refine sG ?_)
  refine Eq.mpr evalL_nil (hK _ ?_)
  clear hK K hxs
  simp only [evU, St.keep, List.map_cons, look, reduceIte, Nat.reduceEqDiff]
  try show AWP _ _ _ _ _
  have hc0 := hc
  clear hc
  repeat refine AWP.nest ?_
  first | refine AWP.seq (AWP.cond (b := _) rfl (fun hc => ?_) (fun hc => ?_)) | refine AWP.cond (b := _) rfl (fun hc => ?_) (fun hc => ?_)
  all_goals try simp only [evC] at hc
  · repeat refine AWP.nest ?_
    have hxs := @a4
    first | refine rsa hG [] [2, 4, 6, 8, 9, 10, 11, 12, 13, 59, 60, 15] fun K hK => ?_ | refine rna hG [] [2, 4, 6, 8, 9, 10, 11, 12, 13, 59, 60, 15] fun K hK => ?_
    repeat first | ((with_reducible refine shN ?_); refine sL ?_) | ((with_reducible refine shG ?_); refine sG ?_)
    refine Eq.mpr evalL_nil (hK _ ?_)
    clear hK K hxs
    simp only [evU, St.keep, List.map_cons, look, reduceIte, Nat.reduceEqDiff]
    try show AWP _ _ _ _ _
    repeat refine AWP.nest ?_
    first | refine rsa hG [] [2, 4, 6, 8, 9, 10, 11, 12, 13, 59, 60, 15, 134] fun K hK => ?_ | refine rna hG [] [2, 4, 6, 8, 9, 10, 11, 12, 13, 59, 60, 15, 134] fun K hK => ?_
    repeat first | ((with_reducible refine shN ?_); refine sL ?_) | ((with_reducible refine shG ?_); refine sG ?_)
    refine Eq.mpr evalL_nil (hK _ ?_)
    clear hK K
    simp only [evU, St.keep, List.map_cons, look, reduceIte, Nat.reduceEqDiff]
    try show AWP _ _ _ _ _
    repeat refine AWP.nest ?_
    first | refine AWP.seq (AWP.cond (b := _) rfl (fun hc => ?_) (fun hc => ?_)) | refine AWP.cond (b := _) rfl (fun hc => ?_) (fun hc => ?_)
    all_goals try simp only [evC] at hc
    · have hf : okQ l n i = false := by
        cases e : okQ l n i with
        | false => rfl
        | true =>
          exfalso
          have := hok.1 e
          omega
      rw [(hno (hbadq hf)).1, (hno (hbadq hf)).2, hbadq hf]
      repeat refine AWP.nest ?_
      first | refine rsa hG [] [2, 3] fun K hK => ?_ | refine rna hG [] [2, 3] fun K hK => ?_
      repeat first | ((with_reducible refine shN ?_); refine sL ?_) | ((with_reducible refine shG ?_); refine sG ?_)
      refine Eq.mpr evalL_nil (hK _ ?_)
      clear hK K
      simp only [evU, St.keep, List.map_cons, look, reduceIte, Nat.reduceEqDiff]
      try show AWP _ _ _ _ _
      refine AWP.tellC 0 0 rfl rfl (.nil true true 4) ?_
      refine AWP.tellC 0 1 rfl rfl (.nil true true 1) ?_
      refine AWP.ret ?_
      refine ⟨.inl rfl, ⟨⟨_, rfl, ?_⟩, fun ob hob => by cases hob⟩⟩
      simp only [look, reduceIte, Nat.reduceEqDiff]
      refine ⟨_, rfl, (.cons ?_ (.cons ?_ .nil))⟩
      · exact sub1_of rfl
      · exact sub1_of rfl
    refine AWP.skip ?_
    show AWP _ _ _ _ _
    have hk2 : okQ l n i = true := hok.2 (by
      by_cases h0 : 0 < i
      · have := hprev h0
        omega
      · omega)
    have hsR : segR l n i = (n2V l (16 + 2 * (n : Int) + 2 * (i : Int)), n2V l (14 + 2 * (i : Int)), n2V l (16 + 4 * (n : Int) + 2 * (i : Int)), 16 + 2 * (3 * (n : Int) + i) + n2V l (16 + 6 * (n : Int) + 2 * (i : Int))) := by
      unfold segR
      rw [if_neg (by omega), show (16 + 6 * (n : Int) + 2 * (i : Int)) = 16 + 2 * (3 * (n : Int) + i) by omega]
    repeat refine AWP.nest ?_
    first | refine rsa hG [] [2, 4, 6, 8, 9, 10, 11, 12, 13, 59, 60] fun K hK => ?_ | refine rna hG [] [2, 4, 6, 8, 9, 10, 11, 12, 13, 59, 60] fun K hK => ?_
    repeat first | ((with_reducible refine shN ?_); refine sL ?_) | ((with_reducible refine shG ?_); refine sG ?_)
    refine Eq.mpr evalL_nil (hK _ ?_)
    clear hK K
    simp only [evU, St.keep, List.map_cons, look, reduceIte, Nat.reduceEqDiff]
    try show AWP _ _ _ _ _
    refine AWP.trunc 5 (by rw [hps]; decide) rfl ?_
    simp only [St.trunc, List.take_zero, List.take_succ_cons]
    repeat refine AWP.nest ?_
    first | refine rsa hG [] [2, 4, 6, 8, 9, 10, 11, 12, 13, 59, 60] fun K hK => ?_ | refine rna hG [] [2, 4, 6, 8, 9, 10, 11, 12, 13, 59, 60] fun K hK => ?_
    repeat first | ((with_reducible refine shN ?_); refine sL ?_) | ((with_reducible refine shG ?_); refine sG ?_)
    refine Eq.mpr evalL_nil (hK _ ?_)
    clear hK K
    simp only [evU, St.keep, List.map_cons, look, reduceIte, Nat.reduceEqDiff]
    try show AWP _ _ _ _ _
    refine ⟨n - (i + 1), by omega, i + 1, by omega, rfl, hjn hk2, ?_⟩
    rw [segT_snoc, hsR]
    rfl
  refine AWP.skip ?_
  show AWP _ _ _ _ _
  have hk2 : okQ l n i = true := hok.2 (by
    by_cases h0 : 0 < i
    · have := hprev h0
      omega
    · omega)
  have hsR : segR l n i = (n2V l (16 + 2 * (n : Int) + 2 * (i : Int)), n2V l (14 + 2 * (i : Int)), n2V l (16 + 4 * (n : Int) + 2 * (i : Int)), -1) := by
    unfold segR
    rw [if_pos (by omega)]
  repeat refine AWP.nest ?_
  first | refine rsa hG [] [2, 4, 6, 8, 9, 10, 11, 12, 13, 59, 60] fun K hK => ?_ | refine rna hG [] [2, 4, 6, 8, 9, 10, 11, 12, 13, 59, 60] fun K hK => ?_
  repeat first | ((with_reducible refine shN ?_); refine sL ?_) | ((with_reducible refine shG ?_); refine sG ?_)
  refine Eq.mpr evalL_nil (hK _ ?_)
  clear hK K
  simp only [evU, St.keep, List.map_cons, look, reduceIte, Nat.reduceEqDiff]
  try show AWP _ _ _ _ _
  refine AWP.trunc 5 (by rw [hps]; decide) rfl ?_
  simp only [St.trunc, List.take_zero, List.take_succ_cons]
  repeat refine AWP.nest ?_
  first | refine rsa hG [] [2, 4, 6, 8, 9, 10, 11, 12, 13, 59, 60] fun K hK => ?_ | refine rna hG [] [2, 4, 6, 8, 9, 10, 11, 12, 13, 59, 60] fun K hK => ?_
  repeat first | ((with_reducible refine shN ?_); refine sL ?_) | ((with_reducible refine shG ?_); refine sG ?_)
  refine Eq.mpr evalL_nil (hK _ ?_)
  clear hK K
  simp only [evU, St.keep, List.map_cons, look, reduceIte, Nat.reduceEqDiff]
  try show AWP _ _ _ _ _
  refine ⟨n - (i + 1), by omega, i + 1, by omega, rfl, hjn hk2, ?_⟩
  rw [segT_snoc, hsR]
  rfl
def e52 : List AV → Option Ob → Option Res := fun args i => match args, i with
  | [.d false (.sl 1 xs)], none => some ⟨IsB xs ∧ (toInts xs).length ≤ 1000000000, .tup [.d true (.agg [.sl 4 (sgs (segP (toInts xs))), .sl 1 (ints .u8 (datP (toInts xs)))]), .d true (.v (.int .i64 (if rightS (toInts xs) = true then 0 else 2)))], none⟩
  | _, _ => none
def F62 : FT := F61.upd 52 e52
theorem F62_ok : FOK Try.prog F62 := FOK.upd F61_ok Try.func52 (by kernel_rfl) rfl fun args i R h => by
  unfold e52 at h
  split at h
  · cases h
    refine Spec.pre fun h => ?_
    obtain ⟨⟨h1, h2⟩, h3⟩ := h
    rw [h1, toInts_ints]
    exact s52 _ h2 h3
  · cases h
end Go.AM

