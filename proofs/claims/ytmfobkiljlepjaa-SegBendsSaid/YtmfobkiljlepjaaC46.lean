/- AM: SegBends. -/
import Derived.Test.YtmfobkiljlepjaaC43
import Derived.Test.YtmfobkiljlepjaaC42
import Derived.Test.YtmfobkiljlepjaaC28
import Derived.Test.YtmfobkiljlepjaaG8
set_option maxRecDepth 100000
set_option maxHeartbeats 8000000
set_option linter.unusedSimpArgs false
set_option linter.unusedVariables false
namespace Go.AM
open Go Go.Proofs

def F68 : FT := F67.upd 53 e53
theorem F68_ok : FOK Try.prog F68 := FOK.upd F67_ok Try.func53 (by kernel_rfl) rfl fun args i R h => (F92_ok 53 args i R h).2
def F69 : FT := F68.upd 32 e32o
theorem F69_ok : FOK Try.prog F69 := FOK.upd F68_ok Try.func32 (by kernel_rfl) rfl fun args i R h => by
  unfold e32o at h
  split at h
  · cases h; exact Spec.pre fun h => by have := s32o _ h.1.2 h.2; rwa [← h.1.1] at this
  · cases h


theorem s15 (gs hs : List Int) (hg : W16 gs) (hh : W16 hs) (a t : Int) (ha0 : 0 ≤ a) (ha1 : a < 65536) (ht0 : 0 ≤ t) (ht1 : t < 256) (ms : List Int) (hm : Byt ms) : Spec Try.prog 15 [.d false (.sl 1 (ints .u16 gs)), .d false (.sl 1 (ints .u16 hs)), .d true (.v (.int .u16 a)), .d true (.v (.int .u8 t)), .d false (.sl 1 (ints .u8 ms))] none ⟨True, .d true (.v (.bool true)), none⟩ := by
  have hf31 : F69 31 = e31 := rfl
  have hf32 : F69 32 = e32o := rfl
  have hf49 : F69 49 = e49 := rfl
  have hf50 : F69 50 = e50 := rfl
  have hf52 : F69 52 = e52 := rfl
  have hf53 : F69 53 = e53 := rfl
  have hf54 : F69 54 = e54 := rfl
  have hf56 : F69 56 = e56 := rfl
  have hf57 : F69 57 = e57 := rfl
  have hf58 : F69 58 = e58 := rfl
  have hG := (Gf_ok F69_ok)
  have hfs := And.intro @hf31 (And.intro @e31.eq_1 (And.intro @hf32 (And.intro @e32o.eq_1 (And.intro @hf49 (And.intro @e49.eq_1 (And.intro @hf50 (And.intro @e50.eq_1 (And.intro @hf52 (And.intro @e52.eq_1 (And.intro @hf53 (And.intro @e53.eq_1 (And.intro @hf54 (And.intro @e54.eq_1 (And.intro @hf56 (And.intro @e56.eq_1 (And.intro @hf57 (And.intro @e57.eq_1 (And.intro @hf58 (And.intro @e58.eq_1 (And.intro @evP (And.intro @evS (And.intro @toPrs_prs (And.intro @toPrs_prs9 @toSgs_sgs)))))))))))))))))))))))
  have hxs := @Nat.add_zero
  refine spec_of_awp (Gf_ok F69_ok) Try.func15 rfl (Nat.le_of_ble_eq_true rfl) fun E hps hN _ => ?_
  simp only [begin, List.zipIdx_cons, List.zipIdx_nil, List.map_cons, List.map_nil, Option.toList, Nat.zero_add, Nat.reduceAdd]
  repeat refine AWP.nest ?_
  first | refine rsa hG [] [0, 1, 2, 3, 4] fun K hK => ?_ | refine rna hG [] [0, 1, 2, 3, 4] fun K hK => ?_
  repeat first | ((with_reducible refine shN ?_); refine sL ?_) | ((with_reducible refine shG ?_); refine sG ?_)
  refine Eq.mpr evalL_nil (hK _ ?_)
  clear hK K
  simp only [evU, St.keep, List.map_cons, look, reduceIte, Nat.reduceEqDiff]
  try show AWP _ _ _ _ _
  repeat refine AWP.nest ?_
  first | refine rsa hG [] [0, 1, 2, 3, 4, 22] fun K hK => ?_ | refine rna hG [] [0, 1, 2, 3, 4, 22] fun K hK => ?_
  repeat first | ((with_reducible refine shN ?_); refine sL ?_) | ((with_reducible refine shG ?_); refine sG ?_)
  refine Eq.mpr evalL_nil (hK _ ?_)
  clear hK K
  simp only [evU, St.keep, List.map_cons, look, reduceIte, Nat.reduceEqDiff]
  try show AWP _ _ _ _ _
  repeat refine AWP.nest ?_
  first | refine AWP.seq (AWP.cond (b := _) rfl (fun hc => ?_) (fun hc => ?_)) | refine AWP.cond (b := _) rfl (fun hc => ?_) (fun hc => ?_)
  all_goals try simp only [evC] at hc
  · cases hc
  refine AWP.skip ?_
  show AWP _ _ _ _ _
  clear hc
  repeat refine AWP.nest ?_
  first | refine rsa hG [] [2, 3, 4, 12] fun K hK => ?_ | refine rna hG [] [2, 3, 4, 12] fun K hK => ?_
  repeat first | ((with_reducible refine shN ?_); refine sL ?_) | ((with_reducible refine shG ?_); refine sG ?_)
  refine Eq.mpr evalL_nil (hK _ ?_)
  clear hK K
  simp only [evU, St.keep, List.map_cons, look, reduceIte, Nat.reduceEqDiff]
  try show AWP _ _ _ _ _
  have hr := rsg_rises (md := 2000) (lim := 65534) (by decide) (k := 40) (a := -1) (gs := gs) hh (by decide) (by decide)
  have hp := rsg_ok (md := 2000) (lim := 65534) (by decide) (k := 40) (a := -1) (gs := gs) hh (by decide) (by decide)
  have hl := rsg_len (md := 2000) (lim := 65534) (k := 40) (a := -1) (gs := gs) (hs := hs)
  generalize rsg 2000 65534 40 (-1) gs hs = r at hr hp hl ⊢
  have hl7 : r.length ≤ 7000 := by omega
  obtain ⟨M, B, eB, hM, hBb, hMl, hBl, h3, h4, h5, hmap, hlk⟩ := built_factsS hr hp hl7
  have eB2 : tabS (allQ r) = B := by rw [← eB]; unfold buildS; rw [if_pos hr]
  have hrl := runsQ_len r r.length
  have hBlen : 24 ≤ B.length ∧ B.length ≤ 20000000 := by omega
  have hmt : Byt (ms.take 20) := hm.take _
  have hmtl : (ms.take 20).length ≤ 20 := by simp only [List.length_take]; omega
  clear hM hMl hlk hmap h3 h4 h5 eB
  repeat refine AWP.nest ?_
  have hxs := @eB2
  first | refine rsa hG [] [2, 3, 13] fun K hK => ?_ | refine rna hG [] [2, 3, 13] fun K hK => ?_
  repeat first | ((with_reducible refine shN ?_); refine sL ?_) | ((with_reducible refine shG ?_); refine sG ?_)
  refine Eq.mpr evalL_nil (hK _ ?_)
  clear hK K hxs
  simp only [evU, St.keep, List.map_cons, look, reduceIte, Nat.reduceEqDiff]
  try show AWP _ _ _ _ _
  generalize ms.take 20 = mt at hmt hmtl ⊢
  have hbm : Byt (B ++ mt) := hBb.append hmt
  have hlm : 16 ≤ (B ++ mt).length ∧ (B ++ mt).length ≤ 20000020 := by rw [List.length_append]; omega
  generalize B ++ mt = q at hbm hlm ⊢
  clear hp hl hl7 eB2 hBb hBl hBlen hmt hmtl hrl hr
  have hk1 : 0 ≤ a % (q.length : Int) := Int.emod_nonneg _ (by omega)
  have hk2 : a % (q.length : Int) < q.length := Int.emod_lt_of_pos _ (by omega)
  repeat refine AWP.nest ?_
  first | refine rsa hG [] [2, 13] fun K hK => ?_ | refine rna hG [] [2, 13] fun K hK => ?_
  repeat first | ((with_reducible refine shN ?_); refine sL ?_) | ((with_reducible refine shG ?_); refine sG ?_)
  refine Eq.mpr evalL_nil (hK _ ?_)
  clear hK K
  simp only [evU, St.keep, List.map_cons, look, reduceIte, Nat.reduceEqDiff]
  try show AWP _ _ _ _ _
  have hq2 := bent_byt hbm (a % (q.length : Int)).toNat t
  have hq3 := bent_len q (a % (q.length : Int)).toNat t
  unfold bent at hq2 hq3
  generalize q.set (a % (q.length : Int)).toNat (bits BinOp.xor IntKind.u8 (q.getD (a % (q.length : Int)).toNat 0) t) = p at hq2 hq3 ⊢
  rw [← hq3] at hk1 hk2 hlm
  clear hbm hq3
  refine AWP.frz 0 (by rw [hps]; decide) rfl ?_
  simp only [St.frz, Ob.frz, AV.frz, AV.frz1, Option.map_none, mkAgg, datas, Dat.nagg, List.map_cons, List.map_nil, Option.map_some, and_self, true_and, and_true, reduceIte, Nat.reduceEqDiff, List.set_cons_zero, List.set_cons_succ, Bool.and_true, Bool.true_and]
  repeat refine AWP.nest ?_
  first | refine rsa hG [] [54, 55, 56] fun K hK => ?_ | refine rna hG [] [54, 55, 56] fun K hK => ?_
  repeat first | ((with_reducible refine shN ?_); refine sL ?_) | ((with_reducible refine shG ?_); refine sG ?_)
  refine Eq.mpr evalL_nil (hK _ ?_)
  clear hK K
  simp only [evU, St.keep, List.map_cons, look, reduceIte, Nat.reduceEqDiff]
  try show AWP _ _ _ _ _
  have hall : ∀ x ∈ [p, p.take (a % (p.length : Int)).toNat], Byt x ∧ x.length ≤ 20000020 := by
    intro x hx
    simp only [List.mem_cons, List.not_mem_nil, or_false] at hx
    rcases hx with rfl | rfl
    · exact ⟨hq2, hlm.2⟩
    · exact ⟨hq2.take _, by simp only [List.length_take]; omega⟩
  generalize p.take (a % (p.length : Int)).toNat = p2 at hall ⊢
  repeat refine AWP.nest ?_
  first | refine AWP.seq (AWP.block ?_) | refine AWP.block ?_
  refine AWP.loop (fun n st => ∃ (i : Nat), i ≤ 2 ∧ n = 2 - i ∧ st = ⟨[(54, .d true (.sl 1 (rows [p, p2]))), (55, .d true (.v (.int .i64 2))), (56, .d true (.v (.int .i64 (i : Int))))], [none]⟩) (2) ?_ ?_
  · exact ⟨0, by omega, rfl, rfl⟩
  rintro n st ⟨i, hi, hn, rfl⟩
  repeat refine AWP.nest ?_
  first | refine rsa hG [] [54, 55, 56, 57] fun K hK => ?_ | refine rna hG [] [54, 55, 56, 57] fun K hK => ?_
  repeat first | ((with_reducible refine shN ?_); refine sL ?_) | ((with_reducible refine shG ?_); refine sG ?_)
  refine Eq.mpr evalL_nil (hK _ ?_)
  clear hK K
  simp only [evU, St.keep, List.map_cons, look, reduceIte, Nat.reduceEqDiff]
  try show AWP _ _ _ _ _
  first | refine AWP.seq (AWP.cond (b := _) rfl (fun hc => ?_) (fun hc => ?_)) | refine AWP.cond (b := _) rfl (fun hc => ?_) (fun hc => ?_)
  rotate_left
  · refine AWP.exit ?_
    show AWP _ _ _ _ _
    simp only [evC, Int.not_lt] at hc
    repeat refine AWP.nest ?_
    first | refine rsa hG [] [10] fun K hK => ?_ | refine rna hG [] [10] fun K hK => ?_
    repeat first | ((with_reducible refine shN ?_); refine sL ?_) | ((with_reducible refine shG ?_); refine sG ?_)
    refine Eq.mpr evalL_nil (hK _ ?_)
    clear hK K
    simp only [evU, St.keep, List.map_cons, look, reduceIte, Nat.reduceEqDiff]
    try show AWP _ _ _ _ _
    refine AWP.ret ?_
    refine ⟨.inl rfl, ⟨⟨_, rfl, ?_⟩, fun ob hob => by cases hob⟩⟩
    simp only [look, reduceIte, Nat.reduceEqDiff]
    exact sub1_of rfl
  simp only [evC, Int.not_lt] at hc
  refine AWP.skip ?_
  show AWP _ _ _ _ _
  have hi' := hc
  clear hc
  have hx : Byt ([p, p2].getD i []) ∧ ([p, p2].getD i []).length ≤ 20000020 := by
    rw [List.getD_eq_getElem?_getD, List.getElem?_eq_getElem (show i < [p, p2].length by simp only [List.length_cons, List.length_nil]; omega)]
    exact hall _ (List.getElem_mem _)
  repeat refine AWP.nest ?_
  first | refine AWP.seq (AWP.block ?_) | refine AWP.block ?_
  repeat refine AWP.nest ?_
  first | refine rsa hG [] [15, 54, 55, 56] fun K hK => ?_ | refine rna hG [] [15, 54, 55, 56] fun K hK => ?_
  repeat first | ((with_reducible refine shN ?_); refine sL ?_) | ((with_reducible refine shG ?_); refine sG ?_)
  refine Eq.mpr evalL_nil (hK _ ?_)
  clear hK K
  simp only [evU, St.keep, List.map_cons, look, reduceIte, Nat.reduceEqDiff]
  try show AWP _ _ _ _ _
  generalize [p, p2].getD i [] = x at hx ⊢
  obtain ⟨hx1, hx2⟩ := hx
  repeat refine AWP.nest ?_
  first | refine rsa hG [] [15, 16, 17, 54, 55, 56] fun K hK => ?_ | refine rna hG [] [15, 16, 17, 54, 55, 56] fun K hK => ?_
  repeat first | ((with_reducible refine shN ?_); refine sL ?_) | ((with_reducible refine shG ?_); refine sG ?_)
  refine Eq.mpr evalL_nil (hK _ ?_)
  clear hK K
  simp only [evU, St.keep, List.map_cons, look, reduceIte, Nat.reduceEqDiff]
  try show AWP _ _ _ _ _
  repeat refine AWP.nest ?_
  first | refine rsa hG [] [15, 16, 17, 18, 19, 54, 55, 56] fun K hK => ?_ | refine rna hG [] [15, 16, 17, 18, 19, 54, 55, 56] fun K hK => ?_
  repeat first | ((with_reducible refine shN ?_); refine sL ?_) | ((with_reducible refine shG ?_); refine sG ?_)
  refine Eq.mpr evalL_nil (hK _ ?_)
  clear hK K
  simp only [evU, St.keep, List.map_cons, look, reduceIte, Nat.reduceEqDiff]
  try show AWP _ _ _ _ _
  cases eR : rightS x with
  | true =>
    obtain ⟨hmx, hsl, hlkx⟩ := right_mapS hx1 eR
    have e1 : (if true = true then (0 : Int) else 2) = 0 := rfl
    have e2 : (if true = true then (nS x : Int) else 0) = nS x := rfl
    have hsl' : ((segP x).length : Int) = nS x := by omega
    have hnl : nS x ≤ 32767 := (hdS_num hx1 (rightS_iff.1 eR).1).2.1
    have hbd : ∀ c, 0 ≤ lookS (segsR x (nS x)) x c ∧ lookS (segsR x (nS x)) x c ≤ 65535 := fun c => by rw [← hlkx]; exact lookS_bd hmx c
    have ⟨m1, m2, m3⟩ := hmx
    rw [e1, e2]
    generalize segP x = S at hmx hlkx hsl hsl' m1 ⊢
    generalize datP x = D at hmx hlkx m1 m2 m3 ⊢
    repeat refine AWP.nest ?_
    have hxs := @hsl'
    first | refine rsa hG [] [15, 16, 18, 19, 54, 55, 56, 82] fun K hK => ?_ | refine rna hG [] [15, 16, 18, 19, 54, 55, 56, 82] fun K hK => ?_
    repeat first | ((with_reducible refine shN ?_); refine sL ?_) | ((with_reducible refine shG ?_); refine sG ?_)
    refine Eq.mpr evalL_nil (hK _ ?_)
    clear hK K hxs
    simp only [evU, St.keep, List.map_cons, look, reduceIte, Nat.reduceEqDiff]
    try show AWP _ _ _ _ _
    repeat refine AWP.nest ?_
    first | refine AWP.seq (AWP.cond (b := _) rfl (fun hc => ?_) (fun hc => ?_)) | refine AWP.cond (b := _) rfl (fun hc => ?_) (fun hc => ?_)
    all_goals try simp only [evC] at hc
    · exfalso
      simp at hc
    refine AWP.skip ?_
    show AWP _ _ _ _ _
    clear hc
    repeat refine AWP.nest ?_
    first | refine rsa hG [] [15, 16, 18, 19, 54, 55, 56, 83] fun K hK => ?_ | refine rna hG [] [15, 16, 18, 19, 54, 55, 56, 83] fun K hK => ?_
    repeat first | ((with_reducible refine shN ?_); refine sL ?_) | ((with_reducible refine shG ?_); refine sG ?_)
    refine Eq.mpr evalL_nil (hK _ ?_)
    clear hK K
    simp only [evU, St.keep, List.map_cons, look, reduceIte, Nat.reduceEqDiff]
    try show AWP _ _ _ _ _
    repeat refine AWP.nest ?_
    first | refine AWP.seq (AWP.block ?_) | refine AWP.block ?_
    refine AWP.loop (fun k2 st => ∃ (c : Nat), c ≤ 200 ∧ k2 = 200 - c ∧ st = ⟨[(15, .d true (.sl 1 (ints .u8 x))), (16, .ptr 1 0), (18, .d true (.v (.int .i64 (nS x : Int)))), (19, .d true (.v (.bool true))), (54, .d true (.sl 1 (rows [p, p2]))), (55, .d true (.v (.int .i64 2))), (56, .d true (.v (.int .i64 (i : Int)))), (83, .d true (.v (.int .i32 (c : Int))))], [none, some (.cells 69 [.d true (.sl 4 (sgs S)), .d true (.sl 1 (ints .u8 D))])]⟩) (200) ?_ ?_
    · exact ⟨0, by omega, rfl, rfl⟩
    rintro k2 st ⟨c, hc3, hk3, rfl⟩
    repeat refine AWP.nest ?_
    first | refine rsa hG [] [15, 16, 18, 19, 54, 55, 56, 83, 84] fun K hK => ?_ | refine rna hG [] [15, 16, 18, 19, 54, 55, 56, 83, 84] fun K hK => ?_
    repeat first | ((with_reducible refine shN ?_); refine sL ?_) | ((with_reducible refine shG ?_); refine sG ?_)
    refine Eq.mpr evalL_nil (hK _ ?_)
    clear hK K
    simp only [evU, St.keep, List.map_cons, look, reduceIte, Nat.reduceEqDiff]
    try show AWP _ _ _ _ _
    first | refine AWP.seq (AWP.cond (b := _) rfl (fun hc => ?_) (fun hc => ?_)) | refine AWP.cond (b := _) rfl (fun hc => ?_) (fun hc => ?_)
    rotate_left
    · refine AWP.exit ?_
      show AWP _ _ _ _ _
      simp only [evC, Int.not_lt] at hc
      refine AWP.keep [54, 55, 56] ?_
      simp only [St.keep, List.map_cons, List.map_nil, look, reduceIte, Nat.reduceEqDiff]
      refine AWP.trunc 1 (by rw [hps]; decide) rfl ?_
      simp only [St.trunc, List.take_zero, List.take_succ_cons]
      repeat refine AWP.nest ?_
      first | refine rsa hG [] [54, 55, 56] fun K hK => ?_ | refine rna hG [] [54, 55, 56] fun K hK => ?_
      repeat first | ((with_reducible refine shN ?_); refine sL ?_) | ((with_reducible refine shG ?_); refine sG ?_)
      refine Eq.mpr evalL_nil (hK _ ?_)
      clear hK K
      simp only [evU, St.keep, List.map_cons, look, reduceIte, Nat.reduceEqDiff]
      try show AWP _ _ _ _ _
      exact ⟨2 - (i + 1), by omega, i + 1, by omega, rfl, rfl⟩
    simp only [evC, Int.not_lt] at hc
    refine AWP.skip ?_
    show AWP _ _ _ _ _
    have hc' := hc
    clear hc
    have b1 := hbd c
    repeat refine AWP.nest ?_
    first | refine AWP.seq (AWP.block ?_) | refine AWP.block ?_
    repeat refine AWP.nest ?_
    first | refine rsa hG [] [15, 16, 18, 19, 20, 54, 55, 56, 83] fun K hK => ?_ | refine rna hG [] [15, 16, 18, 19, 20, 54, 55, 56, 83] fun K hK => ?_
    repeat first | ((with_reducible refine shN ?_); refine sL ?_) | ((with_reducible refine shG ?_); refine sG ?_)
    refine Eq.mpr evalL_nil (hK _ ?_)
    clear hK K
    simp only [evU, St.keep, List.map_cons, look, reduceIte, Nat.reduceEqDiff]
    try show AWP _ _ _ _ _
    repeat refine AWP.nest ?_
    have hxs := @hlkx
    first | refine rsa hG [] [15, 16, 18, 19, 54, 55, 56, 83, 98] fun K hK => ?_ | refine rna hG [] [15, 16, 18, 19, 54, 55, 56, 83, 98] fun K hK => ?_
    repeat first | ((with_reducible refine shN ?_); refine sL ?_) | ((with_reducible refine shG ?_); refine sG ?_)
    refine Eq.mpr evalL_nil (hK _ ?_)
    clear hK K hxs
    simp only [evU, St.keep, List.map_cons, look, reduceIte, Nat.reduceEqDiff]
    try show AWP _ _ _ _ _
    repeat refine AWP.nest ?_
    first | refine AWP.seq (AWP.cond (b := _) rfl (fun hc => ?_) (fun hc => ?_)) | refine AWP.cond (b := _) rfl (fun hc => ?_) (fun hc => ?_)
    all_goals try simp only [evC] at hc
    · exfalso
      simp at hc
    refine AWP.skip ?_
    show AWP _ _ _ _ _
    clear hc
    repeat refine AWP.nest ?_
    first | refine rsa hG [] [15, 16, 18, 19, 54, 55, 56, 83] fun K hK => ?_ | refine rna hG [] [15, 16, 18, 19, 54, 55, 56, 83] fun K hK => ?_
    repeat first | ((with_reducible refine shN ?_); refine sL ?_) | ((with_reducible refine shG ?_); refine sG ?_)
    refine Eq.mpr evalL_nil (hK _ ?_)
    clear hK K
    simp only [evU, St.keep, List.map_cons, look, reduceIte, Nat.reduceEqDiff]
    try show AWP _ _ _ _ _
    exact ⟨200 - (c + 1), by omega, c + 1, by omega, rfl, rfl⟩
  | false =>
    have e1 : (if false = true then (0 : Int) else 2) = 2 := rfl
    have e2 : (if false = true then (nS x : Int) else 0) = 0 := rfl
    rw [e1, e2]
    repeat refine AWP.nest ?_
    first | refine rsa hG [] [15, 16, 18, 19, 54, 55, 56, 82] fun K hK => ?_ | refine rna hG [] [15, 16, 18, 19, 54, 55, 56, 82] fun K hK => ?_
    repeat first | ((with_reducible refine shN ?_); refine sL ?_) | ((with_reducible refine shG ?_); refine sG ?_)
    refine Eq.mpr evalL_nil (hK _ ?_)
    clear hK K
    simp only [evU, St.keep, List.map_cons, look, reduceIte, Nat.reduceEqDiff]
    try show AWP _ _ _ _ _
    repeat refine AWP.nest ?_
    first | refine AWP.seq (AWP.cond (b := _) rfl (fun hc => ?_) (fun hc => ?_)) | refine AWP.cond (b := _) rfl (fun hc => ?_) (fun hc => ?_)
    all_goals try simp only [evC] at hc
    · exfalso
      simp at hc
    refine AWP.skip ?_
    show AWP _ _ _ _ _
    clear hc
    repeat refine AWP.nest ?_
    first | refine rsa hG [] [15, 16, 18, 19, 54, 55, 56, 83] fun K hK => ?_ | refine rna hG [] [15, 16, 18, 19, 54, 55, 56, 83] fun K hK => ?_
    repeat first | ((with_reducible refine shN ?_); refine sL ?_) | ((with_reducible refine shG ?_); refine sG ?_)
    refine Eq.mpr evalL_nil (hK _ ?_)
    clear hK K
    simp only [evU, St.keep, List.map_cons, look, reduceIte, Nat.reduceEqDiff]
    try show AWP _ _ _ _ _
    repeat refine AWP.nest ?_
    first | refine AWP.seq (AWP.block ?_) | refine AWP.block ?_
    refine AWP.loop (fun k2 st => ∃ (c : Nat), c ≤ 200 ∧ k2 = 200 - c ∧ st = ⟨[(15, .d true (.sl 1 (ints .u8 x))), (16, .ptr 1 0), (18, .d true (.v (.int .i64 0))), (19, .d true (.v (.bool false))), (54, .d true (.sl 1 (rows [p, p2]))), (55, .d true (.v (.int .i64 2))), (56, .d true (.v (.int .i64 (i : Int)))), (83, .d true (.v (.int .i32 (c : Int))))], [none, some (.cells 69 [.d true (.sl 4 (sgs (segP x))), .d true (.sl 1 (ints .u8 (datP x)))])]⟩) (200) ?_ ?_
    · exact ⟨0, by omega, rfl, rfl⟩
    rintro k2 st ⟨c, hc3, hk3, rfl⟩
    have eP : segP x = [] ∧ datP x = [] := by unfold segP datP; rw [eR]; exact ⟨rfl, rfl⟩
    have ⟨m1, m2, m3⟩ := mapS_nil
    repeat refine AWP.nest ?_
    first | refine rsa hG [] [15, 16, 18, 19, 54, 55, 56, 83, 84] fun K hK => ?_ | refine rna hG [] [15, 16, 18, 19, 54, 55, 56, 83, 84] fun K hK => ?_
    repeat first | ((with_reducible refine shN ?_); refine sL ?_) | ((with_reducible refine shG ?_); refine sG ?_)
    refine Eq.mpr evalL_nil (hK _ ?_)
    clear hK K
    simp only [evU, St.keep, List.map_cons, look, reduceIte, Nat.reduceEqDiff]
    try show AWP _ _ _ _ _
    first | refine AWP.seq (AWP.cond (b := _) rfl (fun hc => ?_) (fun hc => ?_)) | refine AWP.cond (b := _) rfl (fun hc => ?_) (fun hc => ?_)
    rotate_left
    · refine AWP.exit ?_
      show AWP _ _ _ _ _
      simp only [evC, Int.not_lt] at hc
      refine AWP.keep [54, 55, 56] ?_
      simp only [St.keep, List.map_cons, List.map_nil, look, reduceIte, Nat.reduceEqDiff]
      refine AWP.trunc 1 (by rw [hps]; decide) rfl ?_
      simp only [St.trunc, List.take_zero, List.take_succ_cons]
      repeat refine AWP.nest ?_
      first | refine rsa hG [] [54, 55, 56] fun K hK => ?_ | refine rna hG [] [54, 55, 56] fun K hK => ?_
      repeat first | ((with_reducible refine shN ?_); refine sL ?_) | ((with_reducible refine shG ?_); refine sG ?_)
      refine Eq.mpr evalL_nil (hK _ ?_)
      clear hK K
      simp only [evU, St.keep, List.map_cons, look, reduceIte, Nat.reduceEqDiff]
      try show AWP _ _ _ _ _
      exact ⟨2 - (i + 1), by omega, i + 1, by omega, rfl, rfl⟩
    simp only [evC, Int.not_lt] at hc
    refine AWP.skip ?_
    show AWP _ _ _ _ _
    have hc' := hc
    clear hc
    rw [eP.1, eP.2]
    repeat refine AWP.nest ?_
    first | refine AWP.seq (AWP.block ?_) | refine AWP.block ?_
    repeat refine AWP.nest ?_
    first | refine rsa hG [] [15, 16, 18, 19, 20, 54, 55, 56, 83] fun K hK => ?_ | refine rna hG [] [15, 16, 18, 19, 20, 54, 55, 56, 83] fun K hK => ?_
    repeat first | ((with_reducible refine shN ?_); refine sL ?_) | ((with_reducible refine shG ?_); refine sG ?_)
    refine Eq.mpr evalL_nil (hK _ ?_)
    clear hK K
    simp only [evU, St.keep, List.map_cons, look, reduceIte, Nat.reduceEqDiff]
    try show AWP _ _ _ _ _
    repeat refine AWP.nest ?_
    first | refine rsa hG [] [15, 16, 18, 19, 54, 55, 56, 83, 98] fun K hK => ?_ | refine rna hG [] [15, 16, 18, 19, 54, 55, 56, 83, 98] fun K hK => ?_
    repeat first | ((with_reducible refine shN ?_); refine sL ?_) | ((with_reducible refine shG ?_); refine sG ?_)
    refine Eq.mpr evalL_nil (hK _ ?_)
    clear hK K
    simp only [evU, St.keep, List.map_cons, look, reduceIte, Nat.reduceEqDiff]
    try show AWP _ _ _ _ _
    repeat refine AWP.nest ?_
    first | refine AWP.seq (AWP.cond (b := _) rfl (fun hc => ?_) (fun hc => ?_)) | refine AWP.cond (b := _) rfl (fun hc => ?_) (fun hc => ?_)
    all_goals try simp only [evC] at hc
    · exfalso
      simp at hc
    refine AWP.skip ?_
    show AWP _ _ _ _ _
    clear hc
    repeat refine AWP.nest ?_
    first | refine rsa hG [] [15, 16, 18, 19, 54, 55, 56, 83] fun K hK => ?_ | refine rna hG [] [15, 16, 18, 19, 54, 55, 56, 83] fun K hK => ?_
    repeat first | ((with_reducible refine shN ?_); refine sL ?_) | ((with_reducible refine shG ?_); refine sG ?_)
    refine Eq.mpr evalL_nil (hK _ ?_)
    clear hK K
    simp only [evU, St.keep, List.map_cons, look, reduceIte, Nat.reduceEqDiff]
    try show AWP _ _ _ _ _
    exact ⟨200 - (c + 1), by omega, c + 1, by omega, rfl, rfl⟩
theorem law15 (x : Dat) (h : (AT.sl 53 (.int .u16)).holds x) (y : Dat) (h2 : (AT.sl 53 (.int .u16)).holds y) (z : Dat) (h3 : (AT.int .u16).holds z) (u : Dat) (h4 : (AT.int .u8).holds u) (v : Dat) (h5 : (AT.sl 5 (.int .u8)).holds v) : Spec Try.prog 15 [.d x.flat x, .d y.flat y, .d z.flat z, .d u.flat u, .d v.flat v] none ⟨True, .d true (.v (.bool true)), none⟩ := by
  obtain ⟨xs, rfl, hx⟩ := h
  obtain ⟨l, rfl, hl⟩ := ints_of hx
  obtain ⟨ys, rfl, hy⟩ := h2
  obtain ⟨m, rfl, hm⟩ := ints_of hy
  obtain ⟨a, rfl, ha⟩ := h3
  obtain ⟨t, rfl, ht⟩ := h4
  obtain ⟨ms, rfl, hms⟩ := bytes_of h5
  have := bounds_u16 ha
  have := bounds_u8 ht
  exact s15 l m (fun n hn => by have := bounds_u16 (hl n hn); omega) (fun n hn => by have := bounds_u16 (hm n hn); omega) a t (by omega) (by omega) (by omega) (by omega) ms hms
end Go.AM

