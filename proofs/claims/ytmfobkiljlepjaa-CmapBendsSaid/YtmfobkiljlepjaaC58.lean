/- AM: CmapBends. -/
import Derived.Test.YtmfobkiljlepjaaC54
import Derived.Test.YtmfobkiljlepjaaC28
set_option maxRecDepth 100000
set_option maxHeartbeats 8000000
set_option linter.unusedSimpArgs false
set_option linter.unusedVariables false
namespace Go.AM
open Go Go.Proofs

theorem lookC_bd2 {w : Bool} {G : List (Int × Int × Int)} {S : List (Int × Int × Int × Int)} {D : List Int} (h1 : MapG G) (h2 : MapS S D) (c : Int) : 0 ≤ lookC w G S D c ∧ lookC w G S D c ≤ 65535 := by
  unfold lookC
  split
  · exact lookG_bd h1 c
  · exact lookS_bd h2 c
theorem built_two (w : Bool) : buildC [(5, 0), (5, 0)] w = [] := by
  have e1 : risesB [(5, 0), (5, 0)] 1114111 = false := by decide
  have e2 : risesB [(5, 0), (5, 0)] 65534 = false := by decide
  have e3 : bodyC [(5, 0), (5, 0)] w = [] := by
    unfold bodyC buildG buildS
    rw [e1, e2]
    cases w <;> rfl
  unfold buildC
  rw [if_pos e3]
def F91 : FT := F90.upd 32 e32o
theorem F91_ok : FOK Try.prog F91 := FOK.upd F90_ok Try.func32 (by kernel_rfl) rfl fun args i R h => by
  unfold e32o at h
  split at h
  · cases h; exact Spec.pre fun h => by have := s32o _ h.1.2 h.2; rwa [← h.1.1] at this
  · cases h


theorem s24 (gs hs : List Int) (hg : W16 gs) (hh : W16 hs) (w : Bool) (a t : Int) (ha0 : 0 ≤ a) (ha1 : a < 65536) (ht0 : 0 ≤ t) (ht1 : t < 256) : Spec Try.prog 24 [.d false (.sl 1 (ints .u16 gs)), .d false (.sl 1 (ints .u16 hs)), .d true (.v (.bool w)), .d true (.v (.int .u16 a)), .d true (.v (.int .u8 t))] none ⟨True, .d true (.v (.bool true)), none⟩ := by
  have hf32 : F91 32 = e32o := rfl
  have hf65 : F91 65 = e65 := rfl
  have hf66 : F91 66 = e66 := rfl
  have hf67 : F91 67 = e67 := rfl
  have hf68 : F91 68 = e68 := rfl
  have hf69 : F91 69 = e69 := rfl
  have hf70 : F91 70 = e70 := rfl
  have hf71 : F91 71 = e71 := rfl
  have hf72 : F91 72 = e72 := rfl
  have hf73 : F91 73 = e73 := rfl
  have hG := (Gf_ok F91_ok)
  have hfs := And.intro @hf32 (And.intro @e32o.eq_1 (And.intro @hf65 (And.intro @e65.eq_1 (And.intro @hf66 (And.intro @e66.eq_1 (And.intro @hf67 (And.intro @e67.eq_1 (And.intro @hf68 (And.intro @e68.eq_1 (And.intro @hf69 (And.intro @e69.eq_1 (And.intro @hf70 (And.intro @e70.eq_1 (And.intro @hf71 (And.intro @e71.eq_1 (And.intro @hf72 (And.intro @e72.eq_1 (And.intro @hf73 (And.intro @e73.eq_1 (And.intro @evP (And.intro @evS (And.intro @toPrs_prs (And.intro @toPrs_prs9 (And.intro @toSps_sps (And.intro @toSgs_sgs @prs_consC)))))))))))))))))))))))))
  have hxs := @Nat.add_zero
  refine spec_of_awp (Gf_ok F91_ok) Try.func24 rfl (Nat.le_of_ble_eq_true rfl) fun E hps hN _ => ?_
  simp only [begin, List.zipIdx_cons, List.zipIdx_nil, List.map_cons, List.map_nil, Option.toList, Nat.zero_add, Nat.reduceAdd]
  repeat refine AWP.nest ?_
  first | refine rsa hG [] [0, 1, 2, 3, 4] fun K hK => ?_ | refine rna hG [] [0, 1, 2, 3, 4] fun K hK => ?_
  repeat first | ((with_reducible refine shN ?_); refine sL ?_) | ((with_reducible refine shG ?_); refine sG ?_)
  refine Eq.mpr evalL_nil (hK _ ?_)
  clear hK K
  simp only [evU, St.keep, List.map_cons, look, reduceIte, Nat.reduceEqDiff]
  try show AWP _ _ _ _ _
  repeat refine AWP.nest ?_
  first | refine rsa hG [] [0, 1, 2, 3, 4, 23] fun K hK => ?_ | refine rna hG [] [0, 1, 2, 3, 4, 23] fun K hK => ?_
  repeat first | ((with_reducible refine shN ?_); refine sL ?_) | ((with_reducible refine shG ?_); refine sG ?_)
  refine Eq.mpr evalL_nil (hK _ ?_)
  clear hK K
  simp only [evU, St.keep, List.map_cons, look, reduceIte, Nat.reduceEqDiff]
  try show AWP _ _ _ _ _
  repeat refine AWP.nest ?_
  first | refine AWP.seq (AWP.cond (b := _) rfl (fun hc => ?_) (fun hc => ?_)) | refine AWP.cond (b := _) rfl (fun hc => ?_) (fun hc => ?_)
  all_goals try simp only [evC] at hc
  · cases hc
  refine AWP.skip ?_
  show AWP _ _ _ _ _
  clear hc
  repeat refine AWP.nest ?_
  first | refine rsa hG [] [2, 3, 4, 12] fun K hK => ?_ | refine rna hG [] [2, 3, 4, 12] fun K hK => ?_
  repeat first | ((with_reducible refine shN ?_); refine sL ?_) | ((with_reducible refine shG ?_); refine sG ?_)
  refine Eq.mpr evalL_nil (hK _ ?_)
  clear hK K
  simp only [evU, St.keep, List.map_cons, look, reduceIte, Nat.reduceEqDiff]
  try show AWP _ _ _ _ _
  have hr := rsg_rises (md := 2000) (lim := 65534) (by decide) (k := 30) (a := -1) (gs := gs) hh (by decide) (by decide)
  have hp := rsg_ok (md := 2000) (lim := 65534) (by decide) (k := 30) (a := -1) (gs := gs) hh (by decide) (by decide)
  have hl := rsg_len (md := 2000) (lim := 65534) (k := 30) (a := -1) (gs := gs) (hs := hs)
  generalize rsg 2000 65534 30 (-1) gs hs = r at hr hp hl ⊢
  have hl7 : r.length ≤ 7000 := by omega
  obtain ⟨B, Gx, Sx, Dx, eB0, eB, hBb, hBl0, hBl, h3, h4, h5, h6, h7, hmg, hms, hlk⟩ := built_factsC hr hp hl7 w
  clear h3 h4 h5 h6 h7 hmg hms hlk eB
  repeat refine AWP.nest ?_
  have hxs := @eB0
  first | refine rsa hG [] [2, 3, 4, 13] fun K hK => ?_ | refine rna hG [] [2, 3, 4, 13] fun K hK => ?_
  repeat first | ((with_reducible refine shN ?_); refine sL ?_) | ((with_reducible refine shG ?_); refine sG ?_)
  refine Eq.mpr evalL_nil (hK _ ?_)
  clear hK K hxs
  simp only [evU, St.keep, List.map_cons, look, reduceIte, Nat.reduceEqDiff]
  try show AWP _ _ _ _ _
  have hbm := hBb
  have hlm : 12 ≤ B.length ∧ B.length ≤ 100000020 := ⟨hBl0, hBl⟩
  clear hp hl hl7 eB0 hr hBb hBl0 hBl
  generalize B = q at hbm hlm ⊢
  have hk1 : 0 ≤ a % (q.length : Int) := Int.emod_nonneg _ (by omega)
  have hk2 : a % (q.length : Int) < q.length := Int.emod_lt_of_pos _ (by omega)
  repeat refine AWP.nest ?_
  first | refine rsa hG [] [2, 3, 13] fun K hK => ?_ | refine rna hG [] [2, 3, 13] fun K hK => ?_
  repeat first | ((with_reducible refine shN ?_); refine sL ?_) | ((with_reducible refine shG ?_); refine sG ?_)
  refine Eq.mpr evalL_nil (hK _ ?_)
  clear hK K
  simp only [evU, St.keep, List.map_cons, look, reduceIte, Nat.reduceEqDiff]
  try show AWP _ _ _ _ _
  have hq2 := bent_byt hbm (a % (q.length : Int)).toNat t
  have hq3 := bent_len q (a % (q.length : Int)).toNat t
  unfold bent at hq2 hq3
  generalize q.set (a % (q.length : Int)).toNat (bits BinOp.xor IntKind.u8 (q.getD (a % (q.length : Int)).toNat 0) t) = p at hq2 hq3 ⊢
  rw [← hq3] at hk1 hk2 hlm
  clear hbm hq3
  refine AWP.frz 0 (by rw [hps]; decide) rfl ?_
  simp only [St.frz, Ob.frz, AV.frz, AV.frz1, Option.map_none, mkAgg, datas, Dat.nagg, List.map_cons, List.map_nil, Option.map_some, and_self, true_and, and_true, reduceIte, Nat.reduceEqDiff, List.set_cons_zero, List.set_cons_succ, Bool.and_true, Bool.true_and]
  repeat refine AWP.nest ?_
  first | refine rsa hG [] [2, 54, 55, 56] fun K hK => ?_ | refine rna hG [] [2, 54, 55, 56] fun K hK => ?_
  repeat first | ((with_reducible refine shN ?_); refine sL ?_) | ((with_reducible refine shG ?_); refine sG ?_)
  refine Eq.mpr evalL_nil (hK _ ?_)
  clear hK K
  simp only [evU, St.keep, List.map_cons, look, reduceIte, Nat.reduceEqDiff]
  try show AWP _ _ _ _ _
  have hall : ∀ x ∈ [p, p.take (a % (p.length : Int)).toNat], Byt x ∧ x.length ≤ 100000020 := by
    intro x hx
    simp only [List.mem_cons, List.not_mem_nil, or_false] at hx
    rcases hx with rfl | rfl
    · exact ⟨hq2, hlm.2⟩
    · exact ⟨hq2.take _, by simp only [List.length_take]; omega⟩
  generalize p.take (a % (p.length : Int)).toNat = p2 at hall ⊢
  repeat refine AWP.nest ?_
  first | refine AWP.seq (AWP.block ?_) | refine AWP.block ?_
  refine AWP.loop (fun n st => ∃ (i : Nat), i ≤ 2 ∧ n = 2 - i ∧ st = ⟨[(2, .d true (.v (.bool w))), (54, .d true (.sl 1 (rows [p, p2]))), (55, .d true (.v (.int .i64 2))), (56, .d true (.v (.int .i64 (i : Int))))], [none]⟩) (2) ?_ ?_
  · exact ⟨0, by omega, rfl, rfl⟩
  rintro n st ⟨i, hi, hn, rfl⟩
  repeat refine AWP.nest ?_
  first | refine rsa hG [] [2, 54, 55, 56, 57] fun K hK => ?_ | refine rna hG [] [2, 54, 55, 56, 57] fun K hK => ?_
  repeat first | ((with_reducible refine shN ?_); refine sL ?_) | ((with_reducible refine shG ?_); refine sG ?_)
  refine Eq.mpr evalL_nil (hK _ ?_)
  clear hK K
  simp only [evU, St.keep, List.map_cons, look, reduceIte, Nat.reduceEqDiff]
  try show AWP _ _ _ _ _
  first | refine AWP.seq (AWP.cond (b := _) rfl (fun hc => ?_) (fun hc => ?_)) | refine AWP.cond (b := _) rfl (fun hc => ?_) (fun hc => ?_)
  rotate_left
  · refine AWP.exit ?_
    show AWP _ _ _ _ _
    simp only [evC, Int.not_lt] at hc
    have hp5 : PrOK [(5, 0), (5, 0)] := mem_pr (by decide)
    have hbt := built_two w
    repeat refine AWP.nest ?_
    have hxs := @hbt
    first | refine rsa hG [] [10] fun K hK => ?_ | refine rna hG [] [10] fun K hK => ?_
    repeat first | ((with_reducible refine shN ?_); refine sL ?_) | ((with_reducible refine shG ?_); refine sG ?_)
    refine Eq.mpr evalL_nil (hK _ ?_)
    clear hK K hxs
    simp only [evU, St.keep, List.map_cons, look, reduceIte, Nat.reduceEqDiff]
    try show AWP _ _ _ _ _
    refine AWP.ret ?_
    refine ⟨.inl rfl, ⟨⟨_, rfl, ?_⟩, fun ob hob => by cases hob⟩⟩
    simp only [look, reduceIte, Nat.reduceEqDiff]
    exact sub1_of rfl
  simp only [evC, Int.not_lt] at hc
  refine AWP.skip ?_
  show AWP _ _ _ _ _
  have hi' := hc
  clear hc
  have hx : Byt ([p, p2].getD i []) ∧ ([p, p2].getD i []).length ≤ 100000020 := by
    rw [List.getD_eq_getElem?_getD, List.getElem?_eq_getElem (show i < [p, p2].length by simp only [List.length_cons, List.length_nil]; omega)]
    exact hall _ (List.getElem_mem _)
  have hnext : ∃ m < n, ∃ (i' : Nat), i' ≤ 2 ∧ m = 2 - i' ∧ (⟨[(2, .d true (.v (.bool w))), (54, .d true (.sl 1 (rows [p, p2]))), (55, .d true (.v (.int .i64 2))), (56, .d true (.v (.int .i64 ((i : Int) + 1))))], [none]⟩ : St) = ⟨[(2, .d true (.v (.bool w))), (54, .d true (.sl 1 (rows [p, p2]))), (55, .d true (.v (.int .i64 2))), (56, .d true (.v (.int .i64 (i' : Int))))], [none]⟩ := ⟨2 - (i + 1), by omega, i + 1, by omega, rfl, rfl⟩
  clear hn
  repeat refine AWP.nest ?_
  first | refine AWP.seq (AWP.block ?_) | refine AWP.block ?_
  repeat refine AWP.nest ?_
  first | refine rsa hG [] [2, 15, 54, 55, 56] fun K hK => ?_ | refine rna hG [] [2, 15, 54, 55, 56] fun K hK => ?_
  repeat first | ((with_reducible refine shN ?_); refine sL ?_) | ((with_reducible refine shG ?_); refine sG ?_)
  refine Eq.mpr evalL_nil (hK _ ?_)
  clear hK K
  simp only [evU, St.keep, List.map_cons, look, reduceIte, Nat.reduceEqDiff]
  try show AWP _ _ _ _ _
  generalize [p, p2].getD i [] = x at hx ⊢
  obtain ⟨hx1, hx2⟩ := hx
  have hx3 : x.length ≤ 1000000000 := by omega
  obtain ⟨hmg, hms, htb, hn1, hn2, hlk⟩ := read_map hx1 hx3
  have ⟨m1, m2, m3⟩ := hms
  have ⟨g1, g2, g3, g4⟩ := hmg
  repeat refine AWP.nest ?_
  first | refine rsa hG [] [2, 15, 16, 17, 54, 55, 56] fun K hK => ?_ | refine rna hG [] [2, 15, 16, 17, 54, 55, 56] fun K hK => ?_
  repeat first | ((with_reducible refine shN ?_); refine sL ?_) | ((with_reducible refine shG ?_); refine sG ?_)
  refine Eq.mpr evalL_nil (hK _ ?_)
  clear hK K
  simp only [evU, St.keep, List.map_cons, look, reduceIte, Nat.reduceEqDiff]
  try show AWP _ _ _ _ _
  repeat refine AWP.nest ?_
  first | refine rsa hG [] [2, 16, 17, 18, 19, 20, 21, 54, 55, 56] fun K hK => ?_ | refine rna hG [] [2, 16, 17, 18, 19, 20, 21, 54, 55, 56] fun K hK => ?_
  repeat first | ((with_reducible refine shN ?_); refine sL ?_) | ((with_reducible refine shG ?_); refine sG ?_)
  refine Eq.mpr evalL_nil (hK _ ?_)
  clear hK K
  simp only [evU, St.keep, List.map_cons, look, reduceIte, Nat.reduceEqDiff]
  try show AWP _ _ _ _ _
  cases eR : rightC x with
  | false =>
    have eI : (if false = true then (0 : Int) else 2) = 2 := rfl
    have eW : (false && wideC x) = false := rfl
    rw [eI, eW]
    have hn3 : 0 ≤ (nC x : Int) := by omega
    have hn4 : wideC x = false → (nC x : Int) ≤ 32767 := fun h => by have := hn2 h; omega
    repeat refine AWP.nest ?_
    first | refine rsa hG [] [2, 54, 55, 56, 94] fun K hK => ?_ | refine rna hG [] [2, 54, 55, 56, 94] fun K hK => ?_
    repeat first | ((with_reducible refine shN ?_); refine sL ?_) | ((with_reducible refine shG ?_); refine sG ?_)
    refine Eq.mpr evalL_nil (hK _ ?_)
    clear hK K
    simp only [evU, St.keep, List.map_cons, look, reduceIte, Nat.reduceEqDiff]
    try show AWP _ _ _ _ _
    repeat refine AWP.nest ?_
    first | refine AWP.seq (AWP.cond (b := _) rfl (fun hc => ?_) (fun hc => ?_)) | refine AWP.cond (b := _) rfl (fun hc => ?_) (fun hc => ?_)
    all_goals try simp only [evC] at hc
    · exfalso
      simp at hc
    refine AWP.skip ?_
    show AWP _ _ _ _ _
    clear hc
    refine AWP.keep [2, 54, 55, 56] ?_
    simp only [St.keep, List.map_cons, List.map_nil, look, reduceIte, Nat.reduceEqDiff]
    refine AWP.trunc 1 (by rw [hps]; decide) rfl ?_
    simp only [St.trunc, List.take_zero, List.take_succ_cons]
    repeat refine AWP.nest ?_
    first | refine rsa hG [] [2, 54, 55, 56] fun K hK => ?_ | refine rna hG [] [2, 54, 55, 56] fun K hK => ?_
    repeat first | ((with_reducible refine shN ?_); refine sL ?_) | ((with_reducible refine shG ?_); refine sG ?_)
    refine Eq.mpr evalL_nil (hK _ ?_)
    clear hK K
    simp only [evU, St.keep, List.map_cons, look, reduceIte, Nat.reduceEqDiff]
    try show AWP _ _ _ _ _
    exact hnext
  | true =>
    have hlk' := hlk eR
    have eI : (if true = true then (0 : Int) else 2) = 0 := rfl
    have eW : (true && wideC x) = wideC x := rfl
    rw [eI, eW]
    clear hlk
    have hbd : ∀ c, 0 ≤ refC (tC x) (wideC x) (nC x) c ∧ refC (tC x) (wideC x) (nC x) c ≤ 65535 := fun c => by rw [← hlk']; exact lookC_bd2 hmg hms c
    generalize gC x = Gx at hmg g1 g2 g3 g4 hlk' ⊢
    generalize sgC x = Sx at hms m1 m2 m3 hlk' ⊢
    generalize dC x = Dx at hms m1 m2 m3 hlk' ⊢
    generalize tC x = tx at htb hlk' hbd ⊢
    generalize nC x = n at hn1 hn2 hlk' hbd ⊢
    generalize wideC x = wx at hn2 hlk' hbd ⊢
    have hn3 : 0 ≤ (n : Int) := by omega
    have hn4 : wx = false → (n : Int) ≤ 32767 := fun h => by have := hn2 h; omega
    have b1 := hbd 65
    repeat refine AWP.nest ?_
    have hxs := @hlk'
    first | refine rsa hG [] [2, 54, 55, 56, 94] fun K hK => ?_ | refine rna hG [] [2, 54, 55, 56, 94] fun K hK => ?_
    repeat first | ((with_reducible refine shN ?_); refine sL ?_) | ((with_reducible refine shG ?_); refine sG ?_)
    refine Eq.mpr evalL_nil (hK _ ?_)
    clear hK K hxs
    simp only [evU, St.keep, List.map_cons, look, reduceIte, Nat.reduceEqDiff]
    try show AWP _ _ _ _ _
    repeat refine AWP.nest ?_
    first | refine AWP.seq (AWP.cond (b := _) rfl (fun hc => ?_) (fun hc => ?_)) | refine AWP.cond (b := _) rfl (fun hc => ?_) (fun hc => ?_)
    all_goals try simp only [evC] at hc
    · exfalso
      simp at hc
    refine AWP.skip ?_
    show AWP _ _ _ _ _
    clear hc
    refine AWP.keep [2, 54, 55, 56] ?_
    simp only [St.keep, List.map_cons, List.map_nil, look, reduceIte, Nat.reduceEqDiff]
    refine AWP.trunc 1 (by rw [hps]; decide) rfl ?_
    simp only [St.trunc, List.take_zero, List.take_succ_cons]
    repeat refine AWP.nest ?_
    first | refine rsa hG [] [2, 54, 55, 56] fun K hK => ?_ | refine rna hG [] [2, 54, 55, 56] fun K hK => ?_
    repeat first | ((with_reducible refine shN ?_); refine sL ?_) | ((with_reducible refine shG ?_); refine sG ?_)
    refine Eq.mpr evalL_nil (hK _ ?_)
    clear hK K
    simp only [evU, St.keep, List.map_cons, look, reduceIte, Nat.reduceEqDiff]
    try show AWP _ _ _ _ _
    exact hnext
theorem law24 (x : Dat) (h : (AT.sl 53 (.int .u16)).holds x) (y : Dat) (h2 : (AT.sl 53 (.int .u16)).holds y) (v : Dat) (h5 : AT.bool.holds v) (z : Dat) (h3 : (AT.int .u16).holds z) (u : Dat) (h4 : (AT.int .u8).holds u) : Spec Try.prog 24 [.d x.flat x, .d y.flat y, .d v.flat v, .d z.flat z, .d u.flat u] none ⟨True, .d true (.v (.bool true)), none⟩ := by
  obtain ⟨xs, rfl, hx⟩ := h
  obtain ⟨l, rfl, hl⟩ := ints_of hx
  obtain ⟨ys, rfl, hy⟩ := h2
  obtain ⟨m, rfl, hm⟩ := ints_of hy
  obtain ⟨w, rfl⟩ := h5
  obtain ⟨a, rfl, ha⟩ := h3
  obtain ⟨t, rfl, ht⟩ := h4
  have := bounds_u16 ha
  have := bounds_u8 ht
  exact s24 l m (fun n hn => by have := bounds_u16 (hl n hn); omega) (fun n hn => by have := bounds_u16 (hm n hn); omega) w a t (by omega) (by omega) (by omega) (by omega)
end Go.AM

