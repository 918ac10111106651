/- AM: package seg, part 2: Reader.Take, column, begins. -/
import Derived.Test.YtmfobkiljlepjaaC30
set_option maxRecDepth 100000
set_option maxHeartbeats 8000000
set_option linter.unusedSimpArgs false
set_option linter.unusedVariables false
namespace Go.AM
open Go Go.Proofs


/-! ### Reader.Take -/
def tkB (l : List Int) (p : Int) (bad : Bool) (n : Int) : List Int := if nxOK l.length p.toNat bad n = true then (l.drop p.toNat).take n.toNat else []
theorem tkB_byt {l : List Int} (hb : Byt l) (p : Int) (bad : Bool) (n : Int) : Byt (tkB l p bad n) := by
  unfold tkB
  split
  · exact (hb.drop _).take _
  · exact Byt.nil
theorem tkB_len (l : List Int) (p : Int) (bad : Bool) (n : Int) : (tkB l p bad n).length ≤ l.length := by
  unfold tkB
  split
  · simp only [List.length_take, List.length_drop]; omega
  · simp
theorem s101 (l : List Int) (hb : Byt l) (hl : l.length ≤ 1099511627776) (p : Nat) (hp : p ≤ l.length) (bad : Bool) (n : Int) (hn : 0 ≤ n) (hn2 : n ≤ 1099511627776) :
    Spec Try.prog 101 [.ptr 0 0, .d true (.v (.int .i64 n))] (some (.cells 174 [.d false (.sl 1 (ints .u8 l)), .d true (.v (.int .i64 (p : Int))), .d true (.v (.bool bad))]))
      ⟨True, .d true (.sl 1 (ints .u8 (tkB l p bad n))), some (.cells 174 [.d false (.sl 1 (ints .u8 l)), .d true (.v (.int .i64 (rp l.length p bad n))), .d true (.v (.bool (rb l.length p bad n)))])⟩ := by
  have h1 := tkB_byt hb p bad n
  have h2 := tkB_len l p bad n
  have e1 : (if nxOK l.length p bad n = true then (l.drop p).take n.toNat else []) = tkB l p bad n := rfl
  have e2 : (if nxOK l.length p bad n = true then (p : Int) + n else p) = rp l.length p bad n := rfl
  have e3 : (bad || !nxOK l.length p bad n) = rb l.length p bad n := rfl
  have hf85 : F54 85 = e85 := rfl
  have hf125 : F54 125 = e125 := rfl
  have hG := (Gf_ok F54_ok)
  have hfs := And.intro @hf85 (And.intro @e85.eq_1 (And.intro @hf125 (And.intro @e125.eq_1 @evP)))
  have hxs := @Nat.add_zero
  refine spec_of_awp (Gf_ok F54_ok) Try.func101 rfl (Nat.le_of_ble_eq_true rfl) fun E hps hN _ => ?_
  simp only [begin, List.zipIdx_cons, List.zipIdx_nil, List.map_cons, List.map_nil, Option.toList, Nat.zero_add, Nat.reduceAdd]
  repeat refine AWP.nest ?_
  first | refine rsa hG [] [0, 1] fun K hK => ?_ | refine rna hG [] [0, 1] fun K hK => ?_
  repeat first | ((with_reducible refine shN ?_); refine sL ?_) | ((with_reducible refine shG ?_); refine sG ?_)
  refine Eq.mpr evalL_nil (hK _ ?_)
  clear hK K
  simp only [evU, St.keep, List.map_cons, look, reduceIte, Nat.reduceEqDiff]
  try show AWP _ _ _ _ _
  repeat refine AWP.nest ?_
  first | refine rsa hG [] [5] fun K hK => ?_ | refine rna hG [] [5] fun K hK => ?_
  repeat first | ((with_reducible refine shN ?_); refine sL ?_) | ((with_reducible refine shG ?_); refine sG ?_)
  refine Eq.mpr evalL_nil (hK _ ?_)
  clear hK K
  simp only [evU, St.keep, List.map_cons, look, reduceIte, Nat.reduceEqDiff]
  try show AWP _ _ _ _ _
  rw [e1, e2]
  generalize tkB l p bad n = tk at h1 h2 ⊢
  repeat refine AWP.nest ?_
  first | refine rsa hG [] [4] fun K hK => ?_ | refine rna hG [] [4] fun K hK => ?_
  repeat first | ((with_reducible refine shN ?_); refine sL ?_) | ((with_reducible refine shG ?_); refine sG ?_)
  refine Eq.mpr evalL_nil (hK _ ?_)
  clear hK K
  simp only [evU, St.keep, List.map_cons, look, reduceIte, Nat.reduceEqDiff]
  try show AWP _ _ _ _ _
  refine AWP.frz 1 (by rw [hps]; exact Nat.le_of_ble_eq_true rfl) rfl ?_
  simp only [St.frz, Ob.frz, AV.frz, AV.frz1, Option.map_none, mkAgg, datas, Dat.nagg, List.map_cons, List.map_nil, Option.map_some, and_self, true_and, and_true, reduceIte, Nat.reduceEqDiff, List.set_cons_zero, List.set_cons_succ, Bool.and_true, Bool.true_and]
  refine AWP.ret ?_
  refine ⟨.inl rfl, ⟨⟨_, rfl, ?_⟩, fun ob hob => ?_⟩⟩
  simp only [look, reduceIte, Nat.reduceEqDiff]
  rotate_left
  cases hob
  · rfl
  · exact sub1_of rfl
def e101 : List AV → Option Ob → Option Res := fun args i => match args, i with
  | [.ptr 0 0, .d true (.v (.int .i64 n))], some (.cells 174 [.d false (.sl 1 xs), .d true (.v (.int .i64 p)), .d true (.v (.bool bad))]) =>
    some ⟨IsB xs ∧ (toInts xs).length ≤ 1099511627776 ∧ 0 ≤ p ∧ p ≤ ((toInts xs).length : Int) ∧ 0 ≤ n ∧ n ≤ 1099511627776,
      .d true (.sl 1 (ints .u8 (tkB (toInts xs) p bad n))),
        some (.cells 174 [.d false (.sl 1 (ints .u8 (toInts xs))), .d true (.v (.int .i64 (rp (toInts xs).length p bad n))), .d true (.v (.bool (rb (toInts xs).length p bad n)))])⟩
  | _, _ => none
def F55 : FT := F54.upd 101 e101
theorem F55_ok : FOK Try.prog F55 := FOK.upd F54_ok Try.func101 (by kernel_rfl) rfl fun args i R h => by
  unfold e101 at h
  split at h
  · rename_i n xs p bad
    cases h
    refine Spec.pre fun h => ?_
    obtain ⟨⟨h1, h2⟩, h3, h4, h5, h6, h7⟩ := h
    rw [h1, toInts_ints]
    obtain ⟨q, rfl⟩ : ∃ q : Nat, p = q := ⟨p.toNat, by omega⟩
    exact s101 (toInts xs) h2 h3 q (by omega) bad n h6 h7
  · cases h


/-! ### seg.column -/
def colV (l : List Int) (p n : Nat) : List Int := (List.range n).map fun j : Nat => n2V l ((p + 2 * j : Nat) : Int)
theorem colV_len (l : List Int) (p n : Nat) : (colV l p n).length = n := by simp [colV]
theorem colV_snoc (l : List Int) (p n : Nat) : colV l p (n + 1) = colV l p n ++ [n2V l ((p + 2 * n : Nat) : Int)] := by simp [colV, List.range_succ]
theorem colV_at {l : List Int} {p n i : Nat} (h : i < n) : (colV l p n).getD i 0 = n2V l ((p + 2 * i : Nat) : Int) := by
  simp [colV, List.getD_eq_getElem?_getD, h]
theorem s102 (l : List Int) (hb : Byt l) (hl : l.length ≤ 1099511627776) (p n : Nat) (h : p + 2 * n ≤ l.length) :
    Spec Try.prog 102 [.ptr 0 0, .d true (.v (.int .i64 (n : Int)))] (some (.cells 174 [.d false (.sl 1 (ints .u8 l)), .d true (.v (.int .i64 (p : Int))), .d true (.v (.bool false))]))
      ⟨True, .d true (.sl 1 (ints .u16 (colV l p n))), some (.cells 174 [.d false (.sl 1 (ints .u8 l)), .d true (.v (.int .i64 ((p + 2 * n : Nat) : Int))), .d true (.v (.bool false))])⟩ := by
  have hf92 : F55 92 = e92' := rfl
  have hG := (Gf_ok F55_ok)
  have hfs := And.intro @hf92 (And.intro @e92'.eq_1 @evP)
  have hxs := @Nat.add_zero
  refine spec_of_awp (Gf_ok F55_ok) Try.func102 rfl (Nat.le_of_ble_eq_true rfl) fun E hps hN _ => ?_
  simp only [begin, List.zipIdx_cons, List.zipIdx_nil, List.map_cons, List.map_nil, Option.toList, Nat.zero_add, Nat.reduceAdd]
  repeat refine AWP.nest ?_
  first | refine rsa hG [] [0, 1] fun K hK => ?_ | refine rna hG [] [0, 1] fun K hK => ?_
  repeat first | ((with_reducible refine shN ?_); refine sL ?_) | ((with_reducible refine shG ?_); refine sG ?_)
  refine Eq.mpr evalL_nil (hK _ ?_)
  clear hK K
  simp only [evU, St.keep, List.map_cons, look, reduceIte, Nat.reduceEqDiff]
  try show AWP _ _ _ _ _
  repeat refine AWP.nest ?_
  first | refine rsa hG [] [0, 1, 5] fun K hK => ?_ | refine rna hG [] [0, 1, 5] fun K hK => ?_
  repeat first | ((with_reducible refine shN ?_); refine sL ?_) | ((with_reducible refine shG ?_); refine sG ?_)
  refine Eq.mpr evalL_nil (hK _ ?_)
  clear hK K
  simp only [evU, St.keep, List.map_cons, look, reduceIte, Nat.reduceEqDiff]
  try show AWP _ _ _ _ _
  repeat refine AWP.nest ?_
  first | refine rsa hG [] [0, 5, 6, 7] fun K hK => ?_ | refine rna hG [] [0, 5, 6, 7] fun K hK => ?_
  repeat first | ((with_reducible refine shN ?_); refine sL ?_) | ((with_reducible refine shG ?_); refine sG ?_)
  refine Eq.mpr evalL_nil (hK _ ?_)
  clear hK K
  simp only [evU, St.keep, List.map_cons, look, reduceIte, Nat.reduceEqDiff]
  try show AWP _ _ _ _ _
  refine AWP.adopt 5 53 1 (by decide) rfl ?_
  refine AWP.keep [0, 5, 6, 7] ?_
  simp only [St.adopt, St.keep, List.map_cons, List.map_nil, look, reduceIte, Nat.reduceEqDiff, List.length_nil, List.length_cons, List.nil_append, List.cons_append, Nat.reduceAdd]
  repeat refine AWP.nest ?_
  first | refine AWP.seq (AWP.block ?_) | refine AWP.block ?_
  refine AWP.loop (fun k st => ∃ (j : Nat), j ≤ n ∧ k = n - j ∧ st = ⟨[(0, .ptr 0 0), (5, .own 1 j), (6, .d true (.v (.int .i64 (n : Int)))), (7, .d true (.v (.int .i64 (j : Int))))], [some (.cells 174 [.d false (.sl 1 (ints .u8 l)), .d true (.v (.int .i64 ((p + 2 * j : Nat) : Int))), .d true (.v (.bool false))]), some (.row 53 1 j true (ints .u16 (colV l p j)))]⟩) (n) ?_ ?_
  · exact ⟨0, Nat.zero_le _, rfl, rfl⟩
  rintro k st ⟨j, hj, hk, rfl⟩
  repeat refine AWP.nest ?_
  first | refine rsa hG [] [0, 5, 6, 7, 8] fun K hK => ?_ | refine rna hG [] [0, 5, 6, 7, 8] fun K hK => ?_
  repeat first | ((with_reducible refine shN ?_); refine sL ?_) | ((with_reducible refine shG ?_); refine sG ?_)
  refine Eq.mpr evalL_nil (hK _ ?_)
  clear hK K
  simp only [evU, St.keep, List.map_cons, look, reduceIte, Nat.reduceEqDiff]
  try show AWP _ _ _ _ _
  first | refine AWP.seq (AWP.cond (b := _) rfl (fun hc => ?_) (fun hc => ?_)) | refine AWP.cond (b := _) rfl (fun hc => ?_) (fun hc => ?_)
  rotate_left
  · refine AWP.exit ?_
    show AWP _ _ _ _ _
    simp only [evC, Int.not_lt] at hc
    obtain rfl : j = n := by omega
    repeat refine AWP.nest ?_
    first | refine rsa hG [] [4] fun K hK => ?_ | refine rna hG [] [4] fun K hK => ?_
    repeat first | ((with_reducible refine shN ?_); refine sL ?_) | ((with_reducible refine shG ?_); refine sG ?_)
    refine Eq.mpr evalL_nil (hK _ ?_)
    clear hK K
    simp only [evU, St.keep, List.map_cons, look, reduceIte, Nat.reduceEqDiff]
    try show AWP _ _ _ _ _
    refine AWP.frz 1 (by rw [hps]; exact Nat.le_of_ble_eq_true rfl) rfl ?_
    simp only [St.frz, Ob.frz, AV.frz, AV.frz1, Option.map_none, mkAgg, datas, Dat.nagg, List.map_cons, List.map_nil, Option.map_some, and_self, true_and, and_true, reduceIte, Nat.reduceEqDiff, List.set_cons_zero, List.set_cons_succ, Bool.and_true, Bool.true_and]
    refine AWP.ret ?_
    refine ⟨.inl rfl, ⟨⟨_, rfl, ?_⟩, fun ob hob => ?_⟩⟩
    simp only [look, reduceIte, Nat.reduceEqDiff]
    rotate_left
    cases hob
    · rfl
    · exact sub1_of rfl
  simp only [evC, Int.not_lt] at hc
  refine AWP.skip ?_
  show AWP _ _ _ _ _
  have hj' := hc
  clear hc
  obtain ⟨r1, r2, r3⟩ := read2 (l := l) (p := ((p + 2 * j : Nat) : Int)) (p + 2 * j) rfl (by omega)
  have hlen := colV_len l p j
  have hnb := n2V_bound hb ((p + 2 * j : Nat) : Int)
  repeat refine AWP.nest ?_
  first | refine AWP.seq (AWP.block ?_) | refine AWP.block ?_
  repeat refine AWP.nest ?_
  have hxs := And.intro @r1 (And.intro @r2 @r3)
  first | refine rsa hG [] [0, 5, 6, 7] fun K hK => ?_ | refine rna hG [] [0, 5, 6, 7] fun K hK => ?_
  repeat first | ((with_reducible refine shN ?_); refine sL ?_) | ((with_reducible refine shG ?_); refine sG ?_)
  refine Eq.mpr evalL_nil (hK _ ?_)
  clear hK K hxs
  simp only [evU, St.keep, List.map_cons, look, reduceIte, Nat.reduceEqDiff]
  try show AWP _ _ _ _ _
  repeat refine AWP.nest ?_
  first | refine rsa hG [] [0, 5, 6, 7] fun K hK => ?_ | refine rna hG [] [0, 5, 6, 7] fun K hK => ?_
  repeat first | ((with_reducible refine shN ?_); refine sL ?_) | ((with_reducible refine shG ?_); refine sG ?_)
  refine Eq.mpr evalL_nil (hK _ ?_)
  clear hK K
  simp only [evU, St.keep, List.map_cons, look, reduceIte, Nat.reduceEqDiff]
  try show AWP _ _ _ _ _
  refine ⟨n - (j + 1), by omega, j + 1, by omega, rfl, ?_⟩
  rw [colV_snoc, show ((p + 2 * (j + 1) : Nat) : Int) = ((p + 2 * j : Nat) : Int) + 2 by omega]
  simp only [ints, List.map_append, List.map_cons, List.map_nil]
  rfl
def e102 : List AV → Option Ob → Option Res := fun args i => match args, i with
  | [.ptr 0 0, .d true (.v (.int .i64 n))], some (.cells 174 [.d false (.sl 1 xs), .d true (.v (.int .i64 p)), .d true (.v (.bool false))]) =>
    some ⟨IsB xs ∧ (toInts xs).length ≤ 1099511627776 ∧ 0 ≤ p ∧ 0 ≤ n ∧ p + 2 * n ≤ ((toInts xs).length : Int),
      .d true (.sl 1 (ints .u16 (colV (toInts xs) p.toNat n.toNat))),
        some (.cells 174 [.d false (.sl 1 (ints .u8 (toInts xs))), .d true (.v (.int .i64 (p + 2 * n))), .d true (.v (.bool false))])⟩
  | _, _ => none
def F56 : FT := F55.upd 102 e102
theorem F56_ok : FOK Try.prog F56 := FOK.upd F55_ok Try.func102 (by kernel_rfl) rfl fun args i R h => by
  unfold e102 at h
  split at h
  · rename_i n xs p
    cases h
    refine Spec.pre fun h => ?_
    obtain ⟨⟨h1, h2⟩, h3, h4, h5, h6⟩ := h
    rw [h1, toInts_ints]
    obtain ⟨q, rfl⟩ : ∃ q : Nat, p = q := ⟨p.toNat, by omega⟩
    obtain ⟨m, rfl⟩ : ∃ m : Nat, n = m := ⟨n.toNat, by omega⟩
    have := s102 (toInts xs) h2 h3 q m (by omega)
    rw [Int.toNat_natCast, Int.toNat_natCast]
    rwa [show ((q + 2 * m : Nat) : Int) = (q : Int) + 2 * m by omega] at this
  · cases h


/-! ### seg.begins -/
/-- Does a table begin as one? -/
def hdS (l : List Int) : Bool := decide (24 ≤ l.length) && decide (n2V l 0 = 4) && decide (24 ≤ n2V l 2) && decide (n2V l 2 ≤ (l.length : Int)) && decide (n2V l 2 % 2 = 0) && decide (n2V l 6 % 2 = 0) && decide (0 < n2V l 6) && decide (16 + 4 * n2V l 6 ≤ n2V l 2)
/-- How many segments it says it has. -/
def nS (l : List Int) : Nat := (n2V l 6 / 2).toNat
def srS (l : List Int) : Bool := decide (n2V l 8 = sA (nS l)) && decide (n2V l 10 = sB (nS l)) && decide (n2V l 12 = sC (nS l))
theorem hdS_iff {l : List Int} : hdS l = true ↔ 24 ≤ l.length ∧ n2V l 0 = 4 ∧ 24 ≤ n2V l 2 ∧ n2V l 2 ≤ (l.length : Int) ∧ n2V l 2 % 2 = 0 ∧ n2V l 6 % 2 = 0 ∧ 0 < n2V l 6 ∧ 16 + 4 * n2V l 6 ≤ n2V l 2 := by
  simp only [hdS, Bool.and_eq_true, decide_eq_true_eq, and_assoc]
theorem srS_iff {l : List Int} : srS l = true ↔ n2V l 8 = sA (nS l) ∧ n2V l 10 = sB (nS l) ∧ n2V l 12 = sC (nS l) := by
  simp only [srS, Bool.and_eq_true, decide_eq_true_eq, and_assoc]
theorem s100 (l : List Int) (hb : Byt l) (hl : l.length ≤ 1000000000000) : Spec Try.prog 100 [.d false (.sl 1 (ints .u8 l))] none ⟨True, .tup [.d true (.v (.int .i64 (if hdS l = true then (nS l : Int) else 0))), .d true (.v (.bool (hdS l && srS l)))], none⟩ := by
  have hf87 : F56 87 = e87 := rfl
  have hf92 : F56 92 = e92' := rfl
  have hf93 : F56 93 = e93 := rfl
  have hf98 : F56 98 = e98 := rfl
  have hG := (Gf_ok F56_ok)
  have hfs := And.intro @hf87 (And.intro @e87.eq_1 (And.intro @hf92 (And.intro @e92'.eq_1 (And.intro @hf93 (And.intro @e93.eq_1 (And.intro @hf98 (And.intro @e98.eq_1 @evP)))))))
  have hxs := @Nat.add_zero
  refine spec_of_awp (Gf_ok F56_ok) Try.func100 rfl (Nat.le_of_ble_eq_true rfl) fun E hps hN _ => ?_
  simp only [begin, List.zipIdx_cons, List.zipIdx_nil, List.map_cons, List.map_nil, Option.toList, Nat.zero_add, Nat.reduceAdd]
  have r0 : RdOK l.length 0 0 false := .inl ⟨Nat.zero_le _, rfl, rfl⟩
  repeat refine AWP.nest ?_
  first | refine rsa hG [] [0] fun K hK => ?_ | refine rna hG [] [0] fun K hK => ?_
  repeat first | ((with_reducible refine shN ?_); refine sL ?_) | ((with_reducible refine shG ?_); refine sG ?_)
  refine Eq.mpr evalL_nil (hK _ ?_)
  clear hK K
  simp only [evU, St.keep, List.map_cons, look, reduceIte, Nat.reduceEqDiff]
  try show AWP _ _ _ _ _
  repeat refine AWP.nest ?_
  first | refine rsa hG [] [0, 4] fun K hK => ?_ | refine rna hG [] [0, 4] fun K hK => ?_
  repeat first | ((with_reducible refine shN ?_); refine sL ?_) | ((with_reducible refine shG ?_); refine sG ?_)
  refine Eq.mpr evalL_nil (hK _ ?_)
  clear hK K
  simp only [evU, St.keep, List.map_cons, look, reduceIte, Nat.reduceEqDiff]
  try show AWP _ _ _ _ _
  have st : ∀ (k : Nat) (p : Int) (bad : Bool), RdOK l.length k p bad → ∃ y p' b', rv l p bad 2 = y ∧ rp l.length p bad 2 = p' ∧ rb l.length p bad 2 = b' ∧ RdOK l.length (k + 2) p' b' ∧ 0 ≤ y ∧ y < 65536 ∧ (k + 2 ≤ l.length → y = n2V l k) ∧ 0 ≤ p' ∧ p' ≤ l.length := fun k p bad h => by
    have h1 := rv_b2 hb p bad
    exact ⟨_, _, _, rfl, rfl, rfl, h.s2, h1.1, h1.2, fun hk => by rw [h.v2 hk]; exact be2_at hk, h.s2.bnd⟩
  obtain ⟨y0, p1, b1, a1, a2, a3, r1, u1, u2, u3, v1, v2⟩ := st 0 0 false r0
  obtain ⟨y1, p2, b2, c1, c2, c3, r2, w1, w2, w3, x1, x2⟩ := st 2 p1 b1 r1
  repeat refine AWP.nest ?_
  have hxs := And.intro @a1 (And.intro @a2 (And.intro @a3 (And.intro @c1 (And.intro @c2 @c3))))
  first | refine rsa hG [] [0, 4, 5, 6] fun K hK => ?_ | refine rna hG [] [0, 4, 5, 6] fun K hK => ?_
  repeat first | ((with_reducible refine shN ?_); refine sL ?_) | ((with_reducible refine shG ?_); refine sG ?_)
  refine Eq.mpr evalL_nil (hK _ ?_)
  clear hK K hxs
  simp only [evU, St.keep, List.map_cons, look, reduceIte, Nat.reduceEqDiff]
  try show AWP _ _ _ _ _
  obtain ⟨y2, p3, b3, d1, d2, d3, r3, z1, z2, z3, q1, q2⟩ := st 4 p2 b2 r2
  repeat refine AWP.nest ?_
  have hxs := And.intro @d1 (And.intro @d2 @d3)
  first | refine rsa hG [] [0, 4, 5, 6] fun K hK => ?_ | refine rna hG [] [0, 4, 5, 6] fun K hK => ?_
  repeat first | ((with_reducible refine shN ?_); refine sL ?_) | ((with_reducible refine shG ?_); refine sG ?_)
  refine Eq.mpr evalL_nil (hK _ ?_)
  clear hK K hxs
  simp only [evU, St.keep, List.map_cons, look, reduceIte, Nat.reduceEqDiff]
  try show AWP _ _ _ _ _
  obtain ⟨y3, p4, b4', f1, f2, f3, r4, g1, g2, g3, k1, k2⟩ := st 6 p3 b3 r3
  repeat refine AWP.nest ?_
  have hxs := And.intro @f1 (And.intro @f2 @f3)
  first | refine rsa hG [] [0, 4, 5, 6, 7] fun K hK => ?_ | refine rna hG [] [0, 4, 5, 6, 7] fun K hK => ?_
  repeat first | ((with_reducible refine shN ?_); refine sL ?_) | ((with_reducible refine shG ?_); refine sG ?_)
  refine Eq.mpr evalL_nil (hK _ ?_)
  clear hK K hxs
  simp only [evU, St.keep, List.map_cons, look, reduceIte, Nat.reduceEqDiff]
  try show AWP _ _ _ _ _
  obtain ⟨y4, p5, b5, m1, m2, m3, r5, n1, n2, n3, o1, o2⟩ := st 8 p4 b4' r4
  obtain ⟨y5, p6, b6, m4, m5, m6, r6, n4, n5, n6, o4, o5⟩ := st 10 p5 b5 r5
  obtain ⟨y6, p7, b7, m7, m8, m9, r7, n7, n8, n9, o7, o8⟩ := st 12 p6 b6 r6
  repeat refine AWP.nest ?_
  have hxs := And.intro @m1 (And.intro @m2 (And.intro @m3 (And.intro @m4 (And.intro @m5 (And.intro @m6 (And.intro @m7 (And.intro @m8 @m9)))))))
  first | refine rsa hG [] [0, 4, 5, 6, 7, 8, 9, 10] fun K hK => ?_ | refine rna hG [] [0, 4, 5, 6, 7, 8, 9, 10] fun K hK => ?_
  repeat first | ((with_reducible refine shN ?_); refine sL ?_) | ((with_reducible refine shG ?_); refine sG ?_)
  refine Eq.mpr evalL_nil (hK _ ?_)
  clear hK K hxs
  simp only [evU, St.keep, List.map_cons, look, reduceIte, Nat.reduceEqDiff]
  try show AWP _ _ _ _ _
  clear a1 a2 a3 c1 c2 c3 d1 d2 d3 f1 f2 f3 m1 m2 m3 m4 m5 m6 m7 m8 m9 r0 r1 r2 r3 r4 r5 r6 st v1 v2 x1 x2 q1 q2 k1 k2 o1 o2 o4 o5
  repeat refine AWP.nest ?_
  first | refine rsa hG [] [7, 8, 9, 10, 69] fun K hK => ?_ | refine rna hG [] [7, 8, 9, 10, 69] fun K hK => ?_
  repeat first | ((with_reducible refine shN ?_); refine sL ?_) | ((with_reducible refine shG ?_); refine sG ?_)
  refine Eq.mpr evalL_nil (hK _ ?_)
  clear hK K
  simp only [evU, St.keep, List.map_cons, look, reduceIte, Nat.reduceEqDiff]
  try show AWP _ _ _ _ _
  have hbad : b7 = true ↔ l.length < 14 := by
    rcases r7 with h | h
    · rw [h.2.2]; constructor
      · intro h2; cases h2
      · intro h2; omega
    · exact ⟨fun _ => h.1, fun _ => h.2.1⟩
  have key : ¬(((((((b7 = true ∨ y0 ≠ 4) ∨ y1 < 24) ∨ y1 > (l.length : Int)) ∨ y1 % 2 ≠ 0) ∨ y3 = 0) ∨ y3 % 2 ≠ 0) ∨ 16 + 8 * y3 / 2 > y1) ↔ hdS l = true := by
    rw [hdS_iff, hbad]
    by_cases h14 : l.length < 14
    · constructor
      · intro h; exfalso; omega
      · intro h; exfalso; omega
    · have u3' : y0 = n2V l 0 := u3 (by omega)
      have w3' : y1 = n2V l 2 := w3 (by omega)
      have g3' : y3 = n2V l 6 := g3 (by omega)
      rw [← u3', ← w3', ← g3']
      omega
  repeat refine AWP.nest ?_
  first | refine AWP.seq (AWP.cond (b := _) rfl (fun hc => ?_) (fun hc => ?_)) | refine AWP.cond (b := _) rfl (fun hc => ?_) (fun hc => ?_)
  all_goals try simp only [evC] at hc
  · have eh : hdS l = false := by
      cases e : hdS l with
      | false => rfl
      | true => exact absurd hc (key.2 e)
    rw [eh]
    repeat refine AWP.nest ?_
    first | refine rsa hG [] [2, 3] fun K hK => ?_ | refine rna hG [] [2, 3] fun K hK => ?_
    repeat first | ((with_reducible refine shN ?_); refine sL ?_) | ((with_reducible refine shG ?_); refine sG ?_)
    refine Eq.mpr evalL_nil (hK _ ?_)
    clear hK K
    simp only [evU, St.keep, List.map_cons, look, reduceIte, Nat.reduceEqDiff]
    try show AWP _ _ _ _ _
    refine AWP.ret ?_
    refine ⟨.inl rfl, ⟨⟨_, rfl, ?_⟩, fun ob hob => by cases hob⟩⟩
    simp only [look, reduceIte, Nat.reduceEqDiff]
    refine ⟨_, rfl, (.cons ?_ (.cons ?_ .nil))⟩
    · exact sub1_n rfl
    · exact sub1_of rfl
  refine AWP.skip ?_
  show AWP _ _ _ _ _
  have eh : hdS l = true := by
    have hb7 : b7 = false := hc.1.1.1.1.1.1.1
    refine key.1 fun h => ?_
    rw [hb7] at h
    rcases h with ((((((h | h) | h) | h) | h) | h) | h) | h
    · cases h
    all_goals omega
  clear hc key hbad
  have h8 := hdS_iff.1 eh
  have g3' : y3 = n2V l 6 := g3 (by omega)
  have n3' : y4 = n2V l 8 := n3 (by omega)
  have n6' : y5 = n2V l 10 := n6 (by omega)
  have n9' : y6 = n2V l 12 := n9 (by omega)
  have es : srS l = ((y4 == (sA (nS l) : Int)) && (y5 == (sB (nS l) : Int)) && (y6 == (sC (nS l) : Int))) := by
    rw [n3', n6', n9', Bool.eq_iff_iff]
    simp [srS]
  rw [eh, es]
  have hn : ((nS l : Nat) : Int) = y3 / 2 := by unfold nS; rw [← g3']; omega
  have hn0 : 0 < nS l ∧ nS l ≤ 32767 := by omega
  have hy : y3 = 2 * (nS l : Int) := by omega
  clear g3 n3 n6 n9 u3 w3 z3 es h8 hn
  subst hy
  generalize nS l = n at hn0 ⊢
  have en : 2 * (n : Int) / 2 = n := by omega
  repeat refine AWP.nest ?_
  first | refine AWP.rs (Gf_ok F56_ok) [] [7, 8, 9, 10, 11, 12, 13] (by rw [hN]; decide) fun K hK => ?_ | refine AWP.rn (Gf_ok F56_ok) [] [7, 8, 9, 10, 11, 12, 13] (by rw [hN]; decide) fun K hK => ?_
  repeat
    first | apply eL | (apply eG; (case ht => exact rfl); (case hef => exact rfl))
    case e => (simp only [evB, evG, evGR, Q.evalR, boolOf, opQ, opMove, opPick, opBinK, opBin, opMakeMap, opLookup, opMapUpdate, keyA, keyI, keyEq, opUn, opConvS, convSB, convBS, lazy_app, lazyO_app, opConv, opExtract, opNil, opAlloc, opBox, opBuild, opBuildSlice, opMakeSlice, opLoad, opStore, opSlice, opFieldAddr, opField, opIndexAddr, opIndex, opLen, opMinMax, opAppend, opAppendZ, opCall, opCallF, callK_none, callK_some, opCallS, callS_none, opCopy, opMakeFunc, Q.opnd, Q.opndW, Q.eval, Q.ret, Q.elems, Q.cells, Q.parts, Q.args, Q.src, Q.optInt, intOf?, placeOf, fillA, setAll, mkAgg, datas, loadSel, ofCells, pickV, binI, binS, look, Value.oneCell', normD, smallNil, KD.known, KD.agg, T, TI.z, Dat.wd, Dat.cells, Dat.nagg, AV.ren, renL, AV.renT, AV.hi, AV.hi1, Ob.isRow, Ob.inn, Ob.out, Ob.gam, Ob.data, Ob.alike, loL, Gf, Mu, KE, Dat.flat, Dat.isV, List.contains, List.elem, Option.isSome, Nat.reduceAdd, Nat.reduceSub, Nat.reduceMul, Nat.reduceEqDiff, Nat.reduceLeDiff, Nat.reduceBEq, reduceIte, reduceCtorEq, Int.reduceLT, Int.reduceLE, Int.reduceNeg, Int.reduceEq, Int.reduceToNat, Int.reducePow, Nat.reducePow, Nat.reduceLT, IntKind.bits, hf87, e87, hf92, e92', hf93, e93, hf98, e98, evP, en, Int.toNat_natCast]; (try simp (disch := omega) only [evA]); exact rfl)
    case s => ((try simp only [evU]); exact rfl)
    case hp => (first | exact True.intro | (((repeat' refine And.intro ?_ ?_) <;> first | exact True.intro | omega)) | (intro hg; ((repeat' refine And.intro ?_ ?_) <;> first | exact True.intro | omega)) | (intro hg; simp at hg; ((repeat' refine And.intro ?_ ?_) <;> first | exact True.intro | omega)))
  rw [evalL_nil]
  refine hK _ ?_
  clear hK K
  simp only [evU, St.keep, List.map_cons, look, reduceIte, Nat.reduceEqDiff]
  try show AWP _ _ _ _ _
  repeat refine AWP.nest ?_
  have hxs := @en
  first | refine rsa hG [] [2, 3] fun K hK => ?_ | refine rna hG [] [2, 3] fun K hK => ?_
  repeat first | ((with_reducible refine shN ?_); refine sL ?_) | ((with_reducible refine shG ?_); refine sG ?_)
  refine Eq.mpr evalL_nil (hK _ ?_)
  clear hK K hxs
  simp only [evU, St.keep, List.map_cons, look, reduceIte, Nat.reduceEqDiff]
  try show AWP _ _ _ _ _
  refine AWP.ret ?_
  refine ⟨.inl rfl, ⟨⟨_, rfl, ?_⟩, fun ob hob => by cases hob⟩⟩
  simp only [look, reduceIte, Nat.reduceEqDiff]
  refine ⟨_, rfl, (.cons ?_ (.cons ?_ .nil))⟩
  · exact sub1_n rfl
  · refine sub1_of ?_
    simp
def e100 : List AV → Option Ob → Option Res := fun args i => match args, i with
  | [.d false (.sl 1 xs)], none => some ⟨IsB xs ∧ (toInts xs).length ≤ 1000000000000, .tup [.d true (.v (.int .i64 (if hdS (toInts xs) = true then (nS (toInts xs) : Int) else 0))), .d true (.v (.bool (hdS (toInts xs) && srS (toInts xs))))], none⟩
  | _, _ => none
def F57 : FT := F56.upd 100 e100
theorem F57_ok : FOK Try.prog F57 := FOK.upd F56_ok Try.func100 (by kernel_rfl) rfl fun args i R h => by
  unfold e100 at h
  split at h
  · cases h
    refine Spec.pre fun h => ?_
    obtain ⟨⟨h1, h2⟩, h3⟩ := h
    rw [h1, toInts_ints]
    exact s100 _ h2 h3
  · cases h
end Go.AM

