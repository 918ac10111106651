/- The file of tables (plain): what it holds; its tables are read again. -/
import Derived.Test.YtmfobkiljlepjaaD2
import Derived.Test.YtmfobkiljlepjaaC88
set_option linter.unusedSimpArgs false
set_option linter.unusedVariables false
namespace Go.AM
open Go
theorem n2V_two {l : List Int} {q : Nat} (h : q + 2 ≤ l.length) : n2V l (q : Int) = 256 * l.getD q 0 + l.getD (q + 1) 0 := by
  have hk : n2OK l.length (q : Int) = true := by simp only [n2OK, decide_eq_true_eq]; omega
  unfold n2V
  rw [hk, if_pos rfl, Int.toNat_natCast]
theorem bytesL_sz (s : ByteArray) : (bytesL s).length = s.size := by simp [bytesL]
theorem nB_of {l : List Int} (h : 12 ≤ l.length) : nB l = n2V l 4 := (beg_vals h).2.1

/-! ### windows -/
def win (l : List Int) (a n : Nat) : List Int := (l.drop a).take n
theorem win_mid {A B C : List Int} : win (A ++ (B ++ C)) A.length B.length = B := by simp [win]
theorem win_mid' {l A B C : List Int} {a n : Nat} (h : l = A ++ (B ++ C)) (ha : a = A.length) (hn : n = B.length) : win l a n = B := by subst h ha hn; exact win_mid
theorem win_len {l : List Int} {a n : Nat} (h : a + n ≤ l.length) : (win l a n).length = n := by simp [win]; omega
theorem win_getD {l : List Int} {a n j : Nat} (h : j < n) : (win l a n).getD j 0 = l.getD (a + j) 0 := by
  rw [List.getD_eq_getElem?_getD, List.getD_eq_getElem?_getD, win, List.getElem?_take, if_pos h, List.getElem?_drop]
theorem win_win {l : List Int} {a n b m : Nat} (h : b + m ≤ n) : win (win l a n) b m = win l (a + b) m := by
  unfold win
  rw [List.drop_take, List.take_take, List.drop_drop, Nat.min_eq_left (by omega)]
theorem n4V_win {l : List Int} {q : Nat} {v : Int} (h : q + 4 ≤ l.length) (hw : win l q 4 = b4 v) : n4V l (q : Int) = v := by
  have g : ∀ j, j < 4 → l.getD (q + j) 0 = (b4 v).getD j 0 := fun j hj => by rw [← hw, win_getD hj]
  have g0 := g 0 (by decide)
  have g1 := g 1 (by decide)
  have g2 := g 2 (by decide)
  have g3 := g 3 (by decide)
  simp only [b4, List.getD_cons_zero, List.getD_cons_succ, Nat.add_zero] at g0 g1 g2 g3
  unfold n4V
  rw [if_neg (by omega), n2V_two (by omega), show (q : Int) + 2 = ((q + 2 : Nat) : Int) by omega, n2V_two (by omega), show q + 2 + 1 = q + 3 by omega, g0, g1, g2, g3]
  omega
theorem n2V_win {l : List Int} {q : Nat} {a b : Int} (h : q + 2 ≤ l.length) (hw : win l q 2 = [a, b]) : n2V l (q : Int) = 256 * a + b := by
  have g : ∀ j, j < 2 → l.getD (q + j) 0 = [a, b].getD j 0 := fun j hj => by rw [← hw, win_getD hj]
  have g0 := g 0 (by decide)
  have g1 := g 1 (by decide)
  simp only [List.getD_cons_zero, List.getD_cons_succ, Nat.add_zero] at g0 g1
  rw [n2V_two h, g0, g1]
theorem strL_push (s : ByteArray) : ∀ l : List UInt8, (l.map fun b => (b.toNat : Int)).foldl (fun r n => r.push (UInt8.ofNat n.toNat)) s = l.foldl (fun r b => r.push b) s
  | [] => rfl
  | b :: l => by
    simp only [List.map_cons, List.foldl_cons, Int.toNat_natCast, UInt8.ofNat_toNat]
    exact strL_push _ l
theorem push_all : ∀ (l : List UInt8) (s : ByteArray), (l.foldl (fun r b => r.push b) s).data.toList = s.data.toList ++ l
  | [], s => by simp
  | b :: l, s => by
    rw [List.foldl_cons, push_all l]
    simp [ByteArray.push]
theorem strL_bytesL (s : ByteArray) : strL (bytesL s) = s := by
  unfold strL bytesL
  rw [strL_push]
  refine ByteArray.ext (Array.toList_inj.1 ?_)
  rw [push_all]
  rfl

/-! ### the file -/
def b2F (n : Int) : List Int := [n / 256, n % 256]
def hdrF (n : Nat) : List Int := [0, 1, 0, 0] ++ (b2F n ++ (b2F (tA n) ++ (b2F (tB n) ++ b2F (tD n))))
def rowF (at_ : Nat) (t : Tb) : List Int := bytesL t.1 ++ (b4 (sumT t) ++ (b4 at_ ++ b4 t.2.length))
def rowsF : Nat → List Tb → List Int
  | _, [] => []
  | a, t :: l => rowF a t ++ rowsF (a + (padB (zerT t)).length) l
def datF (l : List Tb) : List Int := (l.map fun t => padB (zerT t)).flatten
/-- Where what makes the file whole lies; 0: nowhere. -/
def adjF : Nat → List Tb → Nat
  | _, [] => 0
  | a, t :: l => if wholeT t = true then a + 8 else adjF (a + (padB (zerT t)).length) l
def rawF (l : List Tb) : List Int := hdrF l.length ++ (rowsF (12 + 16 * l.length) l ++ datF l)
/-- Four bytes, put there. -/
def putF (l : List Int) (k : Nat) (v : Int) : List Int := l.take k ++ (b4 v ++ l.drop (k + 4))
def fileF (l : List Tb) : List Int := if adjF (12 + 16 * l.length) l = 0 then rawF l else putF (rawF l) (adjF (12 + 16 * l.length) l) ((2981146554 - refSum 0 (rawF l) % 4294967296) % 4294967296)
def Tags4 (l : List Tb) : Prop := ∀ t ∈ l, t.1.size = 4
def DatB (l : List Tb) : Prop := ∀ t ∈ l, Byt t.2

theorem hdrF_len {n : Nat} : (hdrF n).length = 12 := rfl
theorem b4_len {n : Int} : (b4 n).length = 4 := rfl
theorem rowF_len {a : Nat} {t : Tb} (h : t.1.size = 4) : (rowF a t).length = 16 := by simp [rowF, bytesL_sz, h, b4_len]
theorem rowsF_append : ∀ {l m : List Tb} {a : Nat}, rowsF a (l ++ m) = rowsF a l ++ rowsF (a + (datF l).length) m
  | [], m, a => by simp [rowsF, datF]
  | t :: l, m, a => by
    rw [List.cons_append, rowsF, rowsF, rowsF_append, List.append_assoc]
    simp only [datF, List.map_cons, List.flatten_cons, List.length_append, Nat.add_assoc]
theorem datF_append {l m : List Tb} : datF (l ++ m) = datF l ++ datF m := by simp [datF]
theorem rowsF_len : ∀ {l : List Tb} {a : Nat}, Tags4 l → (rowsF a l).length = 16 * l.length
  | [], a, _ => rfl
  | t :: l, a, h => by
    rw [rowsF, List.length_append, rowF_len (h t (by simp)), rowsF_len (fun t ht => h t (by simp [ht])), List.length_cons]
    omega
theorem padB_mod (l : List Int) : (padB l).length % 4 = 0 ∧ l.length ≤ (padB l).length ∧ (padB l).length < l.length + 4 := by
  simp only [padB, List.length_append, List.length_replicate]
  omega
theorem datF_mod : ∀ {l : List Tb}, (datF l).length % 4 = 0
  | [] => rfl
  | t :: l => by
    have := datF_mod (l := l)
    have := (padB_mod (zerT t)).1
    simp only [datF, List.map_cons, List.flatten_cons, List.length_append] at *
    omega
theorem rawF_len {l : List Tb} (h : Tags4 l) : (rawF l).length = 12 + 16 * l.length + (datF l).length := by
  rw [rawF, List.length_append, List.length_append, hdrF_len, rowsF_len h]
  omega
/-- A list, parted at its i-th. -/
theorem part_at {α : Type} {l : List α} {i : Nat} (h : i < l.length) : l = l.take i ++ l[i] :: l.drop (i + 1) := by
  rw [← List.drop_eq_getElem_cons h, List.take_append_drop]
def atF (l : List Tb) (i : Nat) : Nat := 12 + 16 * l.length + (datF (l.take i)).length
theorem raw_row {l : List Tb} (h : Tags4 l) {i : Nat} (hi : i < l.length) : win (rawF l) (12 + 16 * i) 16 = rowF (atF l i) l[i] := by
  have e := part_at hi
  have e2 : rowsF (12 + 16 * l.length) l = rowsF (12 + 16 * l.length) (l.take i) ++ (rowF (atF l i) l[i] ++ rowsF (atF l i + (padB (zerT l[i])).length) (l.drop (i + 1))) := by
    conv => lhs; rw [e]
    rw [rowsF_append, rowsF]
    simp only [List.length_append, List.length_take, List.length_cons, List.length_drop]
    rw [show min i l.length + (l.length - (i + 1) + 1) = l.length by omega]
    rfl
  have ht : Tags4 (l.take i) := fun t ht => h t (List.mem_of_mem_take ht)
  refine win_mid' (A := hdrF l.length ++ rowsF (12 + 16 * l.length) (l.take i)) (C := rowsF (atF l i + (padB (zerT l[i])).length) (l.drop (i + 1)) ++ datF l) ?_ ?_ (rowF_len (h _ (List.getElem_mem hi))).symm
  · rw [rawF, e2]
    simp only [List.append_assoc]
  · rw [List.length_append, hdrF_len, rowsF_len ht, List.length_take]
    omega
theorem raw_dat {l : List Tb} (h : Tags4 l) {i : Nat} (hi : i < l.length) : win (rawF l) (atF l i) (padB (zerT l[i])).length = padB (zerT l[i]) := by
  have e := part_at hi
  have e2 : datF l = datF (l.take i) ++ (padB (zerT l[i]) ++ datF (l.drop (i + 1))) := by
    conv => lhs; rw [e]
    rw [datF_append]
    rfl
  refine win_mid' (A := hdrF l.length ++ (rowsF (12 + 16 * l.length) l ++ datF (l.take i))) (C := datF (l.drop (i + 1))) ?_ ?_ rfl
  · rw [rawF, e2]
    simp only [List.append_assoc]
  · rw [List.length_append, List.length_append, hdrF_len, rowsF_len h, atF]
    omega
theorem atF_mod {l : List Tb} {i : Nat} : atF l i % 4 = 0 := by have := datF_mod (l := l.take i); unfold atF; omega
theorem atF_next {l : List Tb} {i : Nat} (hi : i < l.length) : atF l (i + 1) = atF l i + (padB (zerT l[i])).length := by
  unfold atF
  rw [List.take_add_one, List.getElem?_eq_getElem hi, Option.toList, datF_append, List.length_append]
  simp only [datF, List.map_cons, List.map_nil, List.flatten_cons, List.flatten_nil, List.append_nil]
  omega
theorem atF_mono {l : List Tb} {i j : Nat} (h : i ≤ j) : atF l i ≤ atF l j := by
  unfold atF
  have : l.take j = l.take i ++ (l.take j).drop i := by
    conv => lhs; rw [← List.take_append_drop i (l.take j)]
    rw [List.take_take, Nat.min_eq_left h]
  rw [this, datF_append, List.length_append]
  omega
theorem atF_end {l : List Tb} : atF l l.length = 12 + 16 * l.length + (datF l).length := by rw [atF, List.take_length]
/-- The adjust's place is eight behind the first whole table's. -/
theorem adjF_at : ∀ {l : List Tb} {a : Nat}, 0 < a → (adjF a l = 0 ∧ ∀ t ∈ l, wholeT t = false) ∨ ∃ i, ∃ hi : i < l.length, wholeT l[i] = true ∧ adjF a l = a + (datF (l.take i)).length + 8 ∧ ∀ j, (hj : j < i) → wholeT l[j] = false
  | [], a, _ => .inl ⟨rfl, fun t h => by cases h⟩
  | t :: l, a, ha => by
    unfold adjF
    by_cases hw : wholeT t = true
    · rw [if_pos hw]
      exact .inr ⟨0, by simp, hw, by simp [datF], fun j hj => by omega⟩
    · rw [if_neg hw]
      have hw' : wholeT t = false := by simpa using hw
      rcases adjF_at (l := l) (a := a + (padB (zerT t)).length) (by omega) with ⟨h1, h2⟩ | ⟨i, hi, h1, h2, h3⟩
      · refine .inl ⟨h1, fun u hu => ?_⟩
        rcases List.mem_cons.1 hu with rfl | hu
        · exact hw'
        · exact h2 u hu
      · refine .inr ⟨i + 1, by simp; omega, by simpa using h1, ?_, ?_⟩
        · rw [h2]
          simp only [List.take_succ_cons, datF, List.map_cons, List.flatten_cons, List.length_append]
          omega
        · intro j hj
          cases j with
          | zero => simpa using hw'
          | succ j => simpa using h3 j (by omega)
theorem putF_len {l : List Int} {k : Nat} {v : Int} (h : k + 4 ≤ l.length) : (putF l k v).length = l.length := by
  simp only [putF, List.length_append, List.length_take, List.length_drop, b4_len]
  omega
theorem put_low {l : List Int} {k a n : Nat} {v : Int} (h : a + n ≤ k) (hk : k + 4 ≤ l.length) : win (putF l k v) a n = win l a n := by
  unfold win putF
  rw [List.drop_append_of_le_length (by rw [List.length_take]; omega), List.take_append_of_le_length (by rw [List.length_drop, List.length_take]; omega), List.drop_take, List.take_take, Nat.min_eq_left (by omega)]
theorem put_high {l : List Int} {k a n : Nat} {v : Int} (h : k + 4 ≤ a) (hk : k + 4 ≤ l.length) : win (putF l k v) a n = win l a n := by
  unfold win putF
  rw [← List.append_assoc, List.drop_append, List.drop_eq_nil_of_le (by simp [b4_len]; omega), List.nil_append, List.length_append, List.length_take, b4_len, List.drop_drop]
  congr 2
  omega
theorem put_in {l : List Int} {k a n : Nat} {v : Int} (h : a + 8 = k) (h2 : 12 ≤ n) (hk : a + n ≤ l.length) : win (putF l k v) a n = (win l a n).take 8 ++ (b4 v ++ (win l a n).drop 12) := by
  subst h
  unfold win putF
  rw [List.drop_append_of_le_length (by rw [List.length_take]; omega), List.drop_take, show a + 8 - a = 8 by omega, List.take_append, List.take_take, List.take_append, b4_len]
  have e1 : ((l.drop a).take 8).length = 8 := by rw [List.length_take, List.length_drop]; omega
  rw [e1, Nat.min_eq_right (by omega), List.take_of_length_le (l := b4 v) (by rw [b4_len]; omega)]
  rw [List.take_take, Nat.min_eq_left (by omega), List.drop_take, List.drop_drop, show a + 12 = a + 8 + 4 by omega, show n - 8 - 4 = n - 12 by omega]
theorem b4_sum {n : Int} (h0 : 0 ≤ n) (h1 : n < 4294967296) : refSum 0 (b4 n) = n := by
  simp only [b4, refSum, wt]
  simp
  omega
theorem put_sum {q : List Int} {k : Nat} (hk : k + 4 ≤ q.length) (h4 : k % 4 = 0) (v : Int) (h0 : 0 ≤ v) (h1 : v < 4294967296) (hz : win q k 4 = [0, 0, 0, 0]) : refSum 0 (putF q k v) = refSum 0 q + v := by
  have e0 : q = q.take k ++ ([0, 0, 0, 0] ++ q.drop (k + 4)) := by
    conv => lhs; rw [← List.take_append_drop k q]
    congr 1
    conv => lhs; rw [← List.take_append_drop 4 (q.drop k)]
    rw [show (q.drop k).take 4 = [0, 0, 0, 0] from hz, List.drop_drop]
  have e1 : refSum 0 q = refSum 0 (q.take k) + refSum (0 + (q.take k).length) ([0, 0, 0, 0] ++ q.drop (k + 4)) := by
    conv => lhs; rw [e0]
    rw [refSum_append]
  have hl : (q.take k).length = k := by simp only [List.length_take]; omega
  unfold putF
  rw [e1, refSum_append, refSum_append, refSum_append, hl, refSum_mod4 (b4 v) (0 + k) 0 (by omega), b4_sum h0 h1]
  have e2 : refSum (0 + k) [0, 0, 0, 0] = 0 := by simp [refSum]
  have e3 : (b4 v).length = 4 := rfl
  have e4 : ([0, 0, 0, 0] : List Int).length = 4 := rfl
  rw [e2, e3, e4]
  omega

theorem zer_win {l : List Tb} (h : Tags4 l) {i : Nat} (hi : i < l.length) : win (rawF l) (atF l i) l[i].2.length = zerT l[i] := by
  have h1 := raw_dat h hi
  have h2 := padB_mod (zerT l[i])
  have h3 := zerT_len l[i]
  have := win_win (l := rawF l) (a := atF l i) (n := (padB (zerT l[i])).length) (b := 0) (m := l[i].2.length) (by omega)
  rw [Nat.add_zero] at this
  rw [← this, h1]
  unfold win padB
  rw [List.drop_zero, List.take_append_of_le_length (by omega), List.take_of_length_le (by omega)]
theorem wholeT_tag {t : Tb} (h : wholeT t = true) : t.1.toList = headB.toList ∧ 12 ≤ t.2.length := by
  unfold wholeT at h
  simp only [Bool.and_eq_true, decide_eq_true_eq, beq_iff_eq] at h
  exact ⟨h.1, by omega⟩
theorem whole_one {l : List Tb} (hu : upT l) {i j : Nat} (hi : i < l.length) (hj : j < l.length) (h1 : wholeT l[i] = true) (h2 : wholeT l[j] = true) : i = j := by
  have e : l[i].1.toList = l[j].1.toList := by rw [(wholeT_tag h1).1, (wholeT_tag h2).1]
  rcases Nat.lt_trichotomy i j with h | h | h
  · have := List.pairwise_iff_getElem.1 hu i j hi hj h
    rw [ltT_eq, e, bl_irr] at this
    cases this
  · exact h
  · have := List.pairwise_iff_getElem.1 hu j i hj hi h
    rw [ltT_eq, e, bl_irr] at this
    cases this
theorem zer_whole {t : Tb} (h : wholeT t = true) : zerT t = t.2.take 8 ++ (List.replicate 4 0 ++ t.2.drop 12) := by
  rw [zeroB_at (wholeT_tag h).2]
  unfold zerT
  rw [if_pos h]
theorem zer_not {t : Tb} (h : wholeT t = false) : zerT t = t.2 := by
  unfold zerT
  rw [h]
  rfl
/-- A head's data, with four other bytes. -/
theorem zer_put {t : Tb} (h : wholeT t = true) (v : Int) : zerT (t.1, (zerT t).take 8 ++ (b4 v ++ (zerT t).drop 12)) = zerT t := by
  have h12 := (wholeT_tag h).2
  have hl := zerT_len t
  have hlen : ((zerT t).take 8 ++ (b4 v ++ (zerT t).drop 12)).length = t.2.length := by
    simp only [List.length_append, List.length_take, List.length_drop, b4_len]
    omega
  have hw : wholeT (t.1, (zerT t).take 8 ++ (b4 v ++ (zerT t).drop 12)) = true := by
    have h' := h
    unfold wholeT at h' ⊢
    simp only [Bool.and_eq_true, decide_eq_true_eq] at h' ⊢
    exact ⟨h'.1, by rw [hlen]; exact h'.2⟩
  rw [zer_whole hw]
  generalize hz : zerT t = z at hl hlen ⊢
  have hz' := zer_whole h
  rw [hz] at hz'
  have e8 : (z.take 8).length = 8 := by rw [List.length_take]; omega
  show (z.take 8 ++ (b4 v ++ z.drop 12)).take 8 ++ (List.replicate 4 0 ++ (z.take 8 ++ (b4 v ++ z.drop 12)).drop 12) = z
  rw [List.take_append_of_le_length (by omega), List.take_take, Nat.min_self]
  have e12 : (z.take 8 ++ (b4 v ++ z.drop 12)).drop 12 = z.drop 12 := by
    rw [← List.append_assoc, List.drop_append, List.drop_eq_nil_of_le (by simp [b4_len]; omega), List.nil_append, List.length_append, e8, b4_len]
    rfl
  rw [e12]
  have et8 : (t.2.take 8).length = 8 := by rw [List.length_take]; omega
  have e1 : z.take 8 = t.2.take 8 := by
    rw [hz', List.take_append_of_le_length (by omega), List.take_take, Nat.min_self]
  have e2 : z.drop 12 = t.2.drop 12 := by
    rw [hz', ← List.append_assoc, List.drop_append, List.drop_eq_nil_of_le (by simp; omega), List.nil_append, List.length_append, et8, List.length_replicate]
    rfl
  rw [e1, e2, ← hz']
/-- What is known of the file. -/
theorem file_facts {l : List Tb} (hu : upT l) (ht : Tags4 l) :
    (fileF l).length = (rawF l).length ∧ (∀ a n, a + n ≤ 12 + 16 * l.length → win (fileF l) a n = win (rawF l) a n) ∧
    (∀ i, (hi : i < l.length) → ∃ d, win (fileF l) (atF l i) l[i].2.length = d ∧ zerT (l[i].1, d) = zerT l[i] ∧ d.length = l[i].2.length) ∧
    ((∃ t ∈ l, wholeT t = true) → refSum 0 (fileF l) % 4294967296 = 2981146554) := by
  have hlen := rawF_len ht
  rcases adjF_at (l := l) (a := 12 + 16 * l.length) (by omega) with ⟨h1, h2⟩ | ⟨h, hh, h1, h2, h3⟩
  · have e : fileF l = rawF l := by unfold fileF; rw [if_pos h1]
    rw [e]
    refine ⟨rfl, fun _ _ _ => rfl, fun i hi => ⟨zerT l[i], zer_win ht hi, ?_, zerT_len _⟩, fun ⟨t, hm, hw⟩ => ?_⟩
    · rw [zer_not (h2 _ (List.getElem_mem hi))]
      exact zer_not (h2 _ (List.getElem_mem hi))
    · rw [h2 t hm] at hw; cases hw
  · have hk : adjF (12 + 16 * l.length) l = atF l h + 8 := h2
    have e : fileF l = putF (rawF l) (atF l h + 8) ((2981146554 - refSum 0 (rawF l) % 4294967296) % 4294967296) := by unfold fileF; rw [if_neg (by omega), hk]
    have h12 := (wholeT_tag h1).2
    have hp := padB_mod (zerT l[h])
    have hz := zerT_len l[h]
    have hnx := atF_next hh
    have hge : 12 + 16 * l.length ≤ atF l h := by unfold atF; omega
    have hend : atF l (h + 1) ≤ (rawF l).length := by
      have := atF_mono (l := l) (i := h + 1) (j := l.length) (by omega)
      rw [atF_end] at this
      omega
    rw [e]
    refine ⟨putF_len (by omega), fun a n ha => put_low (by omega) (by omega), fun i hi => ?_, fun _ => ?_⟩
    · have hpi := padB_mod (zerT l[i])
      have hzi := zerT_len l[i]
      have hnxi := atF_next hi
      rcases Nat.lt_trichotomy i h with c | c | c
      · have hn : wholeT l[i] = false := h3 i c
        have := atF_mono (l := l) (i := i + 1) (j := h) (by omega)
        refine ⟨zerT l[i], ?_, ?_, zerT_len _⟩
        · rw [put_low (by omega) (by omega)]
          exact zer_win ht hi
        · rw [zer_not hn]; exact zer_not hn
      · subst c
        refine ⟨_, rfl, ?_, ?_⟩
        · rw [put_in rfl h12 (by omega), zer_win ht hi]
          exact zer_put h1 _
        · rw [win_len]
          rw [putF_len (by omega)]
          omega
      · have hn : wholeT l[i] = false := by
          cases hw : wholeT l[i] with
          | false => rfl
          | true => have := whole_one hu hi hh hw h1; omega
        have := atF_mono (l := l) (i := h + 1) (j := i) (by omega)
        refine ⟨zerT l[i], ?_, ?_, zerT_len _⟩
        · rw [put_high (by omega) (by omega)]
          exact zer_win ht hi
        · rw [zer_not hn]; exact zer_not hn
    · have hm := atF_mod (l := l) (i := h)
      have hzz : win (rawF l) (atF l h + 8) 4 = [0, 0, 0, 0] := by
        rw [← win_win (n := l[h].2.length) (by omega), zer_win ht hh, zer_whole h1]
        have e8 : (l[h].2.take 8).length = 8 := by rw [List.length_take]; omega
        exact win_mid' (A := l[h].2.take 8) (B := List.replicate 4 0) rfl e8.symm rfl
      rw [put_sum (by omega) (by omega) _ (by omega) (by omega) hzz]
      omega
/-- Of the file the tables are read again. -/
theorem file_par {l : List Tb} (hu : upT l) (ht : Tags4 l) (h1 : 1 ≤ l.length) (h64 : l.length ≤ 64) (hs : (rawF l).length ≤ 1000000) :
    (parT (fileF l)).2 = 0 ∧ (parT (fileF l)).1.length = l.length ∧ ∀ i, (hi : i < l.length) → ((parT (fileF l)).1.getD i tb0).1 = l[i].1 ∧ zerT ((parT (fileF l)).1.getD i tb0) = zerT l[i] := by
  obtain ⟨f1, f2, f3, f4⟩ := file_facts hu ht
  have hlen := rawF_len ht
  generalize hf : fileF l = f at f1 f2 f3 f4 ⊢
  obtain ⟨q1, q2, q3, q4⟩ := log_64 (n := l.length) (by omega) h64
  have hn2 : 1 ≤ (l.length : Int) ∧ (l.length : Int) ≤ 64 := by omega
  have hh : win f 0 12 = hdrF l.length := by
    rw [f2 0 12 (by omega)]
    exact win_mid' (A := []) (B := hdrF l.length) (C := rowsF (12 + 16 * l.length) l ++ datF l) rfl rfl rfl
  have hA : tA (l.length : Int) = 16 * (2 ^ Nat.log2 l.length : Nat) := by unfold tA; rw [if_pos hn2, Int.toNat_natCast]
  have hB : tB (l.length : Int) = (Nat.log2 l.length : Int) := by unfold tB; rw [if_pos hn2, Int.toNat_natCast]
  have hD : tD (l.length : Int) = 16 * (l.length : Int) - 16 * (2 ^ Nat.log2 l.length : Nat) := by unfold tD; rw [if_pos hn2, Int.toNat_natCast]
  have w0 : n4V f 0 = 65536 := n4V_win (l := f) (q := 0) (by omega) (by
    rw [← win_win (l := f) (a := 0) (n := 12) (b := 0) (m := 4) (by omega), hh]; rfl)
  have w2 : ∀ q a b, q + 2 ≤ 12 → win (hdrF l.length) q 2 = [a, b] → n2V f (q : Int) = 256 * a + b := fun q a b hq hw => by
    refine n2V_win (by omega) ?_
    have := win_win (l := f) (a := 0) (n := 12) (b := q) (m := 2) (by omega)
    rw [Nat.zero_add] at this
    rw [← this, hh, hw]
  have w4 : n2V f 4 = l.length := Eq.trans (w2 4 ((l.length : Int) / 256) ((l.length : Int) % 256) (by decide) rfl) (by omega)
  have w6 : n2V f 6 = tA l.length := Eq.trans (w2 6 (tA l.length / 256) (tA l.length % 256) (by decide) rfl) (by omega)
  have w8 : n2V f 8 = tB l.length := Eq.trans (w2 8 (tB l.length / 256) (tB l.length % 256) (by decide) rfl) (by omega)
  have w10 : n2V f 10 = tD l.length := Eq.trans (w2 10 (tD l.length / 256) (tD l.length % 256) (by decide) rfl) (by omega)
  have hbeg : begT f = true := by
    unfold begT
    simp only [Bool.and_eq_true, decide_eq_true_eq]
    exact ⟨⟨⟨⟨⟨by omega, w0⟩, by omega⟩, by rw [w6, w4]⟩, by rw [w8, w4]⟩, by rw [w10, w4]⟩
  have hnB : nB f = l.length := by rw [nB_of (by omega), w4]
  -- the rows
  have hat : ∀ i, (hi : i < l.length) → atF l i + l[i].2.length ≤ f.length ∧ 12 + 16 * l.length ≤ atF l i := fun i hi => by
    have h2 := atF_next hi
    have h3 := padB_mod (zerT l[i])
    have h4 := zerT_len l[i]
    have h5 := atF_mono (l := l) (i := i + 1) (j := l.length) (by omega)
    rw [atF_end] at h5
    refine ⟨by omega, by unfold atF; omega⟩
  have hrow : ∀ i, (hi : i < l.length) → tagT f i = l[i].1 ∧ smT f i = sumT l[i] ∧ ofT f i = (atF l i : Int) ∧ lnT f i = (l[i].2.length : Int) := fun i hi => by
    have hw : win f (12 + 16 * i) 16 = rowF (atF l i) l[i] := by rw [f2 _ _ (by omega), raw_row ht hi]
    have hsz := ht _ (List.getElem_mem hi)
    have hbl := bytesL_sz l[i].1
    have part : ∀ b m A B C, b + m ≤ 16 → rowF (atF l i) l[i] = A ++ (B ++ C) → b = A.length → m = B.length → win f (12 + 16 * i + b) m = B := fun b m A B C hb he h1 h2 => by
      rw [← win_win (n := 16) hb, hw]
      exact win_mid' he h1 h2
    refine ⟨?_, ?_, ?_, ?_⟩
    · have := part 0 4 [] (bytesL l[i].1) (b4 (sumT l[i]) ++ (b4 (atF l i) ++ b4 l[i].2.length)) (by decide) rfl rfl (by omega)
      unfold tagT
      rw [show (f.drop (12 + 16 * i)).take 4 = _ from this, strL_bytesL]
    · have := part 4 4 (bytesL l[i].1) (b4 (sumT l[i])) (b4 (atF l i) ++ b4 l[i].2.length) (by decide) rfl (by omega) rfl
      have h2 := n4V_win (l := f) (q := 12 + 16 * i + 4) (by omega) this
      unfold smT
      rw [← h2]
      congr 1
      omega
    · have := part 8 4 (bytesL l[i].1 ++ b4 (sumT l[i])) (b4 (atF l i)) (b4 l[i].2.length) (by decide) (by simp only [rowF, List.append_assoc]) (by rw [List.length_append, b4_len]; omega) rfl
      have h2 := n4V_win (l := f) (q := 12 + 16 * i + 8) (by omega) this
      unfold ofT
      rw [← h2]
      congr 1
      omega
    · have := part 12 4 (bytesL l[i].1 ++ (b4 (sumT l[i]) ++ b4 (atF l i))) (b4 l[i].2.length) [] (by decide) (by simp only [rowF, List.append_assoc, List.append_nil]) (by simp only [List.length_append, b4_len]; omega) rfl
      have h2 := n4V_win (l := f) (q := 12 + 16 * i + 12) (by omega) this
      unfold lnT
      rw [← h2]
      congr 1
      omega
  have htab : ∀ i, (hi : i < l.length) → (tabT f i).1 = l[i].1 ∧ zerT (tabT f i) = zerT l[i] ∧ (tabT f i).2.length = l[i].2.length := fun i hi => by
    obtain ⟨e1, e2, e3, e4⟩ := hrow i hi
    obtain ⟨d, d1, d2, d3⟩ := f3 i hi
    have hd : tabT f i = (l[i].1, d) := by
      unfold tabT subV
      rw [e1, e3, e4, if_pos (by have := (hat i hi).1; omega), Int.toNat_natCast, Int.toNat_natCast]
      exact congrArg _ d1
    rw [hd]
    exact ⟨rfl, d2, d3⟩
  have hall : allT f l.length = true := allT_iff.2 fun i hi => by
    obtain ⟨e1, e2, e3, e4⟩ := hrow i hi
    obtain ⟨a1, a2⟩ := hat i hi
    have am := atF_mod (l := l) (i := i)
    unfold okT
    rw [e1, e3, e4]
    simp only [Bool.and_eq_true, decide_eq_true_eq, Bool.not_eq_true', Bool.and_eq_false_iff, decide_eq_false_iff_not]
    refine ⟨⟨⟨⟨by omega, by omega⟩, by omega⟩, by omega⟩, ?_⟩
    rcases Nat.eq_zero_or_pos i with h0 | h0
    · exact .inl (by omega)
    · right
      rw [(hrow (i - 1) (by omega)).1]
      have hlt := List.pairwise_iff_getElem.1 hu (i - 1) i (by omega) hi (by omega)
      rw [ltT_eq] at hlt
      unfold leS
      rw [bl_asy hlt]
      simp only [Bool.false_or, beq_eq_false_iff_ne, ne_eq]
      intro e
      rw [e, bl_irr] at hlt
      cases hlt
  have hallM : allM f l.length = true := allM_iff.2 fun i hi => by
    obtain ⟨e1, e2, e3, e4⟩ := hrow i hi
    obtain ⟨g1, g2, g3⟩ := htab i hi
    unfold okM
    rw [e2]
    have hs2 : sumT (tabT f i) = sumT l[i] := by unfold sumT; rw [g2]
    rw [decide_eq_true hs2, Bool.true_and]
    simp only [Bool.not_eq_true', Bool.and_eq_false_iff, decide_eq_false_iff_not]
    cases hw : wholeT (tabT f i) with
    | false => exact .inl rfl
    | true =>
      right
      refine fun hne => hne (f4 ⟨l[i], List.getElem_mem hi, ?_⟩)
      unfold wholeT at hw ⊢
      rw [g1, g3] at hw
      exact hw
  have hpar : parT f = (tabsT f l.length, 0) := by
    unfold parT
    rw [hbeg, hnB, Int.toNat_natCast, hall, hallM]
    rfl
  rw [hpar]
  refine ⟨rfl, tabsT_length, fun i hi => ?_⟩
  have e : (tabsT f l.length).getD i tb0 = tabT f i := by
    rw [List.getD_eq_getElem?_getD, tabsT, List.getElem?_map, List.getElem?_range hi]
    rfl
  rw [e]
  exact ⟨(htab i hi).1, (htab i hi).2.1⟩
theorem file_mod {l : List Tb} (hu : upT l) (ht : Tags4 l) : (fileF l).length % 4 = 0 := by
  rw [(file_facts hu ht).1, rawF_len ht]
  have := datF_mod (l := l)
  omega
end Go.AM

