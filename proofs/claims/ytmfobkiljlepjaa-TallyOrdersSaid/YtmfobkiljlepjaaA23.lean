/- AM, part 23: arguments that came in, read as data. -/
import Derived.Test.YtmfobkiljlepjaaA19
import Derived.ChangeOld
import Derived.ChangeArms
import Derived.OpenShut
set_option linter.unusedVariables false
set_option linter.unusedSimpArgs false
namespace Go.AM
open Go Go.RowKit

inductive AT where
  | int (k : IntKind)
  | bool
  | str
  | sl (e : Nat) (t : AT)
  | st2 (a b : AT) (ta tb : Nat)

def AT.size : AT → Nat
  | .st2 _ _ _ _ => 2
  | _ => 1

def AT.ok (P : Program) : AT → Nat → Prop
  | .int k, t => P.underlying t = some (.int k)
  | .bool, t => P.underlying t = some .bool
  | .str, t => P.underlying t = some .string
  | .sl e A, t => P.underlying t = some (.slice e) ∧ P.cellsOf e = A.size ∧ A.ok P e
  | .st2 A B ta tb, t => ∃ fields, P.underlying t = some (.struct fields) ∧ (∃ f0 f1, fields = #[f0, f1] ∧ f0.type = ta ∧ f0.offset = 0 ∧ f1.type = tb ∧ f1.offset = 1) ∧ P.cellsOf t = 2 ∧ P.cellsOf ta = 1 ∧ P.cellsOf tb = 1 ∧ A.ok P ta ∧ B.ok P tb

def AT.holds : AT → Dat → Prop
  | .int k, x => ∃ n, x = .v (.int k n) ∧ (Lit.int k n).wf = true
  | .bool, x => ∃ b, x = .v (.bool b)
  | .str, x => ∃ s, x = .v (.string s) ∧ s.size ≤ maxLen
  | .sl _ A, x => ∃ xs, x = .sl A.size xs ∧ ∀ y ∈ xs, A.holds y
  | .st2 A B _ _, x => ∃ y z, x = .agg [y, z] ∧ A.holds y ∧ B.holds z

theorem AT.holds.wd : ∀ {A : AT} {x : Dat}, A.holds x → x.wd = A.size
  | .int k, x, h => by obtain ⟨n, rfl, _⟩ := h; rfl
  | .bool, x, h => by obtain ⟨n, rfl⟩ := h; rfl
  | .str, x, h => by obtain ⟨n, rfl, _⟩ := h; rfl
  | .sl _ A, x, h => by obtain ⟨n, rfl, _⟩ := h; rfl
  | .st2 A B _ _, x, h => by obtain ⟨y, z, rfl, _⟩ := h; rfl

theorem AT.holds.nagg {A : AT} {x : Dat} (h : A.holds x) (hp : A.size = 1) : x.nagg = true := by
  cases A with
  | int k => obtain ⟨n, rfl, _⟩ := h; rfl
  | bool => obtain ⟨n, rfl⟩ := h; rfl
  | str => obtain ⟨n, rfl, _⟩ := h; rfl
  | sl _ A => obtain ⟨n, rfl, _⟩ := h; rfl
  | st2 A B _ _ => simp [AT.size] at hp

section
variable {H : Type} {enc : TypeId × Value → H} {P : Program} {w : World} {base : Nat} {spare : Nat → Bool} {held : Bool}

theorem list_of {α : Type} {p : Nat → α → Prop} : ∀ n : Nat, (∀ i, i < n → ∃ x, p i x) → ∃ l : List α, l.length = n ∧ ∀ i x, l[i]? = some x → p i x
  | 0, _ => ⟨[], rfl, fun i x h => by simp at h⟩
  | n + 1, h => by
    obtain ⟨l, hl, hp⟩ := list_of n (fun i hi => h i (by omega))
    obtain ⟨x, hx⟩ := h n (by omega)
    refine ⟨l ++ [x], by simp [hl], fun i y hy => ?_⟩
    by_cases hi : i < n
    · rw [List.getElem?_append_left (by omega)] at hy
      exact hp i y hy
    · rw [List.getElem?_append_right (by omega)] at hy
      have : i - l.length = 0 := by
        have := (List.getElem?_eq_some_iff.1 hy).1
        simp at this; omega
      rw [this] at hy
      simp at hy
      subst hy
      have : i = n := by omega
      subst this
      exact hx

theorem RL_of {B : Nat → Prop} {b off sz : Nat} : ∀ (l : List Dat), (∀ i x, l[i]? = some x → ∃ cs : List Value, Dat.R w B x cs ∧ cs.length = sz ∧ ∀ j, j < sz → w.cell? ⟨b, off + (i * sz + j), none⟩ = cs[j]?) →
    ∃ fl, Dat.RL w B l fl ∧ fl.length = l.length * sz ∧ ∀ j u, fl[j]? = some u → w.cell? ⟨b, off + j, none⟩ = some u
  | [], _ => ⟨[], by unfold Dat.RL; rfl, by simp, fun j u h => by simp at h⟩
  | x :: l, h => by
    obtain ⟨cs, h1, h2, h3⟩ := h 0 x rfl
    obtain ⟨fl, g1, g2, g3⟩ := RL_of (b := b) (off := off + sz) (sz := sz) l (fun i y hy => by
      obtain ⟨cs, k1, k2, k3⟩ := h (i + 1) y (by simpa using hy)
      refine ⟨cs, k1, k2, fun j hj => ?_⟩
      rw [← k3 j hj]
      congr 2
      rw [Nat.succ_mul]; omega)
    refine ⟨cs ++ fl, by unfold Dat.RL; exact ⟨cs, fl, rfl, h1, g1⟩, by simp [h2, g2, Nat.succ_mul]; omega, fun j u hu => ?_⟩
    by_cases hj : j < sz
    · rw [List.getElem?_append_left (by omega)] at hu
      have := h3 j hj
      rw [Nat.zero_mul, Nat.zero_add] at this
      rw [this, hu]
    · rw [List.getElem?_append_right (by omega), h2] at hu
      have := g3 (j - sz) u hu
      rw [← this]
      congr 2
      omega

theorem trod_dat : ∀ (A : AT) (fuel t : Nat) (cs : List Value) (r : DataW H × List MemPlace), A.ok P t → DataW.trod enc P w base spare held fuel t cs = some r → ∃ x, A.holds x ∧ Dat.R w (fun b => b < w.heap.size) x cs
  | .int k, fuel, t, cs, r, hA, h => by
    obtain ⟨n, rfl, _, hw⟩ := DataW.trod_int hA h
    exact ⟨.v (.int k n), ⟨n, rfl, hw⟩, by unfold Dat.R; exact ⟨rfl, rfl⟩⟩
  | .bool, fuel, t, cs, r, hA, h => by
    obtain ⟨b, rfl, _⟩ := DataW.trod_bool hA h
    exact ⟨.v (.bool b), ⟨b, rfl⟩, by unfold Dat.R; exact ⟨rfl, rfl⟩⟩
  | .str, fuel, t, cs, r, hA, h => by
    obtain ⟨s, rfl, _, hs⟩ := DataW.trod_string hA h
    exact ⟨.v (.string s), ⟨s, rfl, hs⟩, by unfold Dat.R; exact ⟨rfl, rfl⟩⟩
  | .sl e A, fuel, t, cs, r, hA, h => by
    obtain ⟨h1, h2, h3⟩ := hA
    rcases DataW.trod_slice h1 h with ⟨rfl, _⟩ | ⟨a, len, cap, elems, rest, n, _, rfl, _, hb, hl, hm, hlen, hel, _, _⟩
    · refine ⟨.sl A.size [], ⟨[], rfl, fun y hy => by cases hy⟩, ?_⟩
      unfold Dat.R
      exact ⟨none, 0, rfl, Nat.le_refl _, Nat.zero_le _, by simp, .inl rfl⟩
    · rw [h2] at hel
      have hsz : 0 < A.size := by cases A <;> simp [AT.size]
      have each : ∀ i, i < len → ∃ x, A.holds x ∧ ∃ cs : List Value, Dat.R w (fun b => b < w.heap.size) x cs ∧ cs.length = A.size ∧ ∀ j, j < A.size → w.cell? ((a.add (i * A.size)).add j) = cs[j]? := by
        intro i hi
        have hi' : i < elems.length := by omega
        have := hel i hi
        rw [List.getElem?_eq_getElem hi', Option.bind_eq_some_iff] at this
        obtain ⟨cs, g1, g2⟩ := this
        obtain ⟨_, g3, g4⟩ := World.cells?_some g1
        obtain ⟨x, hx, hR⟩ := trod_dat A n e cs _ h3 g2
        exact ⟨x, hx, cs, hR, g3, g4⟩
      obtain ⟨xs, hxl, hx⟩ := list_of len each
      refine ⟨.sl A.size xs, ⟨xs, rfl, fun y hy => ?_⟩, ?_⟩
      · obtain ⟨i, hi⟩ := List.mem_iff_getElem?.1 hy
        exact (hx i y hi).1
      unfold Dat.R
      refine ⟨some a, cap, by rw [hxl], by omega, hm, fun y hy => ?_, ?_⟩
      · obtain ⟨i, hi⟩ := List.mem_iff_getElem?.1 hy
        exact (hx i y hi).1.wd
      · by_cases h0 : len = 0
        · exact .inl (List.eq_nil_of_length_eq_zero (by omega))
        · obtain ⟨b, off, spot⟩ := a
          have hfirst : ∃ v, w.cell? ⟨b, off, spot⟩ = some v := by
            obtain ⟨x, _, cs, hR, hc, hcell⟩ := each 0 (by omega)
            have := hcell 0 hsz
            rw [List.getElem?_eq_getElem (by omega)] at this
            exact ⟨cs[0], by simpa [Addr.add] using this⟩
          obtain ⟨v, hv⟩ := hfirst
          have hspot : spot = none := by simpa using World.cell?_spot hv
          subst hspot
          obtain ⟨fl, g1, g2, g3⟩ := RL_of (w := w) (B := fun b => b < w.heap.size) (b := b) (off := off) (sz := A.size) xs (fun i x hi => by
            obtain ⟨_, cs, k1, k2, k3⟩ := hx i x hi
            refine ⟨cs, k1, k2, fun j hj => ?_⟩
            rw [← k3 j hj, Addr.add_mid, Addr.add_mid, Nat.add_assoc])
          refine .inr ⟨b, off, fl, rfl, ?_, g1, g3⟩
          have : w.heap[b]? ≠ none := by
            intro e
            simp [World.cell?, e] at hv
          simp only [ne_eq, Array.getElem?_eq_none_iff, Nat.not_le] at this
          exact this
  | .st2 A B ta tb, fuel, t, cs, r, hA, h => by
    obtain ⟨fields, h1, ⟨f0, f1, rfl, rfl, ho0, rfl, ho1⟩, h2, h3, h4, hA, hB⟩ := hA
    obtain ⟨xs, n, rfl, _, hl, hx, hf⟩ := DataW.trod_struct h1 h
    rw [h2] at hl
    have hx2 : xs.length = 2 := by simpa using hx
    have e0 := hf 0 f0 rfl
    have e1 := hf 1 f1 rfl
    rw [h3, ho0, List.getElem?_eq_getElem (by omega)] at e0
    rw [h4, ho1, List.getElem?_eq_getElem (by omega)] at e1
    obtain ⟨x0, hx0, hR0⟩ := trod_dat A n f0.type _ _ hA e0
    obtain ⟨x1, hx1, hR1⟩ := trod_dat B n f1.type _ _ hB e1
    have hcs : ∃ c0 c1, cs = [c0, c1] := by
      match cs, hl with
      | [c0, c1], _ => exact ⟨c0, c1, rfl⟩
    obtain ⟨c0, c1, rfl⟩ := hcs
    simp at hR0 hR1
    have l0 : x0.wd = 1 := by have := Dat.R.len _ _ hR0; simpa using this.symm
    have l1 : x1.wd = 1 := by have := Dat.R.len _ _ hR1; simpa using this.symm
    have n0 : x0.nagg = true := hx0.nagg (by rw [← hx0.wd, l0])
    have n1 : x1.nagg = true := hx1.nagg (by rw [← hx1.wd, l1])
    refine ⟨.agg [x0, x1], ⟨x0, x1, rfl, hx0, hx1⟩, ?_⟩
    unfold Dat.R
    unfold Dat.RF
    refine ⟨c0, [c1], rfl, n0, hR0, ?_⟩
    unfold Dat.RF
    refine ⟨c1, [], rfl, n1, hR1, ?_⟩
    unfold Dat.RF
    rfl

/-- An argument of one cell, read. -/
theorem arg_read {A : AT} {t : Nat} {v : Value} {d : DataW H} {ps : List MemPlace} (hA : A.ok P t) (h1 : A.size = 1) (h : DataW.Trod enc P w base spare held t v d ps) (hc : v.cells = #[v]) :
    ∃ x, A.holds x ∧ ∀ old : Nat → Prop, (∀ b, old b) → (AV.d x.flat x).VR (entryCx w old none []) v := by
  obtain ⟨fuel, hf⟩ := h
  rw [hc] at hf
  obtain ⟨x, hx, hR⟩ := trod_dat A fuel t [v] _ hA hf
  refine ⟨x, hx, fun old ho => ?_⟩
  have hdv : DV w (fun b => b < w.heap.size) x v := DV.of_one hR (fun fs e => by
    have := hx.nagg h1
    rw [e] at this; cases this)
  unfold AV.VR
  cases hfl : x.flat with
  | true => exact DV_flat hfl hdv
  | false => exact hdv.stable fun b hb => ⟨⟨hb, fun n h ⟨o, e⟩ => by simp [entryCx] at e, .inr ⟨rfl, ho b⟩⟩, rfl⟩
end
theorem ints_of {k : IntKind} : ∀ {xs : List Dat}, (∀ y ∈ xs, (AT.int k).holds y) → ∃ l, xs = ints k l ∧ ∀ n ∈ l, (Lit.int k n).wf = true
  | [], _ => ⟨[], rfl, fun n h => by cases h⟩
  | x :: xs, h => by
    obtain ⟨n, rfl, hn⟩ := h x (by simp)
    obtain ⟨l, rfl, hl⟩ := ints_of (xs := xs) (fun y hy => h y (by simp [hy]))
    exact ⟨n :: l, rfl, fun m hm => by rcases List.mem_cons.1 hm with rfl | hm; exact hn; exact hl m hm⟩
theorem byt_of {l : List Int} (h : ∀ n ∈ l, (Lit.int .u8 n).wf = true) : Byt l := fun b hb => by have := bounds_u8 (h b hb); omega
theorem bytes_of {e : Nat} {x : Dat} (h : (AT.sl e (.int .u8)).holds x) : ∃ l, x = .sl 1 (ints .u8 l) ∧ Byt l := by
  obtain ⟨xs, rfl, hx⟩ := h
  obtain ⟨l, rfl, hl⟩ := ints_of hx
  exact ⟨l, rfl, byt_of hl⟩
theorem rows_of {e : Nat} : ∀ {xs : List Dat}, (∀ y ∈ xs, (AT.sl e (.int .u8)).holds y) → ∃ ls, xs = rows ls ∧ ∀ l ∈ ls, Byt l
  | [], _ => ⟨[], rfl, fun n h => by cases h⟩
  | x :: xs, h => by
    obtain ⟨l, rfl, hn⟩ := bytes_of (h x (by simp))
    obtain ⟨ls, rfl, hl⟩ := rows_of (xs := xs) (e := e) (fun y hy => h y (by simp [hy]))
    exact ⟨l :: ls, rfl, fun m hm => by rcases List.mem_cons.1 hm with rfl | hm; exact hn; exact hl m hm⟩
end Go.AM
