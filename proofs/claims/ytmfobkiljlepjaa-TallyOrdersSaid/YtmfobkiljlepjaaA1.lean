/- AM, part 1: pure data of the program's values, how they lie in a world, and that this is stable. -/
import Derived.WalkKit
import Derived.WalkSpells
import Derived.KernelRfl
set_option linter.unusedVariables false
set_option linter.unusedSimpArgs false
namespace Go.AM
open Go

/-- Pure data: an exact value; a slice's elements (sz cells each); a struct's cells. -/
inductive Dat where
  | v (x : Value)
  | sl (sz : Nat) (xs : List Dat)
  | agg (fs : List Dat)
  deriving Inhabited

def Dat.cells : Dat → List Dat
  | .agg fs => fs
  | .v x => [.v x]
  | .sl sz xs => [.sl sz xs]
def Dat.nagg : Dat → Bool
  | .agg _ => false
  | _ => true
def Dat.wd (d : Dat) : Nat := d.cells.length

mutual
def Dat.R (w : World) (B : Nat → Prop) : Dat → List Value → Prop
  | .v x, cs => cs = [x] ∧ x.oneCell' = true
  | .agg fs, cs => Dat.RF w B fs cs
  | .sl sz xs, cs => ∃ A c, cs = [.slice A xs.length c] ∧ xs.length ≤ c ∧ c ≤ maxLen ∧ (∀ x ∈ xs, x.wd = sz) ∧
      (xs = [] ∨ ∃ b o fl, A = some ⟨b, o, none⟩ ∧ B b ∧ Dat.RL w B xs fl ∧ ∀ j u, fl[j]? = some u → w.cell? ⟨b, o + j, none⟩ = some u)
/-- one cell each -/
def Dat.RF (w : World) (B : Nat → Prop) : List Dat → List Value → Prop
  | [], cs => cs = []
  | f :: fs, cs => ∃ c rest, cs = c :: rest ∧ f.nagg = true ∧ Dat.R w B f [c] ∧ Dat.RF w B fs rest
/-- one behind the other -/
def Dat.RL (w : World) (B : Nat → Prop) : List Dat → List Value → Prop
  | [], cs => cs = []
  | x :: xs, cs => ∃ c1 c2, cs = c1 ++ c2 ∧ Dat.R w B x c1 ∧ Dat.RL w B xs c2
end

mutual
theorem Dat.R.stable {w w' : World} {B B' : Nat → Prop} (hb : ∀ b, B b → B' b ∧ w'.heap[b]? = w.heap[b]?) : ∀ (d : Dat) (cs : List Value), Dat.R w B d cs → Dat.R w' B' d cs
  | .v x, cs, h => by unfold Dat.R at h ⊢; exact h
  | .agg fs, cs, h => by unfold Dat.R at h ⊢; exact Dat.RF.stable hb fs cs h
  | .sl sz xs, cs, h => by
    unfold Dat.R at h ⊢
    obtain ⟨A, c, h1, h2, h3, h4, h5⟩ := h
    refine ⟨A, c, h1, h2, h3, h4, ?_⟩
    rcases h5 with h5 | ⟨b, o, fl, e, hB, hl, hc⟩
    · exact .inl h5
    · refine .inr ⟨b, o, fl, e, (hb b hB).1, Dat.RL.stable hb xs fl hl, fun j u hu => ?_⟩
      rw [World.cell?_of_block (w := w) (hb b hB).2]
      exact hc j u hu
theorem Dat.RF.stable {w w' : World} {B B' : Nat → Prop} (hb : ∀ b, B b → B' b ∧ w'.heap[b]? = w.heap[b]?) : ∀ (d : List Dat) (cs : List Value), Dat.RF w B d cs → Dat.RF w' B' d cs
  | [], cs, h => by unfold Dat.RF at h ⊢; exact h
  | f :: fs, cs, h => by
    unfold Dat.RF at h ⊢
    obtain ⟨c, rest, h1, hn, h2, h3⟩ := h
    exact ⟨c, rest, h1, hn, Dat.R.stable hb f [c] h2, Dat.RF.stable hb fs rest h3⟩
theorem Dat.RL.stable {w w' : World} {B B' : Nat → Prop} (hb : ∀ b, B b → B' b ∧ w'.heap[b]? = w.heap[b]?) : ∀ (d : List Dat) (cs : List Value), Dat.RL w B d cs → Dat.RL w' B' d cs
  | [], cs, h => by unfold Dat.RL at h ⊢; exact h
  | f :: fs, cs, h => by
    unfold Dat.RL at h ⊢
    obtain ⟨c, rest, h1, h2, h3⟩ := h
    exact ⟨c, rest, h1, Dat.R.stable hb f c h2, Dat.RL.stable hb fs rest h3⟩
end

section
variable {w : World} {B : Nat → Prop}

theorem Dat.RF.len : ∀ (fs : List Dat) (cs : List Value), Dat.RF w B fs cs → cs.length = fs.length
  | [], cs, h => by unfold Dat.RF at h; simp [h]
  | f :: fs, cs, h => by
    unfold Dat.RF at h
    obtain ⟨c, rest, rfl, _, _, h3⟩ := h
    simp [Dat.RF.len fs rest h3]

theorem Dat.R.len (d : Dat) (cs : List Value) (h : Dat.R w B d cs) : cs.length = d.wd := by
  cases d with
  | v x => unfold Dat.R at h; simp [h.1, Dat.wd, Dat.cells]
  | agg fs => unfold Dat.R at h; simpa [Dat.wd, Dat.cells] using Dat.RF.len fs cs h
  | sl sz xs => unfold Dat.R at h; obtain ⟨A, c, h1, _⟩ := h; simp [h1, Dat.wd, Dat.cells]

mutual
theorem Dat.R.one : ∀ (d : Dat) (cs : List Value), Dat.R w B d cs → ∀ u ∈ cs, u.oneCell' = true
  | .v x, cs, h => by unfold Dat.R at h; obtain ⟨rfl, h2⟩ := h; intro u hu; simp at hu; rw [hu]; exact h2
  | .agg fs, cs, h => by unfold Dat.R at h; exact Dat.RF.one fs cs h
  | .sl sz xs, cs, h => by unfold Dat.R at h; obtain ⟨A, c, rfl, _⟩ := h; intro u hu; simp at hu; rw [hu]; rfl
theorem Dat.RF.one : ∀ (fs : List Dat) (cs : List Value), Dat.RF w B fs cs → ∀ u ∈ cs, u.oneCell' = true
  | [], cs, h => by unfold Dat.RF at h; subst h; intro u hu; simp at hu
  | f :: fs, cs, h => by
    unfold Dat.RF at h
    obtain ⟨c, rest, rfl, _, h2, h3⟩ := h
    intro u hu
    rcases List.mem_cons.1 hu with rfl | hu
    · exact Dat.R.one f [u] h2 u (by simp)
    · exact Dat.RF.one fs rest h3 u hu
end

theorem Dat.RF.cells {d : Dat} {cs : List Value} : Dat.RF w B d.cells cs ↔ Dat.R w B d cs := by
  cases d with
  | agg fs => unfold Dat.R; rfl
  | v x =>
    simp only [Dat.cells, Dat.RF]
    constructor
    · rintro ⟨c, rest, rfl, _, h, rfl⟩; exact h
    · intro h
      have h' := h
      unfold Dat.R at h'
      exact ⟨x, [], h'.1, rfl, h'.1 ▸ h, rfl⟩
  | sl sz xs =>
    simp only [Dat.cells, Dat.RF]
    constructor
    · rintro ⟨c, rest, rfl, _, h, rfl⟩; exact h
    · intro h
      have h' := h
      unfold Dat.R at h'
      obtain ⟨A, c, e, _⟩ := h'
      exact ⟨_, [], e, rfl, e ▸ h, rfl⟩

theorem Dat.RF.append {a b : List Dat} {cs : List Value} : Dat.RF w B (a ++ b) cs ↔ ∃ c1 c2, cs = c1 ++ c2 ∧ Dat.RF w B a c1 ∧ Dat.RF w B b c2 := by
  induction a generalizing cs with
  | nil => simp only [List.nil_append, Dat.RF]; constructor
           · intro h; exact ⟨[], cs, rfl, rfl, h⟩
           · rintro ⟨c1, c2, rfl, rfl, h⟩; simpa using h
  | cons x a ih =>
    simp only [List.cons_append, Dat.RF]
    constructor
    · rintro ⟨c, rest, rfl, h0, h1, h2⟩
      obtain ⟨c1, c2, rfl, h3, h4⟩ := ih.1 h2
      exact ⟨c :: c1, c2, rfl, ⟨c, c1, rfl, h0, h1, h3⟩, h4⟩
    · rintro ⟨c1, c2, rfl, ⟨c, c1', rfl, h0, h1, h2⟩, h3⟩
      exact ⟨c, c1' ++ c2, rfl, h0, h1, ih.2 ⟨c1', c2, rfl, h2, h3⟩⟩

theorem Dat.RL.flat {xs : List Dat} {cs : List Value} : Dat.RL w B xs cs ↔ Dat.RF w B (xs.flatMap Dat.cells) cs := by
  induction xs generalizing cs with
  | nil => simp [Dat.RL, Dat.RF]
  | cons x xs ih =>
    simp only [List.flatMap_cons, Dat.RL, Dat.RF.append]
    constructor
    · rintro ⟨c1, c2, rfl, h1, h2⟩; exact ⟨c1, c2, rfl, Dat.RF.cells.2 h1, ih.1 h2⟩
    · rintro ⟨c1, c2, rfl, h1, h2⟩; exact ⟨c1, c2, rfl, Dat.RF.cells.1 h1, ih.2 h2⟩

theorem Dat.RL.append {a b : List Dat} {cs : List Value} : Dat.RL w B (a ++ b) cs ↔ ∃ c1 c2, cs = c1 ++ c2 ∧ Dat.RL w B a c1 ∧ Dat.RL w B b c2 := by
  simp only [Dat.RL.flat, List.flatMap_append, Dat.RF.append]

theorem Dat.RL.one (xs : List Dat) (cs : List Value) (h : Dat.RL w B xs cs) : ∀ u ∈ cs, u.oneCell' = true := Dat.RF.one _ _ (Dat.RL.flat.1 h)

theorem Dat.RL.len {sz : Nat} {xs : List Dat} {cs : List Value} (h : Dat.RL w B xs cs) (hs : ∀ x ∈ xs, x.wd = sz) : cs.length = xs.length * sz := by
  induction xs generalizing cs with
  | nil => unfold Dat.RL at h; simp [h]
  | cons x xs ih =>
    unfold Dat.RL at h
    obtain ⟨c1, c2, rfl, h1, h2⟩ := h
    have := Dat.R.len x c1 h1
    have h3 := ih h2 (fun y hy => hs y (by simp [hy]))
    have h4 := hs x (by simp)
    simp only [List.length_append, List.length_cons, this, h3, h4]
    rw [Nat.add_mul]; omega

/-- A part of it. -/
theorem Dat.RL.part {sz : Nat} {xs : List Dat} {cs : List Value} (h : Dat.RL w B xs cs) (hs : ∀ x ∈ xs, x.wd = sz) (i n : Nat) (hi : i + n ≤ xs.length) :
    Dat.RL w B ((xs.drop i).take n) ((cs.drop (i * sz)).take (n * sz)) := by
  have e : xs = xs.take i ++ ((xs.drop i).take n ++ (xs.drop i).drop n) := by rw [List.take_append_drop, List.take_append_drop]
  have h' := h
  rw [e, Dat.RL.append] at h'
  obtain ⟨c1, c2, rfl, h1, h2⟩ := h'
  obtain ⟨c3, c4, rfl, h3, h4⟩ := Dat.RL.append.1 h2
  have l1 := Dat.RL.len h1 (fun x hx => hs x (List.mem_of_mem_take hx))
  have l3 := Dat.RL.len h3 (fun x hx => hs x (List.mem_of_mem_drop (List.mem_of_mem_take hx)))
  have e1 : (xs.take i).length = i := by simp; omega
  have e3 : ((xs.drop i).take n).length = n := by simp; omega
  rw [e1] at l1
  rw [e3] at l3
  have g1 : (c1 ++ (c3 ++ c4)).drop (i * sz) = c3 ++ c4 := by rw [← l1]; simp
  rw [g1, ← l3]
  simpa using h3

theorem Dat.RF.drop {fs : List Dat} {cs : List Value} (h : Dat.RF w B fs cs) (k : Nat) : Dat.RF w B (fs.drop k) (cs.drop k) := by
  induction k generalizing fs cs with
  | zero => simpa using h
  | succ k ih =>
    cases fs with
    | nil => unfold Dat.RF at h; subst h; simp [Dat.RF]
    | cons f fs =>
      unfold Dat.RF at h
      obtain ⟨c, rest, rfl, _, _, h3⟩ := h
      simpa using ih h3

theorem Dat.RF.take {fs : List Dat} {cs : List Value} (h : Dat.RF w B fs cs) (k : Nat) : Dat.RF w B (fs.take k) (cs.take k) := by
  induction k generalizing fs cs with
  | zero => simp [Dat.RF]
  | succ k ih =>
    cases fs with
    | nil => unfold Dat.RF at h; subst h; simp [Dat.RF]
    | cons f fs =>
      unfold Dat.RF at h
      obtain ⟨c, rest, rfl, h0, h2, h3⟩ := h
      simp only [List.take_succ_cons, Dat.RF]
      exact ⟨c, _, rfl, h0, h2, ih h3⟩

theorem Dat.RF.get {fs : List Dat} {cs : List Value} (h : Dat.RF w B fs cs) {k : Nat} {f : Dat} (hf : fs[k]? = some f) : ∃ c, cs[k]? = some c ∧ f.nagg = true ∧ Dat.R w B f [c] := by
  induction k generalizing fs cs with
  | zero =>
    cases fs with
    | nil => simp at hf
    | cons g fs =>
      unfold Dat.RF at h
      obtain ⟨c, rest, rfl, h0, h2, h3⟩ := h
      simp at hf
      subst hf
      exact ⟨c, by simp, h0, h2⟩
  | succ k ih =>
    cases fs with
    | nil => simp at hf
    | cons g fs =>
      unfold Dat.RF at h
      obtain ⟨c, rest, rfl, h0, h2, h3⟩ := h
      simpa using ih h3 (by simpa using hf)

theorem Dat.RF.set {fs : List Dat} {cs : List Value} (h : Dat.RF w B fs cs) {k : Nat} {f : Dat} {c : Value} (hn : f.nagg = true) (hc : Dat.R w B f [c]) : Dat.RF w B (fs.set k f) (cs.set k c) := by
  induction k generalizing fs cs with
  | zero =>
    cases fs with
    | nil => unfold Dat.RF at h; subst h; simp [Dat.RF]
    | cons g fs =>
      unfold Dat.RF at h
      obtain ⟨c', rest, rfl, h0, h2, h3⟩ := h
      simp only [List.set_cons_zero, Dat.RF]
      exact ⟨c, rest, rfl, hn, hc, h3⟩
  | succ k ih =>
    cases fs with
    | nil => unfold Dat.RF at h; subst h; simp [Dat.RF]
    | cons g fs =>
      unfold Dat.RF at h
      obtain ⟨c', rest, rfl, h0, h2, h3⟩ := h
      simp only [List.set_cons_succ, Dat.RF]
      exact ⟨c', _, rfl, h0, h2, ih h3⟩
end

end Go.AM
