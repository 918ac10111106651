/- AM, first half: data, worlds, states, queries, operations. -/
import Derived.WalkKit
import Derived.WalkSpells
import Derived.KernelRfl
import Derived.DeepKeys3
import Derived.Deep.MidRow
import Derived.Great.BuildSlice
import Derived.Maps.AppendAt
import Derived.Laws.BytesString
import Derived.Laws.Cells
import Derived.Laws.AppendOwn
import Derived.Lib.ConvBytes
import Derived.Laws.CopyRow
import Derived.Lib.AppendZerosOnto
import Derived.Lib.AppendZeros
import Derived.Laws.Cover3
set_option linter.unusedVariables false
set_option linter.unusedSimpArgs false

/- AM, part 1: pure data of the program's values, how they lie in a world, and that this is stable. -/
namespace Go.AM
open Go

/-- Pure data: an exact value; a slice's elements (sz cells each); a struct's cells. -/
inductive Dat where
  | v (x : Value)
  | sl (sz : Nat) (xs : List Dat)
  | agg (fs : List Dat)
  deriving Inhabited

def Dat.cells : Dat → List Dat
  | .agg fs => fs
  | .v x => [.v x]
  | .sl sz xs => [.sl sz xs]
def Dat.nagg : Dat → Bool
  | .agg _ => false
  | _ => true
def Dat.wd (d : Dat) : Nat := d.cells.length

mutual
def Dat.R (w : World) (B : Nat → Prop) : Dat → List Value → Prop
  | .v x, cs => cs = [x] ∧ x.oneCell' = true
  | .agg fs, cs => Dat.RF w B fs cs
  | .sl sz xs, cs => ∃ A c, cs = [.slice A xs.length c] ∧ xs.length ≤ c ∧ c ≤ maxLen ∧ (∀ x ∈ xs, x.wd = sz) ∧
      (xs = [] ∨ ∃ b o fl, A = some ⟨b, o, none⟩ ∧ B b ∧ Dat.RL w B xs fl ∧ ∀ j u, fl[j]? = some u → w.cell? ⟨b, o + j, none⟩ = some u)
/-- one cell each -/
def Dat.RF (w : World) (B : Nat → Prop) : List Dat → List Value → Prop
  | [], cs => cs = []
  | f :: fs, cs => ∃ c rest, cs = c :: rest ∧ f.nagg = true ∧ Dat.R w B f [c] ∧ Dat.RF w B fs rest
/-- one behind the other -/
def Dat.RL (w : World) (B : Nat → Prop) : List Dat → List Value → Prop
  | [], cs => cs = []
  | x :: xs, cs => ∃ c1 c2, cs = c1 ++ c2 ∧ Dat.R w B x c1 ∧ Dat.RL w B xs c2
end

mutual
theorem Dat.R.stable {w w' : World} {B B' : Nat → Prop} (hb : ∀ b, B b → B' b ∧ w'.heap[b]? = w.heap[b]?) : ∀ (d : Dat) (cs : List Value), Dat.R w B d cs → Dat.R w' B' d cs
  | .v x, cs, h => by unfold Dat.R at h ⊢; exact h
  | .agg fs, cs, h => by unfold Dat.R at h ⊢; exact Dat.RF.stable hb fs cs h
  | .sl sz xs, cs, h => by
    unfold Dat.R at h ⊢
    obtain ⟨A, c, h1, h2, h3, h4, h5⟩ := h
    refine ⟨A, c, h1, h2, h3, h4, ?_⟩
    rcases h5 with h5 | ⟨b, o, fl, e, hB, hl, hc⟩
    · exact .inl h5
    · refine .inr ⟨b, o, fl, e, (hb b hB).1, Dat.RL.stable hb xs fl hl, fun j u hu => ?_⟩
      rw [World.cell?_of_block (w := w) (hb b hB).2]
      exact hc j u hu
theorem Dat.RF.stable {w w' : World} {B B' : Nat → Prop} (hb : ∀ b, B b → B' b ∧ w'.heap[b]? = w.heap[b]?) : ∀ (d : List Dat) (cs : List Value), Dat.RF w B d cs → Dat.RF w' B' d cs
  | [], cs, h => by unfold Dat.RF at h ⊢; exact h
  | f :: fs, cs, h => by
    unfold Dat.RF at h ⊢
    obtain ⟨c, rest, h1, hn, h2, h3⟩ := h
    exact ⟨c, rest, h1, hn, Dat.R.stable hb f [c] h2, Dat.RF.stable hb fs rest h3⟩
theorem Dat.RL.stable {w w' : World} {B B' : Nat → Prop} (hb : ∀ b, B b → B' b ∧ w'.heap[b]? = w.heap[b]?) : ∀ (d : List Dat) (cs : List Value), Dat.RL w B d cs → Dat.RL w' B' d cs
  | [], cs, h => by unfold Dat.RL at h ⊢; exact h
  | f :: fs, cs, h => by
    unfold Dat.RL at h ⊢
    obtain ⟨c, rest, h1, h2, h3⟩ := h
    exact ⟨c, rest, h1, Dat.R.stable hb f c h2, Dat.RL.stable hb fs rest h3⟩
end

section
variable {w : World} {B : Nat → Prop}

theorem Dat.RF.len : ∀ (fs : List Dat) (cs : List Value), Dat.RF w B fs cs → cs.length = fs.length
  | [], cs, h => by unfold Dat.RF at h; simp [h]
  | f :: fs, cs, h => by
    unfold Dat.RF at h
    obtain ⟨c, rest, rfl, _, _, h3⟩ := h
    simp [Dat.RF.len fs rest h3]

theorem Dat.R.len (d : Dat) (cs : List Value) (h : Dat.R w B d cs) : cs.length = d.wd := by
  cases d with
  | v x => unfold Dat.R at h; simp [h.1, Dat.wd, Dat.cells]
  | agg fs => unfold Dat.R at h; simpa [Dat.wd, Dat.cells] using Dat.RF.len fs cs h
  | sl sz xs => unfold Dat.R at h; obtain ⟨A, c, h1, _⟩ := h; simp [h1, Dat.wd, Dat.cells]

mutual
theorem Dat.R.one : ∀ (d : Dat) (cs : List Value), Dat.R w B d cs → ∀ u ∈ cs, u.oneCell' = true
  | .v x, cs, h => by unfold Dat.R at h; obtain ⟨rfl, h2⟩ := h; intro u hu; simp at hu; rw [hu]; exact h2
  | .agg fs, cs, h => by unfold Dat.R at h; exact Dat.RF.one fs cs h
  | .sl sz xs, cs, h => by unfold Dat.R at h; obtain ⟨A, c, rfl, _⟩ := h; intro u hu; simp at hu; rw [hu]; rfl
theorem Dat.RF.one : ∀ (fs : List Dat) (cs : List Value), Dat.RF w B fs cs → ∀ u ∈ cs, u.oneCell' = true
  | [], cs, h => by unfold Dat.RF at h; subst h; intro u hu; simp at hu
  | f :: fs, cs, h => by
    unfold Dat.RF at h
    obtain ⟨c, rest, rfl, _, h2, h3⟩ := h
    intro u hu
    rcases List.mem_cons.1 hu with rfl | hu
    · exact Dat.R.one f [u] h2 u (by simp)
    · exact Dat.RF.one fs rest h3 u hu
end

theorem Dat.RF.cells {d : Dat} {cs : List Value} : Dat.RF w B d.cells cs ↔ Dat.R w B d cs := by
  cases d with
  | agg fs => unfold Dat.R; rfl
  | v x =>
    simp only [Dat.cells, Dat.RF]
    constructor
    · rintro ⟨c, rest, rfl, _, h, rfl⟩; exact h
    · intro h
      have h' := h
      unfold Dat.R at h'
      exact ⟨x, [], h'.1, rfl, h'.1 ▸ h, rfl⟩
  | sl sz xs =>
    simp only [Dat.cells, Dat.RF]
    constructor
    · rintro ⟨c, rest, rfl, _, h, rfl⟩; exact h
    · intro h
      have h' := h
      unfold Dat.R at h'
      obtain ⟨A, c, e, _⟩ := h'
      exact ⟨_, [], e, rfl, e ▸ h, rfl⟩

theorem Dat.RF.append {a b : List Dat} {cs : List Value} : Dat.RF w B (a ++ b) cs ↔ ∃ c1 c2, cs = c1 ++ c2 ∧ Dat.RF w B a c1 ∧ Dat.RF w B b c2 := by
  induction a generalizing cs with
  | nil => simp only [List.nil_append, Dat.RF]; constructor
           · intro h; exact ⟨[], cs, rfl, rfl, h⟩
           · rintro ⟨c1, c2, rfl, rfl, h⟩; simpa using h
  | cons x a ih =>
    simp only [List.cons_append, Dat.RF]
    constructor
    · rintro ⟨c, rest, rfl, h0, h1, h2⟩
      obtain ⟨c1, c2, rfl, h3, h4⟩ := ih.1 h2
      exact ⟨c :: c1, c2, rfl, ⟨c, c1, rfl, h0, h1, h3⟩, h4⟩
    · rintro ⟨c1, c2, rfl, ⟨c, c1', rfl, h0, h1, h2⟩, h3⟩
      exact ⟨c, c1' ++ c2, rfl, h0, h1, ih.2 ⟨c1', c2, rfl, h2, h3⟩⟩

theorem Dat.RL.flat {xs : List Dat} {cs : List Value} : Dat.RL w B xs cs ↔ Dat.RF w B (xs.flatMap Dat.cells) cs := by
  induction xs generalizing cs with
  | nil => simp [Dat.RL, Dat.RF]
  | cons x xs ih =>
    simp only [List.flatMap_cons, Dat.RL, Dat.RF.append]
    constructor
    · rintro ⟨c1, c2, rfl, h1, h2⟩; exact ⟨c1, c2, rfl, Dat.RF.cells.2 h1, ih.1 h2⟩
    · rintro ⟨c1, c2, rfl, h1, h2⟩; exact ⟨c1, c2, rfl, Dat.RF.cells.1 h1, ih.2 h2⟩

theorem Dat.RL.append {a b : List Dat} {cs : List Value} : Dat.RL w B (a ++ b) cs ↔ ∃ c1 c2, cs = c1 ++ c2 ∧ Dat.RL w B a c1 ∧ Dat.RL w B b c2 := by
  simp only [Dat.RL.flat, List.flatMap_append, Dat.RF.append]

theorem Dat.RL.one (xs : List Dat) (cs : List Value) (h : Dat.RL w B xs cs) : ∀ u ∈ cs, u.oneCell' = true := Dat.RF.one _ _ (Dat.RL.flat.1 h)

theorem Dat.RL.len {sz : Nat} {xs : List Dat} {cs : List Value} (h : Dat.RL w B xs cs) (hs : ∀ x ∈ xs, x.wd = sz) : cs.length = xs.length * sz := by
  induction xs generalizing cs with
  | nil => unfold Dat.RL at h; simp [h]
  | cons x xs ih =>
    unfold Dat.RL at h
    obtain ⟨c1, c2, rfl, h1, h2⟩ := h
    have := Dat.R.len x c1 h1
    have h3 := ih h2 (fun y hy => hs y (by simp [hy]))
    have h4 := hs x (by simp)
    simp only [List.length_append, List.length_cons, this, h3, h4]
    rw [Nat.add_mul]; omega

/-- A part of it. -/
theorem Dat.RL.part {sz : Nat} {xs : List Dat} {cs : List Value} (h : Dat.RL w B xs cs) (hs : ∀ x ∈ xs, x.wd = sz) (i n : Nat) (hi : i + n ≤ xs.length) :
    Dat.RL w B ((xs.drop i).take n) ((cs.drop (i * sz)).take (n * sz)) := by
  have e : xs = xs.take i ++ ((xs.drop i).take n ++ (xs.drop i).drop n) := by rw [List.take_append_drop, List.take_append_drop]
  have h' := h
  rw [e, Dat.RL.append] at h'
  obtain ⟨c1, c2, rfl, h1, h2⟩ := h'
  obtain ⟨c3, c4, rfl, h3, h4⟩ := Dat.RL.append.1 h2
  have l1 := Dat.RL.len h1 (fun x hx => hs x (List.mem_of_mem_take hx))
  have l3 := Dat.RL.len h3 (fun x hx => hs x (List.mem_of_mem_drop (List.mem_of_mem_take hx)))
  have e1 : (xs.take i).length = i := by simp; omega
  have e3 : ((xs.drop i).take n).length = n := by simp; omega
  rw [e1] at l1
  rw [e3] at l3
  have g1 : (c1 ++ (c3 ++ c4)).drop (i * sz) = c3 ++ c4 := by rw [← l1]; simp
  rw [g1, ← l3]
  simpa using h3

theorem Dat.RF.drop {fs : List Dat} {cs : List Value} (h : Dat.RF w B fs cs) (k : Nat) : Dat.RF w B (fs.drop k) (cs.drop k) := by
  induction k generalizing fs cs with
  | zero => simpa using h
  | succ k ih =>
    cases fs with
    | nil => unfold Dat.RF at h; subst h; simp [Dat.RF]
    | cons f fs =>
      unfold Dat.RF at h
      obtain ⟨c, rest, rfl, _, _, h3⟩ := h
      simpa using ih h3

theorem Dat.RF.take {fs : List Dat} {cs : List Value} (h : Dat.RF w B fs cs) (k : Nat) : Dat.RF w B (fs.take k) (cs.take k) := by
  induction k generalizing fs cs with
  | zero => simp [Dat.RF]
  | succ k ih =>
    cases fs with
    | nil => unfold Dat.RF at h; subst h; simp [Dat.RF]
    | cons f fs =>
      unfold Dat.RF at h
      obtain ⟨c, rest, rfl, h0, h2, h3⟩ := h
      simp only [List.take_succ_cons, Dat.RF]
      exact ⟨c, _, rfl, h0, h2, ih h3⟩

theorem Dat.RF.get {fs : List Dat} {cs : List Value} (h : Dat.RF w B fs cs) {k : Nat} {f : Dat} (hf : fs[k]? = some f) : ∃ c, cs[k]? = some c ∧ f.nagg = true ∧ Dat.R w B f [c] := by
  induction k generalizing fs cs with
  | zero =>
    cases fs with
    | nil => simp at hf
    | cons g fs =>
      unfold Dat.RF at h
      obtain ⟨c, rest, rfl, h0, h2, h3⟩ := h
      simp at hf
      subst hf
      exact ⟨c, by simp, h0, h2⟩
  | succ k ih =>
    cases fs with
    | nil => simp at hf
    | cons g fs =>
      unfold Dat.RF at h
      obtain ⟨c, rest, rfl, h0, h2, h3⟩ := h
      simpa using ih h3 (by simpa using hf)

theorem Dat.RF.set {fs : List Dat} {cs : List Value} (h : Dat.RF w B fs cs) {k : Nat} {f : Dat} {c : Value} (hn : f.nagg = true) (hc : Dat.R w B f [c]) : Dat.RF w B (fs.set k f) (cs.set k c) := by
  induction k generalizing fs cs with
  | zero =>
    cases fs with
    | nil => unfold Dat.RF at h; subst h; simp [Dat.RF]
    | cons g fs =>
      unfold Dat.RF at h
      obtain ⟨c', rest, rfl, h0, h2, h3⟩ := h
      simp only [List.set_cons_zero, Dat.RF]
      exact ⟨c, rest, rfl, hn, hc, h3⟩
  | succ k ih =>
    cases fs with
    | nil => unfold Dat.RF at h; subst h; simp [Dat.RF]
    | cons g fs =>
      unfold Dat.RF at h
      obtain ⟨c', rest, rfl, h0, h2, h3⟩ := h
      simp only [List.set_cons_succ, Dat.RF]
      exact ⟨c', _, rfl, h0, h2, ih h3⟩
end

end Go.AM

/- AM, part 2: abstract values, named objects, how they stand in a world, and what leaves them as they are. -/
namespace Go.AM
open Go Go.RowKit

inductive AV where
  | junk
  | d (fr : Bool) (x : Dat)
  | own (n γ : Nat)
  | ptr (n off : Nat)
  | elt (n γ sz i off : Nat)
  | sel (fr : Bool) (cs : List Dat)
  | agg (fs : List AV)
  | tup (vs : List AV)
  | fn (f : FuncId) (caps : List AV)
  | when (c : Bool) (a : AV)
  | mpv (n : Nat)
  | cut (n γ sz i : Nat)
  deriving Inhabited

inductive Ob where
  | row (E sz γ : Nat) (fr : Bool) (xs : List Dat)
  | cells (E : Nat) (cs : List AV)
  | buf (E Er szr : Nat) (xs : List Dat)
  | mp (ks : List IntKind) (kv : IntKind) (es : List (List Int × Int))

/-- A map's key of some whole numbers. -/
def keyV (ks : List IntKind) (xs : List Int) : Value := .agg ((ks.zip xs).map fun p => Value.int p.1 p.2).toArray
def KeyFits (ks : List IntKind) (xs : List Int) : Prop := xs.length = ks.length ∧ ∀ p ∈ ks.zip xs, p.1.min ≤ p.2 ∧ p.2 ≤ p.1.max
/-- A map's entries. -/
def MapHas (ks : List IntKind) (kv : IntKind) (es : List (List Int × Int)) (ents : Array MapEntry) : Prop :=
  ents.toList.map (fun e => (e.key, e.val)) = es.map (fun e => (keyV ks e.1, Value.int kv e.2)) ∧ (∀ e ∈ es, KeyFits ks e.1) ∧ (es.map (·.1)).Nodup

inductive Hd where
  | row (v : Value)
  | ptr (b : Nat)
  | buf (b : Nat) (v : Value)

def Hd.blks : Hd → List Nat
  | .row v => v.ownBlock.toList
  | .ptr b => [b]
  | .buf b v => b :: v.ownBlock.toList

structure Cx where
  w : World
  b0 : Nat
  old : Nat → Prop
  obs : List (Option Ob)
  hs : List Hd

def Cx.alive (C : Cx) (n : Nat) : Prop := ∃ o, C.obs[n]? = some (some o)

/-- A block that may be shared: no object's. -/
def Cx.Sh (C : Cx) (fr : Bool) (b : Nat) : Prop :=
  b < C.w.heap.size ∧ (∀ n h, C.alive n → C.hs[n]? = some h → b ∉ h.blks) ∧ (C.b0 ≤ b ∨ (fr = false ∧ C.old b))

theorem Cx.Sh.weak {C : Cx} {fr : Bool} {b : Nat} (h : C.Sh true b) : C.Sh fr b := ⟨h.1, h.2.1, .inl (h.2.2.resolve_right (fun x => by cases x.1))⟩
theorem Cx.Sh.any {C : Cx} {fr : Bool} {b : Nat} (h : C.Sh fr b) : C.Sh false b := ⟨h.1, h.2.1, h.2.2.imp id fun x => ⟨rfl, x.2⟩⟩

/-- A piece of data as a whole value. -/
def DV (w : World) (B : Nat → Prop) : Dat → Value → Prop
  | .agg fs, v => ∃ cs, v = .agg cs ∧ Dat.RF w B fs cs.toList
  | .v x, v => Dat.R w B (.v x) [v]
  | .sl sz xs, v => Dat.R w B (.sl sz xs) [v]

theorem DV.stable {w w' : World} {B B' : Nat → Prop} (hb : ∀ b, B b → B' b ∧ w'.heap[b]? = w.heap[b]?) {d : Dat} {v : Value} (h : DV w B d v) : DV w' B' d v := by
  cases d with
  | agg fs => obtain ⟨cs, h1, h2⟩ := h; exact ⟨cs, h1, Dat.RF.stable hb _ _ h2⟩
  | v x => exact Dat.R.stable hb _ _ h
  | sl sz xs => exact Dat.R.stable hb _ _ h

theorem DV.cells {w : World} {B : Nat → Prop} {d : Dat} {v : Value} (h : DV w B d v) : Dat.R w B d v.cells.toList := by
  cases d with
  | agg fs => obtain ⟨cs, rfl, h2⟩ := h; unfold Dat.R; exact h2
  | v x =>
    have h' : Dat.R w B (.v x) [v] := h
    have h2 := h'
    unfold Dat.R at h2
    obtain ⟨h3, h4⟩ := h2
    have e : v = x := by simpa using h3
    subst e
    have : v.cells = #[v] := by cases v <;> first | rfl | simp [Value.oneCell'] at h4
    rw [this]; exact h'
  | sl sz xs =>
    have h' : Dat.R w B (.sl sz xs) [v] := h
    have h2 := h'
    unfold Dat.R at h2
    obtain ⟨A, c, h3, _⟩ := h2
    have e : v = .slice A xs.length c := by simpa using h3
    subst e
    exact h'

theorem DV.of_one {w : World} {B : Nat → Prop} {d : Dat} {v : Value} (h : Dat.R w B d [v]) (hd : ∀ fs, d ≠ .agg fs) : DV w B d v := by
  cases d with
  | agg fs => exact absurd rfl (hd fs)
  | v x => exact h
  | sl sz xs => exact h

theorem DV.v_iff {w : World} {B : Nat → Prop} {x v : Value} : DV w B (.v x) v ↔ v = x ∧ x.oneCell' = true := by
  show Dat.R w B (.v x) [v] ↔ _
  unfold Dat.R
  simp

mutual
def AV.VR (C : Cx) : AV → Value → Prop
  | .junk, _ => True
  | .d fr x, v => DV C.w (C.Sh fr) x v
  | .own n γ, v => n < C.obs.length ∧ ∀ E sz γ0 fr xs, C.obs[n]? = some (some (.row E sz γ0 fr xs)) → γ ≤ γ0 ∧ (γ = γ0 → C.hs[n]? = some (.row v))
  | .ptr n off, v => n < C.obs.length ∧ ∀ o, C.obs[n]? = some (some o) → ∃ b, (C.hs[n]? = some (.ptr b) ∨ ∃ u, C.hs[n]? = some (.buf b u)) ∧ v = .pointer (some ⟨b, off, none⟩)
  | .elt n γ sz i off, v => n < C.obs.length ∧ ∀ E sz' γ0 fr xs, C.obs[n]? = some (some (.row E sz' γ0 fr xs)) → γ ≤ γ0 ∧ (γ = γ0 → ∃ b len cap, C.hs[n]? = some (.row (.slice (some ⟨b, 0, none⟩) len cap)) ∧ v = .pointer (some ⟨b, i * sz + off, none⟩))
  | .sel fr cs, v => ∃ b o vs, v = .pointer (some ⟨b, o, none⟩) ∧ C.Sh fr b ∧ Dat.RF C.w (C.Sh fr) cs vs ∧ ∀ j u, vs[j]? = some u → C.w.cell? ⟨b, o + j, none⟩ = some u
  | .agg fs, v => ∃ cs, v = .agg cs ∧ AV.VL C fs cs.toList ∧ ∀ u ∈ cs.toList, u.oneCell' = true
  | .tup vs, v => ∃ cs, v = .tuple cs ∧ AV.VL C vs cs.toList
  | .fn f caps, v => ∃ cs, v = .func (.func f) #[] cs ∧ AV.VL C caps cs.toList
  | .when c a, v => (c = true → AV.VR C a v) ∧ (c = false → v = undef)
  | .mpv n, v => n < C.obs.length ∧ ∀ o, C.obs[n]? = some (some o) → ∃ b, (C.hs[n]? = some (.ptr b) ∨ ∃ u, C.hs[n]? = some (.buf b u)) ∧ v = .map (some b)
  | .cut n γ sz i, v => n < C.obs.length ∧ ∀ E sz' γ0 fr xs, C.obs[n]? = some (some (.row E sz' γ0 fr xs)) → γ ≤ γ0 ∧ (γ = γ0 → ∃ b len cap, C.hs[n]? = some (.row (.slice (some ⟨b, 0, none⟩) len cap)) ∧ i < len ∧ v = .slice (some ⟨b, i * sz, none⟩) (len - i) (cap - i))
def AV.VL (C : Cx) : List AV → List Value → Prop
  | [], vs => vs = []
  | a :: as, vs => ∃ v rest, vs = v :: rest ∧ AV.VR C a v ∧ AV.VL C as rest
end

/-- C' knows all that C knew, but for what has been written or has gone. -/
structure Cx.Le (C C' : Cx) : Prop where
  b0 : C'.b0 = C.b0
  old : C'.old = C.old
  len : C.obs.length ≤ C'.obs.length
  sh : ∀ fr b, C.Sh fr b → C'.Sh fr b ∧ C'.w.heap[b]? = C.w.heap[b]?
  row : ∀ n E sz γ fr xs, n < C.obs.length → C'.obs[n]? = some (some (.row E sz γ fr xs)) →
    ∃ E sz γ0 fr xs, C.obs[n]? = some (some (.row E sz γ0 fr xs)) ∧ γ0 ≤ γ ∧ (γ = γ0 → C'.hs[n]? = C.hs[n]?)
  ptr : ∀ n o, n < C.obs.length → C'.obs[n]? = some (some o) → (∃ o, C.obs[n]? = some (some o)) ∧
    (∀ b, (C.hs[n]? = some (.ptr b) → C'.hs[n]? = some (.ptr b)) ∧ (∀ u, C.hs[n]? = some (.buf b u) → ∃ u', C'.hs[n]? = some (.buf b u')))

mutual
theorem AV.VR.le {C C' : Cx} (h : C.Le C') : ∀ (a : AV) (v : Value), a.VR C v → a.VR C' v
  | .junk, _, _ => by unfold AV.VR; trivial
  | .d fr x, v, hv => by unfold AV.VR at hv ⊢; exact hv.stable (h.sh fr)
  | .own n γ, v, hv => by
    unfold AV.VR at hv ⊢
    refine ⟨Nat.lt_of_lt_of_le hv.1 h.len, fun E sz γ1 fr xs e => ?_⟩
    obtain ⟨E2, sz2, γ0, fr2, xs2, e2, e3, e4⟩ := h.row n E sz γ1 fr xs hv.1 e
    obtain ⟨g1, g2⟩ := hv.2 _ _ _ _ _ e2
    refine ⟨Nat.le_trans g1 e3, fun e5 => ?_⟩
    rw [e4 (Nat.le_antisymm (e5 ▸ g1) e3)]
    exact g2 (Nat.le_antisymm g1 (e5 ▸ e3))
  | .ptr n off, v, hv => by
    unfold AV.VR at hv ⊢
    refine ⟨Nat.lt_of_lt_of_le hv.1 h.len, fun o e => ?_⟩
    obtain ⟨⟨o2, e2⟩, e3⟩ := h.ptr n o hv.1 e
    obtain ⟨b, h1, h2⟩ := hv.2 o2 e2
    refine ⟨b, ?_, h2⟩
    rcases h1 with h1 | ⟨u, h1⟩
    · exact .inl ((e3 b).1 h1)
    · exact .inr ((e3 b).2 u h1)
  | .elt n γ sz0 i off, v, hv => by
    unfold AV.VR at hv ⊢
    refine ⟨Nat.lt_of_lt_of_le hv.1 h.len, fun E sz γ1 fr xs e => ?_⟩
    obtain ⟨E2, sz2, γ0, fr2, xs2, e2, e3, e4⟩ := h.row n E sz γ1 fr xs hv.1 e
    obtain ⟨g1, g2⟩ := hv.2 _ _ _ _ _ e2
    refine ⟨Nat.le_trans g1 e3, fun e5 => ?_⟩
    rw [e4 (Nat.le_antisymm (e5 ▸ g1) e3)]
    exact g2 (Nat.le_antisymm g1 (e5 ▸ e3))
  | .sel fr cs, v, hv => by
    unfold AV.VR at hv ⊢
    obtain ⟨b, o, vs, h1, h2, h3, h4⟩ := hv
    refine ⟨b, o, vs, h1, (h.sh fr b h2).1, Dat.RF.stable (h.sh fr) _ _ h3, fun j u hu => ?_⟩
    rw [World.cell?_of_block (w := C.w) (h.sh fr b h2).2]
    exact h4 j u hu
  | .agg fs, v, hv => by
    unfold AV.VR at hv ⊢
    obtain ⟨cs, h1, h2, h3⟩ := hv
    exact ⟨cs, h1, AV.VL.le h _ _ h2, h3⟩
  | .tup vs, v, hv => by
    unfold AV.VR at hv ⊢
    obtain ⟨cs, h1, h2⟩ := hv
    exact ⟨cs, h1, AV.VL.le h _ _ h2⟩
  | .fn f caps, v, hv => by
    unfold AV.VR at hv ⊢
    obtain ⟨cs, h1, h2⟩ := hv
    exact ⟨cs, h1, AV.VL.le h _ _ h2⟩
  | .when c a, v, hv => by unfold AV.VR at hv ⊢; exact ⟨fun hc => AV.VR.le h a v (hv.1 hc), hv.2⟩
  | .cut n γ sz0 i, v, hv => by
    unfold AV.VR at hv ⊢
    refine ⟨Nat.lt_of_lt_of_le hv.1 h.len, fun E sz γ1 fr xs e => ?_⟩
    obtain ⟨E2, sz2, γ0, fr2, xs2, e2, e3, e4⟩ := h.row n E sz γ1 fr xs hv.1 e
    obtain ⟨g1, g2⟩ := hv.2 _ _ _ _ _ e2
    refine ⟨Nat.le_trans g1 e3, fun e5 => ?_⟩
    rw [e4 (Nat.le_antisymm (e5 ▸ g1) e3)]
    exact g2 (Nat.le_antisymm g1 (e5 ▸ e3))
  | .mpv n, v, hv => by
    unfold AV.VR at hv ⊢
    refine ⟨Nat.lt_of_lt_of_le hv.1 h.len, fun o e => ?_⟩
    obtain ⟨⟨o2, e2⟩, e3⟩ := h.ptr n o hv.1 e
    obtain ⟨b, h1, h2⟩ := hv.2 o2 e2
    refine ⟨b, ?_, h2⟩
    rcases h1 with h1 | ⟨u, h1⟩
    · exact .inl ((e3 b).1 h1)
    · exact .inr ((e3 b).2 u h1)
theorem AV.VL.le {C C' : Cx} (h : C.Le C') : ∀ (a : List AV) (v : List Value), AV.VL C a v → AV.VL C' a v
  | [], v, hv => by unfold AV.VL at hv ⊢; exact hv
  | a :: as, v, hv => by
    unfold AV.VL at hv ⊢
    obtain ⟨v1, rest, h1, h2, h3⟩ := hv
    exact ⟨v1, rest, h1, AV.VR.le h a v1 h2, AV.VL.le h as rest h3⟩
end

/-- An object in its world. -/
def Ob.OR (C : Cx) : Ob → Hd → Prop
  | .row E sz _ fr xs, .row v => 0 < sz ∧ (∀ x ∈ xs, x.wd = sz) ∧ ∃ fl, Dat.RL C.w (C.Sh fr) xs fl ∧ C.w.ownsRow 0 E sz v xs.length fl
  | .cells E cs, .ptr b => ∃ vs, C.w.heap[b]? = some (.cells vs.toArray E (0, 0)) ∧ AV.VL C cs vs ∧ ∀ u ∈ vs, u.oneCell' = true
  | .buf E Er szr xs, .buf b v => C.w.heap[b]? = some (.cells #[v] E (0, 0)) ∧ szr = 1 ∧ (∀ x ∈ xs, ∃ c, x = .v c) ∧ ∃ fl, Dat.RL C.w (C.Sh true) xs fl ∧ C.w.ownsRow 0 Er szr v xs.length fl
  | .mp ks kv es, .ptr b => ∃ ents clock, C.w.heap[b]? = some (.map ents clock) ∧ MapHas ks kv es ents
  | _, _ => False

theorem ownsRow_stable {w w' : World} {base : Nat} {e : TypeId} {size : Nat} {v : Value} {n : Nat} {xs : List Value} (h : w.ownsRow base e size v n xs)
    (hb : ∀ b, v.ownBlock = some b → w'.heap[b]? = w.heap[b]?) : w'.ownsRow base e size v n xs := by
  refine ⟨h.1, ?_⟩
  rcases h.2 with h2 | ⟨g, cap, cur, rfl, h3, h4, h5⟩
  · exact .inl h2
  · exact .inr ⟨g, cap, cur, rfl, h3, by rw [hb g rfl]; exact h4, h5⟩

theorem Ob.OR.le {C C' : Cx} (h : C.Le C') {o : Ob} {hd : Hd} (ho : o.OR C hd) (hb : ∀ b ∈ hd.blks, C'.w.heap[b]? = C.w.heap[b]?) : o.OR C' hd := by
  cases o with
  | row E sz γ fr xs =>
    cases hd with
    | row v =>
      obtain ⟨h0, h1, fl, h2, h3⟩ := ho
      exact ⟨h0, h1, fl, Dat.RL.stable (h.sh fr) _ _ h2, ownsRow_stable h3 fun b e => hb b (by simp [Hd.blks, e])⟩
    | _ => exact ho.elim
  | cells E cs =>
    cases hd with
    | ptr b =>
      obtain ⟨vs, h1, h2, h3⟩ := ho
      exact ⟨vs, by rw [hb b (by simp [Hd.blks])]; exact h1, AV.VL.le h _ _ h2, h3⟩
    | _ => exact ho.elim
  | buf E Er szr xs =>
    cases hd with
    | buf b v =>
      obtain ⟨h1, h0, h2, fl, h3, h4⟩ := ho
      exact ⟨by rw [hb b (by simp [Hd.blks])]; exact h1, h0, h2, fl, Dat.RL.stable (h.sh true) _ _ h3, ownsRow_stable h4 fun b e => hb b (by simp [Hd.blks, e])⟩
    | _ => exact ho.elim
  | mp ks kv es =>
    cases hd with
    | ptr b =>
      obtain ⟨ents, clock, h1, h2⟩ := ho
      exact ⟨ents, clock, by rw [hb b (by simp [Hd.blks])]; exact h1, h2⟩
    | _ => exact ho.elim

theorem Ob.OR.lt {C : Cx} {o : Ob} {hd : Hd} (ho : o.OR C hd) : ∀ b ∈ hd.blks, b < C.w.heap.size := by
  intro b hb
  have row : ∀ {E sz : Nat} {v : Value} {n : Nat} {fl : List Value}, C.w.ownsRow 0 E sz v n fl → v.ownBlock = some b → b < C.w.heap.size := fun h e => (h.lt b e).2
  cases o with
  | row E sz γ fr xs =>
    cases hd with
    | row v => obtain ⟨h0, h1, fl, h2, h3⟩ := ho; exact row h3 (by simpa [Hd.blks] using hb)
    | _ => exact ho.elim
  | cells E cs =>
    cases hd with
    | ptr b' =>
      obtain ⟨vs, h1, _⟩ := ho
      simp [Hd.blks] at hb
      subst hb
      exact (Array.getElem?_eq_some_iff.1 h1).1
    | _ => exact ho.elim
  | buf E Er szr xs =>
    cases hd with
    | buf b' v =>
      obtain ⟨h1, h0, h2, fl, h3, h4⟩ := ho
      simp only [Hd.blks, List.mem_cons, Option.mem_toList] at hb
      rcases hb with rfl | hb
      · exact (Array.getElem?_eq_some_iff.1 h1).1
      · exact row h4 hb
    | _ => exact ho.elim
  | mp ks kv es =>
    cases hd with
    | ptr b' =>
      obtain ⟨ents, clock, h1, _⟩ := ho
      simp [Hd.blks] at hb
      subst hb
      exact (Array.getElem?_eq_some_iff.1 h1).1
    | _ => exact ho.elim

/-- The world of a call that began at w0 with the parameters' objects ps. -/
structure WOK (w0 : World) (ps : List Hd) (C : Cx) : Prop where
  b0 : C.b0 = w0.heap.size
  os : C.w.os = w0.os
  tape : C.w.tape = w0.tape
  output : C.w.output = w0.output
  size : w0.heap.size ≤ C.w.heap.size
  len : C.obs.length = C.hs.length
  frame : ∀ b, b < w0.heap.size → (∀ h ∈ ps, b ∉ h.blks) → C.w.heap[b]? = w0.heap[b]?
  objs : ∀ (n : Nat) (o : Ob) (h : Hd), C.obs[n]? = some (some o) → C.hs[n]? = some h → o.OR C h
  dist : ∀ (n m : Nat) (h k : Hd), n ≠ m → C.alive n → C.alive m → C.hs[n]? = some h → C.hs[m]? = some k → ∀ b ∈ h.blks, b ∉ k.blks
  new : ∀ (n : Nat) (h : Hd), C.alive n → C.hs[n]? = some h → ∀ b ∈ h.blks, w0.heap.size ≤ b ∨ (n < ps.length ∧ ∃ p ∈ ps, b ∈ p.blks)
  plen : ps.length ≤ C.hs.length
  parP : ∀ (i : Nat) (b : Nat), ps[i]? = some (.ptr b) → C.hs[i]? = some (.ptr b)
  parB : ∀ (i : Nat) (b : Nat) (u : Value), ps[i]? = some (.buf b u) → ∃ u', C.hs[i]? = some (.buf b u')
  parR : ∀ (i : Nat) (v : Value) (E sz : Nat) (fr : Bool) (xs : List Dat), ps[i]? = some (.row v) → C.obs[i]? = some (some (.row E sz 0 fr xs)) → C.hs[i]? = some (.row v)

theorem WOK.hd {w0 : World} {ps : List Hd} {C : Cx} (h : WOK w0 ps C) {n : Nat} (hn : n < C.obs.length) : ∃ k, C.hs[n]? = some k :=
  ⟨C.hs[n]'(by rw [← h.len]; exact hn), by simp⟩

theorem alive_lt {C : Cx} {n : Nat} (h : C.alive n) : n < C.obs.length := by
  obtain ⟨o, h⟩ := h
  exact (List.getElem?_eq_some_iff.1 h).1

/-- Mere growth. -/
theorem Cx.Le.grow {C : Cx} {w' : World} (hb : Below C.w.heap.size C.w w') : C.Le { C with w := w' } where
  b0 := rfl
  old := rfl
  len := Nat.le_refl _
  sh := fun fr b hs => ⟨⟨Nat.lt_of_lt_of_le hs.1 hb.size, hs.2.1, hs.2.2⟩, hb.block b hs.1⟩
  row := fun n E sz γ fr xs _ h => ⟨E, sz, γ, fr, xs, h, Nat.le_refl _, fun _ => rfl⟩
  ptr := fun n o _ h => ⟨⟨o, h⟩, fun b => ⟨fun e => e, fun u e => ⟨u, e⟩⟩⟩

theorem WOK.grow {w0 : World} {ps : List Hd} {C : Cx} (h : WOK w0 ps C) {w' : World} (hb : Below C.w.heap.size C.w w') : WOK w0 ps { C with w := w' } where
  b0 := h.b0
  os := hb.os.trans h.os
  tape := hb.tape.trans h.tape
  output := hb.output.trans h.output
  size := Nat.le_trans h.size hb.size
  len := h.len
  frame := fun b hlt hp => (hb.block b (Nat.lt_of_lt_of_le hlt h.size)).trans (h.frame b hlt hp)
  objs := fun n o k ho hk => (h.objs n o k ho hk).le (Cx.Le.grow hb) fun b hbk => hb.block b ((h.objs n o k ho hk).lt b hbk)
  dist := h.dist
  new := h.new
  plen := h.plen
  parP := h.parP
  parB := h.parB
  parR := h.parR

/-- A new object. -/
def Cx.add (C : Cx) (w' : World) (o : Ob) (h : Hd) : Cx := { C with w := w', obs := C.obs ++ [some o], hs := C.hs ++ [h] }

theorem Cx.Le.add {C : Cx} {w' : World} {o : Ob} {h : Hd} (hl : C.obs.length = C.hs.length) (hb : Below C.w.heap.size C.w w') (hn : ∀ b ∈ h.blks, C.w.heap.size ≤ b) : C.Le (C.add w' o h) where
  b0 := rfl
  old := rfl
  len := by simp [Cx.add]
  sh := fun fr b hs => ⟨⟨Nat.lt_of_lt_of_le hs.1 hb.size, fun n k ha hk hbk => by
      by_cases e : n < C.hs.length
      · have hk' : C.hs[n]? = some k := by simpa [Cx.add, List.getElem?_append_left e] using hk
        obtain ⟨o', ho'⟩ := ha
        have ho2 : C.obs[n]? = some (some o') := by simpa [Cx.add, List.getElem?_append_left (hl ▸ e)] using ho'
        exact hs.2.1 n k ⟨o', ho2⟩ hk' hbk
      · have hk' : k = h := by
          simp only [Cx.add] at hk
          rw [List.getElem?_append_right (by omega)] at hk
          have : n - C.hs.length = 0 := by
            have := (List.getElem?_eq_some_iff.1 hk).1
            simp at this; omega
          rw [this] at hk; simpa using hk.symm
        subst hk'
        have := hn b hbk
        have := hs.1
        omega, hs.2.2⟩, hb.block b hs.1⟩
  row := fun n E sz γ fr xs hlt e => by
    have e' : C.obs[n]? = some (some (.row E sz γ fr xs)) := by simpa [Cx.add, List.getElem?_append_left hlt] using e
    exact ⟨E, sz, γ, fr, xs, e', Nat.le_refl _, fun _ => by simp [Cx.add, List.getElem?_append_left (hl ▸ hlt)]⟩
  ptr := fun n o' hlt e => by
    have e' : C.obs[n]? = some (some o') := by simpa [Cx.add, List.getElem?_append_left hlt] using e
    refine ⟨⟨o', e'⟩, fun b => ⟨fun g => ?_, fun u g => ⟨u, ?_⟩⟩⟩ <;> simpa [Cx.add, List.getElem?_append_left (hl ▸ hlt)] using g

theorem WOK.add {w0 : World} {ps : List Hd} {C : Cx} (h : WOK w0 ps C) {w' : World} {o : Ob} {k : Hd} (hb : Below C.w.heap.size C.w w') (hn : ∀ b ∈ k.blks, C.w.heap.size ≤ b)
    (ho : o.OR (C.add w' o k) k) : WOK w0 ps (C.add w' o k) := by
  have le := Cx.Le.add (o := o) h.len hb hn
  have get : ∀ (n : Nat) (j : Hd), (C.add w' o k).alive n → (C.add w' o k).hs[n]? = some j → (n < C.hs.length ∧ C.alive n ∧ C.hs[n]? = some j) ∨ (n = C.hs.length ∧ j = k) := by
    intro n j ha hj
    by_cases e : n < C.hs.length
    · refine .inl ⟨e, ?_, by simpa [Cx.add, List.getElem?_append_left e] using hj⟩
      obtain ⟨o', ho'⟩ := ha
      exact ⟨o', by simpa [Cx.add, List.getElem?_append_left (h.len ▸ e)] using ho'⟩
    · refine .inr ?_
      simp only [Cx.add] at hj
      rw [List.getElem?_append_right (by omega)] at hj
      have h0 : n - C.hs.length = 0 := by
        have := (List.getElem?_eq_some_iff.1 hj).1
        simp at this; omega
      rw [h0] at hj
      exact ⟨by omega, by simpa using hj.symm⟩
  exact {
    b0 := h.b0
    os := hb.os.trans h.os
    tape := hb.tape.trans h.tape
    output := hb.output.trans h.output
    size := Nat.le_trans h.size hb.size
    len := by simp [Cx.add, h.len]
    frame := fun b hlt hp => (hb.block b (Nat.lt_of_lt_of_le hlt h.size)).trans (h.frame b hlt hp)
    objs := fun n o' j ho' hj => by
      rcases get n j ⟨o', ho'⟩ hj with ⟨e, _, hj'⟩ | ⟨rfl, rfl⟩
      · have ho2 : C.obs[n]? = some (some o') := by simpa [Cx.add, List.getElem?_append_left (h.len ▸ e)] using ho'
        have := h.objs n o' j ho2 hj'
        exact this.le le fun b hbk => hb.block b (this.lt b hbk)
      · have : o' = o := by
          rw [← h.len] at ho'
          simpa [Cx.add] using ho'.symm
        subst this
        exact ho
    dist := fun n m i j hnm hn' hm' hi hj b hbi hbj => by
      rcases get n i hn' hi with ⟨e1, a1, h1⟩ | ⟨e1, rfl⟩
      · rcases get m j hm' hj with ⟨e2, a2, h2⟩ | ⟨e2, rfl⟩
        · exact h.dist n m i j hnm a1 a2 h1 h2 b hbi hbj
        · obtain ⟨o1, a1⟩ := a1
          have := (h.objs n o1 i a1 h1).lt b hbi
          have := hn b hbj
          omega
      · rcases get m j hm' hj with ⟨e2, a2, h2⟩ | ⟨e2, rfl⟩
        · obtain ⟨o2, a2⟩ := a2
          have := (h.objs m o2 j a2 h2).lt b hbj
          have := hn b hbi
          omega
        · omega
    new := fun n j ha hj b hbj => by
      rcases get n j ha hj with ⟨e1, a1, h1⟩ | ⟨e1, rfl⟩
      · exact h.new n j a1 h1 b hbj
      · exact .inl (Nat.le_trans h.size (hn b hbj))
    plen := by have := h.plen; simp [Cx.add]; omega
    parP := fun i b e => by have := h.parP i b e; simp only [Cx.add]; rw [List.getElem?_append_left (List.getElem?_eq_some_iff.1 this).1]; exact this
    parB := fun i b u e => by
      obtain ⟨u', h'⟩ := h.parB i b u e
      exact ⟨u', by simp only [Cx.add]; rw [List.getElem?_append_left (List.getElem?_eq_some_iff.1 h').1]; exact h'⟩
    parR := fun i v E sz fr xs e e2 => by
      have hi : i < C.hs.length := Nat.lt_of_lt_of_le (List.getElem?_eq_some_iff.1 e).1 h.plen
      have e3 : C.obs[i]? = some (some (.row E sz 0 fr xs)) := by simpa [Cx.add, List.getElem?_append_left (h.len ▸ hi)] using e2
      have := h.parR i v E sz fr xs e e3
      simp only [Cx.add]; rw [List.getElem?_append_left hi]; exact this }

/-- An object written: only its blocks turn; new blocks may come. -/
structure Wrote (w w' : World) (bs : List Nat) : Prop where
  os : w'.os = w.os
  tape : w'.tape = w.tape
  output : w'.output = w.output
  size : w.heap.size ≤ w'.heap.size
  block : ∀ b, b < w.heap.size → b ∉ bs → w'.heap[b]? = w.heap[b]?

def Cx.setO (C : Cx) (w' : World) (n : Nat) (o : Option Ob) (h : Hd) : Cx := { C with w := w', obs := C.obs.set n o, hs := C.hs.set n h }

/-- The new object's kind goes with the old one's. -/
def Ob.follows (o : Ob) (h : Hd) (o' : Ob) (h' : Hd) : Prop :=
  (∀ E sz γ fr xs, o' = .row E sz γ fr xs → ∃ E sz γ0 fr xs, o = .row E sz γ0 fr xs ∧ γ0 ≤ γ ∧ (γ = γ0 → h' = h)) ∧
  (∀ b, h = .ptr b → h' = .ptr b) ∧ (∀ b u, h = .buf b u → ∃ u', h' = .buf b u')

theorem Cx.Le.setO {C : Cx} {w' : World} {n : Nat} {o o' : Ob} {h h' : Hd} (hl : C.obs.length = C.hs.length) (ho : C.obs[n]? = some (some o)) (hh : C.hs[n]? = some h)
    (hw : Wrote C.w w' h.blks) (hn : ∀ b ∈ h'.blks, b ∈ h.blks ∨ C.w.heap.size ≤ b) (hf : o.follows h o' h') : C.Le (C.setO w' n (some o') h') where
  b0 := rfl
  old := rfl
  len := by simp [Cx.setO]
  sh := fun fr b hs => ⟨⟨Nat.lt_of_lt_of_le hs.1 hw.size, fun m k ha hk hbk => by
      have hnl : n < C.hs.length := (List.getElem?_eq_some_iff.1 hh).1
      by_cases e : m = n
      · subst e
        have : k = h' := by simpa [Cx.setO, List.getElem?_set, hnl] using hk.symm
        subst this
        rcases hn b hbk with h1 | h1
        · exact hs.2.1 m h ⟨o, ho⟩ hh h1
        · have := hs.1; omega
      · have hk' : C.hs[m]? = some k := by simpa [Cx.setO, List.getElem?_set, Ne.symm e] using hk
        obtain ⟨o2, ho2⟩ := ha
        have ho3 : C.obs[m]? = some (some o2) := by simpa [Cx.setO, List.getElem?_set, Ne.symm e] using ho2
        exact hs.2.1 m k ⟨o2, ho3⟩ hk' hbk, hs.2.2⟩, hw.block b hs.1 (hs.2.1 n h ⟨o, ho⟩ hh)⟩
  row := fun m E sz γ fr xs hlt e => by
    by_cases em : m = n
    · subst em
      have e' : o' = .row E sz γ fr xs := by simpa [Cx.setO, List.getElem?_set, hlt] using e
      obtain ⟨E2, sz2, γ0, fr2, xs2, h1, h2, h3⟩ := hf.1 E sz γ fr xs e'
      exact ⟨E2, sz2, γ0, fr2, xs2, by rw [ho, h1], h2, fun e5 => by rw [hh]; simp [Cx.setO, List.getElem?_set, hl ▸ hlt, h3 e5]⟩
    · have e' : C.obs[m]? = some (some (.row E sz γ fr xs)) := by simpa [Cx.setO, List.getElem?_set, Ne.symm em] using e
      exact ⟨E, sz, γ, fr, xs, e', Nat.le_refl _, fun _ => by simp [Cx.setO, List.getElem?_set, Ne.symm em]⟩
  ptr := fun m o2 hlt e => by
    by_cases em : m = n
    · subst em
      refine ⟨⟨o, ho⟩, fun b => ⟨fun g => ?_, fun u g => ?_⟩⟩
      · have := hf.2.1 b (by rw [hh] at g; exact Option.some.inj g)
        simp [Cx.setO, List.getElem?_set, hl ▸ hlt, this]
      · obtain ⟨u', this⟩ := hf.2.2 b u (by rw [hh] at g; exact Option.some.inj g)
        exact ⟨u', by simp [Cx.setO, List.getElem?_set, hl ▸ hlt, this]⟩
    · have e' : C.obs[m]? = some (some o2) := by simpa [Cx.setO, List.getElem?_set, Ne.symm em] using e
      refine ⟨⟨o2, e'⟩, fun b => ⟨fun g => ?_, fun u g => ⟨u, ?_⟩⟩⟩ <;> simpa [Cx.setO, List.getElem?_set, Ne.symm em] using g

theorem WOK.setO {w0 : World} {ps : List Hd} {C : Cx} (h : WOK w0 ps C) {w' : World} {n : Nat} {o o' : Ob} {k k' : Hd} (ho : C.obs[n]? = some (some o)) (hh : C.hs[n]? = some k)
    (hw : Wrote C.w w' k.blks) (hn : ∀ b ∈ k'.blks, b ∈ k.blks ∨ C.w.heap.size ≤ b) (hf : o.follows k o' k')
    (hor : o'.OR (C.setO w' n (some o') k') k') : WOK w0 ps (C.setO w' n (some o') k') := by
  have le := Cx.Le.setO (o' := o') h.len ho hh hw hn hf
  have hnl : n < C.hs.length := (List.getElem?_eq_some_iff.1 hh).1
  have hnl' : n < C.obs.length := h.len ▸ hnl
  have get : ∀ (m : Nat) (j : Hd), (C.setO w' n (some o') k').alive m → (C.setO w' n (some o') k').hs[m]? = some j → (m ≠ n ∧ C.alive m ∧ C.hs[m]? = some j) ∨ (m = n ∧ j = k') := by
    intro m j ha hj
    by_cases e : m = n
    · subst e
      exact .inr ⟨rfl, by simpa [Cx.setO, List.getElem?_set, hnl] using hj.symm⟩
    · obtain ⟨o2, ho2⟩ := ha
      exact .inl ⟨e, ⟨o2, by simpa [Cx.setO, List.getElem?_set, Ne.symm e] using ho2⟩, by simpa [Cx.setO, List.getElem?_set, Ne.symm e] using hj⟩
  have an : C.alive n := ⟨o, ho⟩
  exact {
    b0 := h.b0
    os := hw.os.trans h.os
    tape := hw.tape.trans h.tape
    output := hw.output.trans h.output
    size := Nat.le_trans h.size hw.size
    len := by simp [Cx.setO, h.len]
    frame := fun b hlt hp => by
      refine (hw.block b (Nat.lt_of_lt_of_le hlt h.size) fun hb => ?_).trans (h.frame b hlt hp)
      rcases h.new n k an hh b hb with h1 | ⟨_, p, hp1, hp2⟩
      · omega
      · exact hp p hp1 hp2
    objs := fun m o2 j ho2 hj => by
      rcases get m j ⟨o2, ho2⟩ hj with ⟨e, a, hj'⟩ | ⟨rfl, rfl⟩
      · have ho3 : C.obs[m]? = some (some o2) := by simpa [Cx.setO, List.getElem?_set, Ne.symm e] using ho2
        have := h.objs m o2 j ho3 hj'
        exact this.le le fun b hbj => hw.block b (this.lt b hbj) (h.dist m n j k e a an hj' hh b hbj)
      · have : o2 = o' := by simpa [Cx.setO, List.getElem?_set, hnl'] using ho2.symm
        subst this
        exact hor
    dist := fun m l i j hml hm hl hi hj b hbi hbj => by
      have old : ∀ (m : Nat) (i : Hd), m ≠ n → C.alive m → C.hs[m]? = some i → b ∈ i.blks → b ∈ k'.blks → False := by
        intro m i e a hi' hb1 hb2
        rcases hn b hb2 with h1 | h1
        · exact h.dist m n i k e a an hi' hh b hb1 h1
        · obtain ⟨o1, a1⟩ := a
          have := (h.objs m o1 i a1 hi').lt b hb1
          omega
      rcases get m i hm hi with ⟨e1, a1, h1⟩ | ⟨e1, rfl⟩
      · rcases get l j hl hj with ⟨e2, a2, h2⟩ | ⟨e2, rfl⟩
        · exact h.dist m l i j hml a1 a2 h1 h2 b hbi hbj
        · exact old m i e1 a1 h1 hbi hbj
      · rcases get l j hl hj with ⟨e2, a2, h2⟩ | ⟨e2, rfl⟩
        · exact old l j e2 a2 h2 hbj hbi
        · omega
    new := fun m j ha hj b hbj => by
      rcases get m j ha hj with ⟨e1, a1, h1⟩ | ⟨e1, rfl⟩
      · exact h.new m j a1 h1 b hbj
      · rcases hn b hbj with h1 | h1
        · exact e1 ▸ h.new n k an hh b h1
        · exact .inl (Nat.le_trans h.size h1)
    plen := by have := h.plen; simp [Cx.setO]; omega
    parP := fun i b e => by
      have h1 := h.parP i b e
      by_cases em : i = n
      · subst em
        have := hf.2.1 b (by rw [hh] at h1; exact Option.some.inj h1)
        simp [Cx.setO, List.getElem?_set, hnl, this]
      · simpa [Cx.setO, List.getElem?_set, Ne.symm em] using h1
    parB := fun i b u e => by
      obtain ⟨u', h1⟩ := h.parB i b u e
      by_cases em : i = n
      · subst em
        obtain ⟨u2, this⟩ := hf.2.2 b u' (by rw [hh] at h1; exact Option.some.inj h1)
        exact ⟨u2, by simp [Cx.setO, List.getElem?_set, hnl, this]⟩
      · exact ⟨u', by simpa [Cx.setO, List.getElem?_set, Ne.symm em] using h1⟩
    parR := fun i v E sz fr xs e e2 => by
      by_cases em : i = n
      · subst em
        have e' : o' = .row E sz 0 fr xs := by simpa [Cx.setO, List.getElem?_set, hnl'] using e2
        obtain ⟨E2, sz2, γ0, fr2, xs2, h1, h2, h3⟩ := hf.1 E sz 0 fr xs e'
        have g0 : γ0 = 0 := by omega
        subst g0
        have := h.parR i v E2 sz2 fr2 xs2 e (by rw [ho, h1])
        rw [hh] at this
        simp only [Cx.setO]
        rw [List.getElem?_set_self hnl, h3 rfl]
        exact this
      · have e3 : C.obs[i]? = some (some (.row E sz 0 fr xs)) := by simpa [Cx.setO, List.getElem?_set, Ne.symm em] using e2
        have := h.parR i v E sz fr xs e e3
        simpa [Cx.setO, List.getElem?_set, Ne.symm em] using this }

end Go.AM

/- AM, part 3: the state of a function under way, what is forgotten, values read off; the query trees. -/
namespace Go.AM
open Go Go.RowKit

/-- Objects may go. -/
def Cx.sub (C : Cx) (obs' : List (Option Ob)) : Cx := { C with obs := obs' }
def Sub (obs obs' : List (Option Ob)) : Prop := obs'.length = obs.length ∧ ∀ (m : Nat) (o : Ob), obs'[m]? = some (some o) → obs[m]? = some (some o)

theorem Cx.Le.sub {C : Cx} {obs' : List (Option Ob)} (h : Sub C.obs obs') : C.Le (C.sub obs') where
  b0 := rfl
  old := rfl
  len := by simp [Cx.sub, h.1]
  sh := fun fr b hs => ⟨⟨hs.1, fun n k ⟨o, ho⟩ hk => hs.2.1 n k ⟨o, h.2 n o ho⟩ hk, hs.2.2⟩, rfl⟩
  row := fun n E sz γ fr xs _ e => ⟨E, sz, γ, fr, xs, h.2 _ _ e, Nat.le_refl _, fun _ => rfl⟩
  ptr := fun n o _ e => ⟨⟨o, h.2 _ _ e⟩, fun b => ⟨fun g => g, fun u g => ⟨u, g⟩⟩⟩

theorem WOK.sub {w0 : World} {ps : List Hd} {C : Cx} (h : WOK w0 ps C) {obs' : List (Option Ob)} (hs : Sub C.obs obs') : WOK w0 ps (C.sub obs') where
  b0 := h.b0
  os := h.os
  tape := h.tape
  output := h.output
  size := h.size
  len := hs.1.trans h.len
  frame := h.frame
  objs := fun n o k ho hk => (h.objs n o k (hs.2 _ _ ho) hk).le (Cx.Le.sub hs) fun _ _ => rfl
  dist := fun n m i j hnm ⟨o1, h1⟩ ⟨o2, h2⟩ => h.dist n m i j hnm ⟨o1, hs.2 _ _ h1⟩ ⟨o2, hs.2 _ _ h2⟩
  new := fun n k ⟨o, ho⟩ => h.new n k ⟨o, hs.2 _ _ ho⟩
  plen := h.plen
  parP := h.parP
  parB := h.parB
  parR := fun i v E sz fr xs e e2 => h.parR i v E sz fr xs e (hs.2 _ _ e2)

theorem Sub.kill {obs : List (Option Ob)} (n : Nat) : Sub obs (obs.set n none) := by
  refine ⟨by simp, fun m o h => ?_⟩
  by_cases e : n = m
  · subst e
    rw [List.getElem?_set] at h
    split at h
    · split at h <;> simp at h
    · contradiction
  · simpa [List.getElem?_set, e] using h

/- The names that a value bears lie below m. -/
mutual
def AV.lt (m : Nat) : AV → Bool
  | .own n _ => n < m
  | .ptr n _ => n < m
  | .mpv n => n < m
  | .elt n _ _ _ _ => n < m
  | .cut n _ _ _ => n < m
  | .agg fs => AV.ltL m fs
  | .tup fs => AV.ltL m fs
  | .fn _ fs => AV.ltL m fs
  | .when _ a => a.lt m
  | .junk => true
  | .d _ _ => true
  | .sel _ _ => true
def AV.ltL (m : Nat) : List AV → Bool
  | [] => true
  | a :: as => a.lt m && AV.ltL m as
end

end Go.AM
namespace Go.AM
open Go Go.RowKit

/-! ### Labels -/
theorem Dat.RF.weak {C : Cx} {fr g : Bool} {fs : List Dat} {cs : List Value} (h : Dat.RF C.w (C.Sh fr) fs cs) : Dat.RF C.w (C.Sh (fr && g)) fs cs :=
  h.stable (fun b hb => ⟨by cases fr <;> cases g <;> first | exact hb | exact hb.any, rfl⟩)
theorem Dat.RF.weak' {C : Cx} {fr g : Bool} {fs : List Dat} {cs : List Value} (h : Dat.RF C.w (C.Sh fr) fs cs) : Dat.RF C.w (C.Sh (g && fr)) fs cs :=
  h.stable (fun b hb => ⟨by cases fr <;> cases g <;> first | exact hb | exact hb.any, rfl⟩)
theorem Dat.RL.weak {C : Cx} {fr g : Bool} {fs : List Dat} {cs : List Value} (h : Dat.RL C.w (C.Sh fr) fs cs) : Dat.RL C.w (C.Sh (fr && g)) fs cs :=
  h.stable (fun b hb => ⟨by cases fr <;> cases g <;> first | exact hb | exact hb.any, rfl⟩)
theorem Dat.RL.weak' {C : Cx} {fr g : Bool} {fs : List Dat} {cs : List Value} (h : Dat.RL C.w (C.Sh fr) fs cs) : Dat.RL C.w (C.Sh (g && fr)) fs cs :=
  h.stable (fun b hb => ⟨by cases fr <;> cases g <;> first | exact hb | exact hb.any, rfl⟩)

/-! ### Cells of values -/
def AV.cellsOf : AV → Option (List AV)
  | .d fr x => some (x.cells.map (.d fr))
  | .agg fs => some fs
  | .own n γ => some [.own n γ]
  | .ptr n o => some [.ptr n o]
  | .fn f c => some [.fn f c]
  | _ => none

theorem VL.of_RF {C : Cx} {fr : Bool} : ∀ {fs : List Dat} {cs : List Value}, Dat.RF C.w (C.Sh fr) fs cs → AV.VL C (fs.map (.d fr)) cs
  | [], cs, h => by unfold Dat.RF at h; subst h; simp [AV.VL]
  | f :: fs, cs, h => by
    unfold Dat.RF at h
    obtain ⟨c, rest, rfl, h0, h1, h2⟩ := h
    simp only [List.map_cons, AV.VL]
    refine ⟨c, rest, rfl, ?_, VL.of_RF h2⟩
    unfold AV.VR
    exact DV.of_one h1 (fun fs e => by subst e; simp [Dat.nagg] at h0)

theorem DV.nil_cells {w : World} {B : Nat → Prop} {d : Dat} {v : Value} (h : DV w B d v) (hn : d.nagg = true) : v.oneCell' = true ∧ v.cells = #[v] ∧ Dat.R w B d [v] := by
  cases d with
  | agg fs => simp [Dat.nagg] at hn
  | v x =>
    obtain ⟨rfl, h2⟩ := DV.v_iff.1 h
    refine ⟨h2, ?_, h⟩
    cases v <;> first | rfl | simp [Value.oneCell'] at h2
  | sl sz xs =>
    have h' : Dat.R w B (.sl sz xs) [v] := h
    have h2 := h'
    unfold Dat.R at h2
    obtain ⟨A, c, h3, _⟩ := h2
    have e : v = .slice A xs.length c := by simpa using h3
    subst e
    exact ⟨rfl, rfl, h'⟩

theorem oneCell_cells {v : Value} (h : v.oneCell' = true) : v.cells = #[v] := by
  cases v <;> first | rfl | simp [Value.oneCell'] at h

/-- A value's cells, told. -/
theorem VR.cells {C : Cx} {a : AV} {v : Value} (h : a.VR C v) {fs : List AV} (hc : a.cellsOf = some fs)
    (hrow : ∀ n γ, a = .own n γ → ∃ E sz fr xs, C.obs[n]? = some (some (.row E sz γ fr xs)))
    (hptr : ∀ n o, a = .ptr n o → C.alive n) (hwok : ∀ n k, C.hs[n]? = some (Hd.row k) → C.alive n → k.oneCell' = true) :
    AV.VL C fs v.cells.toList ∧ ∀ u ∈ v.cells.toList, u.oneCell' = true := by
  cases a with
  | d fr x =>
    simp only [AV.cellsOf, Option.some.injEq] at hc
    subst hc
    unfold AV.VR at h
    have h1 := Dat.RF.cells.2 h.cells
    exact ⟨VL.of_RF h1, Dat.RF.one _ _ h1⟩
  | agg gs =>
    simp only [AV.cellsOf, Option.some.injEq] at hc
    subst hc
    unfold AV.VR at h
    obtain ⟨cs, rfl, h1, h2⟩ := h
    exact ⟨h1, h2⟩
  | own n γ =>
    simp only [AV.cellsOf, Option.some.injEq] at hc
    subst hc
    obtain ⟨E, sz, fr, xs, e⟩ := hrow n γ rfl
    have h' := h
    unfold AV.VR at h'
    have h1 := (h'.2 _ _ _ _ _ e).2 rfl
    have h2 := hwok n v h1 ⟨_, e⟩
    rw [oneCell_cells h2]
    simp [AV.VL, h, h2]
  | ptr n o =>
    simp only [AV.cellsOf, Option.some.injEq] at hc
    subst hc
    obtain ⟨ob, e⟩ := hptr n o rfl
    have h' := h
    unfold AV.VR at h'
    obtain ⟨b, _, rfl⟩ := h'.2 ob e
    have : (Value.pointer (some ⟨b, o, none⟩)).cells = #[.pointer (some ⟨b, o, none⟩)] := rfl
    rw [this]
    simp [AV.VL, h, Value.oneCell']
  | fn f c =>
    simp only [AV.cellsOf, Option.some.injEq] at hc
    subst hc
    have h' := h
    unfold AV.VR at h'
    obtain ⟨cs, rfl, h2⟩ := h'
    have : (Value.func (.func f) #[] cs).cells = #[.func (.func f) #[] cs] := rfl
    rw [this]
    simp [AV.VL, h, Value.oneCell']
  | _ => simp [AV.cellsOf] at hc

def datas : List AV → Option (Bool × List Dat)
  | [] => some (true, [])
  | .d fr x :: as => if x.nagg then (datas as).map (fun p => (fr && p.1, x :: p.2)) else none
  | _ => none

def mkAgg (fs : List AV) : AV := match datas fs with
  | some (fr, xs) => .d fr (.agg xs)
  | none => .agg fs

theorem RF.of_VL {C : Cx} : ∀ {fs : List AV} {cs : List Value} {fr : Bool} {xs : List Dat}, datas fs = some (fr, xs) → AV.VL C fs cs → Dat.RF C.w (C.Sh fr) xs cs
  | [], cs, fr, xs, h, hv => by
    simp only [datas, Option.some.injEq, Prod.mk.injEq] at h
    unfold AV.VL at hv
    rw [← h.2, hv]
    unfold Dat.RF
    rfl
  | .d g x :: as, cs, fr, xs, h, hv => by
    unfold datas at h
    split at h
    · rename_i hn
      obtain ⟨⟨p1, p2⟩, e1, e2⟩ := Option.map_eq_some_iff.1 h
      simp only [Prod.mk.injEq] at e2
      obtain ⟨rfl, rfl⟩ := e2
      unfold AV.VL at hv
      obtain ⟨v, rest, rfl, h1, h2⟩ := hv
      unfold Dat.RF
      unfold AV.VR at h1
      have h3 := DV.nil_cells h1 hn
      exact ⟨v, rest, rfl, hn, Dat.R.stable (fun b hb => ⟨by cases g <;> cases p1 <;> first | exact hb | exact hb.any, rfl⟩) _ _ h3.2.2, (RF.of_VL e1 h2).weak'⟩
    · simp at h
  | .junk :: as, _, _, _, h, _ => by simp [datas] at h
  | .own _ _ :: as, _, _, _, h, _ => by simp [datas] at h
  | .ptr _ _ :: as, _, _, _, h, _ => by simp [datas] at h
  | .elt _ _ _ _ _ :: as, _, _, _, h, _ => by simp [datas] at h
  | .sel _ _ :: as, _, _, _, h, _ => by simp [datas] at h
  | .agg _ :: as, _, _, _, h, _ => by simp [datas] at h
  | .tup _ :: as, _, _, _, h, _ => by simp [datas] at h
  | .fn _ _ :: as, _, _, _, h, _ => by simp [datas] at h
  | .when _ _ :: as, _, _, _, h, _ => by simp [datas] at h
  | .mpv _ :: as, _, _, _, h, _ => by simp [datas] at h
  | .cut _ _ _ _ :: as, _, _, _, h, _ => by simp [datas] at h

theorem VR.mkAgg {C : Cx} {fs : List AV} {cs : List Value} (h : AV.VL C fs cs) (h1 : ∀ u ∈ cs, u.oneCell' = true) : (mkAgg fs).VR C (.agg cs.toArray) := by
  unfold AM.mkAgg
  split
  · rename_i fr xs e
    unfold AV.VR
    exact ⟨cs.toArray, rfl, by simpa using RF.of_VL e h⟩
  · unfold AV.VR
    exact ⟨cs.toArray, rfl, by simpa using h, by simpa using h1⟩

/-! ### A function under way -/
structure St where
  env : List (Nat × AV)
  obs : List (Option Ob)

def look (t : Nat) : List (Nat × AV) → AV
  | [] => .junk
  | (k, v) :: e => if t = k then v else look t e

def St.put (st : St) (d : Option Nat) (v : AV) : St :=
  match d with
  | some d => ⟨(d, v) :: st.env, st.obs⟩
  | none => st

structure En where
  w0 : World
  old : Nat → Prop
  ps : List Hd
  N : Nat

def St.cx (st : St) (E : En) (w : World) (hs : List Hd) : Cx := ⟨w, E.w0.heap.size, E.old, st.obs, hs⟩

structure Rel (E : En) (st : St) (a : Act) (w : World) (hs : List Hd) : Prop where
  wok : WOK E.w0 E.ps (st.cx E w hs)
  df : a.defers = []
  size : a.tmps.size = E.N
  env : ∀ t, (look t st.env).VR (st.cx E w hs) (a.tmps.getD t undef)

theorem Rel.put {E : En} {st : St} {a : Act} {w : World} {hs : List Hd} (h : Rel E st a w hs) {av : AV} {v : Value} (hv : av.VR (st.cx E w hs) v) (d : Option Nat) (hd : ∀ t, d = some t → t < E.N) :
    Rel E (st.put d av) (a.put d v) w hs := by
  cases d with
  | none => exact h
  | some d =>
    have hd := hd d rfl
    refine ⟨h.wok, h.df, by simp [Act.put, h.size], fun t => ?_⟩
    simp only [St.put, look, Act.put]
    split
    · rename_i e
      subst e
      have : (a.tmps.setIfInBounds t v).getD t undef = v := by
        have : t < a.tmps.size := by rw [h.size]; exact hd
        simp [Array.getElem?_setIfInBounds, this]
      rw [this]
      exact hv
    · rename_i e
      have : (a.tmps.setIfInBounds d v).getD t undef = a.tmps.getD t undef := by
        simp [Array.getElem?_setIfInBounds, Ne.symm e]
      rw [this]
      exact h.env t

/-- The world has turned; what is known stays known. -/
theorem Rel.le {E : En} {st : St} {a : Act} {w : World} {hs : List Hd} (h : Rel E st a w hs) {obs' : List (Option Ob)} {w' : World} {hs' : List Hd}
    (hle : (st.cx E w hs).Le ⟨w', E.w0.heap.size, E.old, obs', hs'⟩) (hwok : WOK E.w0 E.ps ⟨w', E.w0.heap.size, E.old, obs', hs'⟩) : Rel E ⟨st.env, obs'⟩ a w' hs' :=
  ⟨hwok, h.df, h.size, fun t => AV.VR.le hle _ _ (h.env t)⟩


/-! ### data that bears no memory -/
def Dat.isV : Dat → Bool
  | .v _ => true
  | _ => false
def Dat.flat : Dat → Bool
  | .v _ => true
  | .agg fs => fs.all Dat.isV
  | .sl _ _ => false

theorem RF_flat {w w' : World} {B B' : Nat → Prop} : ∀ {fs : List Dat} {cs : List Value}, fs.all Dat.isV = true → Dat.RF w B fs cs → Dat.RF w' B' fs cs
  | [], cs, _, h => by unfold Dat.RF at h ⊢; exact h
  | x :: fs, cs, hf, h => by
    simp only [List.all_cons, Bool.and_eq_true] at hf
    unfold Dat.RF at h ⊢
    obtain ⟨c, rest, e, h0, h1, h2⟩ := h
    refine ⟨c, rest, e, h0, ?_, RF_flat hf.2 h2⟩
    cases x with
    | v x => unfold Dat.R at h1 ⊢; exact h1
    | sl sz xs => simp [Dat.isV] at hf
    | agg fs => simp [Dat.isV] at hf
theorem R_flat {w w' : World} {B B' : Nat → Prop} {x : Dat} {cs : List Value} (hf : x.flat = true) (h : Dat.R w B x cs) : Dat.R w' B' x cs := by
  cases x with
  | v x => unfold Dat.R at h ⊢; exact h
  | agg fs => unfold Dat.R at h ⊢; exact RF_flat hf h
  | sl sz xs => simp [Dat.flat] at hf
theorem RL_allflat {w w' : World} {B B' : Nat → Prop} : ∀ {xs : List Dat} {cs : List Value}, xs.all Dat.flat = true → Dat.RL w B xs cs → Dat.RL w' B' xs cs
  | [], cs, _, h => by unfold Dat.RL at h ⊢; exact h
  | x :: xs, cs, hf, h => by
    simp only [List.all_cons, Bool.and_eq_true] at hf
    unfold Dat.RL at h ⊢
    obtain ⟨c1, c2, e, h1, h2⟩ := h
    exact ⟨c1, c2, e, R_flat hf.1 h1, RL_allflat hf.2 h2⟩
theorem DV_flat {w w' : World} {B B' : Nat → Prop} {x : Dat} {v : Value} (hf : x.flat = true) (h : DV w B x v) : DV w' B' x v := by
  cases x with
  | v x => exact DV.v_iff.2 (DV.v_iff.1 h)
  | agg fs =>
    obtain ⟨cs, e, h2⟩ := h
    exact ⟨cs, e, RF_flat hf h2⟩
  | sl sz xs => simp [Dat.flat] at hf

end Go.AM

/- AM, part 4: types, query trees, what an operation comes to. -/
namespace Go.AM
open Go Go.RowKit

/-! ### Types -/
inductive KD where
  | int (k : IntKind)
  | bool
  | str
  | slice (e : Nat)
  | ptr (e : Nat)
  | struct (fs : List (Nat × Nat))
  | arr (n e : Nat)
  | map (ks : List IntKind) (kv : IntKind)
  | other

structure TI where
  desc : KD
  size : Nat
  bytes : Nat
  zero : List Value

def TI.none : TI := ⟨.other, 0, 0, []⟩

def KD.agg : KD → Bool
  | .struct _ => true
  | .arr _ _ => true
  | _ => false

def KD.ok (P : Program) (t : Nat) : KD → Prop
  | .int k => P.underlying t = some (.int k)
  | .bool => P.underlying t = some .bool
  | .str => P.underlying t = some .string
  | .slice e => P.underlying t = some (.slice e)
  | .ptr e => P.underlying t = some (.pointer e)
  | .struct fs => ∃ fields, P.underlying t = some (.struct fields) ∧ (fields.toList.map fun f => (f.offset, f.type)) = fs
  | .arr n e => P.underlying t = some (.array n e)
  | .map ks kv => ∃ k e, P.underlying t = some (.map k e) ∧ WideMaps.KeyLaw P k ∧ (∀ xs, KeyFits ks xs → ∃ l, keyOf P k (keyV ks xs) = some l) ∧ ∀ w, (zeroValue e).run P w = .ok (.int kv 0) w
  | .other => False

def TI.ok (P : Program) (t : Nat) (i : TI) : Prop :=
  i.desc.ok P t ∧ (∃ info, P.info? t = some info ∧ info.size = i.size ∧ info.bytes = i.bytes ∧ ∃ z, info.zero = some z ∧ z.cells.toList = i.zero) ∧ (∀ u ∈ i.zero, u.oneCell' = true)

def TabOK (P : Program) (T : Nat → TI) : Prop := ∀ t, (T t).desc ≠ .other → (T t).ok P t

/-! ### Query trees -/
def SpecEqT := FuncId → List AV → AV → Prop

inductive Q where
  | slot (t : Nat) (k : AV → Q)
  | slotW (t : Nat) (k : AV → Q)
  | obj (n : Nat) (k : Ob → Q)
  | fresh (k : Nat → Q)
  | side (p : Prop) (k : Q)
  | call (f : FuncId) (args : List AV) (k : AV → Q)
  | fin (v : AV) (ups : List (Nat × Ob)) (news : List Ob)
  | bad

def Knows (st : St) (t : Nat) (a : AV) : Prop := look t st.env = a ∨ ∃ c, look t st.env = .when c a ∧ c = true

/-- What a tree comes to. -/
def Q.Runs (S : SpecEqT) : Q → St → AV → List (Nat × Ob) → List Ob → Prop
  | .slot t k, st, v, u, n => ∃ a, Knows st t a ∧ (k a).Runs S st v u n
  | .slotW t k, st, v, u, n => (k (look t st.env)).Runs S st v u n
  | .obj m k, st, v, u, n => ∃ o, st.obs[m]? = some (some o) ∧ (k o).Runs S st v u n
  | .fresh k, st, v, u, n => (k st.obs.length).Runs S st v u n
  | .side p k, st, v, u, n => p ∧ k.Runs S st v u n
  | .call f args k, st, v, u, n => ∃ r, S f args r ∧ (k r).Runs S st v u n
  | .fin v' u' n', st, v, u, n => v = v' ∧ u = u' ∧ n = n'
  | .bad, _, _, _, _ => False

/-- The same for evaluation: c: the guard. -/
def Q.run (S : SpecEqT) (c : Bool) : Q → St → (AV → List (Nat × Ob) → List Ob → Prop) → Prop
  | .slot t k, st, K => match look t st.env with
    | .when c' a => (c = true → c' = true) ∧ (k a).run S c st K
    | a => (k a).run S c st K
  | .slotW t k, st, K => (k (look t st.env)).run S c st K
  | .obj m k, st, K => match st.obs.getD m none with
    | some o => (k o).run S c st K
    | none => False
  | .fresh k, st, K => (k st.obs.length).run S c st K
  | .side p k, st, K => (c = true → p) ∧ k.run S c st K
  | .call f args k, st, K => ∃ r, (c = true → S f args r) ∧ (k r).run S c st K
  | .fin v u n, st, K => K v u n
  | .bad, _, _ => False

theorem Q.run_runs {S : SpecEqT} {c : Bool} (hc : c = true) : ∀ {q : Q} {st : St} {K : AV → List (Nat × Ob) → List Ob → Prop}, q.run S c st K → ∃ v u n, q.Runs S st v u n ∧ K v u n
  | .slot t k, st, K, h => by
    unfold Q.run at h
    split at h
    · rename_i c' a e
      obtain ⟨v, u, n, h1, h2⟩ := Q.run_runs hc h.2
      exact ⟨v, u, n, by unfold Q.Runs; exact ⟨a, .inr ⟨c', e, h.1 hc⟩, h1⟩, h2⟩
    · obtain ⟨v, u, n, h1, h2⟩ := Q.run_runs hc h
      exact ⟨v, u, n, by unfold Q.Runs; exact ⟨_, .inl rfl, h1⟩, h2⟩
  | .slotW t k, st, K, h => by
    unfold Q.run at h
    obtain ⟨v, u, n, h1, h2⟩ := Q.run_runs hc h
    exact ⟨v, u, n, by unfold Q.Runs; exact h1, h2⟩
  | .obj m k, st, K, h => by
    unfold Q.run at h
    split at h
    · rename_i o e
      obtain ⟨v, u, n, h1, h2⟩ := Q.run_runs hc h
      refine ⟨v, u, n, ?_, h2⟩
      unfold Q.Runs
      refine ⟨o, ?_, h1⟩
      rw [List.getD_eq_getElem?_getD] at e
      cases hq : st.obs[m]? with
      | none => simp [hq] at e
      | some x => simp [hq] at e; rw [e]
    · exact h.elim
  | .fresh k, st, K, h => by
    unfold Q.run at h
    obtain ⟨v, u, n, h1, h2⟩ := Q.run_runs hc h
    exact ⟨v, u, n, by unfold Q.Runs; exact h1, h2⟩
  | .side p k, st, K, h => by
    unfold Q.run at h
    obtain ⟨v, u, n, h1, h2⟩ := Q.run_runs hc h.2
    exact ⟨v, u, n, by unfold Q.Runs; exact ⟨h.1 hc, h1⟩, h2⟩
  | .call f args k, st, K, h => by
    unfold Q.run at h
    obtain ⟨r, hr, h⟩ := h
    obtain ⟨v, u, n, h1, h2⟩ := Q.run_runs hc h
    exact ⟨v, u, n, by unfold Q.Runs; exact ⟨r, hr hc, h1⟩, h2⟩
  | .fin v u n, st, K, h => ⟨v, u, n, by unfold Q.Runs; exact ⟨rfl, rfl, rfl⟩, by unfold Q.run at h; exact h⟩
  | .bad, _, _, h => by unfold Q.run at h; exact h.elim

theorem Knows.vr {E : En} {st : St} {a : Act} {w : World} {hs : List Hd} (h : Rel E st a w hs) {t : Nat} {av : AV} (hk : Knows st t av) : av.VR (st.cx E w hs) (a.tmps.getD t undef) := by
  rcases hk with rfl | ⟨c, e, hc⟩
  · exact h.env t
  · have := h.env t
    rw [e] at this
    unfold AV.VR at this
    exact this.1 hc

/-- What follows is not looked at (by simp) before the value is known: the mark's type bears it. -/
inductive Tok (k : AV → Q) : Type where
  | mk
def lazy (k : AV → Q) (u : Tok k) : AV → Q := k
theorem lazy_app {k : AV → Q} {u : Tok k} : lazy k u .junk = k .junk ∧ (∀ fr x, lazy k u (.d fr x) = k (.d fr x)) ∧ (∀ n γ, lazy k u (.own n γ) = k (.own n γ)) ∧ (∀ n off, lazy k u (.ptr n off) = k (.ptr n off)) ∧ (∀ n γ sz i off, lazy k u (.elt n γ sz i off) = k (.elt n γ sz i off)) ∧
    (∀ fr cs, lazy k u (.sel fr cs) = k (.sel fr cs)) ∧ (∀ fs, lazy k u (.agg fs) = k (.agg fs)) ∧ (∀ vs, lazy k u (.tup vs) = k (.tup vs)) ∧ (∀ f cs, lazy k u (.fn f cs) = k (.fn f cs)) ∧ (∀ c a, lazy k u (.when c a) = k (.when c a)) ∧ (∀ n, lazy k u (.mpv n) = k (.mpv n)) ∧ (∀ n γ sz i, lazy k u (.cut n γ sz i) = k (.cut n γ sz i)) :=
  ⟨rfl, fun _ _ => rfl, fun _ _ => rfl, fun _ _ => rfl, fun _ _ _ _ _ => rfl, fun _ _ => rfl, fun _ => rfl, fun _ => rfl, fun _ _ => rfl, fun _ _ => rfl, fun _ => rfl, fun _ _ _ _ => rfl⟩
/-- The same for an object. -/
structure TokO (k : Ob → Q) : Type where
  mk ::
def lazyO (k : Ob → Q) (u : TokO k) : Ob → Q := k
theorem lazyO_app {k : Ob → Q} {u : TokO k} : (∀ E sz γ fr xs, lazyO k u (.row E sz γ fr xs) = k (.row E sz γ fr xs)) ∧ (∀ E cs, lazyO k u (.cells E cs) = k (.cells E cs)) ∧ (∀ E Er z xs, lazyO k u (.buf E Er z xs) = k (.buf E Er z xs)) ∧ (∀ ks kv es, lazyO k u (.mp ks kv es) = k (.mp ks kv es)) :=
  ⟨fun _ _ _ _ _ => rfl, fun _ _ => rfl, fun _ _ _ _ => rfl, fun _ _ _ => rfl⟩

def Q.opnd (x : Operand) (k : AV → Q) : Q :=
  match x with
  | .tmp t => .slot t (lazy k .mk)
  | .const c => if c.oneCell' then k (.d true (.v c)) else .bad
  | .func f => k (.fn f [])
  | .global _ => .bad

theorem opnd_sound {S : SpecEqT} {E : En} {st : St} {a : Act} {w : World} {hs : List Hd} (h : Rel E st a w hs) {x : Operand} {k : AV → Q} {v : AV} {u : List (Nat × Ob)} {n : List Ob}
    (hr : (Q.opnd x k).Runs S st v u n) : ∃ av : AV, av.VR (st.cx E w hs) (a.eval x) ∧ (k av).Runs S st v u n := by
  cases x with
  | tmp t =>
    unfold Q.opnd Q.Runs at hr
    obtain ⟨av, h1, h2⟩ := hr
    exact ⟨av, Knows.vr h h1, h2⟩
  | const c =>
    simp only [Q.opnd] at hr
    split at hr
    · rename_i hc
      exact ⟨_, by unfold AV.VR; exact DV.v_iff.2 ⟨rfl, hc⟩, hr⟩
    · unfold Q.Runs at hr; exact hr.elim
  | func f =>
    simp only [Q.opnd] at hr
    exact ⟨_, by unfold AV.VR; exact ⟨#[], rfl, by simp [AV.VL]⟩, hr⟩
  | global g => simp only [Q.opnd] at hr; unfold Q.Runs at hr; exact hr.elim

/-- The state that an operation leaves. -/
def St.upd (st : St) (d : Option Nat) (v : AV) (u : List (Nat × Ob)) (n : List Ob) : St :=
  ⟨(st.put d v).env, (u.foldl (fun os p => os.set p.1 (some p.2)) st.obs) ++ n.map some⟩

theorem St.upd_nil (st : St) (d : Option Nat) (v : AV) : st.upd d v [] [] = st.put d v := by
  cases d <;> simp [St.upd, St.put]

/-- An operation goes well: it leaves the state that is told. -/
def OpOK (P : Program) (E : En) (o : Oper) (st : St) (a : Act) (w : World) (hs : List Hd) (v : AV) (u : List (Nat × Ob)) (n : List Ob) : Prop :=
  ∀ (Kp : Act → World → Prop) (Q : Exit → Act → World → Prop), (∀ a' w' hs', Rel E (st.upd o.dst v u n) a' w' hs' → Kp a' w') → o.wp P a w Kp Q

/-- A value, the world as it was. -/
theorem OpOK.pure {P : Program} {E : En} {o : Oper} {st : St} {a : Act} {w : World} {hs : List Hd} (h : Rel E st a w hs) (hd : ∀ t, o.dst = some t → t < E.N) {v : Value} {av : AV}
    (hv : av.VR (st.cx E w hs) v) (hrun : (execOp a.eval o).run P w = .ok (.value v) w) : OpOK P E o st a w hs av [] [] := by
  intro Kp Q hK
  unfold Oper.wp
  rw [hrun, Oper.upon_value]
  exact hK _ _ hs (by rw [St.upd_nil]; exact h.put hv o.dst hd)

/-! ### Operations on whole numbers -/
def Q.ret (x : Value) : Q := .fin (.d true (.v x)) [] []

def bits (op : BinOp) (k : IntKind) (a b : Int) : Int :=
  let x := BitVec.ofInt k.bits a
  let y := BitVec.ofInt k.bits b
  k.wrap (match op with
    | .and => (x &&& y).toNat
    | .or => (x ||| y).toNat
    | .xor => (x ^^^ y).toNat
    | _ => (x &&& ~~~y).toNat)

def binI (op : BinOp) (k : IntKind) (a : Int) (k' : IntKind) (b : Int) : Q :=
  match op with
  | .shl => .side (0 ≤ b) (Q.ret (.int k (k.wrap (a * 2 ^ min b.toNat k.bits))))
  | .shr => .side (0 ≤ b) (Q.ret (.int k (a.fdiv (2 ^ min b.toNat k.bits))))
  | _ => if k = k' then (match op with
    | .add => Q.ret (.int k (k.wrap (a + b)))
    | .sub => Q.ret (.int k (k.wrap (a - b)))
    | .mul => Q.ret (.int k (k.wrap (a * b)))
    | .quo => .side (b ≠ 0) (Q.ret (.int k (k.wrap (a.tdiv b))))
    | .rem => .side (b ≠ 0) (Q.ret (.int k (a.tmod b)))
    | .and => Q.ret (.int k (bits .and k a b))
    | .or => Q.ret (.int k (bits .or k a b))
    | .xor => Q.ret (.int k (bits .xor k a b))
    | .andNot => Q.ret (.int k (bits .andNot k a b))
    | .eql => Q.ret (.bool (a == b))
    | .neq => Q.ret (.bool (a != b))
    | .lss => Q.ret (.bool (decide (a < b)))
    | .leq => Q.ret (.bool (decide (a ≤ b)))
    | .gtr => Q.ret (.bool (decide (a > b)))
    | .geq => Q.ret (.bool (decide (a ≥ b)))
    | _ => .bad) else .bad

theorem run_eqGuard_int {P : Program} (op : BinOp) (t : TypeId) (x y : Operand) (k k' : IntKind) (a b : Int) (w : World) :
    (eqGuard op t x y (.int k a) (.int k' b)).run P w = .ok () w := by
  unfold eqGuard
  cases op <;> simp

theorem ret_runs {S : SpecEqT} {st : St} {x : Value} {v : AV} {u : List (Nat × Ob)} {n : List Ob} (h : (Q.ret x).Runs S st v u n) : v = .d true (.v x) ∧ u = [] ∧ n = [] := by
  unfold Q.ret Q.Runs at h
  exact h

theorem binI_sound {P : Program} {S : SpecEqT} {st : St} {op : BinOp} {k k' : IntKind} {a b : Int} {v : AV} {u : List (Nat × Ob)} {n : List Ob} (h : (binI op k a k' b).Runs S st v u n) (t : TypeId) (w : World) :
    ∃ x : Value, x.oneCell' = true ∧ v = .d true (.v x) ∧ u = [] ∧ n = [] ∧ (binOp op t (.int k a) (.int k' b)).run P w = .ok x w := by
  unfold binI at h
  split at h
  · unfold Q.Runs at h
    obtain ⟨h0, h⟩ := h
    obtain ⟨rfl, rfl, rfl⟩ := ret_runs h
    exact ⟨_, rfl, rfl, rfl, rfl, by simp [binOp, Op.shift, Int.not_lt.2 h0]⟩
  · unfold Q.Runs at h
    obtain ⟨h0, h⟩ := h
    obtain ⟨rfl, rfl, rfl⟩ := ret_runs h
    exact ⟨_, rfl, rfl, rfl, rfl, by simp [binOp, Op.shift, Int.not_lt.2 h0]⟩
  · split at h
    · rename_i hk
      subst hk
      split at h <;> first
        | (obtain ⟨rfl, rfl, rfl⟩ := ret_runs h; exact ⟨_, rfl, rfl, rfl, rfl, by simp [binOp, Op.intArith, Op.intBits, Op.intCmp, bits]⟩)
        | (unfold Q.Runs at h
           obtain ⟨h0, h⟩ := h
           obtain ⟨rfl, rfl, rfl⟩ := ret_runs h
           exact ⟨_, rfl, rfl, rfl, rfl, by simp [binOp, Op.intDiv, h0]⟩)
        | (unfold Q.Runs at h; exact h.elim)
    · unfold Q.Runs at h; exact h.elim

end Go.AM

/- AM, part 5: operations without memory. -/
namespace Go.AM
open Go Go.RowKit

section
variable {P : Program} {S : SpecEqT} {E : En} {st : St} {a : Act} {w : World} {hs : List Hd} {o : Oper} {v : AV} {u : List (Nat × Ob)} {n : List Ob} {T : Nat → TI}

/-! ### move, assign -/
def opMove (x : Operand) : Q := Q.opnd x fun v => .fin v [] []

theorem opMove_sound (h : Rel E st a w hs) (hd : ∀ t, o.dst = some t → t < E.N) {x : Operand} (ho : o.op = .move x ∨ o.op = .assign x) (hr : (opMove x).Runs S st v u n) : OpOK P E o st a w hs v u n := by
  replace hr := opnd_sound h hr; obtain ⟨av, hv, hr⟩ := hr
  unfold Q.Runs at hr
  obtain ⟨rfl, rfl, rfl⟩ := hr
  exact OpOK.pure h hd hv (by rcases ho with ho | ho <;> simp [execOp, ho])

/-! ### pick -/
def boolOf : AV → Option (Bool × Bool)
  | .d _ (.v (.bool b)) => some (true, b)
  | .when c (.d _ (.v (.bool b))) => some (c, b)
  | _ => none

def selB (c x y : Bool) : Bool := if c then x else y
theorem selB_and (c x : Bool) : selB c x false = (c && x) := by cases c <;> rfl
theorem selB_or (c y : Bool) : selB c true y = (c || y) := by cases c <;> rfl

def Q.opndW (x : Operand) (k : AV → Q) : Q :=
  match x with
  | .tmp t => .slotW t (lazy k .mk)
  | .const c => if c.oneCell' then k (.d true (.v c)) else .bad
  | _ => .bad

def pickV (c : Bool) (av bv : AV) : Q :=
  match boolOf av with
  | some (ca, x) => match boolOf bv with
    | some (cb, y) => .side (c = true → ca = true) (.side (c = false → cb = true) (Q.ret (.bool (selB c x y))))
    | none => .bad
  | none => .bad

def opPick (c x y : Operand) : Q := Q.opnd c fun cv => match cv with
  | .d _ (.v (.bool c)) => Q.opndW x fun av => Q.opndW y fun bv => pickV c av bv
  | _ => .bad

theorem opndW_sound (h : Rel E st a w hs) {x : Operand} {k : AV → Q} (hr : (Q.opndW x k).Runs S st v u n) : ∃ av : AV, av.VR (st.cx E w hs) (a.eval x) ∧ (k av).Runs S st v u n := by
  cases x with
  | tmp t =>
    unfold Q.opndW Q.Runs at hr
    exact ⟨_, h.env t, hr⟩
  | const c =>
    simp only [Q.opndW] at hr
    split at hr
    · rename_i hc
      exact ⟨_, by unfold AV.VR; exact DV.v_iff.2 ⟨rfl, hc⟩, hr⟩
    · unfold Q.Runs at hr; exact hr.elim
  | func f => simp only [Q.opndW] at hr; unfold Q.Runs at hr; exact hr.elim
  | global g => simp only [Q.opndW] at hr; unfold Q.Runs at hr; exact hr.elim

theorem boolOf_sound {C : Cx} {av : AV} {x : Value} {c b : Bool} (h : av.VR C x) (e : boolOf av = some (c, b)) (hc : c = true) : x = .bool b := by
  unfold boolOf at e
  split at e
  · simp only [Option.some.injEq, Prod.mk.injEq] at e
    unfold AV.VR at h
    rw [← e.2]
    exact (DV.v_iff.1 h).1
  · simp only [Option.some.injEq, Prod.mk.injEq] at e
    unfold AV.VR at h
    have := h.1 (e.1.trans hc)
    unfold AV.VR at this
    rw [← e.2]
    exact (DV.v_iff.1 this).1
  · simp at e

theorem vr_int {C : Cx} {fr : Bool} {x y : Value} (h : (AV.d fr (.v y)).VR C x) : x = y := by unfold AV.VR at h; exact (DV.v_iff.1 h).1
theorem vr_v {C : Cx} {y : Value} (h : y.oneCell' = true) : (AV.d true (.v y)).VR C y := by unfold AV.VR; exact DV.v_iff.2 ⟨rfl, h⟩

theorem opPick_sound (h : Rel E st a w hs) (hd : ∀ t, o.dst = some t → t < E.N) {c x y : Operand} (ho : o.op = .pick c x y) (hr : (opPick c x y).Runs S st v u n) : OpOK P E o st a w hs v u n := by
  replace hr := opnd_sound h hr; obtain ⟨cv, hc, hr⟩ := hr
  split at hr
  · rename_i fr cb
    replace hr := opndW_sound h hr; obtain ⟨av, hav, hr⟩ := hr
    replace hr := opndW_sound h hr; obtain ⟨bv, hbv, hr⟩ := hr
    unfold pickV at hr
    split at hr
    · rename_i ca x' e1
      split at hr
      · rename_i cb' y' e2
        unfold Q.Runs at hr
        obtain ⟨h1, hr⟩ := hr
        unfold Q.Runs at hr
        obtain ⟨h2, hr⟩ := hr
        obtain ⟨rfl, rfl, rfl⟩ := ret_runs hr
        have ec := vr_int hc
        refine OpOK.pure h hd (vr_v rfl) ?_
        simp only [execOp, ho, ec, asBool, Sem.run_bind, Sem.run_pure, Result.andThen_ok]
        cases cb with
        | true => simp [boolOf_sound hav e1 (h1 rfl), selB]
        | false => simp [boolOf_sound hbv e2 (h2 rfl), selB]
      · unfold Q.Runs at hr; exact hr.elim
    · unfold Q.Runs at hr; exact hr.elim
  · unfold Q.Runs at hr; exact hr.elim

/-! ### binOp -/
def binS (op : BinOp) (s t : ByteArray) : Q :=
  match op with
  | .add => .side (((s.size + t.size : Nat) : Int) ≤ IntKind.i64.max) (Q.ret (.string (s ++ t)))
  | .eql => Q.ret (.bool (s.toList == t.toList))
  | .neq => Q.ret (.bool (!(s.toList == t.toList)))
  | .lss => Q.ret (.bool (Op.bytesLess s.toList t.toList))
  | .leq => Q.ret (.bool (Op.bytesLess s.toList t.toList || s.toList == t.toList))
  | .gtr => Q.ret (.bool (!(Op.bytesLess s.toList t.toList || s.toList == t.toList)))
  | .geq => Q.ret (.bool (!Op.bytesLess s.toList t.toList))
  | _ => .bad

theorem binS_sound {op : BinOp} {s t : ByteArray} (h : (binS op s t).Runs S st v u n) (ty : TypeId) (w : World) :
    ∃ x : Value, x.oneCell' = true ∧ v = .d true (.v x) ∧ u = [] ∧ n = [] ∧ (binOp op ty (.string s) (.string t)).run P w = .ok x w := by
  unfold binS at h
  split at h <;> first
    | (obtain ⟨rfl, rfl, rfl⟩ := ret_runs h; exact ⟨_, rfl, rfl, rfl, rfl, by simp [binOp, Op.stringOp]⟩)
    | (unfold Q.Runs at h
       obtain ⟨h0, h⟩ := h
       obtain ⟨rfl, rfl, rfl⟩ := ret_runs h
       exact ⟨_, rfl, rfl, rfl, rfl, by simp only [binOp, Op.stringOp]; rw [if_neg (by omega)]; rfl⟩)
    | (unfold Q.Runs at h; exact h.elim)

def binV (T : Nat → TI) (op : BinOp) (t : Nat) (x y : AV) : Q :=
  match x with
  | .d _ (.v (.int k a)) => (match y with
    | .d _ (.v (.int k' b)) => binI op k a k' b
    | _ => .bad)
  | .d _ (.v (.string s)) => (match y with
    | .d _ (.v (.string s')) => binS op s s'
    | _ => .bad)
  | .d _ (.v (.bool p)) => (match y, (T t).desc, op with
    | .d _ (.v (.bool q)), .bool, .eql => Q.ret (.bool (p == q))
    | .d _ (.v (.bool q)), .bool, .neq => Q.ret (.bool (p != q))
    | _, _, _ => .bad)
  | .ptr m _ => (match y, (T t).desc, op with
    | .d _ (.v (.pointer none)), .ptr _, .eql => .obj m fun _ => Q.ret (.bool false)
    | .d _ (.v (.pointer none)), .ptr _, .neq => .obj m fun _ => Q.ret (.bool true)
    | _, _, _ => .bad)
  | _ => .bad

def opBin (T : Nat → TI) (op : BinOp) (t : Nat) (x y : Operand) : Q := Q.opnd x fun a => Q.opnd y fun b => binV T op t a b

theorem pointee_of {t e : TypeId} (h : P.underlying t = some (.pointer e)) : P.underlying t = some (.pointer (P.pointee t)) := by
  have : P.pointee t = e := by simp [Program.pointee, h]
  rw [this]; exact h

theorem opBin_sound (hT : TabOK P T) (h : Rel E st a w hs) (hd : ∀ t, o.dst = some t → t < E.N) {op : BinOp} {t t' : TypeId} {x y : Operand} (ho : o.op = .binOp op t x y t') (hr : (opBin T op t x y).Runs S st v u n) : OpOK P E o st a w hs v u n := by
  replace hr := opnd_sound h hr; obtain ⟨av, hav, hr⟩ := hr
  replace hr := opnd_sound h hr; obtain ⟨bv, hbv, hr⟩ := hr
  unfold binV at hr
  split at hr
  · split at hr
    · rename_i k p _ k' q
      obtain ⟨z, h1, rfl, rfl, rfl, h5⟩ := binI_sound (P := P) hr t w
      refine OpOK.pure h hd (vr_v h1) ?_
      simp only [execOp, ho, vr_int hav, vr_int hbv, Sem.run_bind, run_eqGuard_int, Result.andThen_ok, h5, Sem.run_pure]
    · unfold Q.Runs at hr; exact hr.elim
  · split at hr
    · rename_i s _ _ s'
      obtain ⟨z, h1, rfl, rfl, rfl, h5⟩ := binS_sound (P := P) hr t w
      refine OpOK.pure h hd (vr_v h1) ?_
      have hg : (eqGuard op t x y (.string s) (.string s')).run P w = .ok () w := by unfold eqGuard; cases op <;> simp
      simp only [execOp, ho, vr_int hav, vr_int hbv, Sem.run_bind, hg, Result.andThen_ok, h5, Sem.run_pure]
    · unfold Q.Runs at hr; exact hr.elim
  · rename_i p
    have ea := vr_int hav
    split at hr
    · rename_i q e1
      obtain ⟨rfl, rfl, rfl⟩ := ret_runs hr
      refine OpOK.pure h hd (vr_v rfl) ?_
      obtain ⟨h1, _⟩ := hT t (by rw [e1]; simp)
      rw [e1] at h1
      have hg : (eqGuard .eql t x y (.bool p) (.bool q)).run P w = .ok () w := by unfold eqGuard; simp
      simp only [execOp, ho, ea, vr_int hbv, Sem.run_bind, hg, Result.andThen_ok, Sem.run_pure, run_eql_bool w t p q h1]
    · rename_i q e1
      obtain ⟨rfl, rfl, rfl⟩ := ret_runs hr
      refine OpOK.pure h hd (vr_v rfl) ?_
      obtain ⟨h1, _⟩ := hT t (by rw [e1]; simp)
      rw [e1] at h1
      have hg : (eqGuard .neq t x y (.bool p) (.bool q)).run P w = .ok () w := by unfold eqGuard; simp
      simp only [execOp, ho, ea, vr_int hbv, Sem.run_bind, hg, Result.andThen_ok, Sem.run_pure, run_neq_bool w t p q h1]
      rfl
    · unfold Q.Runs at hr; exact hr.elim
  · rename_i m off
    have ea := hav
    unfold AV.VR at ea
    split at hr
    · rename_i e e1
      unfold Q.Runs at hr
      obtain ⟨ob, hob, hr⟩ := hr
      obtain ⟨rfl, rfl, rfl⟩ := ret_runs hr
      refine OpOK.pure h hd (vr_v rfl) ?_
      obtain ⟨b, _, eb⟩ := ea.2 ob hob
      obtain ⟨h1, _⟩ := hT t (by rw [e1]; simp)
      rw [e1] at h1
      have hg : (eqGuard .eql t x y (.pointer (some ⟨b, off, none⟩)) (.pointer none)).run P w = .ok () w := by unfold eqGuard; simp
      simp only [execOp, ho, eb, vr_int hbv, Sem.run_bind, hg, Result.andThen_ok, Sem.run_pure, run_eql_pointer_nil w t _ (pointee_of h1)]
      rfl
    · rename_i e e1
      unfold Q.Runs at hr
      obtain ⟨ob, hob, hr⟩ := hr
      obtain ⟨rfl, rfl, rfl⟩ := ret_runs hr
      refine OpOK.pure h hd (vr_v rfl) ?_
      obtain ⟨b, _, eb⟩ := ea.2 ob hob
      obtain ⟨h1, _⟩ := hT t (by rw [e1]; simp)
      rw [e1] at h1
      have hg : (eqGuard .neq t x y (.pointer (some ⟨b, off, none⟩)) (.pointer none)).run P w = .ok () w := by unfold eqGuard; simp
      simp only [execOp, ho, eb, vr_int hbv, Sem.run_bind, hg, Result.andThen_ok, Sem.run_pure, run_neq_pointer_nil w t _ (pointee_of h1)]
      rfl
    · unfold Q.Runs at hr; exact hr.elim
  · unfold Q.Runs at hr; exact hr.elim

/-! ### unOp -/
def opUn (op : UnOp) (x : Operand) : Q := Q.opnd x fun a => match op, a with
  | .not, .d _ (.v (.bool b)) => Q.ret (.bool (!b))
  | .neg, .d _ (.v (.int k m)) => Q.ret (.int k (k.wrap (0 - m)))
  | _, _ => .bad

theorem opUn_sound (h : Rel E st a w hs) (hd : ∀ t, o.dst = some t → t < E.N) {op : UnOp} {t : TypeId} {x : Operand} (ho : o.op = .unOp op t x) (hr : (opUn op x).Runs S st v u n) : OpOK P E o st a w hs v u n := by
  replace hr := opnd_sound h hr; obtain ⟨av, hav, hr⟩ := hr
  split at hr
  · obtain ⟨rfl, rfl, rfl⟩ := ret_runs hr
    exact OpOK.pure h hd (vr_v rfl) (by simp only [execOp, ho, vr_int hav, Op.unary, Sem.run_bind, Sem.run_pure, Result.andThen_ok])
  · obtain ⟨rfl, rfl, rfl⟩ := ret_runs hr
    exact OpOK.pure h hd (vr_v rfl) (by simp only [execOp, ho, vr_int hav, Op.unary, Op.intArith, Sem.run_bind, Sem.run_pure, Result.andThen_ok])
  · unfold Q.Runs at hr; exact hr.elim

/-! ### extract -/
def opExtract (x : Operand) (i : Nat) : Q := Q.opnd x fun a => match a with
  | .tup vs => (match vs[i]? with
    | some v => .fin v [] []
    | none => .bad)
  | _ => .bad

theorem VL.get {C : Cx} : ∀ {as : List AV} {vs : List Value} {i : Nat} {x : AV}, AV.VL C as vs → as[i]? = some x → ∃ y, vs[i]? = some y ∧ x.VR C y
  | [], _, _, _, _, e => by simp at e
  | a :: as, vs, i, x, h, e => by
    unfold AV.VL at h
    obtain ⟨v, rest, rfl, h1, h2⟩ := h
    cases i with
    | zero => simp at e; subst e; exact ⟨v, by simp, h1⟩
    | succ i => simpa using VL.get h2 (by simpa using e)

theorem VL.len {C : Cx} : ∀ {as : List AV} {vs : List Value}, AV.VL C as vs → vs.length = as.length
  | [], _, h => by unfold AV.VL at h; simp [h]
  | a :: as, vs, h => by
    unfold AV.VL at h
    obtain ⟨v, rest, rfl, h1, h2⟩ := h
    simp [VL.len h2]

theorem opExtract_sound (h : Rel E st a w hs) (hd : ∀ t, o.dst = some t → t < E.N) {x : Operand} {i : Nat} (ho : o.op = .extract x i) (hr : (opExtract x i).Runs S st v u n) : OpOK P E o st a w hs v u n := by
  replace hr := opnd_sound h hr; obtain ⟨av, hav, hr⟩ := hr
  split at hr
  · split at hr
    · rename_i vs y e
      unfold Q.Runs at hr
      obtain ⟨rfl, rfl, rfl⟩ := hr
      unfold AV.VR at hav
      obtain ⟨cs, e2, hl⟩ := hav
      obtain ⟨z, ez, hz⟩ := VL.get hl e
      refine OpOK.pure h hd hz ?_
      have ez' : cs[i]? = some z := by simpa using ez
      simp only [execOp, ho, e2, Instr.extract, ez', Sem.run_bind, Sem.run_pure, Result.andThen_ok]
    · unfold Q.Runs at hr; exact hr.elim
  · unfold Q.Runs at hr; exact hr.elim

/-! ### nilCheck -/
def opNil (x : Operand) : Q := Q.opnd x fun a => match a with
  | .ptr m off => .obj m fun _ => .fin (.ptr m off) [] []
  | .sel fr cs => .fin (.sel fr cs) [] []
  | _ => .bad

theorem opNil_sound (h : Rel E st a w hs) (hd : ∀ t, o.dst = some t → t < E.N) {x : Operand} (ho : o.op = .nilCheck x) (hr : (opNil x).Runs S st v u n) : OpOK P E o st a w hs v u n := by
  replace hr := opnd_sound h hr; obtain ⟨av, hav, hr⟩ := hr
  split at hr
  · unfold Q.Runs at hr
    obtain ⟨ob, hob, hr⟩ := hr
    unfold Q.Runs at hr
    obtain ⟨rfl, rfl, rfl⟩ := hr
    have h' := hav
    unfold AV.VR at h'
    obtain ⟨b, _, eb⟩ := h'.2 ob hob
    exact OpOK.pure h hd hav (by simp only [execOp, ho, eb, Sem.run_pure])
  · unfold Q.Runs at hr
    obtain ⟨rfl, rfl, rfl⟩ := hr
    have h' := hav
    unfold AV.VR at h'
    obtain ⟨b, off, vs, eb, _⟩ := h'
    exact OpOK.pure h hd hav (by simp only [execOp, ho, eb, Sem.run_pure])
  · unfold Q.Runs at hr; exact hr.elim

/-! ### convert between whole numbers; min, max -/
def opConv (T : Nat → TI) (src dst : Nat) (x : Operand) : Q := Q.opnd x fun a => match (T dst).desc, a, (T src).desc with
  | .int k, .d _ (.v (.int _ m)), .int _ => Q.ret (.int k (k.wrap m))
  | _, _, _ => .bad

theorem opConv_sound (hT : TabOK P T) (h : Rel E st a w hs) (hd : ∀ t, o.dst = some t → t < E.N) {src dst : TypeId} {x : Operand} (ho : o.op = .convert src dst x) (hr : (opConv T src dst x).Runs S st v u n) : OpOK P E o st a w hs v u n := by
  replace hr := opnd_sound h hr; obtain ⟨av, hav, hr⟩ := hr
  split at hr
  · rename_i k fr k0 m k1 e1 e2
    obtain ⟨rfl, rfl, rfl⟩ := ret_runs hr
    obtain ⟨h1, _⟩ := hT dst (by rw [e1]; simp)
    obtain ⟨h2, _⟩ := hT src (by rw [e2]; simp)
    rw [e1] at h1
    rw [e2] at h2
    refine OpOK.pure h hd (vr_v rfl) ?_
    simp only [execOp, ho, vr_int hav, Sem.run_bind, convert, run_underlying h1, run_underlying h2, Result.andThen_ok, Conv.intToInt, Sem.run_pure]
  · unfold Q.Runs at hr; exact hr.elim

end
end Go.AM

/- AM, part 6: operations that read memory. -/
namespace Go.AM
open Go Go.RowKit

section
variable {P : Program} {S : SpecEqT} {E : En} {st : St} {a : Act} {w : World} {hs : List Hd} {o : Oper} {v : AV} {u : List (Nat × Ob)} {n : List Ob} {T : Nat → TI}

theorem Rel.obj (h : Rel E st a w hs) {m : Nat} {ob : Ob} (e : st.obs[m]? = some (some ob)) : ∃ hd, hs[m]? = some hd ∧ ob.OR (st.cx E w hs) hd := by
  obtain ⟨hd, e1⟩ := h.wok.hd (n := m) (alive_lt (C := st.cx E w hs) ⟨ob, e⟩)
  exact ⟨hd, e1, h.wok.objs m ob hd e e1⟩

theorem OR.row_val {C : Cx} {E sz γ : Nat} {fr : Bool} {xs : List Dat} {hd : Hd} (h : (Ob.row E sz γ fr xs).OR C hd) : ∃ v, hd = .row v ∧ 0 < sz ∧ (∀ x ∈ xs, x.wd = sz) ∧ ∃ fl, Dat.RL C.w (C.Sh fr) xs fl ∧ C.w.ownsRow 0 E sz v xs.length fl := by
  cases hd with
  | row v => exact ⟨v, rfl, h⟩
  | _ => exact h.elim

theorem OR.cells_val {C : Cx} {E : Nat} {cs : List AV} {hd : Hd} (h : (Ob.cells E cs).OR C hd) : ∃ b, hd = .ptr b ∧ ∃ vs, C.w.heap[b]? = some (.cells vs.toArray E (0, 0)) ∧ AV.VL C cs vs ∧ ∀ u ∈ vs, u.oneCell' = true := by
  cases hd with
  | ptr b => exact ⟨b, rfl, h⟩
  | _ => exact h.elim

theorem owns_slice {w : World} {base e size : Nat} {v : Value} {n : Nat} {xs : List Value} (h : w.ownsRow base e size v n xs) : ∃ A c, v = .slice A n c ∧ n ≤ c ∧ c ≤ maxLen ∧ (n = 0 ∨ ∃ g, A = some ⟨g, 0, none⟩) := by
  rcases h.2 with ⟨rfl, rfl⟩ | ⟨g, cap, cur, rfl, _, _, h1, h2, _⟩
  · exact ⟨none, 0, rfl, Nat.le_refl _, by simp [maxLen], .inl rfl⟩
  · exact ⟨_, cap, rfl, h1, h2, .inr ⟨g, rfl⟩⟩

/-! ### len -/
def opLen (T : Nat → TI) (t : Nat) (x : Operand) : Q := Q.opnd x fun a => match a with
  | .d _ (.sl _ xs) => (match (T t).desc with | .slice _ => Q.ret (.int .i64 (xs.length : Int)) | _ => .bad)
  | .d _ (.v (.slice _ m _)) => (match (T t).desc with | .slice _ => Q.ret (.int .i64 (m : Int)) | _ => .bad)
  | .d _ (.v (.string s)) => (match (T t).desc with | .str => Q.ret (.int .i64 (s.size : Int)) | _ => .bad)
  | .own m γ => (match (T t).desc with
    | .slice _ => .obj m fun ob => (match ob with
      | .row _ _ γ' _ xs => if γ = γ' then Q.ret (.int .i64 (xs.length : Int)) else .bad
      | _ => .bad)
    | _ => .bad)
  | _ => .bad

theorem execOp_len {a : Act} {x : Operand} {t ty : TypeId} (ho : o.op = .call { callee := .builtin .len, args := #[x], argTypes := #[t] }) {r : Value} {w' : World}
    (h : (Builtin.len_ #[t] o.type #[a.eval x]).run P w = .ok r w') : (execOp a.eval o).run P w = .ok (.value r) w' := by
  simp only [execOp, ho, resolve, invoke, builtin, Sem.run_bind, Sem.run_pure, Result.andThen_ok, List.map_toArray, List.map_cons, List.map_nil, h]

theorem run_len_slice {t e : TypeId} (ty : TypeId) (A : Option Addr) (m c : Nat) (h : P.underlying t = some (.slice e)) : (Builtin.len_ #[t] ty #[.slice A m c]).run P w = .ok (.int .i64 (m : Int)) w := by
  simp [Builtin.len_, run_underlying h, goInt]

theorem run_len_str {t : TypeId} (ty : TypeId) (s : ByteArray) (h : P.underlying t = some .string) : (Builtin.len_ #[t] ty #[.string s]).run P w = .ok (.int .i64 (s.size : Int)) w := by
  simp [Builtin.len_, run_underlying h, goInt]

theorem DV.slice {w : World} {B : Nat → Prop} {sz : Nat} {xs : List Dat} {v : Value} (h : DV w B (.sl sz xs) v) : ∃ A c, v = .slice A xs.length c ∧ xs.length ≤ c ∧ c ≤ maxLen ∧ (∀ x ∈ xs, x.wd = sz) ∧
    (xs = [] ∨ ∃ b o fl, A = some ⟨b, o, none⟩ ∧ B b ∧ Dat.RL w B xs fl ∧ ∀ j u, fl[j]? = some u → w.cell? ⟨b, o + j, none⟩ = some u) := by
  have h' : Dat.R w B (.sl sz xs) [v] := h
  unfold Dat.R at h'
  obtain ⟨A, c, e, h2, h3, h4, h5⟩ := h'
  exact ⟨A, c, by simpa using e, h2, h3, h4, h5⟩

theorem opLen_sound (hT : TabOK P T) (h : Rel E st a w hs) (hd : ∀ t, o.dst = some t → t < E.N) {t : TypeId} {x : Operand} (ho : o.op = .call { callee := .builtin .len, args := #[x], argTypes := #[t] })
    (hr : (opLen T t x).Runs S st v u n) : OpOK P E o st a w hs v u n := by
  replace hr := opnd_sound h hr; obtain ⟨av, hav, hr⟩ := hr
  split at hr
  · split at hr
    · rename_i e1
      obtain ⟨rfl, rfl, rfl⟩ := ret_runs hr
      obtain ⟨h1, _⟩ := hT t (by rw [e1]; simp)
      rw [e1] at h1
      unfold AV.VR at hav
      obtain ⟨A, c, e2, _⟩ := hav.slice
      exact OpOK.pure h hd (vr_v rfl) (execOp_len (ty := 0) ho (by rw [e2]; exact run_len_slice _ _ _ _ h1))
    · unfold Q.Runs at hr; exact hr.elim
  · split at hr
    · rename_i e1
      obtain ⟨rfl, rfl, rfl⟩ := ret_runs hr
      obtain ⟨h1, _⟩ := hT t (by rw [e1]; simp)
      rw [e1] at h1
      exact OpOK.pure h hd (vr_v rfl) (execOp_len (ty := 0) ho (by rw [vr_int hav]; exact run_len_slice _ _ _ _ h1))
    · unfold Q.Runs at hr; exact hr.elim
  · split at hr
    · rename_i e1
      obtain ⟨rfl, rfl, rfl⟩ := ret_runs hr
      obtain ⟨h1, _⟩ := hT t (by rw [e1]; simp)
      rw [e1] at h1
      exact OpOK.pure h hd (vr_v rfl) (execOp_len (ty := 0) ho (by rw [vr_int hav]; exact run_len_str _ _ h1))
    · unfold Q.Runs at hr; exact hr.elim
  · split at hr
    · rename_i e1
      unfold Q.Runs at hr
      obtain ⟨ob, hob, hr⟩ := hr
      dsimp only at hr
      split at hr
      · split at hr
        · rename_i eγ
          subst eγ
          obtain ⟨rfl, rfl, rfl⟩ := ret_runs hr
          obtain ⟨h1, _⟩ := hT t (by rw [e1]; simp)
          rw [e1] at h1
          unfold AV.VR at hav
          have h2 := (hav.2 _ _ _ _ _ hob).2 rfl
          obtain ⟨hd', e3, h3⟩ := h.obj hob
          obtain ⟨vv, rfl, _, _, fl, _, h4⟩ := OR.row_val h3
          have e4 : vv = a.eval x := by
            have : (st.cx E w hs).hs = hs := rfl
            rw [this, e3] at h2
            simpa using h2
          obtain ⟨A, c, e5, _⟩ := owns_slice h4
          exact OpOK.pure h hd (vr_v rfl) (execOp_len (ty := 0) ho (by rw [← e4, e5]; exact run_len_slice _ _ _ _ h1))
        · unfold Q.Runs at hr; exact hr.elim
      · unfold Q.Runs at hr; exact hr.elim
    · unfold Q.Runs at hr; exact hr.elim
  · unfold Q.Runs at hr; exact hr.elim

/-! ### fieldAddr -/
def opFieldAddr (T : Nat → TI) (s : Nat) (x : Operand) (f : Nat) : Q := Q.opnd x fun a => match (T s).desc with
  | .struct fs => (match fs[f]? with
    | some (off, ft) => if (T ft).size = 0 then .bad else (match (T ft).desc with
      | .other => .bad
      | _ => (match a with
        | .ptr m k => .obj m fun _ => .fin (.ptr m (k + off)) [] []
        | .elt m γ sz i k => .obj m fun ob => (match ob with
          | .row _ _ γ' _ xs => if γ = γ' then .side (i < xs.length) (.fin (.elt m γ sz i (k + off)) [] []) else .bad
          | _ => .bad)
        | .sel fr cs => .fin (.sel fr (cs.drop off)) [] []
        | _ => .bad))
    | none => .bad)
  | _ => .bad

theorem run_fieldAt {s ft off f : Nat} {fs : List (Nat × Nat)} (hT : TabOK P T) (e1 : (T s).desc = .struct fs) (e2 : fs[f]? = some (off, ft)) (h0 : (T ft).size ≠ 0) (h1 : (T ft).desc ≠ .other) (b k : Nat) :
    (Instr.fieldAt s (.pointer (some ⟨b, k, none⟩)) f).run P w = .ok (.pointer (some ⟨b, k + off, none⟩)) w := by
  obtain ⟨g1, _⟩ := hT s (by rw [e1]; simp)
  rw [e1] at g1
  obtain ⟨fields, g2, g3⟩ := g1
  obtain ⟨_, ⟨info, i1, i2, _⟩, _⟩ := hT ft h1
  have g4 : ∃ fd, fields[f]? = some fd ∧ fd.offset = off ∧ fd.type = ft := by
    rw [← g3, List.getElem?_map] at e2
    obtain ⟨fd, q1, q2⟩ := Option.map_eq_some_iff.1 e2
    simp only [Prod.mk.injEq] at q2
    exact ⟨fd, by simpa using q1, q2.1, q2.2⟩
  obtain ⟨fd, q1, q2, q3⟩ := g4
  have hs : info.size ≠ 0 := by rw [i2]; exact h0
  simp [Instr.fieldAt, run_underlying g2, q1, Instr.sureAddr, fieldPlace, sizeOf, typeInfo, q3, i1, hs, q2, Addr.add_mid]

theorem opFieldAddr_sound (hT : TabOK P T) (h : Rel E st a w hs) (hd : ∀ t, o.dst = some t → t < E.N) {s f : Nat} {x : Operand} (ho : o.op = .fieldAddr s x f) (hr : (opFieldAddr T s x f).Runs S st v u n) : OpOK P E o st a w hs v u n := by
  replace hr := opnd_sound h hr; obtain ⟨av, hav, hr⟩ := hr
  split at hr
  · rename_i fs e1
    split at hr
    · rename_i off ft e2
      split at hr
      · unfold Q.Runs at hr; exact hr.elim
      · rename_i h0
        have hx : ∀ (b k : Nat), (T ft).desc ≠ .other → a.eval x = .pointer (some ⟨b, k, none⟩) → (execOp a.eval o).run P w = .ok (.value (.pointer (some ⟨b, k + off, none⟩))) w := by
          intro b k h1 e
          simp only [execOp, ho, e, Sem.run_bind, run_fieldAt hT e1 e2 h0 h1, Result.andThen_ok, Sem.run_pure]
        split at hr
        · unfold Q.Runs at hr; exact hr.elim
        · rename_i hne
          have h1 : (T ft).desc ≠ .other := fun e => hne e
          split at hr
          · rename_i m k
            unfold Q.Runs at hr
            obtain ⟨ob, hob, hr⟩ := hr
            unfold Q.Runs at hr
            obtain ⟨rfl, rfl, rfl⟩ := hr
            unfold AV.VR at hav
            obtain ⟨b, hb, eb⟩ := hav.2 ob hob
            refine OpOK.pure h hd (v := .pointer (some ⟨b, k + off, none⟩)) ?_ (hx b k h1 eb)
            unfold AV.VR
            refine ⟨hav.1, fun ob' hob' => ⟨b, hb, rfl⟩⟩
          · rename_i m γ sz i k
            unfold Q.Runs at hr
            obtain ⟨ob, hob, hr⟩ := hr
            dsimp only at hr
            split at hr
            · split at hr
              · rename_i eγ
                subst eγ
                unfold Q.Runs at hr
                obtain ⟨hi, hr⟩ := hr
                unfold Q.Runs at hr
                obtain ⟨rfl, rfl, rfl⟩ := hr
                unfold AV.VR at hav
                obtain ⟨b, len, cap, hb, eb⟩ := (hav.2 _ _ _ _ _ hob).2 rfl
                refine OpOK.pure h hd (v := .pointer (some ⟨b, i * sz + k + off, none⟩)) ?_ (hx b _ h1 eb)
                unfold AV.VR
                refine ⟨hav.1, fun E' sz' γ0 fr xs hob' => ⟨(hav.2 _ _ _ _ _ hob').1, fun e => ?_⟩⟩
                obtain ⟨b2, len2, cap2, hb2, eb2⟩ := (hav.2 _ _ _ _ _ hob').2 e
                refine ⟨b2, len2, cap2, hb2, ?_⟩
                rw [hb] at hb2
                simp only [Option.some.injEq, Hd.row.injEq, Value.slice.injEq, Addr.mk.injEq] at hb2
                rw [← hb2.1.1, Nat.add_assoc]
              · unfold Q.Runs at hr; exact hr.elim
            · unfold Q.Runs at hr; exact hr.elim
          · rename_i fr cs
            unfold Q.Runs at hr
            obtain ⟨rfl, rfl, rfl⟩ := hr
            unfold AV.VR at hav
            obtain ⟨b, k, vs, eb, hb, hv, hc⟩ := hav
            refine OpOK.pure h hd (v := .pointer (some ⟨b, k + off, none⟩)) ?_ (hx b k h1 eb)
            unfold AV.VR
            refine ⟨b, k + off, vs.drop off, rfl, hb, hv.drop off, fun j q hq => ?_⟩
            rw [List.getElem?_drop] at hq
            rw [Nat.add_assoc]
            exact hc _ q hq
          · unfold Q.Runs at hr; exact hr.elim
    · unfold Q.Runs at hr; exact hr.elim
  · unfold Q.Runs at hr; exact hr.elim

end
end Go.AM

/- AM, part 7: elements, loads, fields of values, cuts. -/
namespace Go.AM
open Go Go.RowKit

section
variable {P : Program} {S : SpecEqT} {E : En} {st : St} {a : Act} {w : World} {hs : List Hd} {o : Oper} {v : AV} {u : List (Nat × Ob)} {n : List Ob} {T : Nat → TI}

/-- A default of a type (it is never met). -/
def TI.z (T : Nat → TI) (t : Nat) : Dat :=
  match (T t).desc with
  | .slice e => .sl (T e).size []
  | .struct _ => .agg ((T t).zero.map .v)
  | .arr _ _ => .agg ((T t).zero.map .v)
  | _ => match (T t).zero with
    | x :: _ => .v x
    | [] => .agg []

def KD.known : KD → Bool
  | .other => false
  | .map _ _ => false
  | _ => true
theorem KD.known_ne {k : KD} (h : k.known = true) : k ≠ .other := fun e => by subst e; simp [KD.known] at h

theorem take_one {α : Type} (xs : List α) (k : Nat) (d : α) (h : k < xs.length) : (xs.drop k).take 1 = [xs.getD k d] := by
  rw [List.drop_eq_getElem_cons h]
  simp [h, List.take]

/-! ### indexAddr -/
def opIndexAddr (T : Nat → TI) (t : Nat) (x i : Operand) : Q := match (T t).desc with
  | .slice e => Q.opnd x fun a => Q.opnd i fun iv => (match iv with
    | .d _ (.v (.int _ k)) => (match a with
      | .d fr (.sl sz xs) => if sz = (T e).size ∧ (T e).desc.known = true then .side (0 ≤ k ∧ k < (xs.length : Int)) (.fin (.sel fr (xs.getD k.toNat (TI.z T e)).cells) [] []) else .bad
      | .own m γ => .obj m fun ob => (match ob with
        | .row _ sz γ' _ xs => if γ = γ' then (if sz = (T e).size ∧ (T e).desc.known = true then .side (0 ≤ k ∧ k < (xs.length : Int)) (.fin (.elt m γ sz k.toNat 0) [] []) else .bad) else .bad
        | _ => .bad)
      | _ => .bad)
    | _ => .bad)
  | .arr c e => Q.opnd x fun a => Q.opnd i fun iv => (match iv with
    | .d _ (.v (.int _ k)) => if (T e).desc.known = true then (match a with
      | .ptr m off => .obj m fun _ => .side (0 ≤ k ∧ k < (c : Int)) (.fin (.ptr m (off + k.toNat * (T e).size)) [] [])
      | .elt m γ sz j off => .obj m fun ob => (match ob with
        | .row _ _ γ' _ _ => if γ = γ' then .side (0 ≤ k ∧ k < (c : Int)) (.fin (.elt m γ sz j (off + k.toNat * (T e).size)) [] []) else .bad
        | _ => .bad)
      | .sel fr cs => .side (0 ≤ k ∧ k < (c : Int)) (.fin (.sel fr (cs.drop (k.toNat * (T e).size))) [] [])
      | _ => .bad) else .bad
    | _ => .bad)
  | _ => .bad

theorem run_indexArr {t c e : Nat} {info : TypeInfo} (h1 : P.underlying t = some (.array c e)) (h2 : P.info? e = some info) (b off : Nat) (k : IntKind) (i : Int) (h0 : 0 ≤ i) (hi : i < (c : Int)) :
    (Instr.indexAt t (.pointer (some ⟨b, off, none⟩)) (.int k i)).run P w = .ok (.pointer (some ⟨b, off + i.toNat * info.size, none⟩)) w := by
  simp [Instr.indexAt, asIntOf, Instr.sureAddr, run_underlying h1, h0, hi, sizeOf, typeInfo, h2, Addr.add_mid]

theorem run_indexAt {t e : Nat} {info : TypeInfo} (h1 : P.underlying t = some (.slice e)) (h2 : P.info? e = some info) (b off len cap : Nat) (k : IntKind) (i : Int) (h0 : 0 ≤ i) (hi : i < (len : Int)) :
    (Instr.indexAt t (.slice (some ⟨b, off, none⟩) len cap) (.int k i)).run P w = .ok (.pointer (some ⟨b, off + i.toNat * info.size, none⟩)) w := by
  simp [Instr.indexAt, asIntOf, run_underlying h1, h0, hi, sizeOf, typeInfo, h2, Addr.add_mid]

theorem opIndexAddr_sound (hT : TabOK P T) (h : Rel E st a w hs) (hd : ∀ t, o.dst = some t → t < E.N) {t : Nat} {x i : Operand} (ho : o.op = .indexAddr t x i) (hr : (opIndexAddr T t x i).Runs S st v u n) : OpOK P E o st a w hs v u n := by
  unfold opIndexAddr at hr
  split at hr
  · rename_i e e1
    replace hr := opnd_sound h hr; obtain ⟨av, hav, hr⟩ := hr
    replace hr := opnd_sound h hr; obtain ⟨iv, hiv, hr⟩ := hr
    obtain ⟨g1, _⟩ := hT t (by rw [e1]; simp)
    rw [e1] at g1
    split at hr
    · rename_i fi ki k
      have ei := vr_int hiv
      split at hr
      · rename_i fr sz xs
        split at hr
        · rename_i hsz
          unfold Q.Runs at hr
          obtain ⟨⟨h0, hk⟩, hr⟩ := hr
          unfold Q.Runs at hr
          obtain ⟨rfl, rfl, rfl⟩ := hr
          unfold AV.VR at hav
          obtain ⟨A, c, e2, h2, h3, h4, h5⟩ := hav.slice
          have hlt : k.toNat < xs.length := by omega
          rcases h5 with h5 | ⟨b, off, fl, rfl, hb, hl, hc⟩
          · subst h5; simp at hlt
          · obtain ⟨_, ⟨info, i1, i2, _⟩, _⟩ := hT e (KD.known_ne hsz.2)
            replace i2 := i2.trans hsz.1.symm
            refine OpOK.pure h hd (v := .pointer (some ⟨b, off + k.toNat * info.size, none⟩)) ?_ ?_
            · unfold AV.VR
              refine ⟨b, off + k.toNat * info.size, (fl.drop (k.toNat * sz)).take (1 * sz), rfl, hb, ?_, fun j q hq => ?_⟩
              · have := hl.part h4 k.toNat 1 (by omega)
                rw [take_one xs _ (TI.z T e) hlt, Dat.RL.flat] at this
                simpa using this
              · rw [List.getElem?_take] at hq
                split at hq
                · rw [List.getElem?_drop] at hq
                  rw [i2, Nat.add_assoc]
                  exact hc _ q hq
                · cases hq
            · simp only [execOp, ho, e2, ei, Sem.run_bind, run_indexAt g1 i1 b off _ c ki k h0 hk, Result.andThen_ok, Sem.run_pure]
        · unfold Q.Runs at hr; exact hr.elim
      · rename_i m γ
        unfold Q.Runs at hr
        obtain ⟨ob, hob, hr⟩ := hr
        dsimp only at hr
        split at hr
        · split at hr
          · rename_i eγ
            subst eγ
            split at hr
            · rename_i E0 sz fr xs hsz
              unfold Q.Runs at hr
              obtain ⟨⟨h0, hk⟩, hr⟩ := hr
              unfold Q.Runs at hr
              obtain ⟨rfl, rfl, rfl⟩ := hr
              have hav' := hav
              unfold AV.VR at hav'
              have h2 := (hav'.2 _ _ _ _ _ hob).2 rfl
              obtain ⟨hd', e3, h3⟩ := h.obj hob
              obtain ⟨vv, rfl, hz0, _, fl, _, h4⟩ := OR.row_val h3
              have e4 : vv = a.eval x := by
                have : (st.cx E w hs).hs = hs := rfl
                rw [this, e3] at h2
                simpa using h2
              obtain ⟨A, c, e5, _, _, h6⟩ := owns_slice h4
              rcases h6 with h6 | ⟨g, rfl⟩
              · omega
              · obtain ⟨_, ⟨info, i1, i2, _⟩, _⟩ := hT e (KD.known_ne hsz.2)
                refine OpOK.pure h hd (v := .pointer (some ⟨g, 0 + k.toNat * info.size, none⟩)) ?_ ?_
                · unfold AV.VR
                  refine ⟨hav'.1, fun E' sz' γ0 fr' xs' hob' => ⟨(hav'.2 _ _ _ _ _ hob').1, fun eg => ⟨g, xs.length, c, ?_, ?_⟩⟩⟩
                  · rw [← e5, e4]; exact h2
                  · rw [i2, hsz.1]; simp
                · simp only [execOp, ho, ← e4, e5, ei, Sem.run_bind, run_indexAt g1 i1 g 0 _ c ki k h0 hk, Result.andThen_ok, Sem.run_pure]
            · unfold Q.Runs at hr; exact hr.elim
          · unfold Q.Runs at hr; exact hr.elim
        · unfold Q.Runs at hr; exact hr.elim
      · unfold Q.Runs at hr; exact hr.elim
    · unfold Q.Runs at hr; exact hr.elim
  · rename_i c e e1
    replace hr := opnd_sound h hr; obtain ⟨av, hav, hr⟩ := hr
    replace hr := opnd_sound h hr; obtain ⟨iv, hiv, hr⟩ := hr
    obtain ⟨g1, _⟩ := hT t (by rw [e1]; simp)
    rw [e1] at g1
    split at hr
    · rename_i fi ki k
      have ei := vr_int hiv
      split at hr
      · rename_i hkn
        obtain ⟨_, ⟨info, i1, i2, _⟩, _⟩ := hT e (KD.known_ne hkn)
        have hx : ∀ b off : Nat, (0 ≤ k ∧ k < (c : Int)) → a.eval x = .pointer (some ⟨b, off, none⟩) → (execOp a.eval o).run P w = .ok (.value (.pointer (some ⟨b, off + k.toNat * (T e).size, none⟩))) w := fun b off hk ea => by
          simp only [execOp, ho, ea, ei, Sem.run_bind, run_indexArr g1 i1 b off ki k hk.1 hk.2, Result.andThen_ok, Sem.run_pure, i2]
        split at hr
        · rename_i m off
          unfold Q.Runs at hr
          obtain ⟨ob, hob, hr⟩ := hr
          unfold Q.Runs at hr
          obtain ⟨hk, hr⟩ := hr
          unfold Q.Runs at hr
          obtain ⟨rfl, rfl, rfl⟩ := hr
          unfold AV.VR at hav
          obtain ⟨b, hb, eb⟩ := hav.2 ob hob
          refine OpOK.pure h hd (v := .pointer (some ⟨b, off + k.toNat * (T e).size, none⟩)) ?_ (hx b off hk eb)
          unfold AV.VR
          refine ⟨hav.1, fun ob' hob' => ⟨b, hb, rfl⟩⟩
        · rename_i m γ sz j off
          unfold Q.Runs at hr
          obtain ⟨ob, hob, hr⟩ := hr
          dsimp only at hr
          split at hr
          · split at hr
            · rename_i eγ
              subst eγ
              unfold Q.Runs at hr
              obtain ⟨hk, hr⟩ := hr
              unfold Q.Runs at hr
              obtain ⟨rfl, rfl, rfl⟩ := hr
              unfold AV.VR at hav
              obtain ⟨b, len, cap, hb, eb⟩ := (hav.2 _ _ _ _ _ hob).2 rfl
              refine OpOK.pure h hd (v := .pointer (some ⟨b, j * sz + off + k.toNat * (T e).size, none⟩)) ?_ (hx b _ hk eb)
              unfold AV.VR
              refine ⟨hav.1, fun E' sz' γ0 fr xs hob' => ⟨(hav.2 _ _ _ _ _ hob').1, fun e => ?_⟩⟩
              obtain ⟨b2, len2, cap2, hb2, eb2⟩ := (hav.2 _ _ _ _ _ hob').2 e
              refine ⟨b2, len2, cap2, hb2, ?_⟩
              rw [hb] at hb2
              simp only [Option.some.injEq, Hd.row.injEq, Value.slice.injEq, Addr.mk.injEq] at hb2
              rw [← hb2.1.1, Nat.add_assoc]
            · unfold Q.Runs at hr; exact hr.elim
          · unfold Q.Runs at hr; exact hr.elim
        · rename_i fr cs
          unfold Q.Runs at hr
          obtain ⟨hk, hr⟩ := hr
          unfold Q.Runs at hr
          obtain ⟨rfl, rfl, rfl⟩ := hr
          unfold AV.VR at hav
          obtain ⟨b, off, vs, eb, hb, hv, hc⟩ := hav
          refine OpOK.pure h hd (v := .pointer (some ⟨b, off + k.toNat * (T e).size, none⟩)) ?_ (hx b off hk eb)
          unfold AV.VR
          refine ⟨b, off + k.toNat * (T e).size, vs.drop (k.toNat * (T e).size), rfl, hb, hv.drop _, fun j q hq => ?_⟩
          rw [List.getElem?_drop] at hq
          rw [Nat.add_assoc]
          exact hc _ q hq
        · unfold Q.Runs at hr; exact hr.elim
      · unfold Q.Runs at hr; exact hr.elim
    · unfold Q.Runs at hr; exact hr.elim
  · unfold Q.Runs at hr; exact hr.elim

end
end Go.AM
namespace Go.AM
open Go Go.RowKit
section
variable {P : Program} {S : SpecEqT} {E : En} {st : St} {a : Act} {w : World} {hs : List Hd} {o : Oper} {v : AV} {u : List (Nat × Ob)} {n : List Ob} {T : Nat → TI}

theorem DV_or {w : World} {C : Cx} {fr : Bool} {x : Dat} {v : Value} (h : DV w (C.Sh fr) x v) : DV w (C.Sh (fr || x.flat)) x v := by
  cases hfl : x.flat with
  | true => exact DV_flat hfl h
  | false => rw [Bool.or_false]; exact h

/-! ### load -/
theorem run_load_agg (hT : TabOK P T) {t : Nat} (ha : (T t).desc.agg = true) (b k : Nat) (vs : List Value) (hl : vs.length = (T t).size) (hc : ∀ j u, vs[j]? = some u → w.cell? ⟨b, k + j, none⟩ = some u) :
    (Instr.loadAt t (.pointer (some ⟨b, k, none⟩))).run P w = .ok (.agg vs.toArray) w := by
  have hne : (T t).desc ≠ .other := fun e => by rw [e] at ha; simp [KD.agg] at ha
  obtain ⟨g1, ⟨info, i1, i2, _⟩, _⟩ := hT t hne
  cases hd : (T t).desc with
  | struct fs =>
    rw [hd] at g1
    obtain ⟨fields, g2, _⟩ := g1
    exact run_loadAt_mid w b k t vs _ hc g2 rfl (by rw [i1]; simp [i2, hl])
  | arr n e =>
    rw [hd] at g1
    exact run_loadAt_mid w b k t vs _ hc g1 rfl (by rw [i1]; simp [i2, hl])
  | _ => rw [hd] at ha; simp [KD.agg] at ha

theorem isAgg_no (hT : TabOK P T) {t : Nat} (hk : (T t).desc.known = true) (ha : (T t).desc.agg = false) (w : World) : (isAgg t).run P w = .ok false w := by
  obtain ⟨g1, _⟩ := hT t (KD.known_ne hk)
  unfold isAgg
  cases hd : (T t).desc with
  | struct fs => rw [hd] at ha; simp [KD.agg] at ha
  | arr n e => rw [hd] at ha; simp [KD.agg] at ha
  | other => rw [hd] at hk; simp [KD.known] at hk
  | map ks kv => rw [hd] at hk; simp [KD.known] at hk
  | _ => rw [hd] at g1; rw [Sem.run_bind, run_underlying g1 w]; rfl

theorem run_load_one (hT : TabOK P T) {t : Nat} (hk : (T t).desc.known = true) (ha : (T t).desc.agg = false) (b k : Nat) (c : Value) (hc : w.cell? ⟨b, k, none⟩ = some c) :
    (Instr.loadAt t (.pointer (some ⟨b, k, none⟩))).run P w = .ok c w := by
  simp [Instr.loadAt, Instr.sureAddr, loadVar, isAgg_no hT hk ha, hc]

def loadSel (T : Nat → TI) (t : Nat) (fr : Bool) (cs : List Dat) : Q :=
  if (T t).desc.agg = true then .side ((T t).size ≤ cs.length) (.fin (.d fr (.agg (cs.take (T t).size))) [] [])
  else if (T t).desc.known = true then (match cs with
    | c :: _ => .fin (.d (fr || c.flat) c) [] []
    | [] => .bad) else .bad

theorem loadSel_sound (hT : TabOK P T) {t : Nat} {fr : Bool} {cs : List Dat} {C : Cx} (hr : (loadSel T t fr cs).Runs S st v u n) (b k : Nat) (vs : List Value) (hv : Dat.RF C.w (C.Sh fr) cs vs)
    (hc : ∀ j u, vs[j]? = some u → C.w.cell? ⟨b, k + j, none⟩ = some u) : u = [] ∧ n = [] ∧ ∃ x, v.VR C x ∧ (Instr.loadAt t (.pointer (some ⟨b, k, none⟩))).run P C.w = .ok x C.w := by
  unfold loadSel at hr
  split at hr
  · rename_i ha
    unfold Q.Runs at hr
    obtain ⟨h1, hr⟩ := hr
    unfold Q.Runs at hr
    obtain ⟨rfl, rfl, rfl⟩ := hr
    have hl := Dat.RF.len _ _ hv
    refine ⟨rfl, rfl, .agg (vs.take (T t).size).toArray, ?_, run_load_agg hT ha b k _ (by simp; omega) fun j q hq => ?_⟩
    · unfold AV.VR
      exact ⟨_, rfl, by simpa using hv.take _⟩
    · rw [List.getElem?_take] at hq
      split at hq
      · exact hc j q hq
      · cases hq
  · rename_i ha
    split at hr
    · rename_i hk
      split at hr
      · rename_i c rest
        unfold Q.Runs at hr
        obtain ⟨rfl, rfl, rfl⟩ := hr
        unfold Dat.RF at hv
        obtain ⟨x, rs, rfl, h0, h1, _⟩ := hv
        refine ⟨rfl, rfl, x, ?_, run_load_one hT hk (by simpa using ha) b k x (by simpa using hc 0 x (by simp))⟩
        unfold AV.VR
        have h3 := DV.of_one h1 (fun fs e => by subst e; simp [Dat.nagg] at h0)
        cases hfl : c.flat with
        | true => exact DV_flat hfl h3
        | false => rw [Bool.or_false]; exact h3
      · unfold Q.Runs at hr; exact hr.elim
    · unfold Q.Runs at hr; exact hr.elim

def opLoad (T : Nat → TI) (t : Nat) (p : Operand) : Q := Q.opnd p fun a => match a with
  | .sel fr cs => loadSel T t fr cs
  | .ptr m off => .obj m fun ob => (match ob with
    | .cells _ cs => if (T t).desc.agg = true then .side (off + (T t).size ≤ cs.length) (.fin (mkAgg ((cs.drop off).take (T t).size)) [] [])
      else if (T t).desc.known = true then (match cs[off]? with
        | some y => .fin y [] []
        | none => .bad) else .bad
    | _ => .bad)
  | .elt m γ sz i off => .obj m fun ob => (match ob with
    | .row E' sz' γ' fr xs => if γ = γ' then (if sz = sz' then .side (i < xs.length) (loadSel T t fr ((xs.getD i (TI.z T E')).cells.drop off)) else .bad) else .bad
    | _ => .bad)
  | _ => .bad

theorem VL.drop {C : Cx} : ∀ {k : Nat} {as : List AV} {vs : List Value}, AV.VL C as vs → AV.VL C (as.drop k) (vs.drop k)
  | 0, _, _, h => by simpa using h
  | k + 1, [], vs, h => by unfold AV.VL at h; subst h; simp [AV.VL]
  | k + 1, a :: as, vs, h => by
    unfold AV.VL at h
    obtain ⟨x, rest, rfl, _, h2⟩ := h
    simpa using VL.drop h2
theorem VL.take {C : Cx} : ∀ {k : Nat} {as : List AV} {vs : List Value}, AV.VL C as vs → AV.VL C (as.take k) (vs.take k)
  | 0, _, _, h => by simp [AV.VL]
  | k + 1, [], vs, h => by unfold AV.VL at h; subst h; simp [AV.VL]
  | k + 1, a :: as, vs, h => by
    unfold AV.VL at h
    obtain ⟨x, rest, rfl, h1, h2⟩ := h
    simp only [List.take_succ_cons, AV.VL]
    exact ⟨x, _, rfl, h1, VL.take h2⟩

/-- The cells of element i of an own row. -/
theorem row_elem {C : Cx} {E sz : Nat} {fr : Bool} {xs : List Dat} {vv : Value} (hz : ∀ x ∈ xs, x.wd = sz) {fl : List Value} (hl : Dat.RL C.w (C.Sh fr) xs fl) (ho : C.w.ownsRow 0 E sz vv xs.length fl)
    {b len cap : Nat} (hb : vv = .slice (some ⟨b, 0, none⟩) len cap) {i : Nat} (hi : i < xs.length) (d : Dat) :
    ∃ vs, Dat.RF C.w (C.Sh fr) (xs.getD i d).cells vs ∧ ∀ j u, vs[j]? = some u → C.w.cell? ⟨b, i * sz + j, none⟩ = some u := by
  have := hl.part hz i 1 (by omega)
  rw [take_one xs _ d hi, Dat.RL.flat] at this
  refine ⟨(fl.drop (i * sz)).take (1 * sz), by simpa using this, fun j q hq => ?_⟩
  rw [List.getElem?_take] at hq
  split at hq
  · rw [List.getElem?_drop] at hq
    have := ho.cells (g := b) (by subst hb; rfl) _ q hq
    rwa [Addr.add_mid, Nat.zero_add] at this
  · cases hq

theorem execOp_load {t : Nat} {p : Operand} (ho : o.op = .load t p) {x : Value} (h : (Instr.loadAt t (a.eval p)).run P w = .ok x w) : (execOp a.eval o).run P w = .ok (.value x) w := by
  simp only [execOp, ho, Sem.run_bind, h, Result.andThen_ok, Sem.run_pure]

theorem opLoad_sound (hT : TabOK P T) (h : Rel E st a w hs) (hd : ∀ t, o.dst = some t → t < E.N) {t : Nat} {p : Operand} (ho : o.op = .load t p) (hr : (opLoad T t p).Runs S st v u n) : OpOK P E o st a w hs v u n := by
  replace hr := opnd_sound h hr; obtain ⟨av, hav, hr⟩ := hr
  split at hr
  · rename_i fr cs
    unfold AV.VR at hav
    obtain ⟨b, k, vs, e, _, hv, hc⟩ := hav
    obtain ⟨rfl, rfl, x, hx, hrun⟩ := loadSel_sound (P := P) hT hr b k vs hv hc
    exact OpOK.pure h hd hx (execOp_load ho (by rw [e]; exact hrun))
  · rename_i m off
    unfold Q.Runs at hr
    obtain ⟨ob, hob, hr⟩ := hr
    dsimp only at hr
    split at hr
    · rename_i E0 cs
      unfold AV.VR at hav
      obtain ⟨b, hb, e⟩ := hav.2 _ hob
      obtain ⟨hd', e3, h3⟩ := h.obj hob
      obtain ⟨b', rfl, vs, h4, h5, h6⟩ := OR.cells_val h3
      have e4 : b' = b := by
        have e5 : (st.cx E w hs).hs = hs := rfl
        rcases hb with hb | ⟨q, hb⟩ <;> rw [e5, e3] at hb
        · simpa using hb
        · simp at hb
      subst e4
      have hc : ∀ j, w.cell? ⟨b', j, none⟩ = vs[j]? := fun j => by
        have : w.heap[b']? = some (.cells vs.toArray E0 (0, 0)) := h4
        simp [World.cell?, this]
      split at hr
      · rename_i ha
        unfold Q.Runs at hr
        obtain ⟨h1, hr⟩ := hr
        unfold Q.Runs at hr
        obtain ⟨rfl, rfl, rfl⟩ := hr
        have hl := VL.len h5
        refine OpOK.pure h hd (VR.mkAgg (VL.take (k := (T t).size) (VL.drop (k := off) h5)) fun q hq => h6 q (List.mem_of_mem_drop (List.mem_of_mem_take hq))) (execOp_load ho ?_)
        rw [e]
        refine run_load_agg hT ha b' off _ (by simp; omega) fun j q hq => ?_
        rw [List.getElem?_take] at hq
        split at hq
        · rw [List.getElem?_drop] at hq
          rw [hc]
          exact hq
        · cases hq
      · rename_i ha
        split at hr
        · rename_i hk
          split at hr
          · rename_i y ey
            unfold Q.Runs at hr
            obtain ⟨rfl, rfl, rfl⟩ := hr
            obtain ⟨z, ez, hz⟩ := VL.get h5 ey
            exact OpOK.pure h hd hz (execOp_load ho (by rw [e]; exact run_load_one hT hk (by simpa using ha) b' off z (by rw [hc]; exact ez)))
          · unfold Q.Runs at hr; exact hr.elim
        · unfold Q.Runs at hr; exact hr.elim
    · unfold Q.Runs at hr; exact hr.elim
  · rename_i m γ sz i off
    unfold Q.Runs at hr
    obtain ⟨ob, hob, hr⟩ := hr
    dsimp only at hr
    split at hr
    · split at hr
      · rename_i eγ
        subst eγ
        split at hr
        · rename_i E' sz' fr xs esz
          subst esz
          unfold Q.Runs at hr
          obtain ⟨hi, hr⟩ := hr
          unfold AV.VR at hav
          obtain ⟨b, len, cap, hb, e⟩ := (hav.2 _ _ _ _ _ hob).2 rfl
          obtain ⟨hd', e3, h3⟩ := h.obj hob
          obtain ⟨vv, rfl, hz0, hz, fl, hl, h4⟩ := OR.row_val h3
          have e4 : vv = .slice (some ⟨b, 0, none⟩) len cap := by
            have e5 : (st.cx E w hs).hs = hs := rfl
            rw [e5, e3] at hb
            simpa using hb
          obtain ⟨vs, hv, hc⟩ := row_elem hz hl h4 e4 hi (TI.z T E')
          obtain ⟨rfl, rfl, x, hx, hrun⟩ := loadSel_sound (P := P) (C := st.cx E w hs) hT hr b (i * sz + off) (vs.drop off) (hv.drop off) fun j q hq => by
            rw [List.getElem?_drop] at hq
            rw [Nat.add_assoc]
            exact hc _ q hq
          exact OpOK.pure h hd hx (execOp_load ho (by rw [e]; exact hrun))
        · unfold Q.Runs at hr; exact hr.elim
      · unfold Q.Runs at hr; exact hr.elim
    · unfold Q.Runs at hr; exact hr.elim
  · unfold Q.Runs at hr; exact hr.elim

/-! ### field of a value -/
def opField (T : Nat → TI) (s : Nat) (x : Operand) (f : Nat) : Q := Q.opnd x fun a => match (T s).desc with
  | .struct fs => (match fs[f]? with
    | some (off, ft) => (match a with
      | .d fr (.agg cs) => loadSel T ft fr (cs.drop off)
      | .agg cs => if (T ft).desc.agg = true then .side (off + (T ft).size ≤ cs.length) (.fin (mkAgg ((cs.drop off).take (T ft).size)) [] [])
        else if (T ft).desc.known = true then (match cs[off]? with
          | some y => .fin y [] []
          | none => .bad) else .bad
      | _ => .bad)
    | none => .bad)
  | _ => .bad

theorem isAgg_yes (hT : TabOK P T) {t : Nat} (ha : (T t).desc.agg = true) (w : World) : (isAgg t).run P w = .ok true w := by
  have hne : (T t).desc ≠ .other := fun e => by rw [e] at ha; simp [KD.agg] at ha
  obtain ⟨g1, _⟩ := hT t hne
  unfold isAgg
  cases hd : (T t).desc with
  | struct fs => rw [hd] at g1; obtain ⟨fields, g2, _⟩ := g1; rw [Sem.run_bind, run_underlying g2 w]; rfl
  | arr n e => rw [hd] at g1; rw [Sem.run_bind, run_underlying g1 w]; rfl
  | _ => rw [hd] at ha; simp [KD.agg] at ha

theorem run_part_agg (hT : TabOK P T) {t : Nat} (ha : (T t).desc.agg = true) (cs : Array Value) (off : Nat) :
    (part t cs off).run P w = .ok (.agg ((cs.toList.drop off).take (T t).size).toArray) w := by
  have hne : (T t).desc ≠ .other := fun e => by rw [e] at ha; simp [KD.agg] at ha
  obtain ⟨_, ⟨info, i1, i2, _⟩, _⟩ := hT t hne
  have : cs.extract off (off + info.size) = ((cs.toList.drop off).take (T t).size).toArray := by
    apply Array.ext'
    rw [← i2]
    simp [Array.toList_extract]
  simp [part, isAgg_yes hT ha, sizeOf, typeInfo, i1, this]

theorem run_part_one (hT : TabOK P T) {t : Nat} (hk : (T t).desc.known = true) (ha : (T t).desc.agg = false) (cs : Array Value) (off : Nat) (c : Value) (hc : cs[off]? = some c) :
    (part t cs off).run P w = .ok c w := by
  simp [part, isAgg_no hT hk ha, hc]

theorem run_field {s f off ft : Nat} {fs : List (Nat × Nat)} (hT : TabOK P T) (e1 : (T s).desc = .struct fs) (e2 : fs[f]? = some (off, ft)) (cs : Array Value) {x : Value} (h : (part ft cs off).run P w = .ok x w) :
    (Instr.field s (.agg cs) f).run P w = .ok x w := by
  obtain ⟨g1, _⟩ := hT s (by rw [e1]; simp)
  rw [e1] at g1
  obtain ⟨fields, g2, g3⟩ := g1
  have g4 : ∃ fd, fields[f]? = some fd ∧ fd.offset = off ∧ fd.type = ft := by
    rw [← g3, List.getElem?_map] at e2
    obtain ⟨fd, q1, q2⟩ := Option.map_eq_some_iff.1 e2
    simp only [Prod.mk.injEq] at q2
    exact ⟨fd, by simpa using q1, q2.1, q2.2⟩
  obtain ⟨fd, q1, q2, q3⟩ := g4
  simp [Instr.field, run_underlying g2, q1, asAgg, q2, q3, h]

theorem opField_sound (hT : TabOK P T) (h : Rel E st a w hs) (hd : ∀ t, o.dst = some t → t < E.N) {s f : Nat} {x : Operand} (ho : o.op = .field s x f) (hr : (opField T s x f).Runs S st v u n) : OpOK P E o st a w hs v u n := by
  replace hr := opnd_sound h hr; obtain ⟨av, hav, hr⟩ := hr
  have hx : ∀ {y : Value}, (Instr.field s (a.eval x) f).run P w = .ok y w → (execOp a.eval o).run P w = .ok (.value y) w := by
    intro y hy
    simp only [execOp, ho, Sem.run_bind, hy, Result.andThen_ok, Sem.run_pure]
  split at hr
  · rename_i fs e1
    split at hr
    · rename_i off ft e2
      split at hr
      · rename_i fr cs
        unfold AV.VR at hav
        obtain ⟨vs, e, hv⟩ := hav
        unfold loadSel at hr
        split at hr
        · rename_i ha
          unfold Q.Runs at hr
          obtain ⟨h1, hr⟩ := hr
          unfold Q.Runs at hr
          obtain ⟨rfl, rfl, rfl⟩ := hr
          refine OpOK.pure h hd ?_ (hx (by rw [e]; exact run_field hT e1 e2 vs (run_part_agg hT ha vs off)))
          unfold AV.VR
          exact ⟨_, rfl, by simpa using (hv.drop off).take _⟩
        · rename_i ha
          split at hr
          · rename_i hk
            split at hr
            · rename_i c rest ec
              unfold Q.Runs at hr
              obtain ⟨rfl, rfl, rfl⟩ := hr
              have h2 := hv.drop off
              rw [ec] at h2
              unfold Dat.RF at h2
              obtain ⟨y, rs, e3, h0, h1, _⟩ := h2
              have hy : vs[off]? = some y := by
                have : (vs.toList.drop off)[0]? = some y := by rw [e3]; rfl
                rw [List.getElem?_drop] at this
                simpa using this
              refine OpOK.pure h hd ?_ (hx (by rw [e]; exact run_field hT e1 e2 vs (run_part_one hT hk (by simpa using ha) vs off y hy)))
              unfold AV.VR
              exact DV_or (DV.of_one h1 (fun fs e => by subst e; simp [Dat.nagg] at h0))
            · unfold Q.Runs at hr; exact hr.elim
          · unfold Q.Runs at hr; exact hr.elim
      · rename_i cs
        unfold AV.VR at hav
        obtain ⟨vs, e, hv, h6⟩ := hav
        split at hr
        · rename_i ha
          unfold Q.Runs at hr
          obtain ⟨h1, hr⟩ := hr
          unfold Q.Runs at hr
          obtain ⟨rfl, rfl, rfl⟩ := hr
          exact OpOK.pure h hd (VR.mkAgg (VL.take (k := (T ft).size) (VL.drop (k := off) hv)) fun q hq => h6 q (List.mem_of_mem_drop (List.mem_of_mem_take hq)))
            (hx (by rw [e]; exact run_field hT e1 e2 vs (run_part_agg hT ha vs off)))
        · rename_i ha
          split at hr
          · rename_i hk
            split at hr
            · rename_i y ey
              unfold Q.Runs at hr
              obtain ⟨rfl, rfl, rfl⟩ := hr
              obtain ⟨z, ez, hz⟩ := VL.get hv ey
              exact OpOK.pure h hd hz (hx (by rw [e]; exact run_field hT e1 e2 vs (run_part_one hT hk (by simpa using ha) vs off z (by simpa using ez))))
            · unfold Q.Runs at hr; exact hr.elim
          · unfold Q.Runs at hr; exact hr.elim
      · unfold Q.Runs at hr; exact hr.elim
    · unfold Q.Runs at hr; exact hr.elim
  · unfold Q.Runs at hr; exact hr.elim

end
end Go.AM

/- AM, part 8: cuts, strings' bytes, min and max. -/
namespace Go.AM
open Go Go.RowKit
section
variable {P : Program} {S : SpecEqT} {E : En} {st : St} {a : Act} {w : World} {hs : List Hd} {o : Oper} {v : AV} {u : List (Nat × Ob)} {n : List Ob} {T : Nat → TI}

/-! ### x[lo:hi], x[lo:hi:max] of shared data; of strings -/
def intOf? : AV → Option Int
  | .d _ (.v (.int _ k)) => some k
  | _ => none

theorem intOf_sound {C : Cx} {av : AV} {x : Value} {k : Int} (h : av.VR C x) (e : intOf? av = some k) : ∃ kd, x = .int kd k := by
  unfold intOf? at e
  split at e
  · simp only [Option.some.injEq] at e
    subst e
    exact ⟨_, vr_int h⟩
  · simp at e

def Q.optInt (x : Option Operand) (dflt : Int) (k : Int → Q) : Q :=
  match x with
  | none => k dflt
  | some x => Q.opnd x fun a => match intOf? a with
    | some i => k i
    | none => .bad

theorem optInt_sound (h : Rel E st a w hs) {x : Option Operand} {d : Int} {k : Int → Q} (hr : (Q.optInt x d k).Runs S st v u n) :
    ∃ i, (k i).Runs S st v u n ∧ ((x = none ∧ i = d) ∨ ∃ y kd, x = some y ∧ a.eval y = .int kd i) := by
  cases x with
  | none => exact ⟨d, hr, .inl ⟨rfl, rfl⟩⟩
  | some y =>
    unfold Q.optInt at hr
    replace hr := opnd_sound h hr; obtain ⟨av, hav, hr⟩ := hr
    split at hr
    · rename_i i e
      obtain ⟨kd, e2⟩ := intOf_sound hav e
      exact ⟨i, hr, .inr ⟨y, kd, rfl, e2⟩⟩
    · unfold Q.Runs at hr; exact hr.elim

/-- The bytes from lo to hi. -/
def cutS (s : ByteArray) (lo hi : Int) : ByteArray := s.extract lo.toNat hi.toNat

def opSlice (T : Nat → TI) (t : Nat) (x : Operand) (lo hi mx : Option Operand) : Q := Q.opnd x fun a => match a with
  | .d fr (.sl sz xs) => (match (T t).desc with
    | .slice e => if sz = (T e).size ∧ (T e).desc.known = true then Q.optInt lo 0 fun l => Q.optInt hi (xs.length : Int) fun h => Q.optInt mx h fun m =>
        .side (0 ≤ l ∧ l ≤ h ∧ h ≤ m ∧ m ≤ (xs.length : Int)) (if mx.isSome = true → hi.isSome = true then .fin (.d fr (.sl sz ((xs.drop l.toNat).take (h.toNat - l.toNat)))) [] [] else .bad) else .bad
    | _ => .bad)
  | .d _ (.v (.string s)) => (match (T t).desc, mx with
    | .str, none => Q.optInt lo 0 fun l => Q.optInt hi (s.size : Int) fun h => .side (0 ≤ l ∧ l ≤ h ∧ h ≤ (s.size : Int)) (Q.ret (.string (cutS s l h)))
    | _, _ => .bad)
  | .own m γ => (match (T t).desc, hi, mx with
    | .slice e, none, none => .obj m fun ob => (match ob with
      | .row _ sz γ' _ xs => if γ = γ' ∧ sz = (T e).size ∧ (T e).desc.known = true then Q.optInt lo 0 fun l => .side (0 ≤ l ∧ l < (xs.length : Int)) (.fin (.cut m γ sz l.toNat) [] []) else .bad
      | _ => .bad)
    | _, _, _ => .bad)
  | _ => .bad

theorem run_bounds (len cap : Nat) (hlc : len ≤ cap) (lo hi mx : Option Value) (l h m : Int)
    (h1 : (lo = none ∧ l = 0) ∨ ∃ kd, lo = some (.int kd l)) (h2 : (hi = none ∧ h = (len : Int)) ∨ ∃ kd, hi = some (.int kd h)) (h3 : (mx = none ∧ m = h) ∨ ∃ kd, mx = some (.int kd m))
    (h0 : 0 ≤ l) (hlh : l ≤ h) (hhm : h ≤ m) (hm : m ≤ (cap : Int)) (hmx : mx.isSome = true → hi.isSome = true) :
    ∃ m', (Instr.sliceBounds true len cap lo hi mx).run P w = .ok (l.toNat, h.toNat, m') w ∧ h.toNat ≤ m' ∧ m' ≤ cap := by
  have e1 : (h.toNat : Int) = h := Int.toNat_of_nonneg (by omega)
  have e2 : (m.toNat : Int) = m := Int.toNat_of_nonneg (by omega)
  have e3 : (0 : Int) ≤ h := by omega
  have e4 : (0 : Int) ≤ m := by omega
  have e5 : h ≤ (cap : Int) := by omega
  rcases h3 with ⟨rfl, rfl⟩ | ⟨k3, rfl⟩
  · refine ⟨cap, ?_, by omega, Nat.le_refl _⟩
    rcases h2 with ⟨rfl, rfl⟩ | ⟨k2, rfl⟩ <;> rcases h1 with ⟨rfl, rfl⟩ | ⟨k1, rfl⟩ <;>
      simp [Instr.sliceBounds, run_sliceBound, h0, hlh, e1, e3, e5]
  · refine ⟨m.toNat, ?_, by omega, by omega⟩
    rcases h2 with ⟨rfl, rfl⟩ | ⟨k2, rfl⟩
    · simp at hmx
    · rcases h1 with ⟨rfl, rfl⟩ | ⟨k1, rfl⟩ <;>
        simp [Instr.sliceBounds, run_sliceBound, h0, hlh, hhm, hm, e1, e2, e3, e4]

theorem run_bounds_str (len : Nat) (lo hi : Option Value) (l h : Int)
    (h1 : (lo = none ∧ l = 0) ∨ ∃ kd, lo = some (.int kd l)) (h2 : (hi = none ∧ h = (len : Int)) ∨ ∃ kd, hi = some (.int kd h))
    (h0 : 0 ≤ l) (hlh : l ≤ h) (hm : h ≤ (len : Int)) :
    (Instr.sliceBounds false len len lo hi none).run P w = .ok (l.toNat, h.toNat, len) w := by
  have e1 : (h.toNat : Int) = h := Int.toNat_of_nonneg (by omega)
  have e3 : (0 : Int) ≤ h := by omega
  rcases h2 with ⟨rfl, rfl⟩ | ⟨k2, rfl⟩ <;> rcases h1 with ⟨rfl, rfl⟩ | ⟨k1, rfl⟩ <;>
      simp [Instr.sliceBounds, run_sliceBound, h0, hlh, e1, e3, hm]

theorem run_bounds_lo (len cap : Nat) (lo : Option Value) (l : Int) (h1 : (lo = none ∧ l = 0) ∨ ∃ kd, lo = some (.int kd l)) (h0 : 0 ≤ l) (hl : l ≤ (len : Int)) :
    (Instr.sliceBounds true len cap lo none none).run P w = .ok (l.toNat, len, cap) w := by
  rcases h1 with ⟨rfl, rfl⟩ | ⟨k1, rfl⟩ <;> simp [Instr.sliceBounds, run_sliceBound, h0, hl]

theorem DV.cut {w : World} {B : Nat → Prop} {sz : Nat} {xs : List Dat} {b off c : Nat} {A : Option Addr} {l k m : Nat}
    (h4 : ∀ x ∈ xs, x.wd = sz) (h5 : xs = [] ∨ ∃ b o fl, A = some ⟨b, o, none⟩ ∧ B b ∧ Dat.RL w B xs fl ∧ ∀ j u, fl[j]? = some u → w.cell? ⟨b, o + j, none⟩ = some u)
    (hlk : l ≤ k) (hk : k ≤ xs.length) (hm : k ≤ m) (hc : m ≤ maxLen) : DV w B (.sl sz ((xs.drop l).take (k - l))) (.slice (if m = l then A else A.map (·.add (l * sz))) (k - l) (m - l)) := by
  show Dat.R w B _ _
  unfold Dat.R
  have e : ((xs.drop l).take (k - l)).length = k - l := by simp; omega
  refine ⟨_, m - l, by rw [e], by rw [e]; omega, by omega, fun x hx => h4 x (List.mem_of_mem_drop (List.mem_of_mem_take hx)), ?_⟩
  rcases h5 with rfl | ⟨b, o, fl, rfl, hb, hl, hcell⟩
  · exact .inl (by simp)
  · by_cases h0 : k - l = 0
    · exact .inl (by rw [h0]; simp)
    · refine .inr ⟨b, o + l * sz, (fl.drop (l * sz)).take ((k - l) * sz), ?_, hb, hl.part h4 l (k - l) (by omega), fun j q hq => ?_⟩
      · rw [if_neg (by omega)]
        simp [Addr.add_mid]
      · rw [List.getElem?_take] at hq
        split at hq
        · rw [List.getElem?_drop] at hq
          rw [Nat.add_assoc]
          exact hcell _ q hq
        · cases hq

theorem opSlice_sound (hT : TabOK P T) (h : Rel E st a w hs) (hd : ∀ t, o.dst = some t → t < E.N) {t : Nat} {x : Operand} {lo hi mx : Option Operand} (ho : o.op = .slice t x lo hi mx) (hr : (opSlice T t x lo hi mx).Runs S st v u n) : OpOK P E o st a w hs v u n := by
  have hx : ∀ {y : Value}, (Instr.sliceAt t (a.eval x) (lo.map a.eval) (hi.map a.eval) (mx.map a.eval)).run P w = .ok y w → (execOp a.eval o).run P w = .ok (.value y) w := by
    intro y hy
    simp only [execOp, ho, Sem.run_bind, hy, Result.andThen_ok, Sem.run_pure]
  have opt : ∀ {z : Option Operand} {d i : Int}, ((z = none ∧ i = d) ∨ ∃ y kd, z = some y ∧ a.eval y = .int kd i) → ((z.map a.eval = none ∧ i = d) ∨ ∃ kd, z.map a.eval = some (.int kd i)) := by
    intro z d i hz
    rcases hz with ⟨rfl, rfl⟩ | ⟨y, kd, rfl, e⟩
    · exact .inl ⟨rfl, rfl⟩
    · exact .inr ⟨kd, by simp [e]⟩
  replace hr := opnd_sound h hr; obtain ⟨av, hav, hr⟩ := hr
  split at hr
  · rename_i fr sz xs
    split at hr
    · rename_i e e1
      obtain ⟨g1, _⟩ := hT t (by rw [e1]; simp)
      rw [e1] at g1
      split at hr
      · rename_i hsz
        obtain ⟨l, hr, q1⟩ := optInt_sound h hr
        obtain ⟨k, hr, q2⟩ := optInt_sound h hr
        obtain ⟨m, hr, q3⟩ := optInt_sound h hr
        unfold Q.Runs at hr
        obtain ⟨⟨h0, h1, h2, h3⟩, hr⟩ := hr
        split at hr
        · rename_i hmx
          unfold Q.Runs at hr
          obtain ⟨rfl, rfl, rfl⟩ := hr
          unfold AV.VR at hav
          obtain ⟨A, c, e2, g2, g3, g4, g5⟩ := hav.slice
          obtain ⟨m', hb, hb1, hb2⟩ := run_bounds (P := P) (w := w) xs.length c g2 (lo.map a.eval) (hi.map a.eval) (mx.map a.eval) l k m (opt q1) (opt q2) (opt q3) h0 h1 h2 (by omega) (by simpa using hmx)
          obtain ⟨_, ⟨info, i1, i2, _⟩, _⟩ := hT e (KD.known_ne hsz.2)
          refine OpOK.pure h hd (v := .slice (if m' = l.toNat then A else A.map (·.add (l.toNat * sz))) (k.toNat - l.toNat) (m' - l.toNat)) ?_ (hx ?_)
          · unfold AV.VR
            exact DV.cut (b := 0) (off := 0) (c := 0) g4 g5 (by omega) (by omega) hb1 (by omega)
          · rw [e2, hsz.1, ← i2]
            simp only [Instr.sliceAt, Instr.slice, Sem.run_bind, run_underlying g1, Result.andThen_ok, hb, sizeOf, typeInfo, run_program, i1, Sem.run_pure]
        · unfold Q.Runs at hr; exact hr.elim
      · unfold Q.Runs at hr; exact hr.elim
    · unfold Q.Runs at hr; exact hr.elim
  · rename_i s
    split at hr
    · rename_i e1
      obtain ⟨g1, _⟩ := hT t (by rw [e1]; simp)
      rw [e1] at g1
      obtain ⟨l, hr, q1⟩ := optInt_sound h hr
      obtain ⟨k, hr, q2⟩ := optInt_sound h hr
      unfold Q.Runs at hr
      obtain ⟨⟨h0, h1, h2⟩, hr⟩ := hr
      obtain ⟨rfl, rfl, rfl⟩ := ret_runs hr
      refine OpOK.pure h hd (vr_v rfl) (hx ?_)
      rw [vr_int hav]
      simp only [Instr.sliceAt, Instr.slice, Sem.run_bind, run_underlying g1, Result.andThen_ok, Option.map_none, Option.isSome_none, if_false, run_bounds_str s.size _ _ l k (opt q1) (opt q2) h0 h1 h2, Sem.run_pure, Bool.false_eq_true]
      rfl
    · unfold Q.Runs at hr; exact hr.elim
  · rename_i m γ
    split at hr
    · rename_i e e1
      obtain ⟨g1, _⟩ := hT t (by rw [e1]; simp)
      rw [e1] at g1
      unfold Q.Runs at hr
      obtain ⟨ob, hob, hr⟩ := hr
      dsimp only at hr
      split at hr
      · rename_i E' sz γ' fr xs
        split at hr
        · rename_i hc
          obtain ⟨rfl, hsz, hk⟩ := hc
          obtain ⟨l, hr, q1⟩ := optInt_sound h hr
          unfold Q.Runs at hr
          obtain ⟨⟨h0, h1⟩, hr⟩ := hr
          unfold Q.Runs at hr
          obtain ⟨rfl, rfl, rfl⟩ := hr
          unfold AV.VR at hav
          have h2 := (hav.2 _ _ _ _ _ hob).2 rfl
          obtain ⟨hd', e3, h3⟩ := h.obj hob
          obtain ⟨vv, rfl, hz0, hz, fl, hl, h4⟩ := OR.row_val h3
          have e5 : (st.cx E w hs).hs = hs := rfl
          have e4 : vv = a.eval x := by
            rw [e5, e3] at h2
            simpa using h2
          obtain ⟨A, c, e2, g2, g3, g4⟩ := owns_slice h4
          obtain ⟨b, rfl⟩ := g4.resolve_left (by omega)
          have hb := run_bounds_lo (P := P) (w := w) xs.length c (lo.map a.eval) l (opt q1) h0 (by omega)
          obtain ⟨_, ⟨info, i1, i2, _⟩, _⟩ := hT e (KD.known_ne hk)
          refine OpOK.pure h hd (v := .slice (some ⟨b, l.toNat * sz, none⟩) (xs.length - l.toNat) (c - l.toNat)) ?_ (hx ?_)
          · unfold AV.VR
            refine ⟨hav.1, fun E2 sz2 γ0 fr2 xs2 he => ⟨(hav.2 _ _ _ _ _ he).1, fun e6 => ⟨b, xs.length, c, ?_, by omega, rfl⟩⟩⟩
            rw [e5, e3, e2]
          · rw [← e4, e2, hsz, ← i2]
            have e7 : ¬ (c = l.toNat) := by omega
            simp only [Instr.sliceAt, Instr.slice, Sem.run_bind, run_underlying g1, Result.andThen_ok, Option.map_none, hb, sizeOf, typeInfo, run_program, i1, Sem.run_pure, Int.toNat_natCast]
            rw [if_neg e7]
            simp [Addr.add_mid]
        · unfold Q.Runs at hr; exact hr.elim
      · unfold Q.Runs at hr; exact hr.elim
    · unfold Q.Runs at hr; exact hr.elim
  · unfold Q.Runs at hr; exact hr.elim

/-! ### s[i] -/
def byteAt (s : ByteArray) (i : Int) : Int := ((s.data.toList.getD i.toNat 0).toNat : Int)

def opIndex (T : Nat → TI) (t : Nat) (x i : Operand) : Q := Q.opnd x fun a => Q.opnd i fun iv => match (T t).desc, a, intOf? iv with
  | .str, .d _ (.v (.string s)), some k => .side (0 ≤ k ∧ k < (s.size : Int)) (Q.ret (.int .u8 (byteAt s k)))
  | _, _, _ => .bad

theorem opIndex_sound (hT : TabOK P T) (h : Rel E st a w hs) (hd : ∀ t, o.dst = some t → t < E.N) {t : Nat} {x i : Operand} (ho : o.op = .index t x i) (hr : (opIndex T t x i).Runs S st v u n) : OpOK P E o st a w hs v u n := by
  replace hr := opnd_sound h hr; obtain ⟨av, hav, hr⟩ := hr
  replace hr := opnd_sound h hr; obtain ⟨iv, hiv, hr⟩ := hr
  split at hr
  · rename_i fr s k e1 e2
    obtain ⟨g1, _⟩ := hT t (by rw [e1]; simp)
    rw [e1] at g1
    unfold Q.Runs at hr
    obtain ⟨⟨h0, h1⟩, hr⟩ := hr
    obtain ⟨rfl, rfl, rfl⟩ := ret_runs hr
    obtain ⟨kd, e3⟩ := intOf_sound hiv e2
    refine OpOK.pure h hd (vr_v rfl) ?_
    have hlt : k.toNat < s.size := by omega
    have hlt' : k.toNat < s.data.toList.length := by simpa using hlt
    have e4 : s[k.toNat]? = some s[k.toNat] := by simp [hlt]
    have e5 : (s[k.toNat].toNat : Int) = byteAt s k := by
      simp only [byteAt, List.getD_eq_getElem?_getD, List.getElem?_eq_getElem hlt', Option.getD_some]
      rfl
    simp only [execOp, ho, vr_int hav, e3, Instr.index, asIntOf, Sem.run_bind, Sem.run_pure, Result.andThen_ok, run_underlying g1, h0, if_true, e4, e5]
  · unfold Q.Runs at hr; exact hr.elim

/-! ### min, max of two whole numbers -/
def minI (a b : Int) : Int := if b < a then b else a
def maxI (a b : Int) : Int := if a < b then b else a

def opMinMax (mx : Bool) (x y : Operand) : Q := Q.opnd x fun a => Q.opnd y fun b => match a, b with
  | .d _ (.v (.int k p)), .d _ (.v (.int _ q)) => Q.ret (.int k (if mx then maxI p q else minI p q))
  | _, _ => .bad

theorem opMin_sound (h : Rel E st a w hs) (hd : ∀ t, o.dst = some t → t < E.N) {x y : Operand} {ts : Array TypeId} (ho : o.op = .call { callee := .builtin .min, args := #[x, y], argTypes := ts })
    (hr : (opMinMax false x y).Runs S st v u n) : OpOK P E o st a w hs v u n := by
  replace hr := opnd_sound h hr; obtain ⟨av, hav, hr⟩ := hr
  replace hr := opnd_sound h hr; obtain ⟨bv, hbv, hr⟩ := hr
  split at hr
  · obtain ⟨rfl, rfl, rfl⟩ := ret_runs hr
    refine OpOK.pure h hd (vr_v rfl) ?_
    simp only [execOp, ho, resolve, invoke, builtin, Sem.run_bind, Sem.run_pure, Result.andThen_ok, List.map_toArray, List.map_cons, List.map_nil, vr_int hav, vr_int hbv]
    simp [Builtin.min_, Builtin.min2, minI]
  · unfold Q.Runs at hr; exact hr.elim

theorem opMax_sound (h : Rel E st a w hs) (hd : ∀ t, o.dst = some t → t < E.N) {x y : Operand} {ts : Array TypeId} (ho : o.op = .call { callee := .builtin .max, args := #[x, y], argTypes := ts })
    (hr : (opMinMax true x y).Runs S st v u n) : OpOK P E o st a w hs v u n := by
  replace hr := opnd_sound h hr; obtain ⟨av, hav, hr⟩ := hr
  replace hr := opnd_sound h hr; obtain ⟨bv, hbv, hr⟩ := hr
  split at hr
  · obtain ⟨rfl, rfl, rfl⟩ := ret_runs hr
    refine OpOK.pure h hd (vr_v rfl) ?_
    simp only [execOp, ho, resolve, invoke, builtin, Sem.run_bind, Sem.run_pure, Result.andThen_ok, List.map_toArray, List.map_cons, List.map_nil, vr_int hav, vr_int hbv]
    simp [Builtin.max_, Builtin.max2, maxI]
  · unfold Q.Runs at hr; exact hr.elim

end
end Go.AM

/- AM, part 9: what makes memory: alloc, box, build, literals, make. -/
namespace Go.AM
open Go Go.RowKit

def setAll {α : Type} (cells : List α) (off : Nat) : List α → List α
  | [] => cells
  | c :: cs => setAll (cells.set off c) (off + 1) cs

theorem setAll_len {α : Type} : ∀ (cs : List α) (cells : List α) (off : Nat), (setAll cells off cs).length = cells.length
  | [], _, _ => rfl
  | c :: cs, cells, off => by simp [setAll, setAll_len cs]

theorem foldl_setAll {α : Type} : ∀ (l : List α) (k off : Nat) (cells : Array α),
    ((l.zipIdx k).foldl (fun (cs : Array α) (p : α × Nat) => cs.setIfInBounds (off + p.2) p.1) cells).toList = setAll cells.toList (off + k) l
  | [], k, off, cells => rfl
  | c :: l, k, off, cells => by
    simp only [List.zipIdx_cons, List.foldl_cons, setAll]
    rw [foldl_setAll l (k + 1) off]
    simp [Array.toList_setIfInBounds, Nat.add_assoc]

theorem fill_setAll (cs cells : Array Value) (off : Nat) : (cs.zipIdx.foldl (fun cs (c, j) => cs.setIfInBounds (off + j) c) cells).toList = setAll cells.toList off cs.toList := by
  have h : cs.zipIdx.foldl (fun cs (c, j) => cs.setIfInBounds (off + j) c) cells = (cs.toList.zipIdx 0).foldl (fun (cs : Array Value) (p : Value × Nat) => cs.setIfInBounds (off + p.2) p.1) cells := by
    rw [← Array.foldl_toList]
    simp
  rw [h, foldl_setAll]
  rfl

def fillA {α : Type} (place : Nat → Option (Nat × Nat)) (cells : List α) : List (Nat × List α) → Option (List α)
  | [] => some cells
  | (i, cs) :: rest => match place i with
    | none => none
    | some (off, size) => if cs.length = size ∧ off + cs.length ≤ cells.length then fillA place (setAll cells off cs) rest else none

theorem VL.set {C : Cx} : ∀ {as : List AV} {vs : List Value} {i : Nat} {x : AV} {y : Value}, AV.VL C as vs → x.VR C y → AV.VL C (as.set i x) (vs.set i y)
  | [], vs, i, x, y, h, hx => by unfold AV.VL at h; subst h; simp [AV.VL]
  | a :: as, vs, i, x, y, h, hx => by
    unfold AV.VL at h
    obtain ⟨z, rest, rfl, h1, h2⟩ := h
    cases i with
    | zero => simp only [List.set_cons_zero, AV.VL]; exact ⟨y, rest, rfl, hx, h2⟩
    | succ i => simp only [List.set_cons_succ, AV.VL]; exact ⟨z, _, rfl, h1, VL.set h2 hx⟩

theorem VL.setAll {C : Cx} : ∀ {cs : List AV} {ys : List Value} {as : List AV} {vs : List Value} {off : Nat}, AV.VL C as vs → AV.VL C cs ys → AV.VL C (setAll as off cs) (AM.setAll vs off ys)
  | [], ys, as, vs, off, h, hc => by unfold AV.VL at hc; subst hc; exact h
  | c :: cs, ys, as, vs, off, h, hc => by
    unfold AV.VL at hc
    obtain ⟨y, rest, rfl, h1, h2⟩ := hc
    simp only [AM.setAll]
    exact VL.setAll (VL.set h h1) h2

theorem mem_setAll {α : Type} {q : α} : ∀ {cs : List α} {as : List α} {off : Nat}, q ∈ setAll as off cs → q ∈ as ∨ q ∈ cs
  | [], as, off, h => .inl h
  | c :: cs, as, off, h => by
    simp only [setAll] at h
    rcases mem_setAll h with h | h
    · rcases List.mem_or_eq_of_mem_set h with h | rfl
      · exact .inl h
      · exact .inr (by simp)
    · exact .inr (by simp [h])

/-- Values whose cells are told. -/
def CellsOf (C : Cx) (fs : List AV) (v : Value) : Prop := AV.VL C fs v.cells.toList ∧ ∀ q ∈ v.cells.toList, q.oneCell' = true

inductive Parts (C : Cx) : List (Nat × List AV) → List (Nat × Value) → Prop where
  | nil : Parts C [] []
  | cons {p : Nat × List AV} {v : Nat × Value} {ps : List (Nat × List AV)} {vs : List (Nat × Value)} : p.1 = v.1 ∧ CellsOf C p.2 v.2 → Parts C ps vs → Parts C (p :: ps) (v :: vs)

theorem fill_sound {C : Cx} {place : Nat → Option (Nat × Nat)} : ∀ {ps : List (Nat × List AV)} {vs : List (Nat × Value)} {as : List AV} {cells : Array Value} {out : List AV},
    fillA place as ps = some out → AV.VL C as cells.toList → (∀ q ∈ cells.toList, q.oneCell' = true) → Parts C ps vs →
    ∃ cells', Instr.fill place cells vs = some cells' ∧ AV.VL C out cells'.toList ∧ (∀ q ∈ cells'.toList, q.oneCell' = true)
  | [], vs, as, cells, out, h, hv, h1, hf => by
    cases hf
    simp only [fillA, Option.some.injEq] at h
    subst h
    exact ⟨cells, rfl, hv, h1⟩
  | (i, cs) :: ps, vs, as, cells, out, h, hv, h1, hf => by
    cases hf with
    | cons hp hrest =>
      rename_i p vs
      obtain ⟨j, x⟩ := p
      obtain ⟨rfl, hc1, hc2⟩ := hp
      simp only [fillA] at h
      split at h
      · simp at h
      · rename_i off size e
        split at h
        · rename_i hl
          have l1 := VL.len hc1
          have l2 := VL.len hv
          have e1 : x.cells.size = size := by rw [← hl.1, ← l1]; simp
          have e2 : ¬ (off + x.cells.size > cells.size) := by
            have : cells.size = as.length := by rw [← l2]; simp
            rw [this, e1, ← hl.1]; omega
          have hset := fill_setAll x.cells cells off
          obtain ⟨cells', g1, g2, g3⟩ := fill_sound (cells := x.cells.zipIdx.foldl (fun cs (c, j) => cs.setIfInBounds (off + j) c) cells) h (by rw [hset]; exact VL.setAll hv hc1)
            (fun q hq => by rw [hset] at hq; rcases mem_setAll hq with hq | hq; exact h1 q hq; exact hc2 q hq) hrest
          refine ⟨cells', ?_, g2, g3⟩
          simp only [Instr.fill, e, e1]
          rw [if_neg (by simp; omega)]
          exact g1
        · simp at h

section
variable {P : Program} {S : SpecEqT} {E : En} {st : St} {a : Act} {w : World} {hs : List Hd} {o : Oper} {v : AV} {u : List (Nat × Ob)} {n : List Ob} {T : Nat → TI}

/-- A new object. -/
theorem OpOK.add (h : Rel E st a w hs) (hd : ∀ t, o.dst = some t → t < E.N) {w' : World} {val : Value} {av : AV} {ob : Ob} {k : Hd} (hrun : (execOp a.eval o).run P w = .ok (.value val) w')
    (hb : Below w.heap.size w w') (hn : ∀ b ∈ k.blks, w.heap.size ≤ b) (hor : ob.OR ((st.cx E w hs).add w' ob k) k) (hv : av.VR ((st.cx E w hs).add w' ob k) val) : OpOK P E o st a w hs av [] [ob] := by
  intro Kp Q hK
  unfold Oper.wp
  rw [hrun, Oper.upon_value]
  have le := Cx.Le.add (C := st.cx E w hs) (o := ob) h.wok.len hb hn
  have wok := h.wok.add hb hn hor
  have hr : Rel E ⟨st.env, st.obs ++ [some ob]⟩ a w' (hs ++ [k]) := h.le le wok
  have := hr.put (av := av) (v := val) hv o.dst hd
  refine hK _ _ (hs ++ [k]) ?_
  cases hdst : o.dst <;> simpa [St.upd, St.put, hdst] using this

/-- The cells of an operand. -/
def Q.cells (av : AV) (k : List AV → Q) : Q :=
  match av with
  | .d fr x => k (x.cells.map (.d fr))
  | .agg fs => k fs
  | .own m γ => .obj m fun ob => (match ob with
    | .row _ _ γ' _ _ => if γ = γ' then k [.own m γ] else .bad
    | _ => .bad)
  | .ptr m off => .obj m fun _ => k [.ptr m off]
  | .fn f c => k [.fn f c]
  | _ => .bad

theorem Qcells_sound (h : Rel E st a w hs) {av : AV} {x : Value} (hx : av.VR (st.cx E w hs) x) {k : List AV → Q} (hr : (Q.cells av k).Runs S st v u n) : ∃ fs, (k fs).Runs S st v u n ∧ CellsOf (st.cx E w hs) fs x := by
  unfold Q.cells at hr
  split at hr
  · refine ⟨_, hr, ?_⟩
    exact VR.cells hx rfl (fun _ _ e => by cases e) (fun _ _ e => by cases e) (fun m k' e1 ⟨ob, e2⟩ => by
      obtain ⟨hd, e3, e4⟩ := h.obj e2
      have : (st.cx E w hs).hs = hs := rfl
      rw [this, e3] at e1
      simp only [Option.some.injEq] at e1
      subst e1
      cases ob with
      | row E sz γ fr xs => obtain ⟨_, _, fl, _, ho⟩ := e4; obtain ⟨A, c, rfl, _⟩ := owns_slice ho; rfl
      | _ => exact e4.elim)
  · exact ⟨_, hr, VR.cells hx rfl (fun _ _ e => by cases e) (fun _ _ e => by cases e) (fun m k' e1 ⟨ob, e2⟩ => by
      obtain ⟨hd, e3, e4⟩ := h.obj e2
      have : (st.cx E w hs).hs = hs := rfl
      rw [this, e3] at e1
      simp only [Option.some.injEq] at e1
      subst e1
      cases ob with
      | row E sz γ fr xs => obtain ⟨_, _, fl, _, ho⟩ := e4; obtain ⟨A, c, rfl, _⟩ := owns_slice ho; rfl
      | _ => exact e4.elim)⟩
  · rename_i m γ
    unfold Q.Runs at hr
    obtain ⟨ob, hob, hr⟩ := hr
    dsimp only at hr
    split at hr
    · split at hr
      · rename_i eγ
        subst eγ
        refine ⟨_, hr, ?_⟩
        have hx' := hx
        unfold AV.VR at hx'
        have h2 := (hx'.2 _ _ _ _ _ hob).2 rfl
        obtain ⟨hd', e3, h3⟩ := h.obj hob
        obtain ⟨vv, rfl, _, _, fl, _, h4⟩ := OR.row_val h3
        have e4 : vv = x := by
          have : (st.cx E w hs).hs = hs := rfl
          rw [this, e3] at h2
          simpa using h2
        obtain ⟨A, c, e5, _⟩ := owns_slice h4
        have e6 : x.cells = #[x] := by rw [← e4, e5]; rfl
        have e7 : x.oneCell' = true := by rw [← e4, e5]; rfl
        unfold CellsOf
        rw [e6]
        simp [AV.VL, hx, e7]
      · unfold Q.Runs at hr; exact hr.elim
    · unfold Q.Runs at hr; exact hr.elim
  · rename_i m off
    unfold Q.Runs at hr
    obtain ⟨ob, hob, hr⟩ := hr
    refine ⟨_, hr, ?_⟩
    have hx' := hx
    unfold AV.VR at hx'
    obtain ⟨b, _, rfl⟩ := hx'.2 ob hob
    have e6 : (Value.pointer (some ⟨b, off, none⟩)).cells = #[.pointer (some ⟨b, off, none⟩)] := rfl
    unfold CellsOf
    rw [e6]
    simp [AV.VL, hx, Value.oneCell']
  · rename_i f c
    refine ⟨_, hr, ?_⟩
    have hx' := hx
    unfold AV.VR at hx'
    obtain ⟨cs, rfl, h2⟩ := hx'
    have e6 : (Value.func (.func f) #[] cs).cells = #[.func (.func f) #[] cs] := rfl
    unfold CellsOf
    rw [e6]
    simp [AV.VL, hx, Value.oneCell']
  · unfold Q.Runs at hr; exact hr.elim

theorem below_alloc1 (w : World) (o : Obj) : Below w.heap.size w (w.alloc o) := (Below.refl _ _).alloc (Nat.le_refl _) o

/-- A block of cells told. -/
theorem add_cells (h : Rel E st a w hs) {t : Nat} {fs : List AV} {vs : List Value} (hv : AV.VL (st.cx E w hs) fs vs) (h1 : ∀ q ∈ vs, q.oneCell' = true) :
    (Ob.cells t fs).OR ((st.cx E w hs).add (w.alloc (.cells vs.toArray t)) (.cells t fs) (.ptr w.heap.size)) (.ptr w.heap.size) ∧
    (AV.ptr st.obs.length 0).VR ((st.cx E w hs).add (w.alloc (.cells vs.toArray t)) (.cells t fs) (.ptr w.heap.size)) (.pointer (some ⟨w.heap.size, 0, none⟩)) := by
  have le := Cx.Le.add (C := st.cx E w hs) (o := .cells t fs) (h := .ptr w.heap.size) h.wok.len (below_alloc1 w (.cells vs.toArray t)) (by simp [Hd.blks, St.cx])
  refine ⟨⟨vs, ?_, AV.VL.le le _ _ hv, h1⟩, ?_⟩
  · exact heap_alloc_new w _
  · unfold AV.VR
    refine ⟨by simp [Cx.add, St.cx], fun ob _ => ⟨w.heap.size, .inl ?_, rfl⟩⟩
    have : st.obs.length = hs.length := h.wok.len
    simp [Cx.add, St.cx, this]

/-! ### alloc, box -/
def opAlloc (T : Nat → TI) (t : Nat) : Q := if (T t).desc.known = true then .fresh fun m => .fin (.ptr m 0) [] [.cells t ((T t).zero.map fun z => .d true (.v z))] else .bad

theorem VL.vals {C : Cx} : ∀ {zs : List Value}, (∀ q ∈ zs, q.oneCell' = true) → AV.VL C (zs.map fun z => .d true (.v z)) zs
  | [], _ => by simp [AV.VL]
  | z :: zs, h => by
    simp only [List.map_cons, AV.VL]
    exact ⟨z, zs, rfl, vr_v (h z (by simp)), VL.vals fun q hq => h q (by simp [hq])⟩

theorem opAlloc_sound (hT : TabOK P T) (h : Rel E st a w hs) (hd : ∀ t, o.dst = some t → t < E.N) {t : Nat} (ho : o.op = .alloc t) (hr : (opAlloc T t).Runs S st v u n) : OpOK P E o st a w hs v u n := by
  unfold opAlloc at hr
  split at hr
  · rename_i hk
    unfold Q.Runs at hr
    unfold Q.Runs at hr
    obtain ⟨rfl, rfl, rfl⟩ := hr
    obtain ⟨_, ⟨info, i1, i2, i3, z, i4, i5⟩, i6⟩ := hT t (KD.known_ne hk)
    obtain ⟨g1, g2⟩ := add_cells (t := t) h (VL.vals i6) i6
    refine OpOK.add h hd (w' := w.alloc (.cells (T t).zero.toArray t)) (val := .pointer (some ⟨w.heap.size, 0, none⟩)) ?_ (below_alloc1 _ _) (by simp [Hd.blks]) g1 g2
    have : z.cells = (T t).zero.toArray := by rw [← i5]
    simp [execOp, ho, Instr.alloc, zeroValue, typeInfo, i1, i4, newVar, newRow, this]
  · unfold Q.Runs at hr; exact hr.elim

def opBox (T : Nat → TI) (t : Nat) (x : Operand) : Q := Q.opnd x fun a => Q.cells a fun fs => .fresh fun m => .fin (.ptr m 0) [] [.cells t fs]

theorem opBox_sound (h : Rel E st a w hs) (hd : ∀ t, o.dst = some t → t < E.N) {t : Nat} {x : Operand} (ho : o.op = .box t x) (hr : (opBox T t x).Runs S st v u n) : OpOK P E o st a w hs v u n := by
  replace hr := opnd_sound h hr; obtain ⟨av, hav, hr⟩ := hr
  obtain ⟨fs, hr, hc1, hc2⟩ := Qcells_sound h hav hr
  unfold Q.Runs at hr
  unfold Q.Runs at hr
  obtain ⟨rfl, rfl, rfl⟩ := hr
  obtain ⟨g1, g2⟩ := add_cells (t := t) h hc1 hc2
  refine OpOK.add h hd (w' := w.alloc (.cells (a.eval x).cells.toList.toArray t)) (val := .pointer (some ⟨w.heap.size, 0, none⟩)) ?_ (below_alloc1 _ _) (by simp [Hd.blks]) g1 g2
  simp [execOp, ho, Instr.box, newVar, newRow]

/-! ### parts of a literal -/
def Q.parts : List (Nat × Operand) → (List (Nat × List AV) → Q) → Q
  | [], k => k []
  | (i, x) :: ps, k => Q.opnd x fun a => Q.cells a fun fs => Q.parts ps fun rest => k ((i, fs) :: rest)

theorem parts_sound (h : Rel E st a w hs) : ∀ {ps : List (Nat × Operand)} {k : List (Nat × List AV) → Q}, (Q.parts ps k).Runs S st v u n →
    ∃ fs, (k fs).Runs S st v u n ∧ Parts (st.cx E w hs) fs (ps.map fun p => (p.1, a.eval p.2))
  | [], k, hr => ⟨[], hr, .nil⟩
  | (i, x) :: ps, k, hr => by
    unfold Q.parts at hr
    replace hr := opnd_sound h hr; obtain ⟨av, hav, hr⟩ := hr
    obtain ⟨fs, hr, hc⟩ := Qcells_sound h hav hr
    obtain ⟨rest, hr, hf⟩ := parts_sound h hr
    exact ⟨(i, fs) :: rest, hr, .cons ⟨rfl, hc⟩ hf⟩

/-! ### build -/
def placeOf (T : Nat → TI) (fs : List (Nat × Nat)) (i : Nat) : Option (Nat × Nat) := (fs[i]?).map fun p => (p.1, (T p.2).size)

def opBuild (T : Nat → TI) (t : Nat) (parts : Array (Nat × Operand)) : Q := match (T t).desc with
  | .struct fs => if fs.all (fun p => (T p.2).desc.known) = true then Q.parts parts.toList fun ps => (match fillA (placeOf T fs) ((T t).zero.map fun z => AV.d true (.v z)) ps with
    | some cs => .fin (mkAgg cs) [] []
    | none => .bad) else .bad
  | .arr _ e => if (T e).desc.known = true then Q.parts parts.toList fun ps => (match fillA (fun i => some (i * (T e).size, (T e).size)) ((T t).zero.map fun z => AV.d true (.v z)) ps with
    | some cs => .fin (mkAgg cs) [] []
    | none => .bad) else .bad
  | _ => .bad

theorem mapM_places (hT : TabOK P T) {t : Nat} {fs : List (Nat × Nat)} {fields : Array Field} (e : (fields.toList.map fun f => (f.offset, f.type)) = fs) (hk : fs.all (fun p => (T p.2).desc.known) = true) :
    ∃ places : Array (Nat × Nat), (fields.mapM fun f => do pure (f.offset, ← sizeOf f.type) : Sem (Array (Nat × Nat))).run P w = .ok places w ∧ ∀ i : Nat, places[i]? = placeOf T fs i := by
  have key : ∀ (l : List Field) (gs : List (Nat × Nat)), (l.map fun f => (f.offset, f.type)) = gs → gs.all (fun p => (T p.2).desc.known) = true →
      (l.mapM fun f => do pure (f.offset, ← sizeOf f.type) : Sem (List (Nat × Nat))).run P w = .ok (gs.map fun p => (p.1, (T p.2).size)) w := by
    intro l
    induction l with
    | nil => intro gs e _; subst e; rfl
    | cons f l ih =>
      intro gs e hk
      subst e
      simp only [List.map_cons, List.all_cons, Bool.and_eq_true] at hk
      obtain ⟨_, ⟨info, i1, i2, _⟩, _⟩ := hT f.type (KD.known_ne hk.1)
      have := ih _ rfl hk.2
      simp only [List.mapM_cons, Sem.run_bind, sizeOf, typeInfo, run_program, Result.andThen_ok, i1, Sem.run_pure, i2, List.map_cons] at this ⊢
      rw [this]
      rfl
  refine ⟨(fs.map fun p => (p.1, (T p.2).size)).toArray, ?_, fun i => by simp [placeOf]⟩
  have := key fields.toList fs e hk
  rw [Array.mapM_eq_mapM_toList, Sem.run_map, this]
  rfl

theorem opBuild_sound (hT : TabOK P T) (h : Rel E st a w hs) (hd : ∀ t, o.dst = some t → t < E.N) {t : Nat} {parts : Array (Nat × Operand)} (ho : o.op = .build t parts) (hr : (opBuild T t parts).Runs S st v u n) : OpOK P E o st a w hs v u n := by
  unfold opBuild at hr
  split at hr
  · rename_i fs e1
    split at hr
    · rename_i hk
      obtain ⟨ps, hr, hf⟩ := parts_sound h hr
      split at hr
      · rename_i cs ec
        unfold Q.Runs at hr
        obtain ⟨rfl, rfl, rfl⟩ := hr
        obtain ⟨g1, ⟨info, i1, i2, i3, z, i4, i5⟩, i6⟩ := hT t (by rw [e1]; simp)
        rw [e1] at g1
        obtain ⟨fields, g2, g3⟩ := g1
        obtain ⟨places, p1, p2⟩ := mapM_places (P := P) (w := w) (t := t) hT g3 hk
        have p3 : (fun i => places[i]?) = placeOf T fs := funext p2
        obtain ⟨cells', q1, q2, q3⟩ := fill_sound (cells := z.cells) ec (by rw [i5]; exact VL.vals i6) (by rw [i5]; exact i6) hf
        have hz : (zeroValue t).run P w = .ok z w := by simp [zeroValue, typeInfo, i1, i4]
        refine OpOK.pure h hd (v := .agg cells') (by simpa using VR.mkAgg q2 q3) ?_
        have e5 : (parts.map fun (i, x) => (i, a.eval x)).toList = parts.toList.map fun p => (p.1, a.eval p.2) := by simp
        simp only [execOp, ho, Instr.build, Sem.run_bind, hz, Result.andThen_ok, run_underlying g2, p1, e5]
        have : (fun x => places[x]?) = placeOf T fs := p3
        simp only [this, q1, Sem.run_pure, Result.andThen_ok]
      · unfold Q.Runs at hr; exact hr.elim
    · unfold Q.Runs at hr; exact hr.elim
  · rename_i c e e1
    split at hr
    · rename_i hk
      obtain ⟨ps, hr, hf⟩ := parts_sound h hr
      split at hr
      · rename_i cs ec
        unfold Q.Runs at hr
        obtain ⟨rfl, rfl, rfl⟩ := hr
        obtain ⟨g1, ⟨info, i1, i2, i3, z, i4, i5⟩, i6⟩ := hT t (by rw [e1]; simp)
        rw [e1] at g1
        obtain ⟨_, ⟨info', j1, j2, _⟩, _⟩ := hT e (KD.known_ne hk)
        obtain ⟨cells', q1, q2, q3⟩ := fill_sound (cells := z.cells) ec (by rw [i5]; exact VL.vals i6) (by rw [i5]; exact i6) hf
        have hz : (zeroValue t).run P w = .ok z w := by simp [zeroValue, typeInfo, i1, i4]
        have hs : (sizeOf e).run P w = .ok (T e).size w := by simp [sizeOf, typeInfo, j1, j2]
        refine OpOK.pure h hd (v := .agg cells') (by simpa using VR.mkAgg q2 q3) ?_
        have e5 : (parts.map fun (i, x) => (i, a.eval x)).toList = parts.toList.map fun p => (p.1, a.eval p.2) := by simp
        have g1' : P.underlying t = some (.array c e) := g1
        simp only [execOp, ho, Instr.build, Sem.run_bind, hz, Result.andThen_ok, run_underlying g1', hs, e5]
        simp only [q1, Sem.run_pure, Result.andThen_ok]
      · unfold Q.Runs at hr; exact hr.elim
    · unfold Q.Runs at hr; exact hr.elim
  · unfold Q.Runs at hr; exact hr.elim

end
end Go.AM

/- AM, part 10: slice literals, make, append, store. -/
namespace Go.AM
open Go Go.RowKit
section
variable {P : Program} {S : SpecEqT} {E : En} {st : St} {a : Act} {w : World} {hs : List Hd} {o : Oper} {v : AV} {u : List (Nat × Ob)} {n : List Ob} {T : Nat → TI}

theorem grown_below {w w' : World} (h : w.grownBy w' none) : Below w.heap.size w w' := ⟨h.os, h.tape, h.output, h.size, fun k hk => h.block k hk (by simp)⟩

/-- nil as a slice of its type. -/
def normD (T : Nat → TI) (e : Nat) : Dat → Dat
  | .v (.slice none n c) => (match (T e).desc, n with
    | .slice e', 0 => .sl (T e').size []
    | _, _ => .v (.slice none n c))
  | x => x

theorem normD_sound {w : World} {B : Nat → Prop} {e : Nat} {x : Dat} {v : Value} (h : DV w B x v) (hc : ∀ n c, x = .v (.slice none n c) → c ≤ maxLen) : DV w B (normD T e x) v := by
  unfold normD
  split
  · rename_i m c
    split
    · obtain ⟨rfl, _⟩ := DV.v_iff.1 h
      show Dat.R _ _ _ _
      unfold Dat.R
      exact ⟨none, c, rfl, Nat.zero_le _, hc _ _ rfl, by simp, .inl rfl⟩
    · exact h
  · exact h

/-! ### the elements of a slice literal -/
def smallNil : Dat → Bool
  | .v (.slice none _ c) => c = 0
  | _ => true

def Q.elems (T : Nat → TI) (e : Nat) : List (Nat × Operand) → Nat → (Bool → List Dat → Q) → Q
  | [], _, k => k true []
  | (j, x) :: ps, i, k => if j = i then Q.opnd x fun a => (match a with
    | .d fr x => if smallNil x = true then Q.elems T e ps (i + 1) fun g xs => k (fr && g) (normD T e x :: xs) else .bad
    | _ => .bad) else .bad

theorem elems_sound (h : Rel E st a w hs) {e : Nat} : ∀ {ps : List (Nat × Operand)} {i : Nat} {k : Bool → List Dat → Q}, (Q.elems T e ps i k).Runs S st v u n →
    ∃ (fr : Bool) (xs : List Dat) (vs : List Value), (k fr xs).Runs S st v u n ∧ (ps.map fun p => (p.1, a.eval p.2)) = ((vs.zipIdx i).map fun x => (x.2, x.1)) ∧ xs.length = vs.length ∧
      (Dat.RL w ((st.cx E w hs).Sh fr) xs (vs.flatMap fun v => v.cells.toList)) ∧ ∀ q ∈ vs.zip xs, q.1.cells.size = q.2.wd
  | [], i, k, hr => ⟨true, [], [], hr, rfl, rfl, by unfold Dat.RL; rfl, by simp⟩
  | (j, x) :: ps, i, k, hr => by
    unfold Q.elems at hr
    split at hr
    · rename_i ej
      subst ej
      replace hr := opnd_sound h hr; obtain ⟨av, hav, hr⟩ := hr
      split at hr
      · rename_i g y
        split at hr
        · rename_i hsm
          obtain ⟨fr, xs, vs, hr, h1, h2, h3, h4⟩ := elems_sound h hr
          unfold AV.VR at hav
          have hn : DV w ((st.cx E w hs).Sh g) (normD T e y) (a.eval x) := normD_sound hav fun m c e => by subst e; simp [smallNil] at hsm; subst hsm; simp [maxLen]
          have hc := hn.cells
          refine ⟨_, _, a.eval x :: vs, hr, by simp [List.zipIdx_cons, h1], by simp [h2], ?_, ?_⟩
          · simp only [List.flatMap_cons]
            unfold Dat.RL
            exact ⟨_, _, rfl, hc.stable (fun b hb => ⟨by cases g <;> cases fr <;> first | exact hb | exact hb.any, rfl⟩), Dat.RL.weak' (C := st.cx E w hs) h3⟩
          · intro q hq
            simp only [List.zip_cons_cons, List.mem_cons] at hq
            rcases hq with rfl | hq
            · simpa using hc.len
            · exact h4 q hq
        · unfold Q.Runs at hr; exact hr.elim
      · unfold Q.Runs at hr; exact hr.elim
    · unfold Q.Runs at hr; exact hr.elim

def opBuildSlice (T : Nat → TI) (g : Bool) (t len : Nat) (parts : Array (Nat × Operand)) : Q := match (T t).desc with
  | .slice e => if (T e).desc.known = true ∧ 0 < (T e).size ∧ len = parts.size ∧ len * (T e).size ≤ 16777216 then Q.elems T e parts.toList 0 fun fr xs =>
      if xs.all (fun x => x.wd == (T e).size) = true then (if g = true then .fin (.d fr (.sl (T e).size xs)) [] [] else .fresh fun m => .fin (.own m 0) [] [.row e (T e).size 0 fr xs]) else .bad
    else .bad
  | _ => .bad

theorem run_buildSlice_any (hT : TabOK P T) {t e len : Nat} {parts : Array (Nat × Value)} (e1 : (T t).desc = .slice e) (hk : (T e).desc.known = true) (h0 : 0 < (T e).size) (hlen : len = parts.size) (hsmall : len * (T e).size ≤ 16777216)
    {vs : List Value} (hp : parts.toList = ((vs.zipIdx 0).map fun x => (x.2, x.1))) (hw : ∀ x ∈ vs, x.cells.size = (T e).size) :
    (Instr.buildSlice t len parts).run P w = .ok (.slice (some ⟨w.heap.size, 0, none⟩) len len) (w.alloc (.cells (vs.flatMap fun v => v.cells.toList).toArray e)) := by
  obtain ⟨g1, _⟩ := hT t (by rw [e1]; simp)
  rw [e1] at g1
  obtain ⟨_, ⟨info, i1, i2, i3, z, i4, i5⟩, i6⟩ := hT e (KD.known_ne hk)
  have hl : vs.length = len := by
    rw [hlen, ← Array.length_toList, hp]; simp
  by_cases hz : len = 0
  · subst hz
    have : vs = [] := List.length_eq_zero_iff.1 hl
    subst this
    have hp' : parts = #[] := by
      apply Array.toList_inj.1
      simpa using hp
    subst hp'
    have hr0 : Array.range 0 = #[] := rfl
    simp [Instr.buildSlice, run_underlying g1, sizeOf, typeInfo, i1, Instr.fill, newRow, hr0]
  · refine run_buildSlice w t e len parts _ info z g1 i1 i4 (by rw [i2]; omega) (by rw [i2]; exact Nat.ne_of_gt (Nat.mul_pos (by omega) h0)) ?_
    rw [hp, i2]
    exact Great.fill_whole h0 vs _ hw (by simp [hl])

theorem OpOK.grow (h : Rel E st a w hs) (hd : ∀ t, o.dst = some t → t < E.N) {w' : World} {val : Value} {av : AV} (hrun : (execOp a.eval o).run P w = .ok (.value val) w')
    (hb : Below w.heap.size w w') (hv : av.VR (st.cx E w' hs) val) : OpOK P E o st a w hs av [] [] := by
  intro Kp Q hK
  unfold Oper.wp
  rw [hrun, Oper.upon_value]
  have hr : Rel E ⟨st.env, st.obs⟩ a w' hs := h.le (Cx.Le.grow (C := st.cx E w hs) hb) (h.wok.grow hb)
  refine hK _ _ hs ?_
  rw [St.upd_nil]
  exact hr.put hv o.dst hd

theorem wds_of {xs : List Dat} {vs : List Value} {sz : Nat} (hl : xs.length = vs.length) (h : ∀ q ∈ vs.zip xs, q.1.cells.size = q.2.wd) (hs : ∀ x ∈ xs, x.wd = sz) : ∀ x ∈ vs, x.cells.size = sz := by
  induction vs generalizing xs with
  | nil => simp
  | cons y vs ih =>
    cases xs with
    | nil => simp at hl
    | cons x xs =>
      intro z hz
      simp only [List.zip_cons_cons, List.mem_cons, forall_eq_or_imp] at h hs
      rcases List.mem_cons.1 hz with rfl | hz
      · rw [h.1]; exact hs.1
      · exact ih (by simpa using hl) h.2 hs.2 z hz

theorem opBuildSlice_sound (hT : TabOK P T) (h : Rel E st a w hs) (hd : ∀ t, o.dst = some t → t < E.N) {g : Bool} {t len : Nat} {parts : Array (Nat × Operand)} (ho : o.op = .buildSlice t len parts) (hr : (opBuildSlice T g t len parts).Runs S st v u n) : OpOK P E o st a w hs v u n := by
  unfold opBuildSlice at hr
  split at hr
  · rename_i e e1
    split at hr
    · rename_i hc
      obtain ⟨hk, h0, hlen, hsmall⟩ := hc
      obtain ⟨fr, xs, vs, hr, h1, h2, h3, h4⟩ := elems_sound h hr
      split at hr
      · rename_i hall
        have hws : ∀ x ∈ xs, x.wd = (T e).size := by simpa using hall
        have hwv := wds_of h2 h4 hws
        have hlv : vs.length = len := by
          have := congrArg List.length h1
          simp at this
          omega
        have hrun : (execOp a.eval o).run P w = .ok (.value (.slice (some ⟨w.heap.size, 0, none⟩) len len)) (w.alloc (.cells (vs.flatMap fun v => v.cells.toList).toArray e)) := by
          have := run_buildSlice_any (P := P) (w := w) (parts := parts.map fun (i, x) => (i, a.eval x)) hT e1 hk h0 (by simpa using hlen) hsmall (vs := vs) (by simpa using h1) hwv
          simp only [execOp, ho, Sem.run_bind, this, Result.andThen_ok, Sem.run_pure]
        have hb := below_alloc1 w (.cells (vs.flatMap fun v => v.cells.toList).toArray e)
        have hfl : (vs.flatMap fun v => v.cells.toList).length = len * (T e).size := by
          have := Dat.RL.len h3 hws
          rw [this, h2, hlv]
        have hlm : len ≤ maxLen := by
          have := Nat.le_mul_of_pos_right len h0
          simp only [maxLen]; omega
        split at hr
        · unfold Q.Runs at hr
          obtain ⟨rfl, rfl, rfl⟩ := hr
          refine OpOK.grow h hd hrun hb ?_
          have le := Cx.Le.grow (C := st.cx E w hs) hb
          unfold AV.VR
          show Dat.R _ _ _ _
          unfold Dat.R
          refine ⟨_, len, by rw [h2, hlv], by omega, hlm, hws, .inr ⟨w.heap.size, 0, _, rfl, ?_, Dat.RL.stable (le.sh fr) _ _ h3, fun j q hq => ?_⟩⟩
          · refine ⟨by simp [St.cx], fun m k ⟨ob, hob⟩ hkk hbk => ?_, .inl h.wok.size⟩
            have := (h.wok.objs m ob k hob hkk).lt _ hbk
            exact absurd this (Nat.lt_irrefl _)
          · simpa [St.cx] using hq
        · unfold Q.Runs at hr
          unfold Q.Runs at hr
          obtain ⟨rfl, rfl, rfl⟩ := hr
          have le := Cx.Le.add (C := st.cx E w hs) (o := .row e (T e).size 0 fr xs) (h := .row (.slice (some ⟨w.heap.size, 0, none⟩) len len)) h.wok.len hb (by simp [Hd.blks, Value.ownBlock, St.cx])
          refine OpOK.add h hd hrun hb (k := .row (.slice (some ⟨w.heap.size, 0, none⟩) len len)) (by simp [Hd.blks, Value.ownBlock]) ?_ ?_
          · refine ⟨h0, hws, _, Dat.RL.stable (le.sh fr) _ _ h3, ?_⟩
            rw [h2, hlv]
            refine ⟨by rw [hfl], .inr ⟨w.heap.size, len, _, rfl, Nat.zero_le _, heap_alloc_new w _, Nat.le_refl _, hlm, by simpa using hfl, ?_⟩⟩
            exact List.take_of_length_le (by rw [← hfl]; simp)
          · unfold AV.VR
            refine ⟨by simp [Cx.add, St.cx], fun E' sz' γ0 fr' xs' he => ⟨Nat.zero_le _, fun _ => ?_⟩⟩
            have : st.obs.length = hs.length := h.wok.len
            simp [Cx.add, St.cx, this]
      · unfold Q.Runs at hr; exact hr.elim
    · unfold Q.Runs at hr; exact hr.elim
  · unfold Q.Runs at hr; exact hr.elim

/-! ### make([]T, n), T of one cell -/
def opMakeSlice (T : Nat → TI) (g : Bool) (t : Nat) (x y : Operand) : Q := match (T t).desc with
  | .slice e => (match (T e).zero with
    | [z] => if (T e).desc.known = true ∧ (T e).desc.agg = false ∧ (T e).size = 1 then Q.opnd x fun a => Q.opnd y fun b => (match intOf? a, intOf? b with
      | some m, some m' => .side (m = m' ∧ 0 ≤ m ∧ m * ((T e).bytes : Int) ≤ 281474976710656 ∧ m ≤ 9223372036854775807)
        (if g = true then .fin (.d true (.sl 1 (List.replicate m.toNat (.v z)))) [] [] else .fresh fun k => .fin (.own k 0) [] [.row e 1 0 true (List.replicate m.toNat (.v z))])
      | _, _ => .bad) else .bad
    | _ => .bad)
  | _ => .bad

theorem madeCells_one (z : Value) (m : Nat) : (madeCells #[z] m).toList = List.replicate m z := by
  apply List.ext_getElem
  · simp [madeCells]
  · intro i h1 h2
    simp [madeCells, Nat.mod_one]

theorem RL_replicate {w : World} {B : Nat → Prop} {z : Value} (h : z.oneCell' = true) : ∀ m, Dat.RL w B (List.replicate m (.v z)) (List.replicate m z)
  | 0 => by unfold Dat.RL; rfl
  | m + 1 => by
    simp only [List.replicate_succ]
    unfold Dat.RL
    exact ⟨[z], _, rfl, by unfold Dat.R; exact ⟨rfl, h⟩, RL_replicate h m⟩

theorem opMakeSlice_sound (hT : TabOK P T) (h : Rel E st a w hs) (hd : ∀ t, o.dst = some t → t < E.N) {g : Bool} {t : Nat} {x y : Operand} (ho : o.op = .makeSlice t x y) (hr : (opMakeSlice T g t x y).Runs S st v u n) : OpOK P E o st a w hs v u n := by
  unfold opMakeSlice at hr
  split at hr
  · rename_i e e1
    split at hr
    · rename_i z ez
      split at hr
      · rename_i hc
        obtain ⟨hk, hag, hsz⟩ := hc
        replace hr := opnd_sound h hr; obtain ⟨av, hav, hr⟩ := hr
        replace hr := opnd_sound h hr; obtain ⟨bv, hbv, hr⟩ := hr
        split at hr
        · rename_i m m' em em'
          unfold Q.Runs at hr
          obtain ⟨⟨rfl, h0, hbytes, h63⟩, hr⟩ := hr
          obtain ⟨g1, _⟩ := hT t (by rw [e1]; simp)
          rw [e1] at g1
          obtain ⟨_, ⟨info, i1, i2, i3, z0, i4, i5⟩, i6⟩ := hT e (KD.known_ne hk)
          have hz1 : z.oneCell' = true := i6 z (by rw [ez]; simp)
          obtain ⟨k1, q1⟩ := intOf_sound hav em
          obtain ⟨k2, q2⟩ := intOf_sound hbv em'
          obtain ⟨j, rfl⟩ := Int.eq_ofNat_of_zero_le h0
          have hz0 : z0.cells = #[z] := by
            apply Array.toList_inj.1
            rw [i5, ez]
          have hrun : (execOp a.eval o).run P w = .ok (.value (.slice (some ⟨w.heap.size, 0, none⟩) j j)) (w.alloc (.cells (madeCells #[z] j) e)) := by
            have hz2 : z0 = z ∨ z0 = .agg #[z] ∨ True := .inr (.inr trivial)
            have key : (Instr.makeSlice t (.int k1 (j : Int)) (.int k2 (j : Int))).run P w = .ok (.slice (some ⟨w.heap.size, 0, none⟩) j j) (w.alloc (.cells (madeCells #[z] j) e)) := by
              have hw1 : IntKind.i64.wrap (j : Int) = j := IntWalk.i64_in _ (by omega)
              have hnb : ¬ ((info.bytes : Int) * j > 281474976710656) := by rw [i3]; rw [Int.mul_comm] at hbytes; omega
              have hnn : ¬ ((j : Int) < 0) := by omega
              by_cases hj : j = 0
              · subst hj
                have hw0 : IntKind.i64.wrap 0 = 0 := IntWalk.i64_in _ (by omega)
                simp [hw0, Instr.makeSlice, run_underlying g1, asInt, asIntOf, typeInfo, i1, hw1, sizeOf, newRow, madeCells, show Array.range 0 = #[] from rfl]
              · simp [Instr.makeSlice, run_underlying g1, asInt, asIntOf, typeInfo, i1, hw1, sizeOf, newRow, madeCells, hnb, hnn, i2, hsz, hj, zeroValue, i4, hz0]
            simp only [execOp, ho, q1, q2, Sem.run_bind, key, Result.andThen_ok, Sem.run_pure]
          have hb := below_alloc1 w (.cells (madeCells #[z] j) e)
          have hl := madeCells_one z j
          split at hr
          · unfold Q.Runs at hr
            obtain ⟨rfl, rfl, rfl⟩ := hr
            refine OpOK.grow h hd hrun hb ?_
            unfold AV.VR
            show Dat.R _ _ _ _
            unfold Dat.R
            refine ⟨_, j, by simp, by simp, by simp only [maxLen]; omega, fun q hq => by rw [List.eq_of_mem_replicate hq]; rfl, .inr ⟨w.heap.size, 0, List.replicate j z, rfl, ?_, by simpa using RL_replicate hz1 j, fun i q hq => ?_⟩⟩
            · refine ⟨by simp [St.cx], fun m k ⟨ob, hob⟩ hkk hbk => ?_, .inl h.wok.size⟩
              have := (h.wok.objs m ob k hob hkk).lt _ hbk
              exact absurd this (Nat.lt_irrefl _)
            · rw [← hl] at hq
              simpa [St.cx] using hq
          · unfold Q.Runs at hr
            unfold Q.Runs at hr
            obtain ⟨rfl, rfl, rfl⟩ := hr
            refine OpOK.add h hd hrun hb (k := .row (.slice (some ⟨w.heap.size, 0, none⟩) j j)) (by simp [Hd.blks, Value.ownBlock]) ?_ ?_
            · refine ⟨by omega, fun q hq => by rw [List.eq_of_mem_replicate hq]; rfl, List.replicate j z, by simpa using RL_replicate hz1 j, ?_⟩
              simp only [List.length_replicate, Int.toNat_natCast, Int.ofNat_eq_natCast]
              refine ⟨by simp, .inr ⟨w.heap.size, j, _, rfl, Nat.zero_le _, heap_alloc_new w _, Nat.le_refl _, by simp only [maxLen]; omega, by simp [size_madeCells], ?_⟩⟩
              rw [hl]; simp
            · unfold AV.VR
              refine ⟨by simp [Cx.add, St.cx], fun E' sz' γ0 fr' xs' he => ⟨Nat.zero_le _, fun _ => ?_⟩⟩
              have : st.obs.length = hs.length := h.wok.len
              simp [Cx.add, St.cx, this]
        · unfold Q.Runs at hr; exact hr.elim
      · unfold Q.Runs at hr; exact hr.elim
    · unfold Q.Runs at hr; exact hr.elim
  · unfold Q.Runs at hr; exact hr.elim

end
end Go.AM

/- AM, part 11: append, store. -/
namespace Go.AM
open Go Go.RowKit
section
variable {P : Program} {S : SpecEqT} {E : En} {st : St} {a : Act} {w : World} {hs : List Hd} {o : Oper} {v : AV} {u : List (Nat × Ob)} {n : List Ob} {T : Nat → TI}

/-- A source of elements. -/
structure SrcOK (C : Cx) (g : Bool) (sz : Nat) (ys : List Dat) (x : Value) : Prop where
  wds : ∀ y ∈ ys, y.wd = sz
  val : ∃ A c fl, x = .slice A ys.length c ∧ Dat.RL C.w (C.Sh g) ys fl ∧ (ys = [] ∨ ∃ ad, A = some ad ∧ ∀ j q, fl[j]? = some q → C.w.cell? (ad.add j) = some q)

def Q.src (a : AV) (not : Nat) (sz : Nat) (k : Bool → List Dat → Q) : Q := match a with
  | .d g (.sl sz' ys) => if sz' = sz then k (g || ys.all Dat.flat) ys else .bad
  | .d _ (.v (.slice _ 0 _)) => k true []
  | .own m γ => if m = not then .bad else .obj m fun ob => (match ob with
    | .row _ sz' γ' g ys => if γ = γ' ∧ sz' = sz then k (g || ys.all Dat.flat) ys else .bad
    | _ => .bad)
  | _ => .bad

theorem SrcOK.flat {C : Cx} {g : Bool} {sz : Nat} {ys : List Dat} {x : Value} (h : SrcOK C g sz ys x) : SrcOK C (g || ys.all Dat.flat) sz ys x := by
  refine ⟨h.wds, ?_⟩
  obtain ⟨A, c, fl, e, hl, hc⟩ := h.val
  refine ⟨A, c, fl, e, ?_, hc⟩
  cases hf : ys.all Dat.flat with
  | true => exact RL_allflat hf hl
  | false => rw [Bool.or_false]; exact hl

theorem src_sound (h : Rel E st a w hs) {av : AV} {x : Value} (hx : av.VR (st.cx E w hs) x) {not sz : Nat} {k : Bool → List Dat → Q} (hr : (Q.src av not sz k).Runs S st v u n) :
    ∃ g ys, (k g ys).Runs S st v u n ∧ SrcOK (st.cx E w hs) g sz ys x := by
  unfold Q.src at hr
  split at hr
  · rename_i g sz' ys
    split at hr
    · rename_i e
      subst e
      refine ⟨_, ys, hr, SrcOK.flat (g := g) ?_⟩
      unfold AV.VR at hx
      obtain ⟨A, c, e2, h2, h3, h4, h5⟩ := hx.slice
      refine ⟨h4, ?_⟩
      rcases h5 with rfl | ⟨b, off, fl, rfl, hb, hl, hc⟩
      · exact ⟨A, c, [], e2, by unfold Dat.RL; rfl, .inl rfl⟩
      · exact ⟨_, c, fl, e2, hl, .inr ⟨_, rfl, fun j q hq => by rw [Addr.add_mid]; exact hc j q hq⟩⟩
    · unfold Q.Runs at hr; exact hr.elim
  · refine ⟨true, [], hr, ⟨by simp, ?_⟩⟩
    exact ⟨_, _, [], vr_int hx, by unfold Dat.RL; rfl, .inl rfl⟩
  · rename_i m γ
    split at hr
    · unfold Q.Runs at hr; exact hr.elim
    · unfold Q.Runs at hr
      obtain ⟨ob, hob, hr⟩ := hr
      dsimp only at hr
      split at hr
      · split at hr
        · rename_i E' sz' γ' g ys ec
          obtain ⟨rfl, rfl⟩ := ec
          refine ⟨_, ys, hr, SrcOK.flat (g := g) ?_⟩
          unfold AV.VR at hx
          have h2 := (hx.2 _ _ _ _ _ hob).2 rfl
          obtain ⟨hd', e3, h3⟩ := h.obj hob
          obtain ⟨vv, rfl, _, hz, fl, hl, h4⟩ := OR.row_val h3
          have e4 : vv = x := by
            have : (st.cx E w hs).hs = hs := rfl
            rw [this, e3] at h2
            simpa using h2
          subst e4
          refine ⟨hz, ?_⟩
          obtain ⟨A, c, e5, _, _, h6⟩ := owns_slice h4
          rcases h6 with h6 | ⟨b, rfl⟩
          · have : ys = [] := List.length_eq_zero_iff.1 h6
            subst this
            exact ⟨A, c, [], e5, by unfold Dat.RL; rfl, .inl rfl⟩
          · exact ⟨_, c, fl, e5, hl, .inr ⟨_, rfl, h4.cells (g := b) (by rw [e5]; rfl)⟩⟩
        · unfold Q.Runs at hr; exact hr.elim
      · unfold Q.Runs at hr; exact hr.elim
  · unfold Q.Runs at hr; exact hr.elim

/-- append onto an own row (nil let in). -/
theorem run_append_src (hT : TabOK P T) {t e : Nat} (ty : TypeId) (e1 : (T t).desc = .slice e) (hk : (T e).desc.known = true) (h0 : 0 < (T e).size) (hzs : (T e).zero.length = (T e).size) {C : Cx} {g : Bool} {ys : List Dat} {x : Value}
    (hx : SrcOK C g (T e).size ys x) {vv : Value} {m : Nat} {fl : List Value} (ho : C.w.ownsRow 0 e (T e).size vv m fl) (h63 : m + ys.length ≤ maxLen) (hbytes : (m + ys.length) * (T e).bytes ≤ 140737488355328) :
    ∃ v' w' fl', (Builtin.append_ #[t, t] ty #[vv, x]).run P C.w = .ok v' w' ∧ w'.ownsRow 0 e (T e).size v' (m + ys.length) (fl ++ fl') ∧ Dat.RL C.w (C.Sh g) ys fl' ∧ C.w.grownBy w' vv.ownBlock ∧
      (v'.ownBlock = vv.ownBlock ∨ v'.ownBlock = some C.w.heap.size) := by
  obtain ⟨g1, _⟩ := hT t (by rw [e1]; simp)
  rw [e1] at g1
  obtain ⟨_, ⟨info, i1, i2, i3, z, i4, i5⟩, i6⟩ := hT e (KD.known_ne hk)
  obtain ⟨A, c, fl', rfl, hl, hA⟩ := hx.val
  have hzc : z.cells.size = (T e).size := by rw [← hzs, ← i5]; simp
  cases A with
  | some ad =>
    have hnews : ∀ j q, fl'[j]? = some q → C.w.cell? (ad.add j) = some q := by
      rcases hA with rfl | ⟨ad', e2, hc⟩
      · unfold Dat.RL at hl; subst hl; simp
      · cases e2; exact hc
    obtain ⟨v', w', hr, hown, hg, _, hat⟩ := run_append_own_at (P := P) C.w 0 t ty e info z (T e).size (T e).bytes g1 i1 i4 i2 i3 hzc h0 vv m fl ho ad ys.length c fl' (Dat.RL.len hl hx.wds) hnews (Dat.RL.one _ _ hl) h63 hbytes (Nat.zero_le _)
    exact ⟨v', w', fl', hr, hown, hl, hg, hat⟩
  | none =>
    have hys : ys = [] := by
      rcases hA with rfl | ⟨ad', e2, _⟩
      · rfl
      · cases e2
    subst hys
    have hfl : fl' = [] := by unfold Dat.RL at hl; exact hl
    subst hfl
    obtain ⟨A', c', rfl, hmc, _, _⟩ := owns_slice ho
    refine ⟨_, C.w, [], ?_, by simpa using ho, hl, ⟨rfl, rfl, rfl, Nat.le_refl _, fun _ _ _ => rfl⟩, .inl rfl⟩
    cases A' <;> simp [Builtin.append_, run_underlying g1, sizeOf, typeInfo, i1, Builtin.lenOf, hmc, Builtin.firstCells, storeCells]

/-- An object written. -/
theorem OpOK.set (h : Rel E st a w hs) (hd : ∀ t, o.dst = some t → t < E.N) {w' : World} {nx : Next} {val : Value} {av : AV} {m : Nat} {ob ob' : Ob} {k k' : Hd} (hrun : (execOp a.eval o).run P w = .ok nx w')
    (hnx : nx = .value val ∨ (nx = .skip ∧ val = undef)) (ho : st.obs[m]? = some (some ob)) (hh : hs[m]? = some k) (hw : Wrote w w' k.blks) (hn : ∀ b ∈ k'.blks, b ∈ k.blks ∨ w.heap.size ≤ b) (hf : ob.follows k ob' k')
    (hor : ob'.OR ((st.cx E w hs).setO w' m (some ob') k') k') (hv : av.VR ((st.cx E w hs).setO w' m (some ob') k') val) : OpOK P E o st a w hs av [(m, ob')] [] := by
  intro Kp Q hK
  have le := Cx.Le.setO (C := st.cx E w hs) (o' := ob') h.wok.len ho hh hw hn hf
  have wok := h.wok.setO ho hh hw hn hf hor
  have hr : Rel E ⟨st.env, st.obs.set m (some ob')⟩ a w' (hs.set m k') := h.le le wok
  have := hr.put (av := av) (v := val) hv o.dst hd
  have hfin : Kp (a.put o.dst val) w' := by
    refine hK _ _ (hs.set m k') ?_
    cases hdst : o.dst <;> simpa [St.upd, St.put, hdst] using this
  unfold Oper.wp
  rw [hrun]
  rcases hnx with rfl | ⟨rfl, rfl⟩
  · rw [Oper.upon_value]; exact hfin
  · rw [Oper.upon_skip]; exact hfin

def opAppend (T : Nat → TI) (t : Nat) (x y : Operand) : Q := match (T t).desc with
  | .slice e => if (T e).desc.known = true ∧ 0 < (T e).size ∧ (T e).zero.length = (T e).size then Q.opnd x fun a => Q.opnd y fun b => (match a with
    | .own m γ => .obj m fun ob => (match ob with
      | .row E' sz γ' fr xs => if γ = γ' ∧ E' = e ∧ sz = (T e).size then Q.src b m sz fun g ys => .side ((xs.length + ys.length) * (T e).bytes ≤ 140737488355328 ∧ xs.length + ys.length ≤ 9223372036854775807)
          (.fin (.own m (γ + 1)) [(m, .row e sz (γ + 1) (fr && g) (xs ++ ys))] []) else .bad
      | _ => .bad)
    | .d _ (.v (.slice none 0 0)) => .fresh fun m => Q.src b m (T e).size fun g ys => .side (ys.length * (T e).bytes ≤ 140737488355328 ∧ ys.length ≤ 9223372036854775807)
        (.fin (.own m 0) [] [.row e (T e).size 0 g ys])
    | _ => .bad) else .bad
  | _ => .bad

theorem execOp_append {x y : Operand} {t : TypeId} (ho : o.op = .call { callee := .builtin .append, args := #[x, y], argTypes := #[t, t] }) {r : Value} {w' : World}
    (h : (Builtin.append_ #[t, t] o.type #[a.eval x, a.eval y]).run P w = .ok r w') : (execOp a.eval o).run P w = .ok (.value r) w' := by
  simp only [execOp, ho, resolve, invoke, builtin, Sem.run_bind, Sem.run_pure, Result.andThen_ok, List.map_toArray, List.map_cons, List.map_nil, h]

theorem opAppend_sound (hT : TabOK P T) (h : Rel E st a w hs) (hd : ∀ t, o.dst = some t → t < E.N) {t : Nat} {x y : Operand} (ho : o.op = .call { callee := .builtin .append, args := #[x, y], argTypes := #[t, t] })
    (hr : (opAppend T t x y).Runs S st v u n) : OpOK P E o st a w hs v u n := by
  unfold opAppend at hr
  split at hr
  · rename_i e e1
    split at hr
    · rename_i hc
      obtain ⟨hk, h0, hzs⟩ := hc
      replace hr := opnd_sound h hr; obtain ⟨av, hav, hr⟩ := hr
      replace hr := opnd_sound h hr; obtain ⟨bv, hbv, hr⟩ := hr
      split at hr
      · rename_i m γ
        unfold Q.Runs at hr
        obtain ⟨ob, hob, hr⟩ := hr
        dsimp only at hr
        split at hr
        · split at hr
          · rename_i E' sz γ' fr xs ec
            obtain ⟨rfl, rfl, rfl⟩ := ec
            obtain ⟨g, ys, hr, hsrc⟩ := src_sound h hbv hr
            unfold Q.Runs at hr
            obtain ⟨⟨hb1, hb2⟩, hr⟩ := hr
            unfold Q.Runs at hr
            obtain ⟨rfl, rfl, rfl⟩ := hr
            unfold AV.VR at hav
            have h2 := (hav.2 _ _ _ _ _ hob).2 rfl
            obtain ⟨hd', e3, h3⟩ := h.obj hob
            obtain ⟨vv, rfl, _, hz, fl, hl, h4⟩ := OR.row_val h3
            have e4 : vv = a.eval x := by
              have : (st.cx E w hs).hs = hs := rfl
              rw [this, e3] at h2
              simpa using h2
            obtain ⟨v', w', fl', hrun, hown, hl', hg, hat⟩ := run_append_src (P := P) hT o.type e1 hk h0 hzs hsrc h4 (by simp only [maxLen]; omega) hb1
            have hwr : Wrote w w' (Hd.row vv).blks := ⟨hg.os, hg.tape, hg.output, hg.size, fun b hb hnb => hg.block b hb (fun e => hnb (by simp [Hd.blks, ← e]))⟩
            have hnew : ∀ b ∈ (Hd.row v').blks, b ∈ (Hd.row vv).blks ∨ w.heap.size ≤ b := by
              intro b hb
              simp only [Hd.blks, Option.mem_toList] at hb ⊢
              rcases hat with hat | hat
              · rw [hat] at hb; exact .inl hb
              · rw [hat] at hb; right; simp at hb; rw [← hb]; exact Nat.le_refl _
            have hfol : (Ob.row E' (T E').size γ fr xs).follows (.row vv) (.row E' (T E').size (γ + 1) (fr && g) (xs ++ ys)) (.row v') := by
              refine ⟨fun E2 sz2 γ2 fr2 xs2 e => ?_, fun b e => by simp at e, fun b q e => by simp at e⟩
              simp only [Ob.row.injEq] at e
              obtain ⟨_, _, rfl, _, _⟩ := e
              exact ⟨_, _, γ, _, _, rfl, Nat.le_succ _, fun e => by omega⟩
            have le := Cx.Le.setO (C := st.cx E w hs) (o' := .row E' (T E').size (γ + 1) (fr && g) (xs ++ ys)) h.wok.len hob e3 hwr hnew hfol
            refine OpOK.set h hd (nx := .value v') (val := v') (execOp_append ho (by rw [← e4]; exact hrun)) (.inl rfl) hob e3 hwr hnew hfol ?_ ?_
            · refine ⟨h0, fun q hq => ?_, fl ++ fl', ?_, by rw [List.length_append]; exact hown⟩
              · rcases List.mem_append.1 hq with hq | hq
                · exact hz q hq
                · exact hsrc.wds q hq
              · exact Dat.RL.append.2 ⟨fl, fl', rfl, Dat.RL.weak (Dat.RL.stable (le.sh fr) _ _ hl), Dat.RL.weak' (Dat.RL.stable (le.sh g) _ _ hl')⟩
            · unfold AV.VR
              have hlt : m < hs.length := (List.getElem?_eq_some_iff.1 e3).1
              have hlt' : m < st.obs.length := (List.getElem?_eq_some_iff.1 hob).1
              refine ⟨by simpa [Cx.setO, St.cx] using hlt', fun E2 sz2 γ0 fr2 xs2 he => ?_⟩
              have : γ0 = γ + 1 := by
                simp [Cx.setO, St.cx, List.getElem?_set, hlt'] at he
                exact he.2.2.1.symm
              subst this
              exact ⟨Nat.le_refl _, fun _ => by simp [Cx.setO, St.cx, List.getElem?_set, hlt]⟩
          · unfold Q.Runs at hr; exact hr.elim
        · unfold Q.Runs at hr; exact hr.elim
      · unfold Q.Runs at hr
        obtain ⟨g, ys, hr, hsrc⟩ := src_sound h hbv hr
        unfold Q.Runs at hr
        obtain ⟨⟨hb1, hb2⟩, hr⟩ := hr
        unfold Q.Runs at hr
        obtain ⟨rfl, rfl, rfl⟩ := hr
        have ex := vr_int hav
        obtain ⟨v', w', fl', hrun, hown, hl', hg, hat⟩ := run_append_src (P := P) hT o.type e1 hk h0 hzs hsrc (vv := .slice none 0 0) (m := 0) (fl := []) (World.ownsRow_nil _ _ _ _) (by simp only [maxLen]; omega) (by simpa using hb1)
        have hb : Below w.heap.size w w' := grown_below hg
        have le := Cx.Le.add (C := st.cx E w hs) (o := .row e (T e).size 0 g ys) (h := .row v') h.wok.len hb (fun b hb => by
          simp only [Hd.blks, Option.mem_toList] at hb
          rcases hat with hat | hat
          · rw [hat] at hb; simp [Value.ownBlock] at hb
          · rw [hat] at hb; simp at hb; rw [← hb]; exact Nat.le_refl _)
        refine OpOK.add h hd (k := .row v') (execOp_append ho (by rw [ex]; exact hrun)) hb (fun b hb => ?_) ?_ ?_
        · simp only [Hd.blks, Option.mem_toList] at hb
          rcases hat with hat | hat
          · rw [hat] at hb; simp [Value.ownBlock] at hb
          · rw [hat] at hb; simp at hb; rw [← hb]; exact Nat.le_refl _
        · exact ⟨h0, hsrc.wds, fl', Dat.RL.stable (le.sh g) _ _ hl', by have q := hown; simp only [Nat.zero_add, List.nil_append] at q; exact q⟩
        · unfold AV.VR
          refine ⟨by simp [Cx.add, St.cx], fun E' sz' γ0 fr' xs' he => ⟨Nat.zero_le _, fun _ => ?_⟩⟩
          have : st.obs.length = hs.length := h.wok.len
          simp [Cx.add, St.cx, this]
      · unfold Q.Runs at hr; exact hr.elim
    · unfold Q.Runs at hr; exact hr.elim
  · unfold Q.Runs at hr; exact hr.elim

/-! ### store -/
theorem setAll_left {α : Type} : ∀ (gs a b : List α) (off : Nat), off + gs.length ≤ a.length → setAll (a ++ b) off gs = setAll a off gs ++ b
  | [], a, b, off, _ => rfl
  | g :: gs, a, b, off, h => by
    simp only [List.length_cons] at h
    simp only [setAll]
    rw [List.set_append_left _ _ (by omega), setAll_left gs _ b (off + 1) (by simp; omega)]

theorem setAll_right {α : Type} : ∀ (gs a b : List α) (off : Nat), setAll (a ++ b) (a.length + off) gs = a ++ setAll b off gs
  | [], a, b, off => rfl
  | g :: gs, a, b, off => by
    simp only [setAll]
    rw [List.set_append_right _ _ (by omega), Nat.add_sub_cancel_left, Nat.add_assoc, setAll_right gs a _ (off + 1)]

theorem setAll_eq {α : Type} : ∀ (gs a : List α) (off : Nat), off + gs.length ≤ a.length → setAll a off gs = a.take off ++ gs ++ a.drop (off + gs.length)
  | [], a, off, _ => by simp [setAll]
  | g :: gs, a, off, h => by
    simp only [List.length_cons] at h
    simp only [setAll]
    rw [setAll_eq gs (a.set off g) (off + 1) (by simp; omega)]
    have e1 : (a.set off g).take (off + 1) = a.take off ++ [g] := by
      rw [List.take_add_one, List.take_set_of_le (Nat.le_refl _)]
      simp [List.getElem?_set, show off < a.length by omega]
    have e2 : (a.set off g).drop (off + 1 + gs.length) = a.drop (off + (g :: gs).length) := by
      rw [List.drop_set_of_lt (by omega)]
      simp only [List.length_cons]
      congr 1
      omega
    rw [e1, e2]
    simp

theorem flat_set {sz off : Nat} {gs : List Dat} {new : Dat} : ∀ (xs : List Dat) (i : Nat), (∀ x ∈ xs, x.wd = sz) → i < xs.length → off + gs.length ≤ sz → (∀ x, xs[i]? = some x → new.cells = setAll x.cells off gs) →
    (xs.set i new).flatMap Dat.cells = setAll (xs.flatMap Dat.cells) (i * sz + off) gs
  | [], i, _, h, _, _ => by simp at h
  | x :: xs, 0, hs, h, ho, hn => by
    have hx : x.wd = sz := hs x (by simp)
    simp only [List.set_cons_zero, List.flatMap_cons, Nat.zero_mul, Nat.zero_add]
    rw [setAll_left gs x.cells _ off (by unfold Dat.wd at hx; omega), hn x (by simp)]
  | x :: xs, i + 1, hs, h, ho, hn => by
    have hx : x.cells.length = sz := hs x (by simp)
    simp only [List.set_cons_succ, List.flatMap_cons]
    have e : (i + 1) * sz + off = x.cells.length + (i * sz + off) := by rw [hx, Nat.add_mul]; omega
    rw [e, setAll_right, flat_set xs i (fun y hy => hs y (by simp [hy])) (by simpa using h) ho (fun y hy => hn y (by simpa using hy))]

theorem RF.setAll {w : World} {B : Nat → Prop} : ∀ {gs : List Dat} {ys : List Value} {fs : List Dat} {cs : List Value} {off : Nat}, Dat.RF w B fs cs → Dat.RF w B gs ys → Dat.RF w B (AM.setAll fs off gs) (AM.setAll cs off ys)
  | [], ys, fs, cs, off, h, hg => by unfold Dat.RF at hg; subst hg; exact h
  | g :: gs, ys, fs, cs, off, h, hg => by
    unfold Dat.RF at hg
    obtain ⟨y, rest, rfl, h0, h1, h2⟩ := hg
    simp only [AM.setAll]
    exact RF.setAll (h.set h0 h1) h2

theorem run_storeAt_row (hT : TabOK P T) {t : Nat} (hk : (T t).desc.known = true) {b off e : Nat} {cur : Array Value} {x : Value} (hb : w.heap[b]? = some (.cells cur e (0, 0))) (hx : x.cells.size = (T t).size) (hfit : off + x.cells.size ≤ cur.size) (h1 : ∀ q ∈ x.cells.toList, q.oneCell' = true) :
    (Instr.storeAt t (.pointer (some ⟨b, off, none⟩)) x).run P w = .ok () (w.setRow b (setAll cur.toList off x.cells.toList).toArray) := by
  obtain ⟨_, ⟨info, i1, i2, _⟩, _⟩ := hT t (KD.known_ne hk)
  have := run_storeCells_at P b off e x.cells.toList 0 cur w hb (by simpa using hfit) h1
  simp only [Nat.add_zero] at this
  have hs : x.cells.size = info.size := by rw [hx, i2]
  rw [setAll_eq _ _ _ (by simpa using hfit)]
  simp only [Instr.storeAt, Instr.sureAddr, Sem.run_bind, Sem.run_pure, Result.andThen_ok, storeVar, sizeOf, typeInfo, run_program, i1]
  simp [hs, this]

theorem wrote_setRow (w : World) (b : Nat) (cs : Array Value) : Wrote w (w.setRow b cs) [b] :=
  ⟨rfl, rfl, rfl, by simp, fun k _ hk => setRow_other w b k cs (by simpa using hk)⟩

def ofCells (ag : Bool) (cs : List Dat) : Dat := match ag, cs with
  | true, cs => .agg cs
  | false, [c] => c
  | false, cs => .agg cs

def opStore (T : Nat → TI) (t : Nat) (p x : Operand) : Q := if (T t).desc.known = true then Q.opnd p fun pa => Q.opnd x fun xa => (match pa with
  | .ptr m off => .obj m fun ob => (match ob with
    | .cells E' cs => Q.cells xa fun fs => if fs.length = (T t).size ∧ off + fs.length ≤ cs.length then .fin .junk [(m, .cells E' (setAll cs off fs))] [] else .bad
    | _ => .bad)
  | .elt m γ sz i off => .obj m fun ob => (match ob with
    | .row E' sz' γ' fr xs => (match xa with
      | .d g y => if γ = γ' ∧ sz = sz' then .side (i < xs.length ∧ y.cells.length = (T t).size ∧ off + y.cells.length ≤ sz ∧ (ofCells (T E').desc.agg (setAll (xs.getD i (TI.z T E')).cells off y.cells)).cells = setAll (xs.getD i (TI.z T E')).cells off y.cells)
          (.fin .junk [(m, .row E' sz γ (fr && g) (xs.set i (ofCells (T E').desc.agg (setAll (xs.getD i (TI.z T E')).cells off y.cells))))] []) else .bad
      | _ => .bad)
    | _ => .bad)
  | _ => .bad) else .bad

theorem opStore_sound (hT : TabOK P T) (h : Rel E st a w hs) (hd : ∀ t, o.dst = some t → t < E.N) {t : Nat} {p x : Operand} (ho : o.op = .store t p x) (hr : (opStore T t p x).Runs S st v u n) : OpOK P E o st a w hs v u n := by
  have hx : ∀ {w' : World}, (Instr.storeAt t (a.eval p) (a.eval x)).run P w = .ok () w' → (execOp a.eval o).run P w = .ok .skip w' := by
    intro w' hy
    simp only [execOp, ho, Sem.run_bind, hy, Result.andThen_ok, Sem.run_pure]
  unfold opStore at hr
  split at hr
  · rename_i hk
    replace hr := opnd_sound h hr; obtain ⟨pa, hpa, hr⟩ := hr
    replace hr := opnd_sound h hr; obtain ⟨xa, hxa, hr⟩ := hr
    split at hr
    · rename_i m off
      unfold Q.Runs at hr
      obtain ⟨ob, hob, hr⟩ := hr
      dsimp only at hr
      split at hr
      · rename_i E' cs
        obtain ⟨fs, hr, hc1, hc2⟩ := Qcells_sound h hxa hr
        split at hr
        · rename_i hsz
          unfold Q.Runs at hr
          obtain ⟨rfl, rfl, rfl⟩ := hr
          unfold AV.VR at hpa
          obtain ⟨b, hb, ep⟩ := hpa.2 _ hob
          obtain ⟨hd', e3, h3⟩ := h.obj hob
          obtain ⟨b', rfl, vs, h4, h5, h6⟩ := OR.cells_val h3
          have e4 : b' = b := by
            have e5 : (st.cx E w hs).hs = hs := rfl
            rcases hb with hb | ⟨q, hb⟩ <;> rw [e5, e3] at hb
            · simpa using hb
            · simp at hb
          subst e4
          have l1 := VL.len hc1
          have l2 := VL.len h5
          have hl1 : (a.eval x).cells.size = (T t).size := by rw [← hsz.1, ← l1]; simp
          have hrun := run_storeAt_row (P := P) (w := w) (off := off) hT hk h4 hl1 (by rw [hl1, ← hsz.1]; simp; omega) hc2
          rw [← ep] at hrun
          have hwr := wrote_setRow w b' (setAll vs off (a.eval x).cells.toList).toArray
          have hfol : (Ob.cells E' cs).follows (.ptr b') (.cells E' (setAll cs off fs)) (.ptr b') :=
            ⟨fun E2 sz2 γ2 fr2 xs2 e => by simp at e, fun b e => e, fun b q e => by simp at e⟩
          have le := Cx.Le.setO (C := st.cx E w hs) (o' := .cells E' (setAll cs off fs)) (h' := .ptr b') h.wok.len hob e3 hwr (fun b hb => .inl hb) hfol
          refine OpOK.set h hd (val := undef) (hx hrun) (.inr ⟨rfl, rfl⟩) hob e3 hwr (fun b hb => .inl hb) hfol ?_ (by unfold AV.VR; trivial)
          refine ⟨setAll vs off (a.eval x).cells.toList, setRow_heap w b' _ _ _ _ h4, AV.VL.le le _ _ (VL.setAll h5 hc1), fun q hq => ?_⟩
          rcases mem_setAll hq with hq | hq
          · exact h6 q hq
          · exact hc2 q hq
        · unfold Q.Runs at hr; exact hr.elim
      · unfold Q.Runs at hr; exact hr.elim
    · rename_i m γ sz i off
      unfold Q.Runs at hr
      obtain ⟨ob, hob, hr⟩ := hr
      dsimp only at hr
      split at hr
      · rename_i E' sz' γ' fr xs
        split at hr
        · rename_i g y
          split at hr
          · rename_i ec
            obtain ⟨rfl, rfl⟩ := ec
            unfold Q.Runs at hr
            obtain ⟨⟨hi, hyl, hoff, hcells⟩, hr⟩ := hr
            unfold Q.Runs at hr
            obtain ⟨rfl, rfl, rfl⟩ := hr
            unfold AV.VR at hpa
            obtain ⟨b, len, cap, hb, ep⟩ := (hpa.2 _ _ _ _ _ hob).2 rfl
            obtain ⟨hd', e3, h3⟩ := h.obj hob
            obtain ⟨vv, rfl, hz0, hz, fl, hl, h4⟩ := OR.row_val h3
            have e4 : vv = .slice (some ⟨b, 0, none⟩) len cap := by
              have e5 : (st.cx E w hs).hs = hs := rfl
              rw [e5, e3] at hb
              simpa using hb
            subst e4
            unfold AV.VR at hxa
            have hyc := Dat.RF.cells.2 hxa.cells
            have hly := Dat.RF.len _ _ hyc
            obtain ⟨q1, q2 | ⟨b', cap', cur, q2, q3, q4, q5, q6, q7, q8⟩⟩ := h4
            · simp at q2
            · simp only [Value.slice.injEq, Option.some.injEq, Addr.mk.injEq, and_true] at q2
              obtain ⟨rfl, rfl, rfl⟩ := q2
              have hl1 : (a.eval x).cells.size = (T t).size := by rw [← hyl, ← hly]; simp
              have hlen := Dat.RL.len hl hz
              have hin : i * sz + off + y.cells.length ≤ xs.length * sz := by
                have := Nat.mul_le_mul_right sz (show i + 1 ≤ xs.length by omega)
                rw [Nat.add_mul] at this
                omega
              have hcs : xs.length * sz ≤ cur.size := by rw [q7]; exact Nat.mul_le_mul_right _ q5
              have hrun := run_storeAt_row (P := P) (w := w) (off := i * sz + off) hT hk q4 hl1 (by rw [hl1, ← hyl]; omega) (Dat.RF.one _ _ hyc)
              rw [← ep] at hrun
              have hwr : Wrote w (w.setRow b (setAll cur.toList (i * sz + off) (a.eval x).cells.toList).toArray) (Hd.row (.slice (some ⟨b, 0, none⟩) xs.length cap)).blks := wrote_setRow w b _
              generalize hnew : ofCells (T E').desc.agg (setAll (xs.getD i (TI.z T E')).cells off y.cells) = new at *
              have hfol : (Ob.row E' sz γ fr xs).follows (.row (.slice (some ⟨b, 0, none⟩) xs.length cap)) (.row E' sz γ (fr && g) (xs.set i new)) (.row (.slice (some ⟨b, 0, none⟩) xs.length cap)) := by
                refine ⟨fun E2 sz2 γ2 fr2 xs2 e => ?_, fun b e => by simp at e, fun b q e => by simp at e⟩
                simp only [Ob.row.injEq] at e
                obtain ⟨_, _, rfl, _, _⟩ := e
                exact ⟨_, _, γ, _, _, rfl, Nat.le_refl _, fun _ => rfl⟩
              have le := Cx.Le.setO (C := st.cx E w hs) (o' := .row E' sz γ (fr && g) (xs.set i new)) h.wok.len hob e3 hwr (fun b hb => .inl hb) hfol
              refine OpOK.set h hd (val := undef) (hx hrun) (.inr ⟨rfl, rfl⟩) hob e3 hwr (fun b hb => .inl hb) hfol ?_ (by unfold AV.VR; trivial)
              have hxi : ∀ z, xs[i]? = some z → new.cells = setAll z.cells off y.cells := by
                intro z hz'
                rw [hcells, List.getD_eq_getElem?_getD, hz']
                rfl
              have hflat := flat_set (new := new) (gs := y.cells) (off := off) xs i hz hi (by omega) hxi
              refine ⟨hz0, fun q hq => ?_, setAll fl (i * sz + off) (a.eval x).cells.toList, ?_, ?_⟩
              · rcases List.mem_or_eq_of_mem_set hq with hq | rfl
                · exact hz q hq
                · unfold Dat.wd
                  have hzi : xs[i]? = some xs[i] := by simp [hi]
                  rw [hxi _ hzi, setAll_len]
                  exact hz xs[i] (by simp)
              · rw [Dat.RL.flat, hflat]
                exact RF.setAll (Dat.RF.weak (Dat.RF.stable (le.sh fr) _ _ (Dat.RL.flat.1 hl))) (Dat.RF.weak' (Dat.RF.stable (le.sh g) _ _ hyc))
              · refine ⟨by rw [setAll_len]; simpa using hlen, .inr ⟨b, cap, _, by simp, Nat.zero_le _, setRow_heap w b cur _ _ _ q4, by simpa using q5, q6, by simp [setAll_len, q7], ?_⟩⟩
                have hfl : fl.length = xs.length * sz := hlen
                have e7 : cur.toList = fl ++ cur.toList.drop (xs.length * sz) := by
                  conv => lhs; rw [← List.take_append_drop (xs.length * sz) cur.toList]
                  rw [q8]
                simp only [List.length_set]
                rw [e7, setAll_left _ fl _ _ (by rw [hfl]; simp at hly ⊢; omega)]
                rw [List.take_left' (by rw [setAll_len]; exact hfl)]
          · unfold Q.Runs at hr; exact hr.elim
        · unfold Q.Runs at hr; exact hr.elim
      · unfold Q.Runs at hr; exact hr.elim
    · unfold Q.Runs at hr; exact hr.elim
  · unfold Q.Runs at hr; exact hr.elim

end
end Go.AM

/- AM, part 12: calls. -/
namespace Go.AM
open Go Go.RowKit

/-- What a call comes to: what it asks; its result; its object at the end (the one handed in, or a new one). -/
structure Res where
  pre : Prop
  r : AV
  o : Option Ob

abbrev FT := FuncId → List AV → Option Ob → Option Res

def entryCx (w : World) (old : Nat → Prop) (i : Option Ob) (hs : List Hd) : Cx := ⟨w, w.heap.size, old, i.toList.map some, hs⟩

def Spec (P : Program) (f : FuncId) (args : List AV) (i : Option Ob) (R : Res) : Prop :=
  ∀ (w : World) (old : Nat → Prop) (hs : List Hd) (vals : List Value),
    WOK w hs (entryCx w old i hs) → AV.VL (entryCx w old i hs) args vals → R.pre →
    Calls P f vals.toArray w fun e w' => ∃ v obs' hs', e = .returned v ∧ WOK w hs ⟨w', w.heap.size, old, obs', hs'⟩ ∧
      R.r.VR ⟨w', w.heap.size, old, obs', hs'⟩ v ∧ (∀ ob, R.o = some ob → obs'[0]? = some (some ob))

def FOK (P : Program) (F : FT) : Prop := ∀ f args i R, F f args i = some R →
  (∃ fn, P.funcs[f]? = some fn ∧ (fn.name == "runtime.NumGoroutine") = false ∧ fn.body.isNone = false) ∧ Spec P f args i R

/-! ### what goes in and out -/
def AV.hiD : AV → Bool
  | .d fr _ => fr
  | _ => false
def AV.isD : AV → Bool
  | .d _ _ => true
  | _ => false
def loL : List AV → Option (List AV)
  | [] => some []
  | .d _ x :: as => (loL as).map (.d x.flat x :: ·)
  | _ => none
def Ob.isRow : Ob → Bool
  | .row _ _ _ _ _ => true
  | _ => false
def Ob.inn : Ob → Option Ob
  | .row E sz _ _ xs => some (.row E sz 0 false xs)
  | .cells E cs => (loL cs).map (.cells E)
  | .buf E Er szr xs => some (.buf E Er szr xs)
  | .mp _ _ _ => none
def Ob.gam : Ob → Nat
  | .row _ _ γ _ _ => γ
  | _ => 0
def Ob.out (γ : Nat) : Ob → Ob
  | .row E sz g fr xs => .row E sz (γ + g) fr xs
  | o => o
def Ob.hi : Ob → Bool
  | .row _ _ _ fr _ => fr
  | .cells _ cs => cs.all AV.hiD
  | .buf _ _ _ _ => true
  | .mp _ _ _ => true
def Ob.data : Ob → Bool
  | .cells _ cs => cs.all AV.isD
  | _ => true
def Ob.alike : Ob → Ob → Bool
  | .row _ _ _ _ _, .row _ _ _ _ _ => true
  | .cells _ _, .cells _ _ => true
  | .buf _ _ _ _, .buf _ _ _ _ => true
  | .mp _ _ _, .mp _ _ _ => true
  | _, _ => false

def AV.ren (m : Option Nat) (g : Nat) : AV → Option AV
  | .d fr x => some (.d fr x)
  | .ptr 0 off => m.map fun m => .ptr m off
  | .own 0 γ => m.map fun m => .own m (g + γ)
  | .mpv 0 => m.map fun m => .mpv m
  | .junk => some .junk
  | _ => none
def renL (m : Option Nat) (g : Nat) : List AV → Option (List AV)
  | [] => some []
  | a :: as => match a.ren m g, renL m g as with
    | some b, some bs => some (b :: bs)
    | _, _ => none
def AV.renT (m : Option Nat) (g : Nat) : AV → Option AV
  | .tup vs => (renL m g vs).map .tup
  | a => a.ren m g
def AV.hi1 : AV → Bool
  | .d fr _ => fr
  | _ => true
def AV.hi : AV → Bool
  | .tup vs => vs.all AV.hi1
  | a => a.hi1

section up
variable {C2 C' : Cx} {low : Bool}

theorem DV.up (hw : C'.w = C2.w) (hS : ∀ fr b, (low = true ∨ fr = true) → C2.Sh fr b → C'.Sh fr b) {fr : Bool} (hl : low = true ∨ fr = true) {x : Dat} {v : Value} (h : DV C2.w (C2.Sh fr) x v) : DV C'.w (C'.Sh fr) x v :=
  h.stable fun b hb => ⟨hS fr b hl hb, by rw [hw]⟩

theorem mpv_of_ptr {n : Nat} (hp : ∀ v, (AV.ptr 0 0).VR C2 v → (AV.ptr n 0).VR C' v) {v : Value} (h : (AV.mpv 0).VR C2 v) : (AV.mpv n).VR C' v := by
  unfold AV.VR at h ⊢
  by_cases ha : ∃ o, C2.obs[0]? = some (some o)
  · obtain ⟨o, ha⟩ := ha
    obtain ⟨b, h1, rfl⟩ := h.2 o ha
    have h2 := hp (.pointer (some ⟨b, 0, none⟩)) (by
      unfold AV.VR
      refine ⟨h.1, fun o' e => ?_⟩
      obtain ⟨b', g1, g2⟩ := h.2 o' e
      cases g2
      exact ⟨b, g1, rfl⟩)
    unfold AV.VR at h2
    refine ⟨h2.1, fun o' e => ?_⟩
    obtain ⟨b', g1, g2⟩ := h2.2 o' e
    cases g2
    exact ⟨b, g1, rfl⟩
  · have h2 := hp (.bool true) (by
      unfold AV.VR
      exact ⟨h.1, fun o e => absurd ⟨o, e⟩ ha⟩)
    unfold AV.VR at h2
    refine ⟨h2.1, fun o' e => ?_⟩
    obtain ⟨b', g1, g2⟩ := h2.2 o' e
    cases g2

theorem VR.ren (hw : C'.w = C2.w) (hS : ∀ fr b, (low = true ∨ fr = true) → C2.Sh fr b → C'.Sh fr b) {m : Option Nat} {g : Nat}
    (hp : ∀ n off v, m = some n → (AV.ptr 0 off).VR C2 v → (AV.ptr n off).VR C' v) (ho : ∀ n γ v, m = some n → (AV.own 0 γ).VR C2 v → (AV.own n (g + γ)).VR C' v)
    {a a' : AV} {v : Value} (e : a.ren m g = some a') (hl : low = true ∨ a.hi1 = true) (h : a.VR C2 v) : a'.VR C' v := by
  unfold AV.ren at e
  split at e
  · cases e
    unfold AV.VR at h ⊢
    exact DV.up hw hS hl h
  · obtain ⟨n, rfl, rfl⟩ := Option.map_eq_some_iff.1 e
    exact hp n _ v rfl h
  · obtain ⟨n, rfl, rfl⟩ := Option.map_eq_some_iff.1 e
    exact ho n _ v rfl h
  · obtain ⟨n, rfl, rfl⟩ := Option.map_eq_some_iff.1 e
    exact mpv_of_ptr (fun v => hp n 0 v rfl) h
  · cases e
    unfold AV.VR
    trivial
  · cases e

theorem VL.ren (hw : C'.w = C2.w) (hS : ∀ fr b, (low = true ∨ fr = true) → C2.Sh fr b → C'.Sh fr b) {m : Option Nat} {g : Nat}
    (hp : ∀ n off v, m = some n → (AV.ptr 0 off).VR C2 v → (AV.ptr n off).VR C' v) (ho : ∀ n γ v, m = some n → (AV.own 0 γ).VR C2 v → (AV.own n (g + γ)).VR C' v) :
    ∀ {as bs : List AV} {vs : List Value}, renL m g as = some bs → (low = true ∨ as.all AV.hi1 = true) → AV.VL C2 as vs → AV.VL C' bs vs
  | [], bs, vs, e, hl, h => by
    simp only [renL, Option.some.injEq] at e
    subst e
    unfold AV.VL at h ⊢
    exact h
  | a :: as, bs, vs, e, hl, h => by
    unfold renL at e
    split at e
    · rename_i b cs e1 e2
      cases e
      unfold AV.VL at h ⊢
      obtain ⟨v, rest, rfl, h1, h2⟩ := h
      simp only [List.all_cons, Bool.and_eq_true] at hl
      exact ⟨v, rest, rfl, VR.ren hw hS hp ho e1 (hl.imp id And.left) h1, VL.ren hw hS hp ho e2 (hl.imp id And.right) h2⟩
    · cases e

theorem VR.renT (hw : C'.w = C2.w) (hS : ∀ fr b, (low = true ∨ fr = true) → C2.Sh fr b → C'.Sh fr b) {m : Option Nat} {g : Nat}
    (hp : ∀ n off v, m = some n → (AV.ptr 0 off).VR C2 v → (AV.ptr n off).VR C' v) (ho : ∀ n γ v, m = some n → (AV.own 0 γ).VR C2 v → (AV.own n (g + γ)).VR C' v)
    {a a' : AV} {v : Value} (e : a.renT m g = some a') (hl : low = true ∨ a.hi = true) (h : a.VR C2 v) : a'.VR C' v := by
  unfold AV.renT at e
  split at e
  · rename_i vs
    obtain ⟨bs, e1, rfl⟩ := Option.map_eq_some_iff.1 e
    unfold AV.VR at h ⊢
    obtain ⟨cs, rfl, h2⟩ := h
    exact ⟨cs, rfl, VL.ren hw hS hp ho e1 hl h2⟩
  · rename_i hn
    refine VR.ren hw hS hp ho e ?_ h
    cases a <;> first | exact hl | exact (hn _ rfl).elim

theorem VL.up (hw : C'.w = C2.w) (hS : ∀ fr b, (low = true ∨ fr = true) → C2.Sh fr b → C'.Sh fr b) : ∀ {cs : List AV} {vs : List Value}, cs.all AV.isD = true → (low = true ∨ cs.all AV.hiD = true) → AV.VL C2 cs vs → AV.VL C' cs vs
  | [], vs, _, _, h => by unfold AV.VL at h ⊢; exact h
  | a :: as, vs, hd, hl, h => by
    simp only [List.all_cons, Bool.and_eq_true] at hd hl
    unfold AV.VL at h ⊢
    obtain ⟨v, rest, rfl, h1, h2⟩ := h
    refine ⟨v, rest, rfl, ?_, VL.up hw hS hd.2 (hl.imp id And.right) h2⟩
    cases a <;> simp only [AV.isD, Bool.false_eq_true, false_and] at hd
    unfold AV.VR at h1 ⊢
    exact DV.up hw hS (hl.imp id And.left) h1

theorem OR.up (hw : C'.w = C2.w) (hS : ∀ fr b, (low = true ∨ fr = true) → C2.Sh fr b → C'.Sh fr b) {ob : Ob} {h : Hd} {γ : Nat} (hd : ob.data = true) (hl : low = true ∨ ob.hi = true) (ho : ob.OR C2 h) : (ob.out γ).OR C' h := by
  cases ob with
  | row E sz g fr xs =>
    cases h with
    | row v =>
      obtain ⟨h0, h1, fl, h2, h3⟩ := ho
      exact ⟨h0, h1, fl, Dat.RL.stable (fun b hb => ⟨hS fr b hl hb, by rw [hw]⟩) _ _ h2, by rw [hw]; exact h3⟩
    | _ => exact ho.elim
  | cells E cs =>
    cases h with
    | ptr b =>
      obtain ⟨vs, h1, h2, h3⟩ := ho
      exact ⟨vs, by rw [hw]; exact h1, VL.up hw hS hd hl h2, h3⟩
    | _ => exact ho.elim
  | buf E Er szr xs =>
    cases h with
    | buf b v =>
      obtain ⟨h1, h2, h3, fl, h4, h5⟩ := ho
      exact ⟨by rw [hw]; exact h1, h2, h3, fl, Dat.RL.stable (fun b hb => ⟨hS true b (.inr rfl) hb, by rw [hw]⟩) _ _ h4, by rw [hw]; exact h5⟩
    | _ => exact ho.elim
  | mp ks kv es =>
    cases h with
    | ptr b =>
      obtain ⟨ents, clock, h1, h2⟩ := ho
      exact ⟨ents, clock, by rw [hw]; exact h1, h2⟩
    | _ => exact ho.elim
end up

/-! ### handed in -/
theorem RL_flat {w w' : World} {B B' : Nat → Prop} : ∀ {xs : List Dat} {fl : List Value}, (∀ x ∈ xs, ∃ c, x = .v c) → Dat.RL w B xs fl → Dat.RL w' B' xs fl
  | [], fl, _, h => by unfold Dat.RL at h ⊢; exact h
  | x :: xs, fl, hx, h => by
    unfold Dat.RL at h ⊢
    obtain ⟨c1, c2, e, h1, h2⟩ := h
    obtain ⟨c, rfl⟩ := hx x (by simp)
    refine ⟨c1, c2, e, ?_, RL_flat (fun y hy => hx y (by simp [hy])) h2⟩
    unfold Dat.R at h1 ⊢
    exact h1

section inn
variable {C C1 : Cx}
theorem DV.inn (hw : C1.w = C.w) (hS : ∀ fr b, C.Sh fr b → C1.Sh false b) {fr : Bool} {x : Dat} {v : Value} (h : DV C.w (C.Sh fr) x v) : DV C1.w (C1.Sh false) x v :=
  h.stable fun b hb => ⟨hS fr b hb, by rw [hw]⟩
theorem DV.lo {x : Dat} {v : Value} (h : DV C1.w (C1.Sh false) x v) : DV C1.w (C1.Sh x.flat) x v := by
  cases hf : x.flat with
  | true => exact DV_flat hf h
  | false => exact h
theorem VL.inn (hw : C1.w = C.w) (hS : ∀ fr b, C.Sh fr b → C1.Sh false b) : ∀ {cs bs : List AV} {vs : List Value}, loL cs = some bs → AV.VL C cs vs → AV.VL C1 bs vs
  | [], bs, vs, e, h => by simp only [loL, Option.some.injEq] at e; subst e; unfold AV.VL at h ⊢; exact h
  | a :: as, bs, vs, e, h => by
    unfold loL at e
    split at e
    · cases ‹_ = []›
    · rename_i fr x as' e0
      simp only [List.cons.injEq] at e0
      obtain ⟨rfl, rfl⟩ := e0
      obtain ⟨cs, e1, rfl⟩ := Option.map_eq_some_iff.1 e
      unfold AV.VL at h ⊢
      obtain ⟨v, rest, rfl, h1, h2⟩ := h
      refine ⟨v, rest, rfl, ?_, VL.inn hw hS e1 h2⟩
      unfold AV.VR at h1 ⊢
      exact DV.lo (DV.inn hw hS h1)
    · cases e
theorem OR.inn (hw : C1.w = C.w) (hS : ∀ fr b, C.Sh fr b → C1.Sh false b) {ob i : Ob} {h : Hd} (e : ob.inn = some i) (ho : ob.OR C h) : i.OR C1 h := by
  cases ob with
  | row E sz g fr xs =>
    simp only [Ob.inn, Option.some.injEq] at e
    subst e
    cases h with
    | row v =>
      obtain ⟨h0, h1, fl, h2, h3⟩ := ho
      exact ⟨h0, h1, fl, Dat.RL.stable (fun b hb => ⟨hS fr b hb, by rw [hw]⟩) _ _ h2, by rw [hw]; exact h3⟩
    | _ => exact ho.elim
  | cells E cs =>
    obtain ⟨bs, e1, rfl⟩ := Option.map_eq_some_iff.1 e
    cases h with
    | ptr b =>
      obtain ⟨vs, h1, h2, h3⟩ := ho
      exact ⟨vs, by rw [hw]; exact h1, VL.inn hw hS e1 h2, h3⟩
    | _ => exact ho.elim
  | buf E Er szr xs =>
    simp only [Ob.inn, Option.some.injEq] at e
    subst e
    cases h with
    | buf b v =>
      obtain ⟨h1, h2, h3, fl, h4, h5⟩ := ho
      exact ⟨by rw [hw]; exact h1, h2, h3, fl, RL_flat h3 h4, by rw [hw]; exact h5⟩
    | _ => exact ho.elim
  | mp ks kv es => simp [Ob.inn] at e
end inn

section
variable {P : Program} {S : SpecEqT} {E : En} {st : St} {a : Act} {w : World} {hs : List Hd} {o : Oper} {v : AV} {u : List (Nat × Ob)} {n : List Ob} {T : Nat → TI}

theorem sel_lo {C C1 : Cx} (hw : C1.w = C.w) (hS : ∀ fr b, C.Sh fr b → C1.Sh false b) {fr : Bool} {cs : List Dat} {v : Value} (h : (AV.sel fr cs).VR C v) : (AV.sel false cs).VR C1 v := by
  unfold AV.VR at h ⊢
  obtain ⟨b, o, vs, h1, h2, h3, h4⟩ := h
  exact ⟨b, o, vs, h1, hS _ _ h2, h3.stable fun b hb => ⟨hS _ _ hb, by rw [hw]⟩, by rw [hw]; exact h4⟩

def Q.args (T : Nat → TI) (mu : Bool) : List (Operand × Nat) → Option Nat → Bool → (List AV → Option Nat → Bool → Q) → Q
  | [], n, l, k => k [] n l
  | (x, ty) :: ps, n, l, k => Q.opnd x fun a => match a with
    | .d _ y => if smallNil y = true then Q.args T mu ps n l fun as n l => k (.d (normD T ty y).flat (normD T ty y) :: as) n l else .bad
    | .fn f [] => Q.args T mu ps n l fun as n l => k (.fn f [] :: as) n l
    | .fn f [.sel _ cs] => Q.args T mu ps n l fun as n l => k (.fn f [.sel false cs] :: as) n l
    | .ptr m off => if n = none then Q.args T mu ps (some m) l fun as n l => k (.ptr 0 off :: as) n l else .bad
    | .own m γ => .obj m (lazyO (fun ob => (match ob with
      | .row _ sz γ' _ xs => if γ = γ' then (if mu = true then (if n = none then Q.args T mu ps (some m) l fun as n l => k (.own 0 0 :: as) n l else .bad)
          else Q.args T mu ps n true fun as n l => k (.d false (.sl sz xs) :: as) n l) else .bad
      | _ => .bad)) .mk)
    | _ => .bad

theorem args_sound (h : Rel E st a w hs) {mu : Bool} : ∀ {ps : List (Operand × Nat)} {n0 : Option Nat} {l0 : Bool} {k : List AV → Option Nat → Bool → Q}, (Q.args T mu ps n0 l0 k).Runs S st v u n →
    ∃ as n1 l1, (k as n1 l1).Runs S st v u n ∧ (∀ m, n0 = some m → n1 = some m) ∧ (l0 = true → l1 = true) ∧ (mu = true → l0 = false → l1 = false) ∧
      ∀ C1 : Cx, C1.w = w → (∀ fr b, (st.cx E w hs).Sh fr b → C1.Sh false b) →
        (l1 = true → ∀ (m E' sz γ : Nat) (fr : Bool) (xs : List Dat) (vv : Value), st.obs[m]? = some (some (.row E' sz γ fr xs)) → hs[m]? = some (.row vv) → ∀ b, vv.ownBlock = some b → C1.Sh false b) →
        (∀ m : Nat, n1 = some m → ∃ ob, st.obs[m]? = some (some ob) ∧ C1.hs[0]? = hs[m]? ∧ 0 < C1.obs.length) → AV.VL C1 as (ps.map fun p => a.eval p.1)
  | [], n0, l0, k, hr => ⟨[], n0, l0, hr, fun _ e => e, id, fun _ e => e, fun C1 _ _ _ _ => by simp [AV.VL]⟩
  | (x, ty) :: ps, n0, l0, k, hr => by
    unfold Q.args at hr
    replace hr := opnd_sound h hr; obtain ⟨av, hav, hr⟩ := hr
    split at hr
    · rename_i fr y
      split at hr
      · rename_i hsm
        obtain ⟨as, n1, l1, hr, g1, g2, g3, g4⟩ := args_sound h hr
        refine ⟨_, n1, l1, hr, g1, g2, g3, fun C1 hw hS hl hp => ?_⟩
        simp only [List.map_cons]
        unfold AV.VL
        refine ⟨_, _, rfl, ?_, g4 C1 hw hS hl hp⟩
        unfold AV.VR at hav ⊢
        exact DV.lo (normD_sound (DV.inn (C := st.cx E w hs) hw hS hav) fun m c e => by subst e; simp [smallNil] at hsm; subst hsm; simp [maxLen])
      · unfold Q.Runs at hr; exact hr.elim
    · rename_i f
      obtain ⟨as, n1, l1, hr, g1, g2, g3, g4⟩ := args_sound h hr
      refine ⟨_, n1, l1, hr, g1, g2, g3, fun C1 hw hS hl hp => ?_⟩
      simp only [List.map_cons]
      unfold AV.VL
      refine ⟨_, _, rfl, ?_, g4 C1 hw hS hl hp⟩
      unfold AV.VR at hav ⊢
      obtain ⟨cs, e1, h2⟩ := hav
      unfold AV.VL at h2
      exact ⟨cs, e1, by rw [h2]; simp [AV.VL]⟩
    · rename_i f fr cs
      obtain ⟨as, n1, l1, hr, g1, g2, g3, g4⟩ := args_sound h hr
      refine ⟨_, n1, l1, hr, g1, g2, g3, fun C1 hw hS hl hp => ?_⟩
      simp only [List.map_cons]
      unfold AV.VL
      refine ⟨_, _, rfl, ?_, g4 C1 hw hS hl hp⟩
      unfold AV.VR at hav ⊢
      obtain ⟨cs', e1, h2⟩ := hav
      unfold AV.VL at h2
      obtain ⟨v1, rest, e2, h3, h4⟩ := h2
      unfold AV.VL at h4
      refine ⟨cs', e1, ?_⟩
      unfold AV.VL
      exact ⟨v1, rest, e2, sel_lo (C := st.cx E w hs) hw hS h3, by unfold AV.VL; exact h4⟩
    · rename_i m off
      split at hr
      · rename_i hn0
        obtain ⟨as, n1, l1, hr, g1, g2, g3, g4⟩ := args_sound h hr
        refine ⟨_, n1, l1, hr, fun m' e => (by rw [hn0] at e; cases e), g2, g3, fun C1 hw hS hl hp => ?_⟩
        simp only [List.map_cons]
        unfold AV.VL
        refine ⟨_, _, rfl, ?_, g4 C1 hw hS hl hp⟩
        obtain ⟨ob, e1, e2, e3⟩ := hp m (g1 m rfl)
        unfold AV.VR at hav ⊢
        refine ⟨e3, fun _ _ => ?_⟩
        rw [e2]
        exact hav.2 ob e1
      · unfold Q.Runs at hr; exact hr.elim
    · rename_i m γ
      unfold Q.Runs at hr
      obtain ⟨ob, hob, hr⟩ := hr
      dsimp only [lazyO] at hr
      split at hr
      · split at hr
        · rename_i E' sz γ' fr xs ec
          subst ec
          have hav' := hav
          unfold AV.VR at hav'
          have h2 := (hav'.2 _ _ _ _ _ hob).2 rfl
          split at hr
          · split at hr
            · rename_i hmu hn0
              obtain ⟨as, n1, l1, hr, g1, g2, g3, g4⟩ := args_sound h hr
              refine ⟨_, n1, l1, hr, fun m' e => (by rw [hn0] at e; cases e), g2, g3, fun C1 hw hS hl hp => ?_⟩
              simp only [List.map_cons]
              unfold AV.VL
              refine ⟨_, _, rfl, ?_, g4 C1 hw hS hl hp⟩
              obtain ⟨ob, e1, e2, e3⟩ := hp m (g1 m rfl)
              unfold AV.VR
              refine ⟨e3, fun _ _ γ0 _ _ _ => ⟨Nat.zero_le _, fun _ => ?_⟩⟩
              rw [e2]
              exact h2
            · unfold Q.Runs at hr; exact hr.elim
          · rename_i hmu
            obtain ⟨as, n1, l1, hr, g1, g2, g3, g4⟩ := args_sound h hr
            refine ⟨_, n1, l1, hr, g1, fun _ => g2 rfl, fun e => absurd e hmu, fun C1 hw hS hl hp => ?_⟩
            simp only [List.map_cons]
            unfold AV.VL
            refine ⟨_, _, rfl, ?_, g4 C1 hw hS hl hp⟩
            obtain ⟨hd', e3, h3⟩ := h.obj hob
            obtain ⟨vv, rfl, _, hz, fl, hfl, h4⟩ := OR.row_val h3
            have e4 : vv = a.eval x := by
              have : (st.cx E w hs).hs = hs := rfl
              rw [this, e3] at h2
              simpa using h2
            subst e4
            unfold AV.VR
            show Dat.R _ _ _ _
            unfold Dat.R
            obtain ⟨A, c, e5, hc1, hc2, h6⟩ := owns_slice h4
            refine ⟨A, c, by rw [e5], hc1, hc2, hz, ?_⟩
            rcases h6 with h6 | ⟨b, rfl⟩
            · exact .inl (List.length_eq_zero_iff.1 h6)
            · refine .inr ⟨b, 0, fl, rfl, hl (g2 rfl) m _ _ _ _ _ _ hob e3 b (by rw [e5]; rfl), Dat.RL.stable (fun b' hb' => ⟨hS fr b' hb', by rw [hw]; rfl⟩) _ _ hfl, fun j q hq => ?_⟩
              have := h4.cells (g := b) (by rw [e5]; rfl) j q hq
              rw [hw]
              rw [Addr.add_mid, Nat.zero_add] at this
              rw [Nat.zero_add]
              exact this
        · unfold Q.Runs at hr; exact hr.elim
      · unfold Q.Runs at hr; exact hr.elim
    · unfold Q.Runs at hr; exact hr.elim


/-- What a call comes to, its arguments known. -/
def callK (F : FT) (mu : Bool) (f : FuncId) (as : List AV) (n : Option Nat) (l : Bool) : Q := match n with
    | none => (match F f as none with
      | some R => .side R.pre (match R.o with
        | none => if l = false ∨ R.r.hi = true then (match R.r.renT none 0 with | some r => .fin r [] [] | none => .bad) else .bad
        | some ob => if ob.data = true ∧ (l = false ∨ (R.r.hi = true ∧ ob.hi = true)) then .fresh fun m => (match R.r.renT (some m) 0 with | some r => .fin r [] [ob] | none => .bad) else .bad)
      | none => .bad)
    | some m => .obj m (lazyO (fun ob => if ob.isRow = mu then (match ob.inn with
      | some i => (match F f as (some i) with
        | some R => .side R.pre (match R.o with
          | some ob' => if ob'.data = true ∧ ob.alike ob' = true ∧ (l = false ∨ (R.r.hi = true ∧ ob'.hi = true)) then (match R.r.renT (some m) ob.gam with | some r => .fin r [(m, ob'.out ob.gam)] [] | none => .bad) else .bad
          | none => .bad)
        | none => .bad)
      | none => .bad) else .bad) .mk)
theorem callK_none {F : FT} {mu : Bool} {f : FuncId} {as : List AV} {l : Bool} : callK F mu f as none l = (match F f as none with
      | some R => .side R.pre (match R.o with
        | none => if l = false ∨ R.r.hi = true then (match R.r.renT none 0 with | some r => .fin r [] [] | none => .bad) else .bad
        | some ob => if ob.data = true ∧ (l = false ∨ (R.r.hi = true ∧ ob.hi = true)) then .fresh fun m => (match R.r.renT (some m) 0 with | some r => .fin r [] [ob] | none => .bad) else .bad)
      | none => .bad) := rfl
theorem callK_some {F : FT} {mu : Bool} {f : FuncId} {as : List AV} {m : Nat} {l : Bool} : callK F mu f as (some m) l = .obj m (lazyO (fun ob => if ob.isRow = mu then (match ob.inn with
      | some i => (match F f as (some i) with
        | some R => .side R.pre (match R.o with
          | some ob' => if ob'.data = true ∧ ob.alike ob' = true ∧ (l = false ∨ (R.r.hi = true ∧ ob'.hi = true)) then (match R.r.renT (some m) ob.gam with | some r => .fin r [(m, ob'.out ob.gam)] [] | none => .bad) else .bad
          | none => .bad)
        | none => .bad)
      | none => .bad) else .bad) .mk) := rfl
def opCallF (F : FT) (T : Nat → TI) (mu : Bool) (f : FuncId) (ps : List (Operand × Nat)) : Q := Q.args T mu ps none false (callK F mu f)

/-- A call of a function value that has taken a box along. -/
def callS (F : FT) (f : FuncId) (cs : List Dat) (as : List AV) (n : Option Nat) (l : Bool) : Q := match n, l with
    | none, false => (match F f (as ++ [.sel false cs]) none with
      | some R => .side R.pre (match R.o, R.r.renT none 0 with
        | none, some r => .fin r [] []
        | _, _ => .bad)
      | none => .bad)
    | _, _ => .bad
theorem callS_none {F : FT} {f : FuncId} {cs : List Dat} {as : List AV} : callS F f cs as none false = (match F f (as ++ [.sel false cs]) none with
      | some R => .side R.pre (match R.o, R.r.renT none 0 with
        | none, some r => .fin r [] []
        | _, _ => .bad)
      | none => .bad) := rfl
def opCallS (F : FT) (T : Nat → TI) (f : FuncId) (ps : List (Operand × Nat)) (cs : List Dat) : Q := Q.args T false ps none false (callS F f cs)

/-- The calling operation, its callee known. -/
def opCall (F : FT) (Mu : FuncId → Bool) (T : Nat → TI) (x : Operand) (args : Array Operand) (tys : Array TypeId) : Q :=
  if args.size = tys.size then Q.opnd x fun fv => (match fv with
    | .fn f [] => opCallF F T (Mu f) f (args.toList.zip tys.toList)
    | .fn f [.sel _ cs] => opCallS F T f (args.toList.zip tys.toList) cs
    | _ => .bad) else .bad

theorem OpOK.call (h : Rel E st a w hs) {f : FuncId} {vals : Array Value} {av : AV} (hrun : (execOp a.eval o).run P w = .ok (.enter f vals) w)
    (hc : Calls P f vals w fun e w' => ∃ x hs', e = .returned x ∧ Rel E (st.upd o.dst av u n) (a.put o.dst x) w' hs') : OpOK P E o st a w hs av u n := by
  intro Kp Q hK
  unfold Oper.wp
  rw [hrun, Oper.upon_enter]
  refine hc.mono fun e w' he => ?_
  obtain ⟨x, hs', rfl, hr⟩ := he
  exact hK _ _ hs' hr

theorem execOp_call {x : Operand} {args : Array Operand} {tys : Array TypeId} {f : FuncId} (ho : o.op = .call { callee := .value x, args := args, argTypes := tys }) (hx : a.eval x = .func (.func f) #[] #[])
    (hf : ∃ fn, P.funcs[f]? = some fn ∧ (fn.name == "runtime.NumGoroutine") = false ∧ fn.body.isNone = false) : (execOp a.eval o).run P w = .ok (.enter f (args.map a.eval)) w := by
  obtain ⟨fn, h1, h2, h3⟩ := hf
  simp only [execOp, ho, resolve, hx, Deferred.ofValue, invoke, callFunc, h1, h2, h3, Sem.run_bind, Sem.run_pure, run_program, Result.andThen_ok, Array.append_empty, Array.empty_append, Bool.false_eq_true, if_false]

theorem callF_sound (h : Rel E st a w hs) (hd : ∀ t, o.dst = some t → t < E.N) {F : FT} (hF : FOK P F) {mu : Bool} {f : FuncId} {ps : List (Operand × Nat)} {vals : Array Value}
    (hv : vals.toList = ps.map fun p => a.eval p.1) (hrun : (∃ fn, P.funcs[f]? = some fn ∧ (fn.name == "runtime.NumGoroutine") = false ∧ fn.body.isNone = false) → (execOp a.eval o).run P w = .ok (.enter f vals) w)
    (hr : (opCallF F T mu f ps).Runs S st v u n) : OpOK P E o st a w hs v u n := by
  unfold opCallF at hr
  obtain ⟨as, n1, l, hr, -, -, hmu, hvl⟩ := args_sound h hr
  unfold callK at hr
  have wok := h.wok
  have hlen : st.obs.length = hs.length := wok.len
  have alt : ∀ (m : Nat) (k : Hd), (st.cx E w hs).alive m → hs[m]? = some k → ∀ b ∈ k.blks, b < w.heap.size := fun m k ⟨ob, ho⟩ hk b hb => (wok.objs m ob k ho hk).lt b hb
  -- what the callee may share
  let old : Nat → Prop := if l = true then fun _ => True else (st.cx E w hs).Sh false
  have hold : ∀ b, (st.cx E w hs).Sh false b → old b := fun b hb => by simp only [old]; split; trivial; exact hb
  have hold' : l = false → ∀ b, old b → (st.cx E w hs).Sh false b := fun hl b hb => by simp only [old, hl] at hb; simpa using hb
  split at hr
  · -- no object handed in
    split at hr
    · rename_i R hR
      obtain ⟨hfn, hspec⟩ := hF _ _ _ _ hR
      unfold Q.Runs at hr
      obtain ⟨hpre, hr⟩ := hr
      have wok1 : WOK w [] (entryCx w old none []) :=
        ⟨rfl, rfl, rfl, rfl, Nat.le_refl _, rfl, fun _ _ _ => rfl, fun n o h e => by simp [entryCx] at e, fun n m h k _ ⟨o, e⟩ => by simp [entryCx] at e, fun n h ⟨o, e⟩ => by simp [entryCx] at e, Nat.le_refl _, fun i b e => by simp at e, fun i b u e => by simp at e, fun i v E sz fr xs e => by simp at e⟩
      have hSh1 : ∀ fr b, (st.cx E w hs).Sh fr b → (entryCx w old none []).Sh false b := fun fr b hb => ⟨hb.1, fun n h ⟨o, e⟩ => by simp [entryCx] at e, .inr ⟨rfl, hold b hb.any⟩⟩
      have hvl1 := hvl (entryCx w old none []) rfl hSh1 (fun hl m E' sz γ fr xs vv ho hk b hb => ⟨alt m _ ⟨_, ho⟩ hk b (by simp [Hd.blks, hb]), fun n h ⟨o, e⟩ => by simp [entryCx] at e, .inr ⟨rfl, by simp only [old, hl]; trivial⟩⟩) (fun m e => by cases e)
      have hcalls := hspec w old [] _ wok1 hvl1 hpre
      rw [← hv, Array.toArray_toList] at hcalls
      split at hr
      · -- none comes out
        split at hr
        · rename_i hhi
          split at hr
          · rename_i r hren
            unfold Q.Runs at hr
            obtain ⟨rfl, rfl, rfl⟩ := hr
            refine OpOK.call h (hrun hfn) (hcalls.mono fun e w' he => ?_)
            obtain ⟨x, obs', hs', rfl, wok2, hvr, -⟩ := he
            have hb : Below w.heap.size w w' := ⟨wok2.os, wok2.tape, wok2.output, wok2.size, fun k hk => wok2.frame k hk (by simp)⟩
            refine ⟨x, hs, rfl, ?_⟩
            have hr2 : Rel E ⟨st.env, st.obs⟩ a w' hs := h.le (Cx.Le.grow (C := st.cx E w hs) hb) (h.wok.grow hb)
            rw [St.upd_nil]
            refine hr2.put ?_ o.dst hd
            refine VR.renT (low := !l) (C2 := ⟨w', w.heap.size, old, obs', hs'⟩) (C' := St.cx ⟨st.env, st.obs⟩ E w' hs) rfl ?_ (fun n off v e => by cases e) (fun n γ v e => by cases e) hren (by rcases hhi with hhi | hhi; exact .inl (by simp [hhi]); exact .inr hhi) hvr
            intro fr b hl hb2
            refine ⟨hb2.1, fun m k hal hk hbk => ?_, ?_⟩
            · rcases hb2.2.2 with h3 | ⟨rfl, h3⟩
              · have := alt m k hal hk b hbk
                have h3' : w.heap.size ≤ b := h3
                omega
              · have hl' : l = false := by simpa using hl
                exact (hold' hl' b h3).2.1 m k hal hk hbk
            · rcases hb2.2.2 with h3 | ⟨rfl, h3⟩
              · exact .inl (Nat.le_trans wok.size h3)
              · have hl' : l = false := by simpa using hl
                exact (hold' hl' b h3).2.2
          · unfold Q.Runs at hr; exact hr.elim
        · unfold Q.Runs at hr; exact hr.elim
      · -- a new object
        rename_i ob hob
        split at hr
        · rename_i hhi
          obtain ⟨hdata, hhi⟩ := hhi
          unfold Q.Runs at hr
          dsimp only at hr
          split at hr
          · rename_i r hren
            unfold Q.Runs at hr
            obtain ⟨rfl, rfl, rfl⟩ := hr
            refine OpOK.call h (hrun hfn) (hcalls.mono fun e w' he => ?_)
            obtain ⟨x, obs', hs', rfl, wok2, hvr, ho2⟩ := he
            have ho2 := ho2 ob hob
            obtain ⟨k, hk⟩ := wok2.hd (n := 0) (alive_lt (C := ⟨w', w.heap.size, old, obs', hs'⟩) ⟨ob, ho2⟩)
            have hor := wok2.objs 0 ob k ho2 hk
            have hnew : ∀ b ∈ k.blks, w.heap.size ≤ b := fun b hb => (wok2.new 0 k ⟨ob, ho2⟩ hk b hb).resolve_right (by simp)
            have hb : Below w.heap.size w w' := ⟨wok2.os, wok2.tape, wok2.output, wok2.size, fun k hk => wok2.frame k hk (by simp)⟩
            have hS : ∀ fr b, ((!l) = true ∨ fr = true) → Cx.Sh ⟨w', w.heap.size, old, obs', hs'⟩ fr b → ((st.cx E w hs).add w' ob k).Sh fr b := by
              intro fr b hl hb2
              refine ⟨hb2.1, fun m j hal hj hbj => ?_, ?_⟩
              · by_cases e : m < st.obs.length
                · have hj' : hs[m]? = some j := by simpa [Cx.add, St.cx, List.getElem?_append_left (hlen ▸ e)] using hj
                  have hal' : (st.cx E w hs).alive m := by
                    obtain ⟨o', ho'⟩ := hal
                    exact ⟨o', by simpa [Cx.add, St.cx, List.getElem?_append_left e] using ho'⟩
                  rcases hb2.2.2 with h3 | ⟨rfl, h3⟩
                  · have := alt m j hal' hj' b hbj
                    have h3' : w.heap.size ≤ b := h3
                    omega
                  · have hl' : l = false := by simpa using hl
                    exact (hold' hl' b h3).2.1 m j hal' hj' hbj
                · have hj' : j = k := by
                    simp only [Cx.add, St.cx] at hj
                    rw [List.getElem?_append_right (by omega)] at hj
                    have h0 : m - hs.length = 0 := by
                      have := (List.getElem?_eq_some_iff.1 hj).1
                      simp at this; omega
                    rw [h0] at hj
                    simpa using hj.symm
                  subst hj'
                  exact hb2.2.1 0 j ⟨ob, ho2⟩ hk hbj
              · rcases hb2.2.2 with h3 | ⟨rfl, h3⟩
                · exact .inl (Nat.le_trans wok.size h3)
                · have hl' : l = false := by simpa using hl
                  exact (hold' hl' b h3).2.2
            have hor' : ob.OR ((st.cx E w hs).add w' ob k) k := by
              have := OR.up (C2 := ⟨w', w.heap.size, old, obs', hs'⟩) (C' := (st.cx E w hs).add w' ob k) (low := !l) (γ := 0) rfl hS hdata (by rcases hhi with hhi | hhi; exact .inl (by simp [hhi]); exact .inr hhi.2) hor
              have e0 : ob.out 0 = ob := by cases ob <;> simp [Ob.out]
              rw [e0] at this; exact this
            have le := Cx.Le.add (C := st.cx E w hs) (o := ob) hlen hb hnew
            have wok' := wok.add hb hnew hor'
            have hr2 : Rel E ⟨st.env, st.obs ++ [some ob]⟩ a w' (hs ++ [k]) := h.le le wok'
            refine ⟨x, hs ++ [k], rfl, ?_⟩
            have hC : (⟨st.env, st.obs ++ [some ob]⟩ : St).cx E w' (hs ++ [k]) = (st.cx E w hs).add w' ob k := rfl
            have hvr' : v.VR ((st.cx E w hs).add w' ob k) x := by
              refine VR.renT (low := !l) (C2 := ⟨w', w.heap.size, old, obs', hs'⟩) (C' := (st.cx E w hs).add w' ob k) rfl hS ?_ ?_ hren (by rcases hhi with hhi | hhi; exact .inl (by simp [hhi]); exact .inr hhi.1) hvr
              · intro m off v e hv0
                cases e
                unfold AV.VR at hv0 ⊢
                refine ⟨by simp [Cx.add, St.cx], fun o' ho' => ?_⟩
                obtain ⟨b, h3, h4⟩ := hv0.2 ob ho2
                have h3 : hs'[0]? = some (.ptr b) ∨ ∃ u, hs'[0]? = some (.buf b u) := h3
                have hk : hs'[0]? = some k := hk
                refine ⟨b, ?_, h4⟩
                simp only [Cx.add, St.cx, hlen, List.getElem?_concat_length]
                rw [hk] at h3
                exact h3
              · intro m γ v e hv0
                cases e
                rw [Nat.zero_add]
                unfold AV.VR at hv0 ⊢
                refine ⟨by simp [Cx.add, St.cx], fun E' sz γ0 fr xs ho' => ?_⟩
                have eo : ob = .row E' sz γ0 fr xs := by simpa [Cx.add, St.cx] using ho'
                subst eo
                obtain ⟨h3, h4⟩ := hv0.2 _ _ _ _ _ ho2
                have hk : hs'[0]? = some k := hk
                refine ⟨h3, fun e5 => ?_⟩
                simp only [Cx.add, St.cx, hlen, List.getElem?_concat_length]
                have h4 : hs'[0]? = some (.row v) := h4 e5
                rw [← hk]; exact h4
            have := hr2.put (av := v) (v := x) hvr' o.dst hd
            cases hdst : o.dst <;> simpa [St.upd, St.put, hdst] using this
          · unfold Q.Runs at hr; exact hr.elim
        · unfold Q.Runs at hr; exact hr.elim
    · unfold Q.Runs at hr; exact hr.elim
  · -- an object handed in
    rename_i m
    unfold Q.Runs at hr
    obtain ⟨ob, hob, hr⟩ := hr
    dsimp only [lazyO] at hr
    split at hr
    · rename_i hrow
      split at hr
      · rename_i i hinn
        split at hr
        · rename_i R hR
          obtain ⟨hfn, hspec⟩ := hF _ _ _ _ hR
          unfold Q.Runs at hr
          obtain ⟨hpre, hr⟩ := hr
          split at hr
          · rename_i ob' hob'
            split at hr
            · rename_i hcond
              obtain ⟨hdata, halike, hhi⟩ := hcond
              split at hr
              · rename_i r hren
                unfold Q.Runs at hr
                obtain ⟨rfl, rfl, rfl⟩ := hr
                obtain ⟨k, hk, hor⟩ := h.obj hob
                have hal : (st.cx E w hs).alive m := ⟨ob, hob⟩
                have hml : m < hs.length := (List.getElem?_eq_some_iff.1 hk).1
                have entry1 : ∀ n h, (entryCx w old (some i) [k]).alive n → (entryCx w old (some i) [k]).hs[n]? = some h → n = 0 ∧ h = k := by
                  intro n h _ e
                  have : ([k] : List Hd)[n]? = some h := e
                  cases n with
                  | zero => simpa [eq_comm] using this
                  | succ n => simp at this
                have hSh1 : ∀ fr b, (st.cx E w hs).Sh fr b → (entryCx w old (some i) [k]).Sh false b := fun fr b hb => ⟨hb.1, fun n h hal' e hbk => by
                  obtain ⟨rfl, rfl⟩ := entry1 n h hal' e
                  exact hb.2.1 m h hal hk hbk, .inr ⟨rfl, hold b hb.any⟩⟩
                have hor1 : i.OR (entryCx w old (some i) [k]) k := OR.inn (C := st.cx E w hs) (C1 := entryCx w old (some i) [k]) rfl hSh1 hinn hor
                have wok1 : WOK w [k] (entryCx w old (some i) [k]) :=
                  ⟨rfl, rfl, rfl, rfl, Nat.le_refl _, rfl, fun _ _ _ => rfl,
                    fun n o h e e2 => by
                      have e3 : ([some i] : List (Option Ob))[n]? = some (some o) := e
                      have e4 : ([k] : List Hd)[n]? = some h := e2
                      cases n with
                      | zero => simp at e3 e4; subst e3; subst e4; exact hor1
                      | succ n => simp at e3,
                    fun n m h k' hnm ha hb e1 e2 => by
                      obtain ⟨rfl, rfl⟩ := entry1 n h ha e1
                      obtain ⟨rfl, rfl⟩ := entry1 m k' hb e2
                      exact absurd rfl hnm,
                    fun n h ha e b hb => by
                      obtain ⟨rfl, rfl⟩ := entry1 n h ha e
                      exact .inr ⟨by simp, h, by simp, hb⟩,
                    Nat.le_refl _, fun i b e => e, fun i b u e => ⟨u, e⟩, fun i v E sz fr xs e _ => e⟩
                have hvl1 := hvl (entryCx w old (some i) [k]) rfl hSh1 (fun hl m' E' sz γ fr xs vv ho' hk' b hb => ⟨alt m' _ ⟨_, ho'⟩ hk' b (by simp [Hd.blks, hb]), fun n h hal' e hbk => by
                    obtain ⟨rfl, rfl⟩ := entry1 n h hal' e
                    have hne : m' ≠ m := by
                      rintro rfl
                      have : ob = .row E' sz γ fr xs := by rw [hob] at ho'; simpa using ho'
                      subst this
                      have : mu = true := by rw [← hrow]; rfl
                      have := hmu this rfl
                      rw [this] at hl
                      exact absurd hl (by simp)
                    exact wok.dist m' m (.row vv) h hne ⟨_, ho'⟩ hal hk' hk b (by simp [Hd.blks, hb]) hbk, .inr ⟨rfl, by simp only [old, hl]; trivial⟩⟩)
                  (fun m' e => by
                    have : m' = m := by simpa using e.symm
                    subst this
                    exact ⟨ob, hob, by rw [hk]; rfl, by simp [entryCx]⟩)
                have hcalls := hspec w old [k] _ wok1 hvl1 hpre
                rw [← hv, Array.toArray_toList] at hcalls
                refine OpOK.call h (hrun hfn) (hcalls.mono fun e w' he => ?_)
                obtain ⟨x, obs', hs', rfl, wok2, hvr, ho2⟩ := he
                have ho2 := ho2 ob' hob'
                obtain ⟨k', hk'⟩ := wok2.hd (n := 0) (alive_lt (C := ⟨w', w.heap.size, old, obs', hs'⟩) ⟨ob', ho2⟩)
                have hor2 := wok2.objs 0 ob' k' ho2 hk'
                have hk'' : hs'[0]? = some k' := hk'
                have hnew : ∀ b ∈ k'.blks, b ∈ k.blks ∨ w.heap.size ≤ b := fun b hb => by
                  rcases wok2.new 0 k' ⟨ob', ho2⟩ hk' b hb with h3 | ⟨_, p, h3, h4⟩
                  · exact .inr h3
                  · have : p = k := by simpa using h3
                    subst this
                    exact .inl h4
                have hw2 : Wrote w w' k.blks := ⟨wok2.os, wok2.tape, wok2.output, wok2.size, fun b hb hn => wok2.frame b hb (fun h' hh' => (List.mem_singleton.1 hh') ▸ hn)⟩
                have hf : ob.follows k (ob'.out ob.gam) k' := by
                  refine ⟨fun E' sz γ fr xs e => ?_, fun b e => ?_, fun b u e => ?_⟩
                  · cases ob' with
                    | row E2 sz2 g2 fr2 xs2 =>
                      cases ob with
                      | row E1 sz1 g1 fr1 xs1 =>
                        simp only [Ob.out, Ob.gam, Ob.row.injEq] at e
                        obtain ⟨rfl, rfl, rfl, rfl, rfl⟩ := e
                        refine ⟨_, _, _, _, _, rfl, Nat.le_add_right _ _, fun e => ?_⟩
                        have g0 : g2 = 0 := by omega
                        subst g0
                        obtain ⟨vv, rfl, _⟩ := OR.row_val hor
                        have := wok2.parR 0 vv _ _ _ _ (by simp) ho2
                        have h5 : hs'[0]? = some (.row vv) := this
                        rw [hk''] at h5
                        simpa using h5
                      | _ => simp [Ob.alike] at halike
                    | _ => simp [Ob.out] at e
                  · subst e
                    have := wok2.parP 0 b (by simp)
                    have h5 : hs'[0]? = some (.ptr b) := this
                    rw [hk''] at h5
                    simpa using h5
                  · subst e
                    obtain ⟨u', this⟩ := wok2.parB 0 b u (by simp)
                    have h5 : hs'[0]? = some (.buf b u') := this
                    rw [hk''] at h5
                    exact ⟨u', by simpa using h5⟩
                have hS : ∀ fr b, ((!l) = true ∨ fr = true) → Cx.Sh ⟨w', w.heap.size, old, obs', hs'⟩ fr b → ((st.cx E w hs).setO w' m (some (ob'.out ob.gam)) k').Sh fr b := by
                  intro fr b hl hb2
                  refine ⟨hb2.1, fun m' j hal' hj hbj => ?_, ?_⟩
                  · by_cases e : m' = m
                    · subst e
                      have : j = k' := by
                        have : (hs.set m' k')[m']? = some j := hj
                        rw [List.getElem?_set_self hml] at this
                        simpa using this.symm
                      subst this
                      exact hb2.2.1 0 j ⟨ob', ho2⟩ hk' hbj
                    · have hj' : hs[m']? = some j := by simpa [Cx.setO, St.cx, List.getElem?_set, Ne.symm e] using hj
                      have hal2 : (st.cx E w hs).alive m' := by
                        obtain ⟨o', ho'⟩ := hal'
                        exact ⟨o', by simpa [Cx.setO, St.cx, List.getElem?_set, Ne.symm e] using ho'⟩
                      rcases hb2.2.2 with h3 | ⟨rfl, h3⟩
                      · have := alt m' j hal2 hj' b hbj
                        have h3' : w.heap.size ≤ b := h3
                        omega
                      · have hl' : l = false := by simpa using hl
                        exact (hold' hl' b h3).2.1 m' j hal2 hj' hbj
                  · rcases hb2.2.2 with h3 | ⟨rfl, h3⟩
                    · exact .inl (Nat.le_trans wok.size h3)
                    · have hl' : l = false := by simpa using hl
                      exact (hold' hl' b h3).2.2
                have hor' : (ob'.out ob.gam).OR ((st.cx E w hs).setO w' m (some (ob'.out ob.gam)) k') k' :=
                  OR.up (C2 := ⟨w', w.heap.size, old, obs', hs'⟩) (C' := (st.cx E w hs).setO w' m (some (ob'.out ob.gam)) k') (low := !l) rfl hS hdata (by rcases hhi with hhi | hhi; exact .inl (by simp [hhi]); exact .inr hhi.2) hor2
                have le := Cx.Le.setO (C := st.cx E w hs) (o' := ob'.out ob.gam) hlen hob hk hw2 hnew hf
                have wok' := wok.setO hob hk hw2 hnew hf hor'
                have hr2 : Rel E ⟨st.env, st.obs.set m (some (ob'.out ob.gam))⟩ a w' (hs.set m k') := h.le le wok'
                refine ⟨x, hs.set m k', rfl, ?_⟩
                have hml' : m < st.obs.length := hlen ▸ hml
                have hvr' : v.VR ((st.cx E w hs).setO w' m (some (ob'.out ob.gam)) k') x := by
                  refine VR.renT (low := !l) (C2 := ⟨w', w.heap.size, old, obs', hs'⟩) (C' := (st.cx E w hs).setO w' m (some (ob'.out ob.gam)) k') rfl hS ?_ ?_ hren (by rcases hhi with hhi | hhi; exact .inl (by simp [hhi]); exact .inr hhi.1) hvr
                  · intro m' off v e hv0
                    cases e
                    unfold AV.VR at hv0 ⊢
                    refine ⟨by simpa [Cx.setO, St.cx] using hml', fun o' ho' => ?_⟩
                    obtain ⟨b, h3, h4⟩ := hv0.2 ob' ho2
                    have h3 : hs'[0]? = some (.ptr b) ∨ ∃ u, hs'[0]? = some (.buf b u) := h3
                    refine ⟨b, ?_, h4⟩
                    show (hs.set m k')[m]? = _ ∨ ∃ u, (hs.set m k')[m]? = _
                    rw [List.getElem?_set_self hml]
                    rw [hk''] at h3
                    exact h3
                  · intro m' γ v e hv0
                    cases e
                    unfold AV.VR at hv0 ⊢
                    refine ⟨by simpa [Cx.setO, St.cx] using hml', fun E' sz γ0 fr xs ho' => ?_⟩
                    have eo : ob'.out ob.gam = .row E' sz γ0 fr xs := by
                      have : (st.obs.set m (some (ob'.out ob.gam)))[m]? = some (some (.row E' sz γ0 fr xs)) := ho'
                      rw [List.getElem?_set_self hml'] at this
                      simpa using this
                    cases ob' with
                    | row E2 sz2 g2 fr2 xs2 =>
                      simp only [Ob.out, Ob.row.injEq] at eo
                      obtain ⟨rfl, rfl, rfl, rfl, rfl⟩ := eo
                      obtain ⟨h3, h4⟩ := hv0.2 _ _ _ _ _ ho2
                      refine ⟨by omega, fun e5 => ?_⟩
                      show (hs.set m k')[m]? = _
                      rw [List.getElem?_set_self hml]
                      have h4 : hs'[0]? = some (.row v) := h4 (by omega)
                      rw [← hk'']; exact h4
                    | _ => simp [Ob.out] at eo
                have := hr2.put (av := v) (v := x) hvr' o.dst hd
                cases hdst : o.dst <;> simpa [St.upd, St.put, hdst] using this
              · unfold Q.Runs at hr; exact hr.elim
            · unfold Q.Runs at hr; exact hr.elim
          · unfold Q.Runs at hr; exact hr.elim
        · unfold Q.Runs at hr; exact hr.elim
      · unfold Q.Runs at hr; exact hr.elim
    · unfold Q.Runs at hr; exact hr.elim

theorem VL.snoc {C : Cx} : ∀ {as : List AV} {vs : List Value} {x : AV} {v : Value}, AV.VL C as vs → x.VR C v → AV.VL C (as ++ [x]) (vs ++ [v])
  | [], vs, x, v, h, hv => by
    unfold AV.VL at h
    subst h
    simp only [List.nil_append]
    unfold AV.VL
    exact ⟨v, [], rfl, hv, by unfold AV.VL; rfl⟩
  | a :: as, vs, x, v, h, hv => by
    unfold AV.VL at h
    obtain ⟨v1, rest, rfl, h1, h2⟩ := h
    simp only [List.cons_append]
    unfold AV.VL
    exact ⟨v1, rest ++ [v], rfl, h1, VL.snoc h2 hv⟩
theorem execOp_callS {x : Operand} {args : Array Operand} {tys : Array TypeId} {f : FuncId} {cs : Array Value} (ho : o.op = .call { callee := .value x, args := args, argTypes := tys }) (hx : a.eval x = .func (.func f) #[] cs)
    (hf : ∃ fn, P.funcs[f]? = some fn ∧ (fn.name == "runtime.NumGoroutine") = false ∧ fn.body.isNone = false) : (execOp a.eval o).run P w = .ok (.enter f (args.map a.eval ++ cs)) w := by
  obtain ⟨fn, h1, h2, h3⟩ := hf
  simp only [execOp, ho, resolve, hx, Deferred.ofValue, invoke, callFunc, h1, h2, h3, Sem.run_bind, Sem.run_pure, run_program, Result.andThen_ok, Array.append_empty, Array.empty_append, Bool.false_eq_true, if_false]
theorem callS_sound (h : Rel E st a w hs) (hd : ∀ t, o.dst = some t → t < E.N) {F : FT} (hF : FOK P F) {f : FuncId} {ps : List (Operand × Nat)} {vals : Array Value} {fr : Bool} {cs : List Dat} {v1 : Value} (hsel : (AV.sel fr cs).VR (st.cx E w hs) v1)
    (hv : vals.toList = (ps.map fun p => a.eval p.1) ++ [v1]) (hrun : (∃ fn, P.funcs[f]? = some fn ∧ (fn.name == "runtime.NumGoroutine") = false ∧ fn.body.isNone = false) → (execOp a.eval o).run P w = .ok (.enter f vals) w)
    (hr : (opCallS F T f ps cs).Runs S st v u n) : OpOK P E o st a w hs v u n := by
  unfold opCallS at hr
  obtain ⟨as, n1, l, hr, -, -, hmu, hvl⟩ := args_sound h hr
  unfold callS at hr
  have wok := h.wok
  have alt : ∀ (m : Nat) (k : Hd), (st.cx E w hs).alive m → hs[m]? = some k → ∀ b ∈ k.blks, b < w.heap.size := fun m k ⟨ob, ho⟩ hk b hb => (wok.objs m ob k ho hk).lt b hb
  let old : Nat → Prop := (st.cx E w hs).Sh false
  split at hr
  · split at hr
    · rename_i R hR
      obtain ⟨hfn, hspec⟩ := hF _ _ _ _ hR
      unfold Q.Runs at hr
      obtain ⟨hpre, hr⟩ := hr
      split at hr
      · rename_i r ho hren
        unfold Q.Runs at hr
        obtain ⟨rfl, rfl, rfl⟩ := hr
        have wok1 : WOK w [] (entryCx w old none []) :=
          ⟨rfl, rfl, rfl, rfl, Nat.le_refl _, rfl, fun _ _ _ => rfl, fun n o h e => by simp [entryCx] at e, fun n m h k _ ⟨o, e⟩ => by simp [entryCx] at e, fun n h ⟨o, e⟩ => by simp [entryCx] at e, Nat.le_refl _, fun i b e => by simp at e, fun i b u e => by simp at e, fun i v E sz fr xs e => by simp at e⟩
        have hSh1 : ∀ fr b, (st.cx E w hs).Sh fr b → (entryCx w old none []).Sh false b := fun fr b hb => ⟨hb.1, fun n h ⟨o, e⟩ => by simp [entryCx] at e, .inr ⟨rfl, hb.any⟩⟩
        have hvl1 := VL.snoc (hvl (entryCx w old none []) rfl hSh1 (fun hl => by cases hl) (fun m e => by cases e)) (sel_lo (C := st.cx E w hs) (C1 := entryCx w old none []) rfl hSh1 hsel)
        have hcalls := hspec w old [] _ wok1 hvl1 hpre
        rw [← hv, Array.toArray_toList] at hcalls
        refine OpOK.call h (hrun hfn) (hcalls.mono fun e w' he => ?_)
        obtain ⟨x, obs', hs', rfl, wok2, hvr, -⟩ := he
        have hb : Below w.heap.size w w' := ⟨wok2.os, wok2.tape, wok2.output, wok2.size, fun k hk => wok2.frame k hk (by simp)⟩
        refine ⟨x, hs, rfl, ?_⟩
        have hr2 : Rel E ⟨st.env, st.obs⟩ a w' hs := h.le (Cx.Le.grow (C := st.cx E w hs) hb) (h.wok.grow hb)
        rw [St.upd_nil]
        refine hr2.put ?_ o.dst hd
        refine VR.renT (low := true) (C2 := ⟨w', w.heap.size, old, obs', hs'⟩) (C' := St.cx ⟨st.env, st.obs⟩ E w' hs) rfl ?_ (fun n off v e => by cases e) (fun n γ v e => by cases e) hren (.inl rfl) hvr
        intro fr b hl hb2
        refine ⟨hb2.1, fun m k hal hk hbk => ?_, ?_⟩
        · rcases hb2.2.2 with h3 | ⟨rfl, h3⟩
          · have := alt m k hal hk b hbk
            have h3' : w.heap.size ≤ b := h3
            omega
          · have h3' : (st.cx E w hs).Sh false b := h3
            exact h3'.2.1 m k hal hk hbk
        · rcases hb2.2.2 with h3 | ⟨rfl, h3⟩
          · exact .inl (Nat.le_trans wok.size h3)
          · have h3' : (st.cx E w hs).Sh false b := h3
            exact h3'.2.2
      · unfold Q.Runs at hr; exact hr.elim
    · unfold Q.Runs at hr; exact hr.elim
  · unfold Q.Runs at hr; exact hr.elim

theorem opCall_sound (h : Rel E st a w hs) (hd : ∀ t, o.dst = some t → t < E.N) {F : FT} (hF : FOK P F) {Mu : FuncId → Bool} {x : Operand} {args : Array Operand} {tys : Array TypeId}
    (ho : o.op = .call { callee := .value x, args := args, argTypes := tys }) (hr : (opCall F Mu T x args tys).Runs S st v u n) : OpOK P E o st a w hs v u n := by
  unfold opCall at hr
  split at hr
  · rename_i hsz
    replace hr := opnd_sound h hr; obtain ⟨fv, hfv, hr⟩ := hr
    split at hr
    · rename_i f
      unfold AV.VR at hfv
      obtain ⟨cs, e1, h2⟩ := hfv
      unfold AV.VL at h2
      have : cs = #[] := by
        have := congrArg List.toArray h2
        simpa using this
      subst this
      refine callF_sound h hd hF (vals := args.map a.eval) ?_ (fun hf => execOp_call ho e1 hf) hr
      have e2 : (args.toList.zip tys.toList).map Prod.fst = args.toList := List.map_fst_zip (by simpa using Nat.le_of_eq hsz)
      rw [Array.toList_map]
      conv => lhs; rw [← e2]
      rw [List.map_map]; rfl
    · rename_i f fr cs
      unfold AV.VR at hfv
      obtain ⟨cs', e1, h2⟩ := hfv
      unfold AV.VL at h2
      obtain ⟨v1, rest, e2, h3, h4⟩ := h2
      unfold AV.VL at h4
      subst h4
      refine callS_sound h hd hF (vals := args.map a.eval ++ cs') (fr := fr) (v1 := v1) h3 ?_ (fun hf => execOp_callS ho e1 hf) hr
      have e3 : (args.toList.zip tys.toList).map Prod.fst = args.toList := List.map_fst_zip (by simpa using Nat.le_of_eq hsz)
      rw [Array.toList_append, Array.toList_map, e2]
      conv => lhs; rw [← e3]
      rw [List.map_map]; rfl
    · unfold Q.Runs at hr; exact hr.elim
  · unfold Q.Runs at hr; exact hr.elim
end
end Go.AM

/- AM, part 29: maps whose keys are structs of whole numbers. -/
namespace Go.AM
open Go Go.RowKit

section
variable {P : Program} {S : SpecEqT} {E : En} {st : St} {a : Act} {w : World} {hs : List Hd} {o : Oper} {v : AV} {u : List (Nat × Ob)} {n : List Ob} {T : Nat → TI}

/-- The numbers of a key. -/
def keyI : List IntKind → List Dat → Option (List Int)
  | [], [] => some []
  | k :: ks, .v (.int k' n) :: ds => if k = k' then (match keyI ks ds with
    | some r => some (n :: r)
    | none => none) else none
  | _, _ => none
def keyA (ks : List IntKind) : AV → Option (List Int)
  | .d _ (.agg fs) => keyI ks fs
  | _ => none

theorem keyI_sound {w : World} {B : Nat → Prop} : ∀ {ks : List IntKind} {ds : List Dat} {xs : List Int} {cs : List Value}, keyI ks ds = some xs → Dat.RF w B ds cs → cs = (ks.zip xs).map fun p => Value.int p.1 p.2
  | [], [], xs, cs, h, hr => by
    simp only [keyI, Option.some.injEq] at h
    subst h
    unfold Dat.RF at hr
    simp [hr]
  | k :: ks, .v x :: ds, xs, cs, h, hr => by
    cases x <;> first | (simp [keyI] at h; done) | skip
    rename_i k' n
    unfold keyI at h
    split at h
    · rename_i e
      subst e
      split at h
      · rename_i r e2
        cases h
        unfold Dat.RF at hr
        obtain ⟨c, rest, rfl, _, h1, h2⟩ := hr
        unfold Dat.R at h1
        have := keyI_sound e2 h2
        simp only [List.zip_cons_cons, List.map_cons, List.cons.injEq]
        exact ⟨by simpa using h1.1, this⟩
      · cases h
    · cases h
  | [], _ :: _, _, _, h, _ => by simp [keyI] at h
  | _ :: _, [], _, _, h, _ => by simp [keyI] at h
  | _ :: _, .sl _ _ :: _, _, _, h, _ => by simp [keyI] at h
  | _ :: _, .agg _ :: _, _, _, h, _ => by simp [keyI] at h

theorem keyA_sound {C : Cx} {ks : List IntKind} {av : AV} {xs : List Int} {x : Value} (h : keyA ks av = some xs) (hv : av.VR C x) : x = keyV ks xs := by
  unfold keyA at h
  split at h
  · unfold AV.VR at hv
    obtain ⟨cs, rfl, h2⟩ := hv
    have := keyI_sound h h2
    unfold keyV
    rw [← this]
  · cases h

def opMakeMap (T : Nat → TI) (t : Nat) (r : Option Operand) : Q := match (T t).desc, r with
  | .map ks kv, none => .fresh fun m => .fin (.mpv m) [] [.mp ks kv []]
  | _, _ => .bad

theorem opMakeMap_sound (hT : TabOK P T) (h : Rel E st a w hs) (hd : ∀ t, o.dst = some t → t < E.N) {t : Nat} {r : Option Operand} (ho : o.op = .makeMap t r) (hr : (opMakeMap T t r).Runs S st v u n) : OpOK P E o st a w hs v u n := by
  unfold opMakeMap at hr
  split at hr
  · rename_i ks kv e1
    unfold Q.Runs at hr
    unfold Q.Runs at hr
    obtain ⟨rfl, rfl, rfl⟩ := hr
    have hl : st.obs.length = hs.length := h.wok.len
    refine OpOK.add h hd (w' := w.alloc (.map #[] 0)) (val := .map (some w.heap.size)) (k := .ptr w.heap.size) ?_ (below_alloc1 _ _) (by simp [Hd.blks]) ?_ ?_
    · simp only [execOp, ho, Option.map_none, Sem.run_bind, show (Instr.makeMap t none).run P w = .ok (.map (some w.heap.size)) (w.alloc (.map #[] 0)) from rfl, Result.andThen_ok, Sem.run_pure]
    · exact ⟨#[], 0, heap_alloc_new w _, rfl, by simp, by simp⟩
    · unfold AV.VR
      exact ⟨by simp [Cx.add, St.cx], fun ob _ => ⟨w.heap.size, .inl (by simp [Cx.add, St.cx, hl]), rfl⟩⟩
  · unfold Q.Runs at hr; exact hr.elim

/-- What a map tells of a key. -/
def mget (es : List (List Int × Int)) (xs : List Int) : Option Int := match es with
  | [] => none
  | e :: es => if e.1 = xs then some e.2 else mget es xs
theorem mget_none {es : List (List Int × Int)} {xs : List Int} (h : mget es xs = none) : ∀ e ∈ es, e.1 ≠ xs := by
  induction es with
  | nil => simp
  | cons e es ih =>
    unfold mget at h
    split at h
    · cases h
    · rename_i hn
      intro e' he
      rcases List.mem_cons.1 he with rfl | he
      · exact hn
      · exact ih h e' he
theorem mget_mem {es : List (List Int × Int)} {xs : List Int} {n : Int} (hn : (es.map (·.1)).Nodup) (h : (xs, n) ∈ es) : mget es xs = some n := by
  induction es with
  | nil => cases h
  | cons e es ih =>
    simp only [List.map_cons, List.nodup_cons] at hn
    unfold mget
    rcases List.mem_cons.1 h with rfl | h
    · rw [if_pos rfl]
    · rw [if_neg (fun e1 => hn.1 (List.mem_map.2 ⟨_, h, e1.symm⟩))]
      exact ih hn.2 h
theorem mget_of_none {es : List (List Int × Int)} {xs : List Int} (h : ∀ e ∈ es, e.1 ≠ xs) : mget es xs = none := by
  induction es with
  | nil => rfl
  | cons e es ih =>
    unfold mget
    rw [if_neg (h e (by simp))]
    exact ih fun e' he => h e' (by simp [he])

theorem keyV_inj {ks : List IntKind} {xs ys : List Int} (hx : xs.length = ks.length) (hy : ys.length = ks.length) (h : keyV ks xs = keyV ks ys) : xs = ys := by
  unfold keyV at h
  simp only [Value.agg.injEq] at h
  have h2 := congrArg Array.toList h
  simp only at h2
  clear h
  induction ks generalizing xs ys with
  | nil => rw [List.length_eq_zero_iff.1 hx, List.length_eq_zero_iff.1 hy]
  | cons k ks ih =>
    cases xs with
    | nil => simp at hx
    | cons x xs =>
      cases ys with
      | nil => simp at hy
      | cons y ys =>
        simp only [List.zip_cons_cons, List.map_cons, List.cons.injEq, Value.int.injEq, true_and] at h2
        simp only [List.length_cons, Nat.add_right_cancel_iff] at hx hy
        rw [h2.1, ih hx hy h2.2]

theorem map_find {P : Program} {k : TypeId} {ks : List IntKind} {kv : IntKind} (K : WideMaps.KeyLaw P k) (hk : ∀ xs, KeyFits ks xs → ∃ l, keyOf P k (keyV ks xs) = some l) {es : List (List Int × Int)} {ents : Array MapEntry}
    (hm : MapHas ks kv es ents) {xs : List Int} (hx : KeyFits ks xs) (w : World) :
    (mget es xs = none ∧ (Instr.findKey k (keyV ks xs) ents.toList).run P w = .ok none w) ∨ ∃ j n, mget es xs = some n ∧ (Instr.findKey k (keyV ks xs) ents.toList).run P w = .ok (some (j, .int kv n)) w := by
  obtain ⟨m1, m2, m3⟩ := hm
  obtain ⟨lx, hlx⟩ := hk xs hx
  have key : ∀ e ∈ ents.toList, ∃ p ∈ es, e.key = keyV ks p.1 ∧ e.val = .int kv p.2 := by
    intro e he
    have h1 : (e.key, e.val) ∈ ents.toList.map (fun e => (e.key, e.val)) := List.mem_map.2 ⟨e, he, rfl⟩
    rw [m1] at h1
    obtain ⟨p, hp, h2⟩ := List.mem_map.1 h1
    simp only [Prod.mk.injEq] at h2
    exact ⟨p, hp, h2.1.symm, h2.2.symm⟩
  rcases K.find w hlx ents.toList (fun e he => by
    obtain ⟨p, hp, h1, _⟩ := key e he
    rw [h1]
    exact hk p.1 (m2 p hp)) with ⟨h1, h2⟩ | ⟨j, e, h1, h2, h3⟩
  · refine .inl ⟨mget_of_none fun p hp e1 => ?_, h1⟩
    have h4 : (keyV ks p.1, Value.int kv p.2) ∈ es.map (fun e => (keyV ks e.1, Value.int kv e.2)) := List.mem_map.2 ⟨p, hp, rfl⟩
    rw [← m1] at h4
    obtain ⟨e, he, h5⟩ := List.mem_map.1 h4
    simp only [Prod.mk.injEq] at h5
    exact h2 e he (by rw [h5.1, e1])
  · obtain ⟨p, hp, h4, h5⟩ := key e (List.mem_of_getElem? h2)
    have e1 : p.1 = xs := keyV_inj (m2 p hp).1 hx.1 (by rw [← h4, h3])
    refine .inr ⟨j, p.2, mget_mem m3 ?_, by rw [h1, h5]⟩
    rw [← e1]
    exact hp

def opLookup (T : Nat → TI) (t : Nat) (x i : Operand) (ok : Bool) : Q := match (T t).desc with
  | .map ks kv => Q.opnd x fun a => Q.opnd i fun k => (match a, keyA ks k with
    | .mpv m, some xs => .obj m fun ob => (match ob with
      | .mp ks' kv' es => if ks = ks' ∧ kv = kv' then .side (KeyFits ks xs) (if ok then .fin (.tup [.d true (.v (.int kv ((mget es xs).getD 0))), .d true (.v (.bool (mget es xs).isSome))]) [] [] else Q.ret (.int kv ((mget es xs).getD 0))) else .bad
      | _ => .bad)
    | _, _ => .bad)
  | _ => .bad

theorem opLookup_sound (hT : TabOK P T) (h : Rel E st a w hs) (hd : ∀ t, o.dst = some t → t < E.N) {t : Nat} {x i : Operand} {ok : Bool} (ho : o.op = .lookup t x i ok) (hr : (opLookup T t x i ok).Runs S st v u n) : OpOK P E o st a w hs v u n := by
  unfold opLookup at hr
  split at hr
  · rename_i ks kv e1
    obtain ⟨k, e, hu, K, hkf, hz⟩ : KD.ok P t (.map ks kv) := e1 ▸ (hT t (by rw [e1]; simp)).1
    replace hr := opnd_sound h hr; obtain ⟨av, hav, hr⟩ := hr
    replace hr := opnd_sound h hr; obtain ⟨bv, hbv, hr⟩ := hr
    split at hr
    · rename_i m xs e2
      unfold Q.Runs at hr
      obtain ⟨ob, hob, hr⟩ := hr
      dsimp only at hr
      split at hr
      · rename_i ks' kv' es
        split at hr
        · rename_i e3
          obtain ⟨rfl, rfl⟩ := e3
          unfold Q.Runs at hr
          obtain ⟨hx, hr⟩ := hr
          have ek := keyA_sound e2 hbv
          unfold AV.VR at hav
          obtain ⟨b, hb, ep⟩ := hav.2 _ hob
          obtain ⟨hd', e4, h3⟩ := h.obj hob
          cases hd' with
          | ptr b' =>
            obtain ⟨ents, clock, h4, h5⟩ := h3
            have e6 : b' = b := by
              have e5 : (st.cx E w hs).hs = hs := rfl
              rcases hb with hb | ⟨q, hb⟩ <;> rw [e5, e4] at hb
              · simpa using hb
              · simp at hb
            subst e6
            have h4' : w.heap[b']? = some (.map ents clock) := h4
            obtain ⟨lx, hlx⟩ := hkf xs hx
            have hl : (Instr.lookup t (.map (some b')) (keyV ks xs) ok).run P w = .ok (if ok then .tuple #[.int kv ((mget es xs).getD 0), .bool (mget es xs).isSome] else .int kv ((mget es xs).getD 0)) w := by
              rcases map_find (P := P) K hkf h5 hx w with ⟨g1, g2⟩ | ⟨j, q, g1, g2⟩
              · simp [Instr.lookup, run_underlying hu, MapKept.run_getObj_map h4', K.check w _ hlx, g2, hz, Result.andThen, g1]
              · simp [Instr.lookup, run_underlying hu, MapKept.run_getObj_map h4', K.check w _ hlx, g2, Result.andThen, g1]
            split at hr
            · rename_i hok
              subst hok
              unfold Q.Runs at hr
              obtain ⟨rfl, rfl, rfl⟩ := hr
              refine OpOK.pure h hd (v := .tuple #[.int kv ((mget es xs).getD 0), .bool (mget es xs).isSome]) ?_ ?_
              · unfold AV.VR
                refine ⟨_, rfl, ?_⟩
                simp only [AV.VL]
                exact ⟨_, _, rfl, vr_v rfl, _, _, rfl, vr_v rfl, rfl⟩
              · simp only [execOp, ho, ep, ek, Sem.run_bind, hl, if_true, Result.andThen_ok, Sem.run_pure]
            · rename_i hok
              obtain ⟨rfl, rfl, rfl⟩ := ret_runs hr
              refine OpOK.pure h hd (vr_v rfl) ?_
              have : ok = false := by simpa using hok
              subst this
              simp only [execOp, ho, ep, ek, Sem.run_bind, hl, Result.andThen_ok, Sem.run_pure]
              rfl
          | _ => exact h3.elim
        · unfold Q.Runs at hr; exact hr.elim
      · unfold Q.Runs at hr; exact hr.elim
    · unfold Q.Runs at hr; exact hr.elim
  · unfold Q.Runs at hr; exact hr.elim

/-- Only a key that isn't there is written. -/
def opMapUpdate (T : Nat → TI) (t : Nat) (x i y : Operand) : Q := match (T t).desc with
  | .map ks kv => Q.opnd x fun a => Q.opnd i fun k => Q.opnd y fun z => (match a, keyA ks k, z with
    | .mpv m, some xs, .d _ (.v (.int kv' q)) => .obj m fun ob => (match ob with
      | .mp ks' kv2 es => if ks = ks' ∧ kv = kv2 ∧ kv = kv' then .side (KeyFits ks xs ∧ mget es xs = none) (.fin .junk [(m, .mp ks kv (es ++ [(xs, q)]))] []) else .bad
      | _ => .bad)
    | _, _, _ => .bad)
  | _ => .bad

theorem opMapUpdate_sound (hT : TabOK P T) (h : Rel E st a w hs) (hd : ∀ t, o.dst = some t → t < E.N) {t : Nat} {x i y : Operand} (ho : o.op = .mapUpdate t x i y) (hr : (opMapUpdate T t x i y).Runs S st v u n) : OpOK P E o st a w hs v u n := by
  unfold opMapUpdate at hr
  split at hr
  · rename_i ks kv e1
    obtain ⟨k, e, hu, K, hkf, hz⟩ : KD.ok P t (.map ks kv) := e1 ▸ (hT t (by rw [e1]; simp)).1
    replace hr := opnd_sound h hr; obtain ⟨av, hav, hr⟩ := hr
    replace hr := opnd_sound h hr; obtain ⟨bv, hbv, hr⟩ := hr
    replace hr := opnd_sound h hr; obtain ⟨zv, hzv, hr⟩ := hr
    split at hr
    · rename_i m xs fr kv' q e2
      unfold Q.Runs at hr
      obtain ⟨ob, hob, hr⟩ := hr
      dsimp only at hr
      split at hr
      · rename_i ks' kv2 es
        split at hr
        · rename_i e3
          obtain ⟨rfl, rfl, rfl⟩ := e3
          unfold Q.Runs at hr
          obtain ⟨⟨hx, hnone⟩, hr⟩ := hr
          unfold Q.Runs at hr
          obtain ⟨rfl, rfl, rfl⟩ := hr
          have ek := keyA_sound e2 hbv
          have ez := vr_int hzv
          unfold AV.VR at hav
          obtain ⟨b, hb, ep⟩ := hav.2 _ hob
          obtain ⟨hd', e4, h3⟩ := h.obj hob
          cases hd' with
          | ptr b' =>
            obtain ⟨ents, clock, h4, h5⟩ := h3
            have e6 : b' = b := by
              have e5 : (st.cx E w hs).hs = hs := rfl
              rcases hb with hb | ⟨q, hb⟩ <;> rw [e5, e4] at hb
              · simpa using hb
              · simp at hb
            subst e6
            have h4' : w.heap[b']? = some (.map ents clock) := h4
            have hlt : b' < w.heap.size := (Array.getElem?_eq_some_iff.1 h4').1
            obtain ⟨lx, hlx⟩ := hkf xs hx
            have hrun : (Instr.mapUpdate t (.map (some b')) (keyV ks xs) (.int kv q)).run P w = .ok () { w with heap := w.heap.setIfInBounds b' (.map (ents.push { key := keyV ks xs, val := .int kv q, born := clock }) (clock + 1)) } := by
              rcases map_find (P := P) K hkf h5 hx w with ⟨g1, g2⟩ | ⟨j, q, g1, g2⟩
              · simp [Instr.mapUpdate, run_underlying hu, MapKept.run_getObj_map h4', K.check w _ hlx, g2, MapKept.run_setObj_map _ h4', Result.andThen]
              · rw [g1] at hnone; cases hnone
            refine OpOK.set h hd (val := undef) (k := .ptr b') (k' := .ptr b') (nx := .skip) (w' := { w with heap := w.heap.setIfInBounds b' (.map (ents.push { key := keyV ks xs, val := .int kv q, born := clock }) (clock + 1)) }) ?_ (.inr ⟨rfl, rfl⟩) hob e4 ?_ (fun b hb => .inl hb) ?_ ?_ (by unfold AV.VR; trivial)
            · simp only [execOp, ho, ep, ek, ez, Sem.run_bind, hrun, Result.andThen_ok, Sem.run_pure]
            · refine ⟨rfl, rfl, rfl, by simp, fun c hc hn => ?_⟩
              simp only [Hd.blks, List.mem_singleton] at hn
              simp [Array.getElem?_setIfInBounds, Ne.symm hn]
            · exact ⟨fun E2 sz2 γ2 fr2 xs2 e => by simp at e, fun b e => e, fun b q e => by simp at e⟩
            · refine ⟨_, _, by simp [Cx.setO, Array.getElem?_setIfInBounds, hlt]; exact ⟨rfl, rfl⟩, ?_, ?_, ?_⟩
              · simp [h5.1]
              · intro p hp
                rcases List.mem_append.1 hp with hp | hp
                · exact h5.2.1 p hp
                · simp only [List.mem_singleton] at hp
                  subst hp
                  exact hx
              · rw [List.map_append, List.nodup_append]
                refine ⟨h5.2.2, by simp, fun p hp p2 hp2 => ?_⟩
                simp only [List.map_cons, List.map_nil, List.mem_singleton] at hp2
                subst hp2
                obtain ⟨e', he', rfl⟩ := List.mem_map.1 hp
                exact mget_none hnone e' he'
          | _ => exact h3.elim
        · unfold Q.Runs at hr; exact hr.elim
      · unfold Q.Runs at hr; exact hr.elim
    · unfold Q.Runs at hr; exact hr.elim
  · unfold Q.Runs at hr; exact hr.elim

/-! ### structs of whole numbers held against each other -/
def EqLaw (P : Program) (t : Nat) (ks : List IntKind) : Prop := ∀ (x y : Operand) (w : World) (xs ys : List Int), KeyFits ks xs → KeyFits ks ys →
  (eqGuard .eql t x y (keyV ks xs) (keyV ks ys)).run P w = .ok () w ∧ (binOp .eql t (keyV ks xs) (keyV ks ys)).run P w = .ok (.bool (decide (xs = ys))) w

def keyEq (ks : List IntKind) (a b : AV) : Q := match keyA ks a, keyA ks b with
  | some xs, some ys => .side (KeyFits ks xs ∧ KeyFits ks ys) (Q.ret (.bool (decide (xs = ys))))
  | _, _ => .bad

def opBinK (K : Nat → Option (List IntKind)) (T : Nat → TI) (op : BinOp) (t : Nat) (x y : Operand) : Q := match op, K t with
  | .eql, some ks => Q.opnd x fun a => Q.opnd y fun b => keyEq ks a b
  | op, _ => opBin T op t x y

theorem opBinK_sound {K : Nat → Option (List IntKind)} (hK : ∀ t ks, K t = some ks → EqLaw P t ks) (hT : TabOK P T) (h : Rel E st a w hs) (hd : ∀ t, o.dst = some t → t < E.N) {op : BinOp} {t t' : TypeId} {x y : Operand} (ho : o.op = .binOp op t x y t') (hr : (opBinK K T op t x y).Runs S st v u n) : OpOK P E o st a w hs v u n := by
  unfold opBinK at hr
  split at hr
  · rename_i ks e1
    replace hr := opnd_sound h hr; obtain ⟨av, hav, hr⟩ := hr
    replace hr := opnd_sound h hr; obtain ⟨bv, hbv, hr⟩ := hr
    unfold keyEq at hr
    split at hr
    · rename_i xs ys e2 e3
      unfold Q.Runs at hr
      obtain ⟨⟨h1, h2⟩, hr⟩ := hr
      obtain ⟨rfl, rfl, rfl⟩ := ret_runs hr
      obtain ⟨g1, g2⟩ := hK _ _ e1 x y w xs ys h1 h2
      refine OpOK.pure h hd (vr_v rfl) ?_
      simp only [execOp, ho, keyA_sound e2 hav, keyA_sound e3 hbv, Sem.run_bind, g1, g2, Result.andThen_ok, Sem.run_pure]
    · unfold Q.Runs at hr; exact hr.elim
  · exact opBin_sound hT h hd ho hr

end
end Go.AM

/- AM, part 31: bytes and strings. -/
namespace Go.AM
open Go Go.RowKit

/-! ### lists of whole numbers -/
def ints (k : IntKind) (l : List Int) : List Dat := l.map fun n => .v (.int k n)
def datInt : Dat → Int
  | .v (.int _ n) => n
  | _ => 0
def toInts (xs : List Dat) : List Int := xs.map datInt
theorem toInts_ints {k : IntKind} {l : List Int} : toInts (ints k l) = l := by
  induction l with
  | nil => rfl
  | cons a l ih => simp only [toInts, ints, List.map_cons, List.cons.injEq] at ih ⊢; exact ⟨rfl, ih⟩
/-- The string of bytes, and a string's bytes. -/
def strL (l : List Int) : ByteArray := l.foldl (fun r n => r.push (UInt8.ofNat n.toNat)) ByteArray.empty
def bytesL (s : ByteArray) : List Int := s.data.toList.map fun b => (b.toNat : Int)
theorem RL_ints {w : World} {B : Nat → Prop} {k : IntKind} : ∀ {l : List Int} {fl : List Value}, Dat.RL w B (ints k l) fl → fl = l.map (Value.int k)
  | [], fl, h => by unfold ints Dat.RL at h; simpa using h
  | n :: l, fl, h => by
    simp only [ints, List.map_cons] at h
    unfold Dat.RL at h
    obtain ⟨c1, c2, rfl, h1, h2⟩ := h
    unfold Dat.R at h1
    rw [h1.1, RL_ints h2]
    rfl
theorem RL_of_ints {w : World} {B : Nat → Prop} {k : IntKind} : ∀ (l : List Int), Dat.RL w B (ints k l) (l.map (Value.int k))
  | [] => by unfold ints Dat.RL; rfl
  | n :: l => by
    simp only [ints, List.map_cons]
    unfold Dat.RL
    exact ⟨[.int k n], _, rfl, by unfold Dat.R; exact ⟨rfl, rfl⟩, RL_of_ints l⟩

section
variable {P : Program} {S : SpecEqT} {E : En} {st : St} {a : Act} {w : World} {hs : List Hd} {o : Oper} {v : AV} {u : List (Nat × Ob)} {n : List Ob} {T : Nat → TI}

def convSB (x : AV) : Q := match x with
  | .d _ (.sl 1 xs) => .side (xs = ints .u8 (toInts xs)) (Q.ret (.string (strL (toInts xs))))
  | _ => .bad
def convBS (x : AV) : Q := match x with
  | .d _ (.v (.string s)) => .side (s.size ≤ maxLen) (.fin (.d true (.sl 1 (ints .u8 (bytesL s)))) [] [])
  | _ => .bad
def opConvS (T : Nat → TI) (src dst : Nat) (x : Operand) : Q := match (T src).desc, (T dst).desc with
  | .slice e, .str => (match (T e).desc with
    | .int .u8 => Q.opnd x fun a => convSB a
    | _ => .bad)
  | .str, .slice e => (match (T e).desc with
    | .int .u8 => Q.opnd x fun a => convBS a
    | _ => .bad)
  | _, _ => opConv T src dst x

theorem opConvS_sound (hT : TabOK P T) (h : Rel E st a w hs) (hd : ∀ t, o.dst = some t → t < E.N) {src dst : TypeId} {x : Operand} (ho : o.op = .convert src dst x) (hr : (opConvS T src dst x).Runs S st v u n) : OpOK P E o st a w hs v u n := by
  unfold opConvS at hr
  split at hr
  · rename_i e e1 e2
    split at hr
    · rename_i e3
      replace hr := opnd_sound h hr; obtain ⟨av, hav, hr⟩ := hr
      unfold convSB at hr
      split at hr
      · rename_i fr xs
        unfold Q.Runs at hr
        obtain ⟨hxs, hr⟩ := hr
        obtain ⟨rfl, rfl, rfl⟩ := ret_runs hr
        obtain ⟨h1, _⟩ := hT src (by rw [e1]; simp)
        obtain ⟨h2, _⟩ := hT dst (by rw [e2]; simp)
        obtain ⟨h3, _⟩ := hT e (by rw [e3]; simp)
        rw [e1] at h1
        rw [e2] at h2
        rw [e3] at h3
        have h1 : P.underlying src = some (.slice e) := h1
        have h2 : P.underlying dst = some .string := h2
        have h3 : P.underlying e = some (.int .u8) := h3
        generalize toInts xs = l at hxs ⊢
        subst hxs
        unfold AV.VR at hav
        obtain ⟨A, c, ex, _, _, _, hc⟩ := DV.slice hav
        refine OpOK.pure h hd (vr_v rfl) ?_
        have hrun : (Conv.bytesToString (.slice A (ints .u8 l).length c)).run P w = .ok (.string (strL l)) w := by
          rcases hc with hc | ⟨b, off, fl, rfl, _, hl, hcell⟩
          · have hl0 : l = [] := by
              cases l with
              | nil => rfl
              | cons n l => simp [ints] at hc
            subst hl0
            cases A with
            | none => rfl
            | some A => exact run_bytesToString w A 0 c [] (by simpa using run_loadCells_list (P := P) w A [] (fun j v hv => by simp at hv))
          · have e4 := RL_ints hl
            subst e4
            refine run_bytesToString w ⟨b, off, none⟩ _ c l ?_
            have := run_loadCells_list (P := P) w ⟨b, off, none⟩ (l.map (Value.int .u8)) (fun j v hv => by rw [Addr.add_mid]; exact hcell j v hv)
            simpa [ints] using this
        simp only [execOp, ho, ex, Sem.run_bind, run_convert_bytes_string w src dst e A _ c h1 h3 h2, hrun, Result.andThen_ok, Sem.run_pure]
      · unfold Q.Runs at hr; exact hr.elim
    · unfold Q.Runs at hr; exact hr.elim
  · rename_i e e1 e2
    split at hr
    · rename_i e3
      replace hr := opnd_sound h hr; obtain ⟨av, hav, hr⟩ := hr
      unfold convBS at hr
      split at hr
      · rename_i fr s
        unfold Q.Runs at hr
        obtain ⟨hs', hr⟩ := hr
        unfold Q.Runs at hr
        obtain ⟨rfl, rfl, rfl⟩ := hr
        obtain ⟨h1, _⟩ := hT src (by rw [e1]; simp)
        obtain ⟨h2, _⟩ := hT dst (by rw [e2]; simp)
        obtain ⟨h3, _⟩ := hT e (by rw [e3]; simp)
        rw [e1] at h1
        rw [e2] at h2
        rw [e3] at h3
        have h1 : P.underlying src = some .string := h1
        have h2 : P.underlying dst = some (.slice e) := h2
        have h3 : P.underlying e = some (.int .u8) := h3
        have ex := vr_int hav
        have hbl : Below w.heap.size w (Lib.bytesWorld w e s) := ⟨rfl, rfl, rfl, by rw [Lib.bytesWorld_size]; omega, fun k hk => Lib.bytesWorld_at_old w e s k hk⟩
        have hsl : (bytesL s).length = s.size := by simp [bytesL]
        refine OpOK.grow h hd (w' := Lib.bytesWorld w e s) (val := .slice (some ⟨w.heap.size, 0, none⟩) s.size (grownCap w s.size 0 e)) ?_ hbl ?_
        · simp only [execOp, ho, ex, Sem.run_bind, Lib.run_convert_string_bytes w src dst e s h1 h2 h3, Result.andThen_ok, Sem.run_pure]
        · unfold AV.VR
          show Dat.R _ _ _ _
          unfold Dat.R
          refine ⟨some ⟨w.heap.size, 0, none⟩, grownCap w s.size 0 e, by simp [ints, hsl], by simp [ints, hsl]; exact grownCap_ge w s.size 0 e, grownCap_le_maxLen w s.size 0 e hs', by simp [ints, Dat.wd, Dat.cells], .inr ⟨w.heap.size, 0, _, rfl, ?_, RL_of_ints (bytesL s), fun j u hj => ?_⟩⟩
          · refine ⟨by show _ < (Lib.bytesWorld w e s).heap.size; rw [Lib.bytesWorld_size]; omega, fun m k ⟨ob, hob⟩ hk hbk => ?_, .inl h.wok.size⟩
            have := (h.wok.objs m ob k hob hk).lt _ hbk
            exact absurd this (Nat.lt_irrefl _)
          · show (Lib.bytesWorld w e s).cell? _ = _
            have hj' : j < s.size := by
              have := (List.getElem?_eq_some_iff.1 hj).1
              simpa [hsl] using this
            rw [Nat.zero_add, Lib.bytesWorld_cell w e s j hj', ← hj]
            simp [bytesL, List.getD]
            rw [Array.getElem?_eq_getElem (show j < s.data.size from hj')]
            simp
      · unfold Q.Runs at hr; exact hr.elim
    · unfold Q.Runs at hr; exact hr.elim
  · exact opConv_sound hT h hd ho hr

end
end Go.AM

/- AM, part 30: copy into a cut of an own row; function values that take a box along. -/
namespace Go.AM
open Go Go.RowKit
section
variable {P : Program} {S : SpecEqT} {E : En} {st : St} {a : Act} {w : World} {hs : List Hd} {o : Oper} {v : AV} {u : List (Nat × Ob)} {n : List Ob} {T : Nat → TI}

def opMakeFunc (fn : Fn) (first caps : Array Operand) : Q := match fn, first, caps with
  | .func f, ⟨[]⟩, ⟨[x]⟩ => Q.opnd x fun a => (match a with
    | .sel fr cs => .fin (.fn f [.sel fr cs]) [] []
    | _ => .bad)
  | _, _, _ => .bad
theorem opMakeFunc_sound (h : Rel E st a w hs) (hd : ∀ t, o.dst = some t → t < E.N) {fn : Fn} {first caps : Array Operand} (ho : o.op = .makeFunc fn first caps) (hr : (opMakeFunc fn first caps).Runs S st v u n) : OpOK P E o st a w hs v u n := by
  unfold opMakeFunc at hr
  split at hr
  · rename_i f x
    replace hr := opnd_sound h hr; obtain ⟨av, hav, hr⟩ := hr
    split at hr
    · rename_i fr cs
      unfold Q.Runs at hr
      obtain ⟨rfl, rfl, rfl⟩ := hr
      refine OpOK.pure h hd (v := .func (.func f) #[] #[a.eval x]) ?_ ?_
      · unfold AV.VR
        refine ⟨_, rfl, ?_⟩
        unfold AV.VL
        exact ⟨_, [], rfl, hav, by unfold AV.VL; rfl⟩
      · simp [execOp, ho, Instr.makeFunc]
    · unfold Q.Runs at hr; exact hr.elim
  · unfold Q.Runs at hr; exact hr.elim

def opCopy (T : Nat → TI) (t : Nat) (x y : Operand) : Q := match (T t).desc with
  | .slice e => if (T e).desc.known = true ∧ (T e).size = 1 then Q.opnd x fun a => Q.opnd y fun b => (match a with
    | .cut m γ 1 i => (match b with
      | .d g (.sl 1 ys) => .obj m fun ob => (match ob with
        | .row E' 1 γ' fr xs => if γ = γ' then .side (0 < ys.length ∧ i + ys.length ≤ xs.length)
            (.fin (.d true (.v (.int .i64 (ys.length : Int)))) [(m, .row E' 1 γ (fr && g) (xs.take i ++ (ys ++ xs.drop (i + ys.length))))] []) else .bad
        | _ => .bad)
      | _ => .bad)
    | _ => .bad) else .bad
  | _ => .bad

theorem opCopy_sound (hT : TabOK P T) (h : Rel E st a w hs) (hd : ∀ t, o.dst = some t → t < E.N) {t : TypeId} {x y : Operand} (ho : o.op = .call ⟨.builtin .copy, ⟨[x, y]⟩, ⟨[t, t]⟩⟩) (hr : (opCopy T t x y).Runs S st v u n) : OpOK P E o st a w hs v u n := by
  unfold opCopy at hr
  split at hr
  · rename_i e e1
    obtain ⟨gt, _⟩ := hT t (by rw [e1]; simp)
    rw [e1] at gt
    split at hr
    · rename_i hk
      obtain ⟨_, ⟨info, i1, i2, _⟩, _⟩ := hT e (KD.known_ne hk.1)
      replace hr := opnd_sound h hr; obtain ⟨av, hav, hr⟩ := hr
      replace hr := opnd_sound h hr; obtain ⟨bv, hbv, hr⟩ := hr
      split at hr
      · rename_i m γ i
        split at hr
        · rename_i g ys
          unfold Q.Runs at hr
          obtain ⟨ob, hob, hr⟩ := hr
          dsimp only at hr
          split at hr
          · rename_i E' γ' fr xs
            split at hr
            · rename_i ec
              subst ec
              unfold Q.Runs at hr
              obtain ⟨⟨hy0, hfit⟩, hr⟩ := hr
              unfold Q.Runs at hr
              obtain ⟨rfl, rfl, rfl⟩ := hr
              unfold AV.VR at hav
              obtain ⟨b, len, cap, hb, hil, ep⟩ := (hav.2 _ _ _ _ _ hob).2 rfl
              obtain ⟨hd', e3, h3⟩ := h.obj hob
              obtain ⟨vv, rfl, hz0, hz, fl, hl, h4⟩ := OR.row_val h3
              have e4 : vv = .slice (some ⟨b, 0, none⟩) len cap := by
                have e5 : (st.cx E w hs).hs = hs := rfl
                rw [e5, e3] at hb
                simpa using hb
              subst e4
              unfold AV.VR at hbv
              obtain ⟨A2, c2, ey, hy1, hy2, hy3, hy4⟩ := hbv.slice
              obtain ⟨b2, o2, fy, rfl, hB, hly, hcy⟩ := hy4.resolve_left (fun e => by rw [e] at hy0; simp at hy0)
              have hylen : fy.length = ys.length := by have := Dat.RL.len hly hy3; omega
              have hlen : fl.length = xs.length := by have := Dat.RL.len hl hz; omega
              obtain ⟨q1, q2 | ⟨b', cap', cur, q2, q3, q4, q5, q6, q7, q8⟩⟩ := h4
              · simp at q2
              · simp only [Value.slice.injEq, Option.some.injEq, Addr.mk.injEq, and_true] at q2
                obtain ⟨rfl, rfl, rfl⟩ := q2
                have hcs : xs.length ≤ cur.size := by rw [q7]; omega
                have hrun := run_copy_row (P := P) w t t o.type e b i (xs.length - i) (cap - i) ⟨b2, o2, none⟩ ys.length c2 cur E' fy gt (by rw [i1]; simp [i2, hk.2]) q4 (by rw [hylen]; exact (Nat.min_eq_left (by omega)).symm)
                  (fun j q hq => by rw [Addr.add_mid]; exact hcy j q hq) (by omega) (Dat.RL.one _ _ hly)
                have hwr : Wrote w (w.setRow b (cur.toList.take i ++ fy ++ cur.toList.drop (i + fy.length)).toArray) (Hd.row (.slice (some ⟨b, 0, none⟩) xs.length cap)).blks := wrote_setRow w b _
                have hfol : (Ob.row E' 1 γ fr xs).follows (.row (.slice (some ⟨b, 0, none⟩) xs.length cap)) (.row E' 1 γ (fr && g) (xs.take i ++ (ys ++ xs.drop (i + ys.length)))) (.row (.slice (some ⟨b, 0, none⟩) xs.length cap)) := by
                  refine ⟨fun E2 sz2 γ2 fr2 xs2 e => ?_, fun b e => by simp at e, fun b q e => by simp at e⟩
                  simp only [Ob.row.injEq] at e
                  obtain ⟨_, _, rfl, _, _⟩ := e
                  exact ⟨_, _, γ, _, _, rfl, Nat.le_refl _, fun _ => rfl⟩
                have le := Cx.Le.setO (C := st.cx E w hs) (o' := .row E' 1 γ (fr && g) (xs.take i ++ (ys ++ xs.drop (i + ys.length)))) h.wok.len hob e3 hwr (fun b hb => .inl hb) hfol
                have hxl : (xs.take i ++ (ys ++ xs.drop (i + ys.length))).length = xs.length := by
                  simp only [List.length_append, List.length_take, List.length_drop]
                  omega
                have hx : (execOp a.eval o).run P w = .ok (.value (goInt ys.length)) (w.setRow b (cur.toList.take i ++ fy ++ cur.toList.drop (i + fy.length)).toArray) := by
                  have ep' : a.eval x = .slice (some ⟨b, i, none⟩) (xs.length - i) (cap - i) := by rw [ep, Nat.mul_one]
                  simp only [execOp, ho, resolve, invoke, builtin, Sem.run_bind, Sem.run_pure, Result.andThen_ok]
                  simp only [List.map_toArray, List.map_cons, List.map_nil, ep', ey]
                  rw [hrun, Result.andThen_ok, hylen]
                have hfl2 : cur.toList.take xs.length = fl := by rw [← q8, Nat.mul_one]
                refine OpOK.set h hd (val := goInt ys.length) hx (.inl rfl) hob e3 hwr (fun b hb => .inl hb) hfol ?_ (vr_v rfl)
                refine ⟨hz0, fun q hq => ?_, fl.take i ++ (fy ++ fl.drop (i + ys.length)), ?_, ?_⟩
                · rcases List.mem_append.1 hq with hq | hq
                  · exact hz q (List.mem_of_mem_take hq)
                  · rcases List.mem_append.1 hq with hq | hq
                    · exact hy3 q hq
                    · exact hz q (List.mem_of_mem_drop hq)
                · have p1 := hl.part hz 0 i (by omega)
                  have p2 := hl.part hz (i + ys.length) (xs.length - (i + ys.length)) (by omega)
                  simp only [List.drop_zero, Nat.zero_mul, Nat.mul_one] at p1 p2
                  rw [List.take_of_length_le (by rw [List.length_drop]; omega), List.take_of_length_le (by rw [List.length_drop, hlen]; omega)] at p2
                  exact Dat.RL.append.2 ⟨_, _, rfl, Dat.RL.weak (Dat.RL.stable (le.sh fr) _ _ p1), Dat.RL.append.2 ⟨_, _, rfl, Dat.RL.weak' (Dat.RL.stable (le.sh g) _ _ hly), Dat.RL.weak (Dat.RL.stable (le.sh fr) _ _ p2)⟩⟩
                · have hnew : (fl.take i ++ (fy ++ fl.drop (i + ys.length))).length = xs.length := by
                    simp only [List.length_append, List.length_take, List.length_drop]
                    omega
                  rw [hxl]
                  refine ⟨by rw [hnew]; omega, .inr ⟨b, cap, _, by simp, Nat.zero_le _, setRow_heap w b cur _ _ _ q4, by simpa using q5, q6, ?_, ?_⟩⟩
                  · rw [← q7]
                    simp only [List.size_toArray, List.length_append, List.length_take, List.length_drop, Array.length_toList]
                    omega
                  · simp only [Nat.mul_one]
                    rw [List.append_assoc]
                    have e7 : cur.toList = fl ++ cur.toList.drop xs.length := by
                      conv => lhs; rw [← List.take_append_drop xs.length cur.toList]
                      rw [hfl2]
                    have t1 : cur.toList.take i = fl.take i := by rw [← hfl2, List.take_take, Nat.min_eq_left (by omega)]
                    have t2 : cur.toList.drop (i + fy.length) = fl.drop (i + ys.length) ++ cur.toList.drop xs.length := by
                      conv => lhs; rw [e7]
                      rw [List.drop_append_of_le_length (by omega), hylen]
                    rw [t1, t2, ← List.append_assoc, ← List.append_assoc, List.append_assoc (fl.take i)]
                    rw [List.take_left' hnew]
            · unfold Q.Runs at hr; exact hr.elim
          · unfold Q.Runs at hr; exact hr.elim
        · unfold Q.Runs at hr; exact hr.elim
      · unfold Q.Runs at hr; exact hr.elim
    · unfold Q.Runs at hr; exact hr.elim
  · unfold Q.Runs at hr; exact hr.elim
end
end Go.AM

/- AM, part 20: append of noughts; a slice against nil; an own row's name lifted. (Before part 13.) -/
namespace Go.AM
open Go Go.RowKit
section
variable {P : Program} {S : SpecEqT} {E : En} {st : St} {a : Act} {w : World} {hs : List Hd} {o : Oper} {v : AV} {u : List (Nat × Ob)} {n : List Ob} {T : Nat → TI}

theorem zeroCells_one (z : Value) (m : Nat) : (Builtin.zeroCells #[z] m).toList = List.replicate m z := by
  simp only [Builtin.zeroCells, Array.toList_map, Array.toList_range]
  apply List.ext_getElem
  · simp
  · intro j h1 h2
    simp [Nat.mod_one]

theorem run_append_zeros (hT : TabOK P T) {t tn e : Nat} (ty : TypeId) (kn : IntKind) (e1 : (T t).desc = .slice e) (en : (T tn).desc = .int kn) (hk : (T e).desc.known = true) {z : Value} (hz : (T e).zero = [z]) (hs1 : (T e).size = 1)
    {vv : Value} {m : Nat} {fl : List Value} (ho : w.ownsRow 0 e 1 vv m fl) {kq : IntKind} (k : Nat) (h63 : m + k ≤ maxLen) (hbytes : (m + k) * (T e).bytes ≤ 140737488355328) :
    ∃ v' w', (Builtin.append_ #[t, tn] ty #[vv, .int kq k]).run P w = .ok v' w' ∧ w'.ownsRow 0 e 1 v' (m + k) (fl ++ List.replicate k z) ∧ w.grownBy w' vv.ownBlock ∧
      (v'.ownBlock = vv.ownBlock ∨ v'.ownBlock = some w.heap.size) := by
  obtain ⟨g1, _⟩ := hT t (by rw [e1]; simp)
  rw [e1] at g1
  obtain ⟨gn, _⟩ := hT tn (by rw [en]; simp)
  rw [en] at gn
  obtain ⟨_, ⟨i, i1, i2, i3, zz, i4, i5⟩, i6⟩ := hT e (KD.known_ne hk)
  have hu1 : z.oneCell' = true := i6 z (by rw [hz]; simp)
  have hzz : zz.cells = #[z] := by
    rw [hz] at i5
    have := congrArg List.toArray i5
    simpa using this
  have hsz : i.size = 1 := i2.trans hs1
  have hby : i.bytes = (T e).bytes := i3
  have hsmall : m + k ≤ 9223372036854775807 := by simp only [maxLen] at h63; omega
  have hlen : (fl ++ List.replicate k z).length = (m + k) * 1 := by rw [List.length_append, ho.1, List.length_replicate]; omega
  have hwrap : IntKind.i64.wrap (k : Int) = k := by rw [IntKind.wrap_i64]; omega
  have hkb : k * i.bytes ≤ 140737488355328 := by rw [hby]; exact Nat.le_trans (Nat.mul_le_mul_right _ (by omega)) hbytes
  have grown : ∀ (old : Nat), old < m + k → ∀ (row : Option Nat),
      (w.drew.alloc (.cells (fl.toArray ++ (List.replicate k z).toArray ++ Builtin.zeroCells zz.cells (grownCap w (m + k) old e - (m + k))) e)).ownsRow 0 e 1
        (.slice (some ⟨w.heap.size, 0, none⟩) (m + k) (grownCap w (m + k) old e)) (m + k) (fl ++ List.replicate k z) ∧
      w.grownBy (w.drew.alloc (.cells (fl.toArray ++ (List.replicate k z).toArray ++ Builtin.zeroCells zz.cells (grownCap w (m + k) old e - (m + k))) e)) row := by
    intro old ho' row
    have hge := grownCap_ge w (m + k) old e
    have hcm : grownCap w (m + k) old e ≤ maxLen := grownCap_le_maxLen w (m + k) old e h63
    refine ⟨⟨hlen, .inr ⟨w.heap.size, _, _, rfl, Nat.zero_le _, heap_alloc_new w.drew _, hge, hcm, ?_, ?_⟩⟩, ⟨rfl, rfl, rfl, by simp, fun q hk _ => Below.heap_alloc w.drew _ q hk⟩⟩
    · have hone : (#[z] : Array Value).size = 1 := rfl
      simp only [Array.size_append, List.size_toArray, size_zeroCells, hzz, ho.1, List.length_replicate, hone]
      omega
    · simp only [Array.toList_append, List.append_assoc]
      rw [← List.append_assoc, ← hlen]
      exact List.take_left
  have hzk : Builtin.zeroCells zz.cells k = (List.replicate k z).toArray := by
    have := congrArg List.toArray (zeroCells_one z k)
    rw [Array.toArray_toList] at this
    rw [hzz]; exact this
  rcases ho.2 with ⟨rfl, rfl⟩ | ⟨g, cap, cur, rfl, hbg, hg, hnc, hcm, hcs, htake⟩
  · have hx : fl = [] := List.eq_nil_of_length_eq_zero (by simpa using ho.1)
    subst hx
    by_cases hm : k = 0
    · subst hm
      refine ⟨.slice none 0 0, w, ?_, by simpa using World.ownsRow_nil w 0 e 1, ⟨rfl, rfl, rfl, Nat.le_refl _, fun _ _ _ => rfl⟩, .inl rfl⟩
      simp [Builtin.append_, run_underlying g1, run_underlying gn, sizeOf, typeInfo, i1, asInt, asIntOf, hwrap, IntKind.wrap_i64]
    · have hr := Lib.run_append_nil_zeros (P := P) w t tn ty e i zz kq kn g1 gn i1 i4 k (by omega) (by omega) (by omega) (by omega)
      have hgr := grown 0 (by omega) (Value.ownBlock (.slice none 0 0))
      rw [hzk] at hr
      simp only [Nat.zero_add, List.nil_append, Array.empty_append] at hgr ⊢
      exact ⟨_, _, hr, hgr.1, hgr.2, .inr rfl⟩
  · by_cases hk0 : k = 0
    · subst hk0
      have hroom : m + 0 ≤ cap := by omega
      refine ⟨.slice (some ⟨g, 0, none⟩) (m + 0) cap, w, ?_, by simpa using ho, ⟨rfl, rfl, rfl, Nat.le_refl _, fun _ _ _ => rfl⟩, .inl rfl⟩
      have hw0 : IntKind.i64.wrap 0 = 0 := by rw [IntKind.wrap_i64]; omega
      simp [Builtin.append_, run_underlying g1, run_underlying gn, sizeOf, typeInfo, i1, asInt, asIntOf, hw0, hsz, storeCells, hnc]
    by_cases hroom : m + k ≤ cap
    · have hst := run_storeCells_at P g m e (List.replicate k z) 0 cur w hg (by simp; omega) (fun u hu => by rw [(List.mem_replicate.1 hu).2]; exact hu1)
      simp only [Nat.add_zero, List.length_replicate] at hst
      refine ⟨.slice (some ⟨g, 0, none⟩) (m + k) cap, w.setRow g (cur.toList.take m ++ List.replicate k z ++ cur.toList.drop (m + k)).toArray, ?_, ⟨hlen, .inr ⟨g, cap, _, rfl, hbg, setRow_heap w g cur _ e _ hg, hroom, hcm, ?_, ?_⟩⟩,
        ⟨rfl, rfl, rfl, by simp, fun q _ hk => setRow_other w g q _ (fun e => hk (by simp [Value.ownBlock, e]))⟩, .inl rfl⟩
      · have hneg : ¬ ((k : Int) < 0) := by omega
        have h48' : ¬ (281474976710656 < (k : Int) * (i.bytes : Int)) := by
          have : ((k * i.bytes : Nat) : Int) ≤ 140737488355328 := by omega
          rw [Int.natCast_mul] at this
          omega
        simp [Builtin.append_, run_underlying g1, run_underlying gn, sizeOf, typeInfo, i1, i4, asInt, asIntOf, hwrap, h48', hneg, hroom, hsz, hk0, zeroValue, hzk, Addr.add_lit, hst]
      · simp only [List.size_toArray, List.length_append, List.length_take, List.length_drop, Array.length_toList, List.length_replicate]
        omega
      · rw [Nat.mul_one] at htake
        rw [htake, ← hlen]
        exact List.take_left
    · have hfc : (Builtin.firstCells i.size m (.slice (some ⟨g, 0, none⟩) m cap)).run P w.drew = .ok fl.toArray w.drew :=
        run_firstCells_some (P := P) w.drew i.size m ⟨g, 0, none⟩ m cap fl (by rw [hsz]; exact ho.1) (by simpa using ho.cells (g := g) rfl)
      have hr := Lib.run_append_grow_zeros (P := P) w t tn ty e i zz kq kn g1 gn i1 i4 (some ⟨g, 0, none⟩) m cap fl hfc k (by omega) (by omega) (by omega) (by omega) (by omega) (growslice_fits (by omega) (by rw [hby]; exact hbytes))
      rw [hzk] at hr
      have hgr := grown cap (by omega) (Value.ownBlock (.slice (some ⟨g, 0, none⟩) m cap))
      exact ⟨_, _, hr, hgr.1, hgr.2, .inr rfl⟩

/-- append(x, make([]T, n)...) -/
def opAppendZ (T : Nat → TI) (t tn : Nat) (x y : Operand) : Q := match (T t).desc, (T tn).desc with
  | .slice e, .int _ => (match (T e).zero with
    | [z] => if (T e).desc.known = true ∧ (T e).size = 1 then Q.opnd x fun a => Q.opnd y fun b => (match a, b with
      | .own m γ, .d _ (.v (.int _ k)) => .obj m fun ob => (match ob with
        | .row E' sz γ' fr xs => if γ = γ' ∧ E' = e ∧ sz = 1 then .side (0 ≤ k ∧ ((xs.length : Int) + k) * ((T e).bytes : Int) ≤ 140737488355328 ∧ (xs.length : Int) + k ≤ 9223372036854775807)
            (.fin (.own m (γ + 1)) [(m, .row e 1 (γ + 1) fr (xs ++ List.replicate k.toNat (.v z)))] []) else .bad
        | _ => .bad)
      | _, _ => .bad) else .bad
    | _ => .bad)
  | _, _ => .bad

theorem opAppendZ_sound (hT : TabOK P T) (h : Rel E st a w hs) (hd : ∀ t, o.dst = some t → t < E.N) {t tn : Nat} {x y : Operand} (ho : o.op = .call { callee := .builtin .append, args := #[x, y], argTypes := #[t, tn] })
    (hr : (opAppendZ T t tn x y).Runs S st v u n) : OpOK P E o st a w hs v u n := by
  unfold opAppendZ at hr
  split at hr
  · rename_i e kn e1 en
    split at hr
    · rename_i z ez
      split at hr
      · rename_i hc
        obtain ⟨hk, hs1⟩ := hc
        replace hr := opnd_sound h hr; obtain ⟨av, hav, hr⟩ := hr
        replace hr := opnd_sound h hr; obtain ⟨bv, hbv, hr⟩ := hr
        split at hr
        · rename_i m γ fr0 kq k
          unfold Q.Runs at hr
          obtain ⟨ob, hob, hr⟩ := hr
          dsimp only at hr
          split at hr
          · split at hr
            · rename_i E' sz γ' fr xs ec
              obtain ⟨rfl, rfl, rfl⟩ := ec
              unfold Q.Runs at hr
              obtain ⟨⟨hk0, hb1, hb2⟩, hr⟩ := hr
              unfold Q.Runs at hr
              obtain ⟨rfl, rfl, rfl⟩ := hr
              unfold AV.VR at hav
              have h2 := (hav.2 _ _ _ _ _ hob).2 rfl
              obtain ⟨hd', e3, h3⟩ := h.obj hob
              obtain ⟨vv, rfl, _, hz, fl, hl, h4⟩ := OR.row_val h3
              have e4 : vv = a.eval x := by
                have : (st.cx E w hs).hs = hs := rfl
                rw [this, e3] at h2
                simpa using h2
              have ey := vr_int hbv
              obtain ⟨kk, rfl⟩ : ∃ kk : Nat, k = kk := ⟨k.toNat, by omega⟩
              have hbb : (xs.length + kk) * (T E').bytes ≤ 140737488355328 := by
                have : (((xs.length + kk) * (T E').bytes : Nat) : Int) ≤ 140737488355328 := by rw [Int.natCast_mul, Int.natCast_add]; exact hb1
                omega
              have u1 : z.oneCell' = true := by
                obtain ⟨_, _, i6⟩ := hT E' (KD.known_ne hk)
                exact i6 z (by rw [ez]; simp)
              obtain ⟨v', w', hrun, hown, hg, hat⟩ := run_append_zeros (P := P) hT o.type kn e1 en hk ez hs1 h4 (kq := kq) kk (by simp only [maxLen]; omega) hbb
              have hwr : Wrote w w' (Hd.row vv).blks := ⟨hg.os, hg.tape, hg.output, hg.size, fun b hb hnb => hg.block b hb (fun e => hnb (by simp [Hd.blks, ← e]))⟩
              have hnew : ∀ b ∈ (Hd.row v').blks, b ∈ (Hd.row vv).blks ∨ w.heap.size ≤ b := by
                intro b hb
                simp only [Hd.blks, Option.mem_toList] at hb ⊢
                rcases hat with hat | hat
                · rw [hat] at hb; exact .inl hb
                · rw [hat] at hb; right; simp at hb; rw [← hb]; exact Nat.le_refl _
              simp only [Int.toNat_natCast]
              have hfol : (Ob.row E' 1 γ fr xs).follows (.row vv) (.row E' 1 (γ + 1) fr (xs ++ List.replicate kk (.v z))) (.row v') := by
                refine ⟨fun E2 sz2 γ2 fr2 xs2 e => ?_, fun b e => by simp at e, fun b q e => by simp at e⟩
                simp only [Ob.row.injEq] at e
                obtain ⟨_, _, rfl, _, _⟩ := e
                exact ⟨_, _, γ, _, _, rfl, Nat.le_succ _, fun e => by omega⟩
              have le := Cx.Le.setO (C := st.cx E w hs) (o' := .row E' 1 (γ + 1) fr (xs ++ List.replicate kk (.v z))) h.wok.len hob e3 hwr hnew hfol
              refine OpOK.set h hd (nx := .value v') (val := v') ?_ (.inl rfl) hob e3 hwr hnew hfol ?_ ?_
              · have hrun' : (Builtin.append_ #[t, tn] o.type #[vv, .int kq kk]).run P w = .ok v' w' := hrun
                simp only [execOp, ho, resolve, invoke, builtin, Sem.run_bind, Sem.run_pure, Result.andThen_ok, List.map_toArray, List.map_cons, List.map_nil, ey, ← e4, hrun']
              · refine ⟨by omega, fun q hq => ?_, fl ++ List.replicate kk z, ?_, by rw [List.length_append, List.length_replicate]; exact hown⟩
                · rcases List.mem_append.1 hq with hq | hq
                  · exact hz q hq
                  · rw [(List.mem_replicate.1 hq).2]; rfl
                · exact Dat.RL.append.2 ⟨fl, _, rfl, Dat.RL.stable (le.sh fr) _ _ hl, RL_replicate u1 kk⟩
              · unfold AV.VR
                have hlt : m < hs.length := (List.getElem?_eq_some_iff.1 e3).1
                have hlt' : m < st.obs.length := (List.getElem?_eq_some_iff.1 hob).1
                refine ⟨by simpa [Cx.setO, St.cx] using hlt', fun E2 sz2 γ0 fr2 xs2 he => ?_⟩
                have : γ0 = γ + 1 := by
                  simp [Cx.setO, St.cx, List.getElem?_set, hlt'] at he
                  exact he.2.2.1.symm
                subst this
                exact ⟨Nat.le_refl _, fun _ => by simp [Cx.setO, St.cx, List.getElem?_set, hlt]⟩
            · unfold Q.Runs at hr; exact hr.elim
          · unfold Q.Runs at hr; exact hr.elim
        · unfold Q.Runs at hr; exact hr.elim
      · unfold Q.Runs at hr; exact hr.elim
    · unfold Q.Runs at hr; exact hr.elim
  · unfold Q.Runs at hr; exact hr.elim

end
end Go.AM
