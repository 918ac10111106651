/- AM, part 2: abstract values, named objects, how they stand in a world, and what leaves them as they are. -/
import Derived.Test.YtmfobkiljlepjaaA1
set_option linter.unusedVariables false
set_option linter.unusedSimpArgs false
namespace Go.AM
open Go Go.RowKit

inductive AV where
  | junk
  | d (fr : Bool) (x : Dat)
  | own (n γ : Nat)
  | ptr (n off : Nat)
  | elt (n γ sz i off : Nat)
  | sel (fr : Bool) (cs : List Dat)
  | agg (fs : List AV)
  | tup (vs : List AV)
  | fn (f : FuncId) (caps : List AV)
  | when (c : Bool) (a : AV)
  deriving Inhabited

inductive Ob where
  | row (E sz γ : Nat) (fr : Bool) (xs : List Dat)
  | cells (E : Nat) (cs : List AV)
  | buf (E Er szr : Nat) (xs : List Dat)

inductive Hd where
  | row (v : Value)
  | ptr (b : Nat)
  | buf (b : Nat) (v : Value)

def Hd.blks : Hd → List Nat
  | .row v => v.ownBlock.toList
  | .ptr b => [b]
  | .buf b v => b :: v.ownBlock.toList

structure Cx where
  w : World
  b0 : Nat
  old : Nat → Prop
  obs : List (Option Ob)
  hs : List Hd

def Cx.alive (C : Cx) (n : Nat) : Prop := ∃ o, C.obs[n]? = some (some o)

/-- A block that may be shared: no object's. -/
def Cx.Sh (C : Cx) (fr : Bool) (b : Nat) : Prop :=
  b < C.w.heap.size ∧ (∀ n h, C.alive n → C.hs[n]? = some h → b ∉ h.blks) ∧ (C.b0 ≤ b ∨ (fr = false ∧ C.old b))

theorem Cx.Sh.weak {C : Cx} {fr : Bool} {b : Nat} (h : C.Sh true b) : C.Sh fr b := ⟨h.1, h.2.1, .inl (h.2.2.resolve_right (fun x => by cases x.1))⟩
theorem Cx.Sh.any {C : Cx} {fr : Bool} {b : Nat} (h : C.Sh fr b) : C.Sh false b := ⟨h.1, h.2.1, h.2.2.imp id fun x => ⟨rfl, x.2⟩⟩

/-- A piece of data as a whole value. -/
def DV (w : World) (B : Nat → Prop) : Dat → Value → Prop
  | .agg fs, v => ∃ cs, v = .agg cs ∧ Dat.RF w B fs cs.toList
  | .v x, v => Dat.R w B (.v x) [v]
  | .sl sz xs, v => Dat.R w B (.sl sz xs) [v]

theorem DV.stable {w w' : World} {B B' : Nat → Prop} (hb : ∀ b, B b → B' b ∧ w'.heap[b]? = w.heap[b]?) {d : Dat} {v : Value} (h : DV w B d v) : DV w' B' d v := by
  cases d with
  | agg fs => obtain ⟨cs, h1, h2⟩ := h; exact ⟨cs, h1, Dat.RF.stable hb _ _ h2⟩
  | v x => exact Dat.R.stable hb _ _ h
  | sl sz xs => exact Dat.R.stable hb _ _ h

theorem DV.cells {w : World} {B : Nat → Prop} {d : Dat} {v : Value} (h : DV w B d v) : Dat.R w B d v.cells.toList := by
  cases d with
  | agg fs => obtain ⟨cs, rfl, h2⟩ := h; unfold Dat.R; exact h2
  | v x =>
    have h' : Dat.R w B (.v x) [v] := h
    have h2 := h'
    unfold Dat.R at h2
    obtain ⟨h3, h4⟩ := h2
    have e : v = x := by simpa using h3
    subst e
    have : v.cells = #[v] := by cases v <;> first | rfl | simp [Value.oneCell'] at h4
    rw [this]; exact h'
  | sl sz xs =>
    have h' : Dat.R w B (.sl sz xs) [v] := h
    have h2 := h'
    unfold Dat.R at h2
    obtain ⟨A, c, h3, _⟩ := h2
    have e : v = .slice A xs.length c := by simpa using h3
    subst e
    exact h'

theorem DV.of_one {w : World} {B : Nat → Prop} {d : Dat} {v : Value} (h : Dat.R w B d [v]) (hd : ∀ fs, d ≠ .agg fs) : DV w B d v := by
  cases d with
  | agg fs => exact absurd rfl (hd fs)
  | v x => exact h
  | sl sz xs => exact h

theorem DV.v_iff {w : World} {B : Nat → Prop} {x v : Value} : DV w B (.v x) v ↔ v = x ∧ x.oneCell' = true := by
  show Dat.R w B (.v x) [v] ↔ _
  unfold Dat.R
  simp

mutual
def AV.VR (C : Cx) : AV → Value → Prop
  | .junk, _ => True
  | .d fr x, v => DV C.w (C.Sh fr) x v
  | .own n γ, v => n < C.obs.length ∧ ∀ E sz γ0 fr xs, C.obs[n]? = some (some (.row E sz γ0 fr xs)) → γ ≤ γ0 ∧ (γ = γ0 → C.hs[n]? = some (.row v))
  | .ptr n off, v => n < C.obs.length ∧ ∀ o, C.obs[n]? = some (some o) → ∃ b, (C.hs[n]? = some (.ptr b) ∨ ∃ u, C.hs[n]? = some (.buf b u)) ∧ v = .pointer (some ⟨b, off, none⟩)
  | .elt n γ sz i off, v => n < C.obs.length ∧ ∀ E sz' γ0 fr xs, C.obs[n]? = some (some (.row E sz' γ0 fr xs)) → γ ≤ γ0 ∧ (γ = γ0 → ∃ b len cap, C.hs[n]? = some (.row (.slice (some ⟨b, 0, none⟩) len cap)) ∧ v = .pointer (some ⟨b, i * sz + off, none⟩))
  | .sel fr cs, v => ∃ b o vs, v = .pointer (some ⟨b, o, none⟩) ∧ C.Sh fr b ∧ Dat.RF C.w (C.Sh fr) cs vs ∧ ∀ j u, vs[j]? = some u → C.w.cell? ⟨b, o + j, none⟩ = some u
  | .agg fs, v => ∃ cs, v = .agg cs ∧ AV.VL C fs cs.toList ∧ ∀ u ∈ cs.toList, u.oneCell' = true
  | .tup vs, v => ∃ cs, v = .tuple cs ∧ AV.VL C vs cs.toList
  | .fn f caps, v => ∃ cs, v = .func (.func f) #[] cs ∧ AV.VL C caps cs.toList
  | .when c a, v => (c = true → AV.VR C a v) ∧ (c = false → v = undef)
def AV.VL (C : Cx) : List AV → List Value → Prop
  | [], vs => vs = []
  | a :: as, vs => ∃ v rest, vs = v :: rest ∧ AV.VR C a v ∧ AV.VL C as rest
end

/-- C' knows all that C knew, but for what has been written or has gone. -/
structure Cx.Le (C C' : Cx) : Prop where
  b0 : C'.b0 = C.b0
  old : C'.old = C.old
  len : C.obs.length ≤ C'.obs.length
  sh : ∀ fr b, C.Sh fr b → C'.Sh fr b ∧ C'.w.heap[b]? = C.w.heap[b]?
  row : ∀ n E sz γ fr xs, n < C.obs.length → C'.obs[n]? = some (some (.row E sz γ fr xs)) →
    ∃ E sz γ0 fr xs, C.obs[n]? = some (some (.row E sz γ0 fr xs)) ∧ γ0 ≤ γ ∧ (γ = γ0 → C'.hs[n]? = C.hs[n]?)
  ptr : ∀ n o, n < C.obs.length → C'.obs[n]? = some (some o) → (∃ o, C.obs[n]? = some (some o)) ∧
    (∀ b, (C.hs[n]? = some (.ptr b) → C'.hs[n]? = some (.ptr b)) ∧ (∀ u, C.hs[n]? = some (.buf b u) → ∃ u', C'.hs[n]? = some (.buf b u')))

mutual
theorem AV.VR.le {C C' : Cx} (h : C.Le C') : ∀ (a : AV) (v : Value), a.VR C v → a.VR C' v
  | .junk, _, _ => by unfold AV.VR; trivial
  | .d fr x, v, hv => by unfold AV.VR at hv ⊢; exact hv.stable (h.sh fr)
  | .own n γ, v, hv => by
    unfold AV.VR at hv ⊢
    refine ⟨Nat.lt_of_lt_of_le hv.1 h.len, fun E sz γ1 fr xs e => ?_⟩
    obtain ⟨E2, sz2, γ0, fr2, xs2, e2, e3, e4⟩ := h.row n E sz γ1 fr xs hv.1 e
    obtain ⟨g1, g2⟩ := hv.2 _ _ _ _ _ e2
    refine ⟨Nat.le_trans g1 e3, fun e5 => ?_⟩
    rw [e4 (Nat.le_antisymm (e5 ▸ g1) e3)]
    exact g2 (Nat.le_antisymm g1 (e5 ▸ e3))
  | .ptr n off, v, hv => by
    unfold AV.VR at hv ⊢
    refine ⟨Nat.lt_of_lt_of_le hv.1 h.len, fun o e => ?_⟩
    obtain ⟨⟨o2, e2⟩, e3⟩ := h.ptr n o hv.1 e
    obtain ⟨b, h1, h2⟩ := hv.2 o2 e2
    refine ⟨b, ?_, h2⟩
    rcases h1 with h1 | ⟨u, h1⟩
    · exact .inl ((e3 b).1 h1)
    · exact .inr ((e3 b).2 u h1)
  | .elt n γ sz0 i off, v, hv => by
    unfold AV.VR at hv ⊢
    refine ⟨Nat.lt_of_lt_of_le hv.1 h.len, fun E sz γ1 fr xs e => ?_⟩
    obtain ⟨E2, sz2, γ0, fr2, xs2, e2, e3, e4⟩ := h.row n E sz γ1 fr xs hv.1 e
    obtain ⟨g1, g2⟩ := hv.2 _ _ _ _ _ e2
    refine ⟨Nat.le_trans g1 e3, fun e5 => ?_⟩
    rw [e4 (Nat.le_antisymm (e5 ▸ g1) e3)]
    exact g2 (Nat.le_antisymm g1 (e5 ▸ e3))
  | .sel fr cs, v, hv => by
    unfold AV.VR at hv ⊢
    obtain ⟨b, o, vs, h1, h2, h3, h4⟩ := hv
    refine ⟨b, o, vs, h1, (h.sh fr b h2).1, Dat.RF.stable (h.sh fr) _ _ h3, fun j u hu => ?_⟩
    rw [World.cell?_of_block (w := C.w) (h.sh fr b h2).2]
    exact h4 j u hu
  | .agg fs, v, hv => by
    unfold AV.VR at hv ⊢
    obtain ⟨cs, h1, h2, h3⟩ := hv
    exact ⟨cs, h1, AV.VL.le h _ _ h2, h3⟩
  | .tup vs, v, hv => by
    unfold AV.VR at hv ⊢
    obtain ⟨cs, h1, h2⟩ := hv
    exact ⟨cs, h1, AV.VL.le h _ _ h2⟩
  | .fn f caps, v, hv => by
    unfold AV.VR at hv ⊢
    obtain ⟨cs, h1, h2⟩ := hv
    exact ⟨cs, h1, AV.VL.le h _ _ h2⟩
  | .when c a, v, hv => by unfold AV.VR at hv ⊢; exact ⟨fun hc => AV.VR.le h a v (hv.1 hc), hv.2⟩
theorem AV.VL.le {C C' : Cx} (h : C.Le C') : ∀ (a : List AV) (v : List Value), AV.VL C a v → AV.VL C' a v
  | [], v, hv => by unfold AV.VL at hv ⊢; exact hv
  | a :: as, v, hv => by
    unfold AV.VL at hv ⊢
    obtain ⟨v1, rest, h1, h2, h3⟩ := hv
    exact ⟨v1, rest, h1, AV.VR.le h a v1 h2, AV.VL.le h as rest h3⟩
end

/-- An object in its world. -/
def Ob.OR (C : Cx) : Ob → Hd → Prop
  | .row E sz _ fr xs, .row v => 0 < sz ∧ (∀ x ∈ xs, x.wd = sz) ∧ ∃ fl, Dat.RL C.w (C.Sh fr) xs fl ∧ C.w.ownsRow 0 E sz v xs.length fl
  | .cells E cs, .ptr b => ∃ vs, C.w.heap[b]? = some (.cells vs.toArray E (0, 0)) ∧ AV.VL C cs vs ∧ ∀ u ∈ vs, u.oneCell' = true
  | .buf E Er szr xs, .buf b v => C.w.heap[b]? = some (.cells #[v] E (0, 0)) ∧ szr = 1 ∧ (∀ x ∈ xs, ∃ c, x = .v c) ∧ ∃ fl, Dat.RL C.w (C.Sh true) xs fl ∧ C.w.ownsRow 0 Er szr v xs.length fl
  | _, _ => False

theorem ownsRow_stable {w w' : World} {base : Nat} {e : TypeId} {size : Nat} {v : Value} {n : Nat} {xs : List Value} (h : w.ownsRow base e size v n xs)
    (hb : ∀ b, v.ownBlock = some b → w'.heap[b]? = w.heap[b]?) : w'.ownsRow base e size v n xs := by
  refine ⟨h.1, ?_⟩
  rcases h.2 with h2 | ⟨g, cap, cur, rfl, h3, h4, h5⟩
  · exact .inl h2
  · exact .inr ⟨g, cap, cur, rfl, h3, by rw [hb g rfl]; exact h4, h5⟩

theorem Ob.OR.le {C C' : Cx} (h : C.Le C') {o : Ob} {hd : Hd} (ho : o.OR C hd) (hb : ∀ b ∈ hd.blks, C'.w.heap[b]? = C.w.heap[b]?) : o.OR C' hd := by
  cases o with
  | row E sz γ fr xs =>
    cases hd with
    | row v =>
      obtain ⟨h0, h1, fl, h2, h3⟩ := ho
      exact ⟨h0, h1, fl, Dat.RL.stable (h.sh fr) _ _ h2, ownsRow_stable h3 fun b e => hb b (by simp [Hd.blks, e])⟩
    | _ => exact ho.elim
  | cells E cs =>
    cases hd with
    | ptr b =>
      obtain ⟨vs, h1, h2, h3⟩ := ho
      exact ⟨vs, by rw [hb b (by simp [Hd.blks])]; exact h1, AV.VL.le h _ _ h2, h3⟩
    | _ => exact ho.elim
  | buf E Er szr xs =>
    cases hd with
    | buf b v =>
      obtain ⟨h1, h0, h2, fl, h3, h4⟩ := ho
      exact ⟨by rw [hb b (by simp [Hd.blks])]; exact h1, h0, h2, fl, Dat.RL.stable (h.sh true) _ _ h3, ownsRow_stable h4 fun b e => hb b (by simp [Hd.blks, e])⟩
    | _ => exact ho.elim

theorem Ob.OR.lt {C : Cx} {o : Ob} {hd : Hd} (ho : o.OR C hd) : ∀ b ∈ hd.blks, b < C.w.heap.size := by
  intro b hb
  have row : ∀ {E sz : Nat} {v : Value} {n : Nat} {fl : List Value}, C.w.ownsRow 0 E sz v n fl → v.ownBlock = some b → b < C.w.heap.size := fun h e => (h.lt b e).2
  cases o with
  | row E sz γ fr xs =>
    cases hd with
    | row v => obtain ⟨h0, h1, fl, h2, h3⟩ := ho; exact row h3 (by simpa [Hd.blks] using hb)
    | _ => exact ho.elim
  | cells E cs =>
    cases hd with
    | ptr b' =>
      obtain ⟨vs, h1, _⟩ := ho
      simp [Hd.blks] at hb
      subst hb
      exact (Array.getElem?_eq_some_iff.1 h1).1
    | _ => exact ho.elim
  | buf E Er szr xs =>
    cases hd with
    | buf b' v =>
      obtain ⟨h1, h0, h2, fl, h3, h4⟩ := ho
      simp only [Hd.blks, List.mem_cons, Option.mem_toList] at hb
      rcases hb with rfl | hb
      · exact (Array.getElem?_eq_some_iff.1 h1).1
      · exact row h4 hb
    | _ => exact ho.elim

/-- The world of a call that began at w0 with the parameters' objects ps. -/
structure WOK (w0 : World) (ps : List Hd) (C : Cx) : Prop where
  b0 : C.b0 = w0.heap.size
  os : C.w.os = w0.os
  tape : C.w.tape = w0.tape
  output : C.w.output = w0.output
  size : w0.heap.size ≤ C.w.heap.size
  len : C.obs.length = C.hs.length
  frame : ∀ b, b < w0.heap.size → (∀ h ∈ ps, b ∉ h.blks) → C.w.heap[b]? = w0.heap[b]?
  objs : ∀ (n : Nat) (o : Ob) (h : Hd), C.obs[n]? = some (some o) → C.hs[n]? = some h → o.OR C h
  dist : ∀ (n m : Nat) (h k : Hd), n ≠ m → C.alive n → C.alive m → C.hs[n]? = some h → C.hs[m]? = some k → ∀ b ∈ h.blks, b ∉ k.blks
  new : ∀ (n : Nat) (h : Hd), C.alive n → C.hs[n]? = some h → ∀ b ∈ h.blks, w0.heap.size ≤ b ∨ (n < ps.length ∧ ∃ p ∈ ps, b ∈ p.blks)
  plen : ps.length ≤ C.hs.length
  parP : ∀ (i : Nat) (b : Nat), ps[i]? = some (.ptr b) → C.hs[i]? = some (.ptr b)
  parB : ∀ (i : Nat) (b : Nat) (u : Value), ps[i]? = some (.buf b u) → ∃ u', C.hs[i]? = some (.buf b u')
  parR : ∀ (i : Nat) (v : Value) (E sz : Nat) (fr : Bool) (xs : List Dat), ps[i]? = some (.row v) → C.obs[i]? = some (some (.row E sz 0 fr xs)) → C.hs[i]? = some (.row v)

theorem WOK.hd {w0 : World} {ps : List Hd} {C : Cx} (h : WOK w0 ps C) {n : Nat} (hn : n < C.obs.length) : ∃ k, C.hs[n]? = some k :=
  ⟨C.hs[n]'(by rw [← h.len]; exact hn), by simp⟩

theorem alive_lt {C : Cx} {n : Nat} (h : C.alive n) : n < C.obs.length := by
  obtain ⟨o, h⟩ := h
  exact (List.getElem?_eq_some_iff.1 h).1

/-- Mere growth. -/
theorem Cx.Le.grow {C : Cx} {w' : World} (hb : Below C.w.heap.size C.w w') : C.Le { C with w := w' } where
  b0 := rfl
  old := rfl
  len := Nat.le_refl _
  sh := fun fr b hs => ⟨⟨Nat.lt_of_lt_of_le hs.1 hb.size, hs.2.1, hs.2.2⟩, hb.block b hs.1⟩
  row := fun n E sz γ fr xs _ h => ⟨E, sz, γ, fr, xs, h, Nat.le_refl _, fun _ => rfl⟩
  ptr := fun n o _ h => ⟨⟨o, h⟩, fun b => ⟨fun e => e, fun u e => ⟨u, e⟩⟩⟩

theorem WOK.grow {w0 : World} {ps : List Hd} {C : Cx} (h : WOK w0 ps C) {w' : World} (hb : Below C.w.heap.size C.w w') : WOK w0 ps { C with w := w' } where
  b0 := h.b0
  os := hb.os.trans h.os
  tape := hb.tape.trans h.tape
  output := hb.output.trans h.output
  size := Nat.le_trans h.size hb.size
  len := h.len
  frame := fun b hlt hp => (hb.block b (Nat.lt_of_lt_of_le hlt h.size)).trans (h.frame b hlt hp)
  objs := fun n o k ho hk => (h.objs n o k ho hk).le (Cx.Le.grow hb) fun b hbk => hb.block b ((h.objs n o k ho hk).lt b hbk)
  dist := h.dist
  new := h.new
  plen := h.plen
  parP := h.parP
  parB := h.parB
  parR := h.parR

/-- A new object. -/
def Cx.add (C : Cx) (w' : World) (o : Ob) (h : Hd) : Cx := { C with w := w', obs := C.obs ++ [some o], hs := C.hs ++ [h] }

theorem Cx.Le.add {C : Cx} {w' : World} {o : Ob} {h : Hd} (hl : C.obs.length = C.hs.length) (hb : Below C.w.heap.size C.w w') (hn : ∀ b ∈ h.blks, C.w.heap.size ≤ b) : C.Le (C.add w' o h) where
  b0 := rfl
  old := rfl
  len := by simp [Cx.add]
  sh := fun fr b hs => ⟨⟨Nat.lt_of_lt_of_le hs.1 hb.size, fun n k ha hk hbk => by
      by_cases e : n < C.hs.length
      · have hk' : C.hs[n]? = some k := by simpa [Cx.add, List.getElem?_append_left e] using hk
        obtain ⟨o', ho'⟩ := ha
        have ho2 : C.obs[n]? = some (some o') := by simpa [Cx.add, List.getElem?_append_left (hl ▸ e)] using ho'
        exact hs.2.1 n k ⟨o', ho2⟩ hk' hbk
      · have hk' : k = h := by
          simp only [Cx.add] at hk
          rw [List.getElem?_append_right (by omega)] at hk
          have : n - C.hs.length = 0 := by
            have := (List.getElem?_eq_some_iff.1 hk).1
            simp at this; omega
          rw [this] at hk; simpa using hk.symm
        subst hk'
        have := hn b hbk
        have := hs.1
        omega, hs.2.2⟩, hb.block b hs.1⟩
  row := fun n E sz γ fr xs hlt e => by
    have e' : C.obs[n]? = some (some (.row E sz γ fr xs)) := by simpa [Cx.add, List.getElem?_append_left hlt] using e
    exact ⟨E, sz, γ, fr, xs, e', Nat.le_refl _, fun _ => by simp [Cx.add, List.getElem?_append_left (hl ▸ hlt)]⟩
  ptr := fun n o' hlt e => by
    have e' : C.obs[n]? = some (some o') := by simpa [Cx.add, List.getElem?_append_left hlt] using e
    refine ⟨⟨o', e'⟩, fun b => ⟨fun g => ?_, fun u g => ⟨u, ?_⟩⟩⟩ <;> simpa [Cx.add, List.getElem?_append_left (hl ▸ hlt)] using g

theorem WOK.add {w0 : World} {ps : List Hd} {C : Cx} (h : WOK w0 ps C) {w' : World} {o : Ob} {k : Hd} (hb : Below C.w.heap.size C.w w') (hn : ∀ b ∈ k.blks, C.w.heap.size ≤ b)
    (ho : o.OR (C.add w' o k) k) : WOK w0 ps (C.add w' o k) := by
  have le := Cx.Le.add (o := o) h.len hb hn
  have get : ∀ (n : Nat) (j : Hd), (C.add w' o k).alive n → (C.add w' o k).hs[n]? = some j → (n < C.hs.length ∧ C.alive n ∧ C.hs[n]? = some j) ∨ (n = C.hs.length ∧ j = k) := by
    intro n j ha hj
    by_cases e : n < C.hs.length
    · refine .inl ⟨e, ?_, by simpa [Cx.add, List.getElem?_append_left e] using hj⟩
      obtain ⟨o', ho'⟩ := ha
      exact ⟨o', by simpa [Cx.add, List.getElem?_append_left (h.len ▸ e)] using ho'⟩
    · refine .inr ?_
      simp only [Cx.add] at hj
      rw [List.getElem?_append_right (by omega)] at hj
      have h0 : n - C.hs.length = 0 := by
        have := (List.getElem?_eq_some_iff.1 hj).1
        simp at this; omega
      rw [h0] at hj
      exact ⟨by omega, by simpa using hj.symm⟩
  exact {
    b0 := h.b0
    os := hb.os.trans h.os
    tape := hb.tape.trans h.tape
    output := hb.output.trans h.output
    size := Nat.le_trans h.size hb.size
    len := by simp [Cx.add, h.len]
    frame := fun b hlt hp => (hb.block b (Nat.lt_of_lt_of_le hlt h.size)).trans (h.frame b hlt hp)
    objs := fun n o' j ho' hj => by
      rcases get n j ⟨o', ho'⟩ hj with ⟨e, _, hj'⟩ | ⟨rfl, rfl⟩
      · have ho2 : C.obs[n]? = some (some o') := by simpa [Cx.add, List.getElem?_append_left (h.len ▸ e)] using ho'
        have := h.objs n o' j ho2 hj'
        exact this.le le fun b hbk => hb.block b (this.lt b hbk)
      · have : o' = o := by
          rw [← h.len] at ho'
          simpa [Cx.add] using ho'.symm
        subst this
        exact ho
    dist := fun n m i j hnm hn' hm' hi hj b hbi hbj => by
      rcases get n i hn' hi with ⟨e1, a1, h1⟩ | ⟨e1, rfl⟩
      · rcases get m j hm' hj with ⟨e2, a2, h2⟩ | ⟨e2, rfl⟩
        · exact h.dist n m i j hnm a1 a2 h1 h2 b hbi hbj
        · obtain ⟨o1, a1⟩ := a1
          have := (h.objs n o1 i a1 h1).lt b hbi
          have := hn b hbj
          omega
      · rcases get m j hm' hj with ⟨e2, a2, h2⟩ | ⟨e2, rfl⟩
        · obtain ⟨o2, a2⟩ := a2
          have := (h.objs m o2 j a2 h2).lt b hbj
          have := hn b hbi
          omega
        · omega
    new := fun n j ha hj b hbj => by
      rcases get n j ha hj with ⟨e1, a1, h1⟩ | ⟨e1, rfl⟩
      · exact h.new n j a1 h1 b hbj
      · exact .inl (Nat.le_trans h.size (hn b hbj))
    plen := by have := h.plen; simp [Cx.add]; omega
    parP := fun i b e => by have := h.parP i b e; simp only [Cx.add]; rw [List.getElem?_append_left (List.getElem?_eq_some_iff.1 this).1]; exact this
    parB := fun i b u e => by
      obtain ⟨u', h'⟩ := h.parB i b u e
      exact ⟨u', by simp only [Cx.add]; rw [List.getElem?_append_left (List.getElem?_eq_some_iff.1 h').1]; exact h'⟩
    parR := fun i v E sz fr xs e e2 => by
      have hi : i < C.hs.length := Nat.lt_of_lt_of_le (List.getElem?_eq_some_iff.1 e).1 h.plen
      have e3 : C.obs[i]? = some (some (.row E sz 0 fr xs)) := by simpa [Cx.add, List.getElem?_append_left (h.len ▸ hi)] using e2
      have := h.parR i v E sz fr xs e e3
      simp only [Cx.add]; rw [List.getElem?_append_left hi]; exact this }

/-- An object written: only its blocks turn; new blocks may come. -/
structure Wrote (w w' : World) (bs : List Nat) : Prop where
  os : w'.os = w.os
  tape : w'.tape = w.tape
  output : w'.output = w.output
  size : w.heap.size ≤ w'.heap.size
  block : ∀ b, b < w.heap.size → b ∉ bs → w'.heap[b]? = w.heap[b]?

def Cx.setO (C : Cx) (w' : World) (n : Nat) (o : Option Ob) (h : Hd) : Cx := { C with w := w', obs := C.obs.set n o, hs := C.hs.set n h }

/-- The new object's kind goes with the old one's. -/
def Ob.follows (o : Ob) (h : Hd) (o' : Ob) (h' : Hd) : Prop :=
  (∀ E sz γ fr xs, o' = .row E sz γ fr xs → ∃ E sz γ0 fr xs, o = .row E sz γ0 fr xs ∧ γ0 ≤ γ ∧ (γ = γ0 → h' = h)) ∧
  (∀ b, h = .ptr b → h' = .ptr b) ∧ (∀ b u, h = .buf b u → ∃ u', h' = .buf b u')

theorem Cx.Le.setO {C : Cx} {w' : World} {n : Nat} {o o' : Ob} {h h' : Hd} (hl : C.obs.length = C.hs.length) (ho : C.obs[n]? = some (some o)) (hh : C.hs[n]? = some h)
    (hw : Wrote C.w w' h.blks) (hn : ∀ b ∈ h'.blks, b ∈ h.blks ∨ C.w.heap.size ≤ b) (hf : o.follows h o' h') : C.Le (C.setO w' n (some o') h') where
  b0 := rfl
  old := rfl
  len := by simp [Cx.setO]
  sh := fun fr b hs => ⟨⟨Nat.lt_of_lt_of_le hs.1 hw.size, fun m k ha hk hbk => by
      have hnl : n < C.hs.length := (List.getElem?_eq_some_iff.1 hh).1
      by_cases e : m = n
      · subst e
        have : k = h' := by simpa [Cx.setO, List.getElem?_set, hnl] using hk.symm
        subst this
        rcases hn b hbk with h1 | h1
        · exact hs.2.1 m h ⟨o, ho⟩ hh h1
        · have := hs.1; omega
      · have hk' : C.hs[m]? = some k := by simpa [Cx.setO, List.getElem?_set, Ne.symm e] using hk
        obtain ⟨o2, ho2⟩ := ha
        have ho3 : C.obs[m]? = some (some o2) := by simpa [Cx.setO, List.getElem?_set, Ne.symm e] using ho2
        exact hs.2.1 m k ⟨o2, ho3⟩ hk' hbk, hs.2.2⟩, hw.block b hs.1 (hs.2.1 n h ⟨o, ho⟩ hh)⟩
  row := fun m E sz γ fr xs hlt e => by
    by_cases em : m = n
    · subst em
      have e' : o' = .row E sz γ fr xs := by simpa [Cx.setO, List.getElem?_set, hlt] using e
      obtain ⟨E2, sz2, γ0, fr2, xs2, h1, h2, h3⟩ := hf.1 E sz γ fr xs e'
      exact ⟨E2, sz2, γ0, fr2, xs2, by rw [ho, h1], h2, fun e5 => by rw [hh]; simp [Cx.setO, List.getElem?_set, hl ▸ hlt, h3 e5]⟩
    · have e' : C.obs[m]? = some (some (.row E sz γ fr xs)) := by simpa [Cx.setO, List.getElem?_set, Ne.symm em] using e
      exact ⟨E, sz, γ, fr, xs, e', Nat.le_refl _, fun _ => by simp [Cx.setO, List.getElem?_set, Ne.symm em]⟩
  ptr := fun m o2 hlt e => by
    by_cases em : m = n
    · subst em
      refine ⟨⟨o, ho⟩, fun b => ⟨fun g => ?_, fun u g => ?_⟩⟩
      · have := hf.2.1 b (by rw [hh] at g; exact Option.some.inj g)
        simp [Cx.setO, List.getElem?_set, hl ▸ hlt, this]
      · obtain ⟨u', this⟩ := hf.2.2 b u (by rw [hh] at g; exact Option.some.inj g)
        exact ⟨u', by simp [Cx.setO, List.getElem?_set, hl ▸ hlt, this]⟩
    · have e' : C.obs[m]? = some (some o2) := by simpa [Cx.setO, List.getElem?_set, Ne.symm em] using e
      refine ⟨⟨o2, e'⟩, fun b => ⟨fun g => ?_, fun u g => ⟨u, ?_⟩⟩⟩ <;> simpa [Cx.setO, List.getElem?_set, Ne.symm em] using g

theorem WOK.setO {w0 : World} {ps : List Hd} {C : Cx} (h : WOK w0 ps C) {w' : World} {n : Nat} {o o' : Ob} {k k' : Hd} (ho : C.obs[n]? = some (some o)) (hh : C.hs[n]? = some k)
    (hw : Wrote C.w w' k.blks) (hn : ∀ b ∈ k'.blks, b ∈ k.blks ∨ C.w.heap.size ≤ b) (hf : o.follows k o' k')
    (hor : o'.OR (C.setO w' n (some o') k') k') : WOK w0 ps (C.setO w' n (some o') k') := by
  have le := Cx.Le.setO (o' := o') h.len ho hh hw hn hf
  have hnl : n < C.hs.length := (List.getElem?_eq_some_iff.1 hh).1
  have hnl' : n < C.obs.length := h.len ▸ hnl
  have get : ∀ (m : Nat) (j : Hd), (C.setO w' n (some o') k').alive m → (C.setO w' n (some o') k').hs[m]? = some j → (m ≠ n ∧ C.alive m ∧ C.hs[m]? = some j) ∨ (m = n ∧ j = k') := by
    intro m j ha hj
    by_cases e : m = n
    · subst e
      exact .inr ⟨rfl, by simpa [Cx.setO, List.getElem?_set, hnl] using hj.symm⟩
    · obtain ⟨o2, ho2⟩ := ha
      exact .inl ⟨e, ⟨o2, by simpa [Cx.setO, List.getElem?_set, Ne.symm e] using ho2⟩, by simpa [Cx.setO, List.getElem?_set, Ne.symm e] using hj⟩
  have an : C.alive n := ⟨o, ho⟩
  exact {
    b0 := h.b0
    os := hw.os.trans h.os
    tape := hw.tape.trans h.tape
    output := hw.output.trans h.output
    size := Nat.le_trans h.size hw.size
    len := by simp [Cx.setO, h.len]
    frame := fun b hlt hp => by
      refine (hw.block b (Nat.lt_of_lt_of_le hlt h.size) fun hb => ?_).trans (h.frame b hlt hp)
      rcases h.new n k an hh b hb with h1 | ⟨_, p, hp1, hp2⟩
      · omega
      · exact hp p hp1 hp2
    objs := fun m o2 j ho2 hj => by
      rcases get m j ⟨o2, ho2⟩ hj with ⟨e, a, hj'⟩ | ⟨rfl, rfl⟩
      · have ho3 : C.obs[m]? = some (some o2) := by simpa [Cx.setO, List.getElem?_set, Ne.symm e] using ho2
        have := h.objs m o2 j ho3 hj'
        exact this.le le fun b hbj => hw.block b (this.lt b hbj) (h.dist m n j k e a an hj' hh b hbj)
      · have : o2 = o' := by simpa [Cx.setO, List.getElem?_set, hnl'] using ho2.symm
        subst this
        exact hor
    dist := fun m l i j hml hm hl hi hj b hbi hbj => by
      have old : ∀ (m : Nat) (i : Hd), m ≠ n → C.alive m → C.hs[m]? = some i → b ∈ i.blks → b ∈ k'.blks → False := by
        intro m i e a hi' hb1 hb2
        rcases hn b hb2 with h1 | h1
        · exact h.dist m n i k e a an hi' hh b hb1 h1
        · obtain ⟨o1, a1⟩ := a
          have := (h.objs m o1 i a1 hi').lt b hb1
          omega
      rcases get m i hm hi with ⟨e1, a1, h1⟩ | ⟨e1, rfl⟩
      · rcases get l j hl hj with ⟨e2, a2, h2⟩ | ⟨e2, rfl⟩
        · exact h.dist m l i j hml a1 a2 h1 h2 b hbi hbj
        · exact old m i e1 a1 h1 hbi hbj
      · rcases get l j hl hj with ⟨e2, a2, h2⟩ | ⟨e2, rfl⟩
        · exact old l j e2 a2 h2 hbj hbi
        · omega
    new := fun m j ha hj b hbj => by
      rcases get m j ha hj with ⟨e1, a1, h1⟩ | ⟨e1, rfl⟩
      · exact h.new m j a1 h1 b hbj
      · rcases hn b hbj with h1 | h1
        · exact e1 ▸ h.new n k an hh b h1
        · exact .inl (Nat.le_trans h.size h1)
    plen := by have := h.plen; simp [Cx.setO]; omega
    parP := fun i b e => by
      have h1 := h.parP i b e
      by_cases em : i = n
      · subst em
        have := hf.2.1 b (by rw [hh] at h1; exact Option.some.inj h1)
        simp [Cx.setO, List.getElem?_set, hnl, this]
      · simpa [Cx.setO, List.getElem?_set, Ne.symm em] using h1
    parB := fun i b u e => by
      obtain ⟨u', h1⟩ := h.parB i b u e
      by_cases em : i = n
      · subst em
        obtain ⟨u2, this⟩ := hf.2.2 b u' (by rw [hh] at h1; exact Option.some.inj h1)
        exact ⟨u2, by simp [Cx.setO, List.getElem?_set, hnl, this]⟩
      · exact ⟨u', by simpa [Cx.setO, List.getElem?_set, Ne.symm em] using h1⟩
    parR := fun i v E sz fr xs e e2 => by
      by_cases em : i = n
      · subst em
        have e' : o' = .row E sz 0 fr xs := by simpa [Cx.setO, List.getElem?_set, hnl'] using e2
        obtain ⟨E2, sz2, γ0, fr2, xs2, h1, h2, h3⟩ := hf.1 E sz 0 fr xs e'
        have g0 : γ0 = 0 := by omega
        subst g0
        have := h.parR i v E2 sz2 fr2 xs2 e (by rw [ho, h1])
        rw [hh] at this
        simp only [Cx.setO]
        rw [List.getElem?_set_self hnl, h3 rfl]
        exact this
      · have e3 : C.obs[i]? = some (some (.row E sz 0 fr xs)) := by simpa [Cx.setO, List.getElem?_set, Ne.symm em] using e2
        have := h.parR i v E sz fr xs e e3
        simpa [Cx.setO, List.getElem?_set, Ne.symm em] using this }

end Go.AM
