/- AM, part 17: objects that go; nil taken for an own row. -/
import Derived.Test.YtmfobkiljlepjaaA16
set_option linter.unusedVariables false
set_option linter.unusedSimpArgs false
namespace Go.AM
open Go Go.RowKit

def Cx.take (C : Cx) (k : Nat) : Cx := { C with obs := C.obs.take k, hs := C.hs.take k }

theorem Cx.take_alive {C : Cx} {k n : Nat} (h : (C.take k).alive n) : n < k ∧ C.alive n := by
  obtain ⟨o, ho⟩ := h
  have : (C.obs.take k)[n]? = some (some o) := ho
  rw [List.getElem?_take] at this
  split at this
  · rename_i hlt; exact ⟨hlt, o, this⟩
  · cases this

theorem Cx.take_hs {C : Cx} {k n : Nat} {h : Hd} (e : (C.take k).hs[n]? = some h) : n < k ∧ C.hs[n]? = some h := by
  have : (C.hs.take k)[n]? = some h := e
  rw [List.getElem?_take] at this
  split at this
  · rename_i hlt; exact ⟨hlt, this⟩
  · cases this

theorem Cx.Sh.take {C : Cx} {k : Nat} {fr : Bool} {b : Nat} (h : C.Sh fr b) : (C.take k).Sh fr b :=
  ⟨h.1, fun n j ha hj => h.2.1 n j (Cx.take_alive ha).2 (Cx.take_hs hj).2, h.2.2⟩

mutual
theorem AV.VR.take {C : Cx} {k : Nat} (hk : k ≤ C.obs.length) : ∀ (a : AV) (v : Value), a.lt k = true → a.VR C v → a.VR (C.take k) v
  | .junk, _, _, _ => by unfold AV.VR; trivial
  | .d fr x, v, _, hv => by unfold AV.VR at hv ⊢; exact hv.stable fun b hb => ⟨hb.take, rfl⟩
  | .own n γ, v, hl, hv => by
    have hl : n < k := by simpa [AV.lt] using hl
    unfold AV.VR at hv ⊢
    refine ⟨by simp [Cx.take]; omega, fun E sz γ0 fr xs e => ?_⟩
    have e' : (C.obs.take k)[n]? = some (some (.row E sz γ0 fr xs)) := e
    rw [List.getElem?_take, if_pos hl] at e'
    obtain ⟨h1, h2⟩ := hv.2 _ _ _ _ _ e'
    refine ⟨h1, fun e5 => ?_⟩
    show (C.hs.take k)[n]? = _
    rw [List.getElem?_take, if_pos hl]
    exact h2 e5
  | .ptr n off, v, hl, hv => by
    have hl : n < k := by simpa [AV.lt] using hl
    unfold AV.VR at hv ⊢
    refine ⟨by simp [Cx.take]; omega, fun o e => ?_⟩
    have e' : (C.obs.take k)[n]? = some (some o) := e
    rw [List.getElem?_take, if_pos hl] at e'
    obtain ⟨b, h1, h2⟩ := hv.2 o e'
    refine ⟨b, ?_, h2⟩
    show (C.hs.take k)[n]? = _ ∨ ∃ u, (C.hs.take k)[n]? = _
    rw [List.getElem?_take, if_pos hl]
    exact h1
  | .elt n γ sz i off, v, hl, hv => by
    have hl : n < k := by simpa [AV.lt] using hl
    unfold AV.VR at hv ⊢
    refine ⟨by simp [Cx.take]; omega, fun E sz γ0 fr xs e => ?_⟩
    have e' : (C.obs.take k)[n]? = some (some (.row E sz γ0 fr xs)) := e
    rw [List.getElem?_take, if_pos hl] at e'
    obtain ⟨h1, h2⟩ := hv.2 _ _ _ _ _ e'
    refine ⟨h1, fun e5 => ?_⟩
    obtain ⟨b, len, cap, h3, h4⟩ := h2 e5
    refine ⟨b, len, cap, ?_, h4⟩
    show (C.hs.take k)[n]? = _
    rw [List.getElem?_take, if_pos hl]
    exact h3
  | .sel fr cs, v, _, hv => by
    unfold AV.VR at hv ⊢
    obtain ⟨b, o, vs, h1, h2, h3, h4⟩ := hv
    exact ⟨b, o, vs, h1, h2.take, h3.stable fun b hb => ⟨hb.take, rfl⟩, h4⟩
  | .agg fs, v, hl, hv => by
    have hl : AV.ltL k fs = true := by simpa [AV.lt] using hl
    unfold AV.VR at hv ⊢
    obtain ⟨cs, h1, h2, h3⟩ := hv
    exact ⟨cs, h1, AV.VL.take hk _ _ hl h2, h3⟩
  | .tup fs, v, hl, hv => by
    have hl : AV.ltL k fs = true := by simpa [AV.lt] using hl
    unfold AV.VR at hv ⊢
    obtain ⟨cs, h1, h2⟩ := hv
    exact ⟨cs, h1, AV.VL.take hk _ _ hl h2⟩
  | .fn f fs, v, hl, hv => by
    have hl : AV.ltL k fs = true := by simpa [AV.lt] using hl
    unfold AV.VR at hv ⊢
    obtain ⟨cs, h1, h2⟩ := hv
    exact ⟨cs, h1, AV.VL.take hk _ _ hl h2⟩
  | .when c a, v, hl, hv => by
    have hl : a.lt k = true := by simpa [AV.lt] using hl
    unfold AV.VR at hv ⊢
    exact ⟨fun hc => AV.VR.take hk a v hl (hv.1 hc), hv.2⟩
theorem AV.VL.take {C : Cx} {k : Nat} (hk : k ≤ C.obs.length) : ∀ (as : List AV) (vs : List Value), AV.ltL k as = true → AV.VL C as vs → AV.VL (C.take k) as vs
  | [], vs, _, hv => by unfold AV.VL at hv ⊢; exact hv
  | a :: as, vs, hl, hv => by
    have hl : a.lt k = true ∧ AV.ltL k as = true := by simpa [AV.ltL] using hl
    unfold AV.VL at hv ⊢
    obtain ⟨v, rest, h1, h2, h3⟩ := hv
    exact ⟨v, rest, h1, AV.VR.take hk a v hl.1 h2, AV.VL.take hk as rest hl.2 h3⟩
end

def Ob.lt (k : Nat) : Ob → Bool
  | .cells _ cs => AV.ltL k cs
  | _ => true

def St.ltOK (k : Nat) (st : St) : Bool := decide (k ≤ st.obs.length) && st.env.all (fun p => p.2.lt k) && (st.obs.take k).all (fun o => match o with | some o => o.lt k | none => true)
def St.trunc (k : Nat) (st : St) : St := ⟨st.env, st.obs.take k⟩

theorem look_lt {k : Nat} : ∀ {env : List (Nat × AV)} (h : env.all (fun p => p.2.lt k) = true) (t : Nat), (look t env).lt k = true
  | [], _, t => rfl
  | (q, v) :: e, h, t => by
    simp only [List.all_cons, Bool.and_eq_true] at h
    simp only [look]
    split
    · exact h.1
    · exact look_lt h.2 t

theorem OR.take {C : Cx} {k : Nat} (hk : k ≤ C.obs.length) {o : Ob} {h : Hd} (hl : o.lt k = true) (ho : o.OR C h) : o.OR (C.take k) h := by
  cases o with
  | row E sz γ fr xs =>
    cases h with
    | row v =>
      obtain ⟨h0, h1, fl, h2, h3⟩ := ho
      exact ⟨h0, h1, fl, h2.stable fun b hb => ⟨hb.take, rfl⟩, h3⟩
    | _ => exact ho.elim
  | cells E cs =>
    cases h with
    | ptr b =>
      obtain ⟨vs, h1, h2, h3⟩ := ho
      exact ⟨vs, h1, AV.VL.take hk _ _ hl h2, h3⟩
    | _ => exact ho.elim
  | buf E Er szr xs =>
    cases h with
    | buf b v =>
      obtain ⟨h1, h2, h3, fl, h4, h5⟩ := ho
      exact ⟨h1, h2, h3, fl, h4.stable fun b hb => ⟨hb.take, rfl⟩, h5⟩
    | _ => exact ho.elim

theorem Rel.trunc {E : En} {st : St} {a : Act} {w : World} {hs : List Hd} (h : Rel E st a w hs) {k : Nat} (hp : E.ps.length ≤ k) (hl : st.ltOK k = true) : Rel E (st.trunc k) a w (hs.take k) := by
  unfold St.ltOK at hl
  simp only [Bool.and_eq_true, decide_eq_true_eq] at hl
  obtain ⟨⟨hk, hl1⟩, hl2⟩ := hl
  have hlen : st.obs.length = hs.length := h.wok.len
  refine ⟨?_, h.df, h.size, fun t => AV.VR.take (C := st.cx E w hs) hk _ _ (look_lt hl1 t) (h.env t)⟩
  have hw := h.wok
  exact {
    b0 := rfl
    os := hw.os
    tape := hw.tape
    output := hw.output
    size := hw.size
    len := by simp [St.cx, St.trunc, hlen]
    frame := hw.frame
    objs := fun n o j ho hj => by
      obtain ⟨hn, hj'⟩ := Cx.take_hs (C := st.cx E w hs) hj
      have ho' : (st.obs.take k)[n]? = some (some o) := ho
      have ho2 := ho'
      rw [List.getElem?_take, if_pos hn] at ho'
      have hol : o.lt k = true := by
        have := List.all_eq_true.1 hl2 (some o) (List.mem_of_getElem? ho2)
        exact this
      exact OR.take (C := st.cx E w hs) hk hol (hw.objs n o j ho' hj')
    dist := fun n m i j hnm hn hm hi hj => hw.dist n m i j hnm (Cx.take_alive (C := st.cx E w hs) hn).2 (Cx.take_alive (C := st.cx E w hs) hm).2 (Cx.take_hs (C := st.cx E w hs) hi).2 (Cx.take_hs (C := st.cx E w hs) hj).2
    new := fun n j hn hj => hw.new n j (Cx.take_alive (C := st.cx E w hs) hn).2 (Cx.take_hs (C := st.cx E w hs) hj).2
    plen := by
      have h1 : E.ps.length ≤ hs.length := hw.plen
      show E.ps.length ≤ (hs.take k).length
      simp only [List.length_take]
      omega
    parP := fun i b e => by
      have hi : i < E.ps.length := (List.getElem?_eq_some_iff.1 e).1
      show (hs.take k)[i]? = _
      rw [List.getElem?_take, if_pos (by omega)]
      exact hw.parP i b e
    parB := fun i b u e => by
      have hi : i < E.ps.length := (List.getElem?_eq_some_iff.1 e).1
      obtain ⟨u', h1⟩ := hw.parB i b u e
      refine ⟨u', ?_⟩
      show (hs.take k)[i]? = _
      rw [List.getElem?_take, if_pos (by omega)]
      exact h1
    parR := fun i v E' sz fr xs e e2 => by
      have hi : i < E.ps.length := (List.getElem?_eq_some_iff.1 e).1
      have e3 : (st.obs.take k)[i]? = some (some (.row E' sz 0 fr xs)) := e2
      rw [List.getElem?_take, if_pos (by omega)] at e3
      show (hs.take k)[i]? = _
      rw [List.getElem?_take, if_pos (by omega)]
      exact hw.parR i v E' sz fr xs e e3 }

theorem AWP.trunc {P : Program} {E : En} {Q : Exit → St → Prop} {st : St} {c : Code} (k : Nat) (hp : E.ps.length ≤ k) (hl : st.ltOK k = true) (h : AWP P E c Q (st.trunc k)) : AWP P E c Q st :=
  fun a w hs hr => h a w _ (hr.trunc hp hl)

/-- nil as an own row. -/
def St.adopt (t e sz : Nat) (st : St) : St := ⟨(t, .own st.obs.length 0) :: st.env, st.obs ++ [some (.row e sz 0 true [])]⟩

theorem Rel.adopt {E : En} {st : St} {a : Act} {w : World} {hs : List Hd} (h : Rel E st a w hs) (t e sz : Nat) {fr : Bool} (hz : 0 < sz) (hl : look t st.env = .d fr (.v (.slice none 0 0))) : Rel E (st.adopt t e sz) a w (hs ++ [.row (.slice none 0 0)]) := by
  have hv : a.tmps.getD t undef = .slice none 0 0 := by
    have := h.env t
    rw [hl] at this
    exact vr_int this
  have hlen : st.obs.length = hs.length := h.wok.len
  have hor : (Ob.row e sz 0 true []).OR ((st.cx E w hs).add w (.row e sz 0 true []) (.row (.slice none 0 0))) (.row (.slice none 0 0)) :=
    ⟨hz, by simp, [], by unfold Dat.RL; rfl, by simp, .inl ⟨rfl, rfl⟩⟩
  have hb : Below w.heap.size w w := Below.refl _ _
  have le := Cx.Le.add (C := st.cx E w hs) (o := .row e sz 0 true []) (h := .row (.slice none 0 0)) hlen hb (by simp [Hd.blks, Value.ownBlock])
  have wok := h.wok.add hb (k := .row (.slice none 0 0)) (by simp [Hd.blks, Value.ownBlock]) hor
  have hr : Rel E ⟨st.env, st.obs ++ [some (.row e sz 0 true [])]⟩ a w (hs ++ [.row (.slice none 0 0)]) := h.le le wok
  refine ⟨hr.wok, hr.df, hr.size, fun q => ?_⟩
  simp only [St.adopt, look]
  split
  · rename_i eq
    subst eq
    rw [hv]
    unfold AV.VR
    refine ⟨by simp [St.cx], fun E' sz' γ0 fr' xs eo => ?_⟩
    have eo' : (Ob.row e sz 0 true []) = .row E' sz' γ0 fr' xs := by simpa [St.cx] using eo
    simp only [Ob.row.injEq] at eo'
    obtain ⟨_, _, rfl, _⟩ := eo'
    refine ⟨Nat.le_refl _, fun _ => ?_⟩
    simp [St.cx, hlen]
  · exact hr.env q

theorem AWP.adopt {P : Program} {E : En} {Q : Exit → St → Prop} {st : St} {c : Code} (t e sz : Nat) {fr : Bool} (hz : 0 < sz) (hl : look t st.env = .d fr (.v (.slice none 0 0))) (h : AWP P E c Q (st.adopt t e sz)) : AWP P E c Q st :=
  fun a w hs hr => h a w _ (hr.adopt t e sz hz hl)

end Go.AM
