/- AM, part 21: a function that hands back a new object. -/
import Derived.Test.YtmfobkiljlepjaaA14
set_option linter.unusedVariables false
set_option linter.unusedSimpArgs false
namespace Go.AM
open Go Go.RowKit

def AV.renJ (j : Nat) : AV → Option AV
  | .d fr x => some (.d fr x)
  | .ptr m off => if m = j then some (.ptr 0 off) else none
  | .own m γ => if m = j then some (.own 0 γ) else none
  | _ => none
def renJL (j : Nat) : List AV → Option (List AV)
  | [] => some []
  | a :: as => match a.renJ j, renJL j as with
    | some b, some bs => some (b :: bs)
    | _, _ => none

/-- The context of the object j alone. -/
def Cx.only (C : Cx) (j : Nat) (ob : Ob) (h : Hd) : Cx := { C with obs := [some ob], hs := [h] }

section
variable {C : Cx} {j : Nat} {ob : Ob} {h : Hd}

theorem Cx.Sh.only (ho : C.obs[j]? = some (some ob)) (hh : C.hs[j]? = some h) {fr : Bool} {b : Nat} (hs : C.Sh fr b) : (C.only j ob h).Sh fr b :=
  ⟨hs.1, fun n k ha hk => by
    have hk' : ([h] : List Hd)[n]? = some k := hk
    cases n with
    | zero => simp at hk'; subst hk'; exact hs.2.1 j h ⟨ob, ho⟩ hh
    | succ n => simp at hk', hs.2.2⟩

theorem VR.renJ (ho : C.obs[j]? = some (some ob)) (hh : C.hs[j]? = some h) {a b : AV} {v : Value} (e : a.renJ j = some b) (hv : a.VR C v) : b.VR (C.only j ob h) v := by
  unfold AV.renJ at e
  split at e
  · cases e
    unfold AV.VR at hv ⊢
    exact hv.stable fun b hb => ⟨hb.only ho hh, rfl⟩
  · split at e
    · rename_i em
      subst em
      cases e
      unfold AV.VR at hv ⊢
      refine ⟨by simp [Cx.only], fun o _ => ?_⟩
      obtain ⟨b, h1, h2⟩ := hv.2 ob ho
      rw [hh] at h1
      exact ⟨b, h1, h2⟩
    · cases e
  · split at e
    · rename_i em
      subst em
      cases e
      unfold AV.VR at hv ⊢
      refine ⟨by simp [Cx.only], fun E sz γ0 fr xs e => ?_⟩
      have e' : ob = .row E sz γ0 fr xs := by simpa [Cx.only] using e
      subst e'
      obtain ⟨h1, h2⟩ := hv.2 _ _ _ _ _ ho
      refine ⟨h1, fun e5 => ?_⟩
      have := h2 e5
      rw [hh] at this
      exact this
    · cases e
  · cases e

theorem VL.renJ (ho : C.obs[j]? = some (some ob)) (hh : C.hs[j]? = some h) : ∀ {as bs : List AV} {vs : List Value}, renJL j as = some bs → AV.VL C as vs → AV.VL (C.only j ob h) bs vs
  | [], bs, vs, e, hv => by simp only [renJL, Option.some.injEq] at e; subst e; unfold AV.VL at hv ⊢; exact hv
  | a :: as, bs, vs, e, hv => by
    unfold renJL at e
    split at e
    · rename_i b cs e1 e2
      cases e
      unfold AV.VL at hv ⊢
      obtain ⟨v, rest, rfl, h1, h2⟩ := hv
      exact ⟨v, rest, rfl, VR.renJ ho hh e1 h1, VL.renJ ho hh e2 h2⟩
    · cases e

theorem VL.onlyD (ho : C.obs[j]? = some (some ob)) (hh : C.hs[j]? = some h) : ∀ {cs : List AV} {vs : List Value}, cs.all AV.isD = true → AV.VL C cs vs → AV.VL (C.only j ob h) cs vs
  | [], vs, _, hv => by unfold AV.VL at hv ⊢; exact hv
  | a :: as, vs, hd, hv => by
    simp only [List.all_cons, Bool.and_eq_true] at hd
    unfold AV.VL at hv ⊢
    obtain ⟨v, rest, rfl, h1, h2⟩ := hv
    refine ⟨v, rest, rfl, ?_, VL.onlyD ho hh hd.2 h2⟩
    cases a <;> simp only [AV.isD, Bool.false_eq_true, false_and] at hd
    exact VR.renJ ho hh rfl h1

theorem OR.only (ho : C.obs[j]? = some (some ob)) (hh : C.hs[j]? = some h) (hd : ob.data = true) (hor : ob.OR C h) : ob.OR (C.only j ob h) h := by
  cases ob with
  | row E sz g fr xs =>
    cases h with
    | row v =>
      obtain ⟨h0, h1, fl, h2, h3⟩ := hor
      exact ⟨h0, h1, fl, h2.stable fun b hb => ⟨hb.only ho hh, rfl⟩, h3⟩
    | _ => exact hor.elim
  | cells E cs =>
    cases h with
    | ptr b =>
      obtain ⟨vs, h1, h2, h3⟩ := hor
      exact ⟨vs, h1, VL.onlyD ho hh hd h2, h3⟩
    | _ => exact hor.elim
  | buf E Er szr xs =>
    cases h with
    | buf b v =>
      obtain ⟨h1, h2, h3, fl, h4, h5⟩ := hor
      exact ⟨h1, h2, h3, fl, h4.stable fun b hb => ⟨hb.only ho hh, rfl⟩, h5⟩
    | _ => exact hor.elim

theorem WOK.only {w0 : World} (hw : WOK w0 [] C) (ho : C.obs[j]? = some (some ob)) (hh : C.hs[j]? = some h) (hd : ob.data = true) : WOK w0 [] (C.only j ob h) where
  b0 := hw.b0
  os := hw.os
  tape := hw.tape
  output := hw.output
  size := hw.size
  len := rfl
  frame := hw.frame
  objs := fun n o k e1 e2 => by
    have e1' : ([some ob] : List (Option Ob))[n]? = some (some o) := e1
    have e2' : ([h] : List Hd)[n]? = some k := e2
    cases n with
    | zero => simp at e1' e2'; subst e1'; subst e2'; exact OR.only ho hh hd (hw.objs j ob h ho hh)
    | succ n => simp at e1'
  dist := fun n m i k hnm ⟨o1, h1⟩ ⟨o2, h2⟩ => by
    have e1 : ([some ob] : List (Option Ob))[n]? = some (some o1) := h1
    have e2 : ([some ob] : List (Option Ob))[m]? = some (some o2) := h2
    cases n with
    | zero => cases m with
      | zero => exact absurd rfl hnm
      | succ m => simp at e2
    | succ n => simp at e1
  new := fun n k ⟨o, e1⟩ e2 => by
    have e2' : ([h] : List Hd)[n]? = some k := e2
    cases n with
    | zero => simp at e2'; subst e2'; exact fun b hb => .inl ((hw.new j h ⟨ob, ho⟩ hh b hb).resolve_right (by simp))
    | succ n => simp at e2'
  plen := Nat.zero_le _
  parP := fun i b e => by simp at e
  parB := fun i b u e => by simp at e
  parR := fun i v E sz fr xs e => by simp at e
end

/-- What is handed back: the object j, the new one. -/
def BackJ (T : Nat → TI) (rs : List ResultVar) (R : Res) (j : Nat) (st : St) : Prop :=
  (∃ avs bs, resL T st rs = some avs ∧ renJL j avs = some bs ∧ (match bs with
    | [a] => AV.Sub1 a R.r
    | as => ∃ cs, R.r = .tup cs ∧ SubL as cs)) ∧ ∃ ob, R.o = some ob ∧ st.obs[j]? = some (some ob) ∧ ob.data = true

theorem renJL_len {j : Nat} : ∀ {as bs : List AV}, renJL j as = some bs → bs.length = as.length
  | [], bs, e => by simp only [renJL, Option.some.injEq] at e; subst e; rfl
  | a :: as, bs, e => by
    unfold renJL at e
    split at e
    · rename_i b cs e1 e2
      cases e
      simp [renJL_len e2]
    · cases e

theorem spec_of_awpJ {P : Program} {G : Cfg} (hG : G.OK P) (j : Nat) {f : FuncId} {fn : Func} {c : Code} {args : List AV} {R : Res} (hf : P.funcs[f]? = some fn) (hb : fn.body = some c) (hn : args.length ≤ fn.ntmps)
    (h : ∀ E : En, E.ps.length = 0 → E.N = fn.ntmps → R.pre → AWP P E c (fun e st => (e = .ret ∨ e = .normal) ∧ BackJ G.T fn.results.toList R j st) (begin args none)) : Spec P f args none R := by
  intro w old hs vals wok hvl hpre
  have hhs : hs = [] := by
    have := wok.len
    simp [entryCx] at this
    exact List.eq_nil_of_length_eq_zero this.symm
  subst hhs
  have hvn := VL.len hvl
  let E : En := ⟨w, old, [], fn.ntmps⟩
  have hrel : Rel E (begin args none) { tmps := vals.toArray ++ Array.replicate (fn.ntmps - vals.toArray.size) undef, defers := [] } w [] := by
    refine ⟨wok, rfl, by simp [E]; omega, fun t => ?_⟩
    show (look t ((args.zipIdx 0).map (fun p => (p.2, p.1)))).VR _ _
    rw [look_begin args 0 t]
    simp only [Nat.zero_le, if_true, Nat.sub_zero]
    cases ht : args[t]? with
    | none => simp only [Option.getD_none]; unfold AV.VR; trivial
    | some av =>
      obtain ⟨v, hv, hvr⟩ := VL.get hvl ht
      have hlt : t < vals.length := (List.getElem?_eq_some_iff.1 hv).1
      have e : (vals.toArray ++ Array.replicate (fn.ntmps - vals.toArray.size) undef).getD t undef = v := by
        have h1 : (vals.toArray ++ Array.replicate (fn.ntmps - vals.toArray.size) undef)[t]? = some v := by
          rw [Array.getElem?_append_left (by simpa using hlt)]
          simpa using hv
        rw [Array.getD_eq_getD_getElem?, h1]; rfl
      simp only [e, Option.getD_some]
      exact hvr
  refine calls_of_wp hf hb (Code.wp_mono ?_ (h E rfl rfl hpre _ w [] hrel))
  intro e a w' ⟨st, hs', hr, he, ⟨avs, bs, e1, e2, hm⟩, ob, hR, hob, hdata⟩
  obtain ⟨vs, h1, h2⟩ := resL_sound hG.T hr e1
  have hlen := VL.len h1
  have hblen := renJL_len e2
  obtain ⟨k, hk⟩ := hr.wok.hd (n := j) (alive_lt (C := st.cx E w' hs') ⟨ob, hob⟩)
  have h3 : AV.VL ((st.cx E w' hs').only j ob k) bs vs := VL.renJ (C := st.cx E w' hs') hob hk e2 h1
  have hrun : (results fn a.tmps).run P w' = .ok (if h : vs.toArray.size = 1 then vs.toArray[0] else .tuple vs.toArray) w' := by
    rw [results_eq, Array.mapM_eq_mapM_toList, Sem.run_bind]
    have : (List.toArray <$> fn.results.toList.mapM (m := Sem) (resSem a.tmps)).run P w' = .ok vs.toArray w' := by
      rw [map_eq_pure_bind, Sem.run_bind, h2, Result.andThen_ok, Sem.run_pure]
    rw [this, Result.andThen_ok, Sem.run_pure]
  have hvr : R.r.VR ((st.cx E w' hs').only j ob k) (if h : vs.toArray.size = 1 then vs.toArray[0] else .tuple vs.toArray) := by
    split at hm
    · rename_i av
      have : ∃ v, vs = [v] := List.length_eq_one_iff.1 (by rw [hlen, ← hblen]; rfl)
      obtain ⟨v, rfl⟩ := this
      unfold AV.VL at h3
      obtain ⟨v', rest, e1, h4, h5⟩ := h3
      cases e1
      exact hm.vr h4
    · rename_i hn
      obtain ⟨cs, e3, h4⟩ := hm
      have hne : vs.length ≠ 1 := by
        intro e2
        rw [hlen, ← hblen] at e2
        obtain ⟨av, e3⟩ := List.length_eq_one_iff.1 e2
        exact hn av e3
      have e4 : ¬ vs.toArray.size = 1 := by simpa using hne
      rw [dif_neg e4, e3]
      unfold AV.VR
      exact ⟨_, rfl, by simpa using h4.vl h3⟩
  have wok' : WOK w [] ((st.cx E w' hs').only j ob k) := hr.wok.only hob hk hdata
  have fin : a.defers = [] ∧ ∃ v, (results fn a.tmps).run P w' = .ok v w' ∧ ∃ v_1 obs' hs'_1, Ending.returned v = .returned v_1 ∧ WOK w [] ⟨w', w.heap.size, old, obs', hs'_1⟩ ∧
      R.r.VR ⟨w', w.heap.size, old, obs', hs'_1⟩ v_1 ∧ (∀ ob, R.o = some ob → obs'[0]? = some (some ob)) :=
    ⟨hr.df, _, hrun, _, [some ob], [k], rfl, wok', hvr, fun o ho => by rw [hR] at ho; cases ho; rfl⟩
  rcases he with rfl | rfl
  · exact fin
  · exact fin

end Go.AM
