/- AM, part 26: a buffer taken as its cell and its row; nil in a cell taken for an own row; cells taken for a buffer. -/
import Derived.Test.YtmfobkiljlepjaaA25
set_option linter.unusedVariables false
set_option linter.unusedSimpArgs false
namespace Go.AM
open Go Go.RowKit

def AV.plainB : AV → Bool
  | .d _ _ => true
  | .ptr 0 _ => true
  | _ => false

section
variable {C C' : Cx} {b : Nat}
theorem VR.plainB (hw : C'.w = C.w) (hS : ∀ fr x, C.Sh fr x → C'.Sh fr x) (h0 : ∀ v off, (AV.ptr 0 off).VR C v → (AV.ptr 0 off).VR C' v) {a : AV} {v : Value} (hp : a.plainB = true) (h : a.VR C v) : a.VR C' v := by
  cases a with
  | d fr x =>
    unfold AV.VR at h ⊢
    exact h.stable fun b hb => ⟨hS fr b hb, by rw [hw]⟩
  | ptr n off =>
    cases n with
    | zero => exact h0 v off h
    | succ n => simp [AV.plainB] at hp
  | _ => simp [AV.plainB] at hp
theorem VL.plainB (hw : C'.w = C.w) (hS : ∀ fr x, C.Sh fr x → C'.Sh fr x) (h0 : ∀ v off, (AV.ptr 0 off).VR C v → (AV.ptr 0 off).VR C' v) : ∀ {as : List AV} {vs : List Value}, as.all AV.plainB = true → AV.VL C as vs → AV.VL C' as vs
  | [], vs, _, h => by unfold AV.VL at h ⊢; exact h
  | a :: as, vs, hp, h => by
    simp only [List.all_cons, Bool.and_eq_true] at hp
    unfold AV.VL at h ⊢
    obtain ⟨v, rest, rfl, h1, h2⟩ := h
    exact ⟨v, rest, rfl, VR.plainB hw hS h0 hp.1 h1, VL.plainB hw hS h0 hp.2 h2⟩
end

theorem buf_hd {w : World} {old : Nat → Prop} {hs : List Hd} {E Er szr : Nat} {xs : List Dat} (h : WOK w hs (entryCx w old (some (.buf E Er szr xs)) hs)) :
    ∃ b v, hs = [.buf b v] ∧ (Ob.buf E Er szr xs).OR (entryCx w old (some (.buf E Er szr xs)) [.buf b v]) (.buf b v) := by
  have hlen := h.len
  obtain ⟨k, rfl⟩ : ∃ k, hs = [k] := List.length_eq_one_iff.1 (by simpa [entryCx] using hlen.symm)
  have hor := h.objs 0 _ k rfl rfl
  cases k with
  | buf b v => exact ⟨b, v, rfl, hor⟩
  | _ => exact hor.elim

theorem two_get {α : Type} {a b : α} {n : Nat} {x : α} (h : [a, b][n]? = some x) : (n = 0 ∧ x = a) ∨ (n = 1 ∧ x = b) := by
  cases n with
  | zero => simp at h; exact .inl ⟨rfl, h.symm⟩
  | succ n => cases n with
    | zero => simp at h; exact .inr ⟨rfl, h.symm⟩
    | succ n => simp at h

theorem spec_of_buf {P : Program} {G : Cfg} (hG : G.OK P) {f : FuncId} {fn : Func} {c : Code} {args : List AV} {Et Er : Nat} {xs xs' : List Dat} {R : Res} (hne : Et ≠ Er) (hf : P.funcs[f]? = some fn) (hb : fn.body = some c) (hn : args.length ≤ fn.ntmps)
    (hpa : args.all AV.plainB = true) (hpr : R.r.plainB = true) (hxs' : ∀ x ∈ xs', ∃ q, x = .v q) (hRo : R.o = some (.buf Et Er 1 xs'))
    (h : ∀ E : En, E.ps.length = 2 → E.N = fn.ntmps → R.pre → AWP P E c (fun e st => (e = .ret ∨ e = .normal) ∧ Back G.T fn.results.toList ⟨True, R.r, none⟩ st ∧
      ∃ γ fr, st.obs[0]? = some (some (.cells Et [.own 1 γ])) ∧ st.obs[1]? = some (some (.row Er 1 γ fr xs'))) ⟨(begin args none).env, [some (.cells Et [.own 1 0]), some (.row Er 1 0 true xs)]⟩) :
    Spec P f args (some (.buf Et Er 1 xs)) R := by
  intro w old hs vals wok hvl hpre
  have hvn := VL.len hvl
  obtain ⟨b, v, rfl, hor⟩ := buf_hd wok
  obtain ⟨hcell0, _, hflat, fl, hRL, hown⟩ := hor
  have hcell : w.heap[b]? = some (.cells #[v] Et (0, 0)) := hcell0
  have hown : w.ownsRow 0 Er 1 v xs.length fl := hown
  have hbne : ∀ g, v.ownBlock = some g → g ≠ b := fun g hg e => by
    subst e
    rcases hown.2 with ⟨rfl, _⟩ | ⟨g', cap, cur, rfl, _, h4, _⟩
    · cases hg
    · simp [Value.ownBlock] at hg
      subst hg
      have h4' : w.heap[g']? = _ := h4
      rw [hcell] at h4'
      simp at h4'
      exact hne h4'.2
  have hblt : b < w.heap.size := (Array.getElem?_eq_some_iff.1 hcell).1
  let E : En := ⟨w, old, [.ptr b, .row v], fn.ntmps⟩
  let st0 : St := ⟨(begin args none).env, [some (.cells Et [.own 1 0]), some (.row Er 1 0 true xs)]⟩
  let C0 : Cx := st0.cx E w [.ptr b, .row v]
  have hSh0 : ∀ fr x, (entryCx w old (some (.buf Et Er 1 xs)) [.buf b v]).Sh fr x → C0.Sh fr x := fun fr x hx => ⟨hx.1, fun n k ha hk hbk => by
    have hall := hx.2.1 0 (.buf b v) ⟨_, rfl⟩ rfl
    simp only [Hd.blks, List.mem_cons, not_or] at hall
    rcases two_get (show ([.ptr b, .row v] : List Hd)[n]? = some k from hk) with ⟨rfl, rfl⟩ | ⟨rfl, rfl⟩
    · simp [Hd.blks] at hbk; exact hall.1 hbk
    · exact hall.2 hbk, hx.2.2⟩
  have hwok : WOK w [.ptr b, .row v] C0 := {
    b0 := rfl, os := rfl, tape := rfl, output := rfl, size := Nat.le_refl _, len := rfl, frame := fun _ _ _ => rfl
    objs := fun n o k e1 e2 => by
      rcases two_get (show ([.ptr b, .row v] : List Hd)[n]? = some k from e2) with ⟨rfl, rfl⟩ | ⟨rfl, rfl⟩
      · have e1' : (Ob.cells Et [AV.own 1 0]) = o := by simpa [C0, st0, St.cx] using e1
        subst e1'
        refine ⟨[v], hcell, ?_, fun u hu => ?_⟩
        · unfold AV.VL
          refine ⟨v, [], rfl, ?_, by unfold AV.VL; rfl⟩
          unfold AV.VR
          exact ⟨by simp [C0, st0, St.cx], fun E' sz γ0 fr xs0 _ => ⟨Nat.zero_le _, fun _ => rfl⟩⟩
        · simp at hu
          subst hu
          obtain ⟨A, cc, rfl, _⟩ := owns_slice hown
          rfl
      · have e1' : (Ob.row Er 1 0 true xs) = o := by simpa [C0, st0, St.cx] using e1
        subst e1'
        exact ⟨by decide, fun x hx => by obtain ⟨q, rfl⟩ := hflat x hx; rfl, fl, RL_flat hflat hRL, hown⟩
    dist := fun n m k k' hnm _ _ e1 e2 x hx hx' => by
      rcases two_get (show ([.ptr b, .row v] : List Hd)[n]? = some k from e1) with ⟨rfl, rfl⟩ | ⟨rfl, rfl⟩ <;>
        rcases two_get (show ([.ptr b, .row v] : List Hd)[m]? = some k' from e2) with ⟨rfl, rfl⟩ | ⟨rfl, rfl⟩
      · exact hnm rfl
      · simp only [Hd.blks, List.mem_cons, List.not_mem_nil, or_false, Option.mem_toList] at hx hx'
        exact hbne x hx' hx
      · simp only [Hd.blks, List.mem_cons, List.not_mem_nil, or_false, Option.mem_toList] at hx hx'
        exact hbne x hx hx'
      · exact hnm rfl
    new := fun n k _ e2 x hx => .inr ⟨(List.getElem?_eq_some_iff.1 e2).1, k, List.mem_of_getElem? e2, hx⟩
    plen := Nat.le_refl _
    parP := fun i x e => e
    parB := fun i x u e => ⟨u, e⟩
    parR := fun i x E' sz fr xs0 e _ => e }
  have hvl0 : AV.VL C0 args vals := VL.plainB (C := entryCx w old (some (.buf Et Er 1 xs)) [.buf b v]) (C' := C0) rfl hSh0 (fun u off hu => by
    unfold AV.VR at hu ⊢
    refine ⟨by simp [C0, st0, St.cx], fun o _ => ?_⟩
    obtain ⟨b', hb', e⟩ := hu.2 _ rfl
    have : b' = b := by
      rcases hb' with hb' | ⟨y, hb'⟩ <;> simp [entryCx] at hb'
      exact hb'.1.symm
    subst this
    exact ⟨b', .inl rfl, e⟩) hpa hvl
  have hrel : Rel E st0 { tmps := vals.toArray ++ Array.replicate (fn.ntmps - vals.toArray.size) undef, defers := [] } w [.ptr b, .row v] := by
    refine ⟨hwok, rfl, by simp [E]; omega, fun t => ?_⟩
    show (look t ((args.zipIdx 0).map (fun p => (p.2, p.1)))).VR _ _
    rw [look_begin args 0 t]
    simp only [Nat.zero_le, if_true, Nat.sub_zero]
    cases ht : args[t]? with
    | none => simp only [Option.getD_none]; unfold AV.VR; trivial
    | some av =>
      obtain ⟨y, hy, hvr⟩ := VL.get hvl0 ht
      have hlt : t < vals.length := (List.getElem?_eq_some_iff.1 hy).1
      have e : (vals.toArray ++ Array.replicate (fn.ntmps - vals.toArray.size) undef).getD t undef = y := by
        have h1 : (vals.toArray ++ Array.replicate (fn.ntmps - vals.toArray.size) undef)[t]? = some y := by
          rw [Array.getElem?_append_left (by simpa using hlt)]
          simpa using hy
        rw [Array.getD_eq_getD_getElem?, h1]; rfl
      simp only [e, Option.getD_some]
      exact hvr
  refine calls_of_wp hf hb (Code.wp_mono ?_ (h E rfl rfl hpre _ w [.ptr b, .row v] hrel))
  intro e a w' ⟨st, hs', hr, he, hback, γ, fr, ho0, ho1⟩
  obtain ⟨y, h1, h2⟩ := results_sound hG.T hr hback
  -- behind
  have k0 := hr.wok.parP 0 b rfl
  obtain ⟨k1, hk1⟩ := hr.wok.hd (n := 1) (alive_lt (C := st.cx E w' hs') ⟨_, ho1⟩)
  obtain ⟨v', rfl, _, hz', fl', hRL', hown'⟩ := OR.row_val (hr.wok.objs 1 _ _ ho1 hk1)
  obtain ⟨b2, e2, vs, hc', hv', _⟩ := OR.cells_val (hr.wok.objs 0 _ _ ho0 k0)
  cases e2
  unfold AV.VL at hv'
  obtain ⟨u, rest, rfl, hu, hrest⟩ := hv'
  unfold AV.VL at hrest
  subst hrest
  unfold AV.VR at hu
  have hu2 := (hu.2 _ _ _ _ _ ho1).2 rfl
  have hu3 : hs'[1]? = some (.row u) := hu2
  have hk1' : hs'[1]? = some (.row v') := hk1
  rw [hk1'] at hu3
  cases hu3
  let C2 : Cx := ⟨w', w.heap.size, old, [some (.buf Et Er 1 xs')], [.buf b v']⟩
  have hSh2 : ∀ fr x, (st.cx E w' hs').Sh fr x → C2.Sh fr x := fun fr x hx => ⟨hx.1, fun n k ha hk hbk => by
    have hk' : ([.buf b v'] : List Hd)[n]? = some k := hk
    cases n with
    | zero =>
      simp at hk'
      subst hk'
      simp only [Hd.blks, List.mem_cons] at hbk
      rcases hbk with hbk | hbk
      · exact hx.2.1 0 _ ⟨_, ho0⟩ k0 (by simp [Hd.blks, hbk])
      · exact hx.2.1 1 _ ⟨_, ho1⟩ hk1 hbk
    | succ n => simp at hk', hx.2.2⟩
  have hvr2 : R.r.VR C2 y := VR.plainB (C := st.cx E w' hs') (C' := C2) rfl hSh2 (fun u off hu => by
    unfold AV.VR at hu ⊢
    refine ⟨by simp [C2], fun o _ => ?_⟩
    obtain ⟨b', hb', e⟩ := hu.2 _ ho0
    have k0' : hs'[0]? = some (.ptr b) := k0
    have : b' = b := by
      have e0 : (st.cx E w' hs').hs = hs' := rfl
      rw [e0, k0'] at hb'
      rcases hb' with hb' | ⟨y, hb'⟩ <;> simp at hb'
      exact hb'.symm
    subst this
    exact ⟨b', .inr ⟨v', rfl⟩, e⟩) hpr h2
  have wok2 : WOK w [.buf b v] C2 := {
    b0 := rfl, os := hr.wok.os, tape := hr.wok.tape, output := hr.wok.output, size := hr.wok.size, len := rfl
    frame := fun x hx hp => hr.wok.frame x hx (fun k hk => by
      have := hp _ (List.mem_singleton.2 rfl)
      simp only [Hd.blks, List.mem_cons, not_or] at this
      have hk' : k ∈ [Hd.ptr b, Hd.row v] := hk
      simp only [List.mem_cons, List.not_mem_nil, or_false] at hk'
      rcases hk' with rfl | rfl
      · simp only [Hd.blks, List.mem_cons, List.not_mem_nil, or_false]; exact this.1
      · exact this.2)
    objs := fun n o k e1 e2 => by
      cases n with
      | zero =>
        simp [C2] at e1 e2
        subst e1
        subst e2
        exact ⟨hc', rfl, hxs', fl', RL_flat hxs' hRL', hown'⟩
      | succ n => simp [C2] at e1
    dist := fun n m k k' hnm ⟨o1, h1⟩ ⟨o2, h2⟩ => by
      have h1' : n < 1 := by have := (List.getElem?_eq_some_iff.1 h1).1; simpa [C2] using this
      have h2' : m < 1 := by have := (List.getElem?_eq_some_iff.1 h2).1; simpa [C2] using this
      omega
    new := fun n k ⟨o, e1⟩ e2 x hx => by
      cases n with
      | zero =>
        simp [C2] at e2
        subst e2
        simp only [Hd.blks, List.mem_cons] at hx
        rcases hx with rfl | hx
        · exact .inr ⟨by simp, _, List.mem_singleton.2 rfl, by simp [Hd.blks]⟩
        · rcases hr.wok.new 1 _ ⟨_, ho1⟩ hk1 x hx with h3 | ⟨_, p, hp, hxp⟩
          · exact .inl h3
          · refine .inr ⟨by simp, _, List.mem_singleton.2 rfl, ?_⟩
            have hp' : p ∈ [Hd.ptr b, Hd.row v] := hp
            simp only [List.mem_cons, List.not_mem_nil, or_false] at hp'
            rcases hp' with rfl | rfl
            · simp only [Hd.blks, List.mem_cons, List.not_mem_nil, or_false] at hxp ⊢; exact .inl hxp
            · simp only [Hd.blks, List.mem_cons] at hxp ⊢; exact .inr hxp
      | succ n => simp [C2] at e1
    plen := Nat.le_refl _
    parP := fun i x e => by cases i <;> simp at e
    parB := fun i x u e => by
      cases i with
      | zero => simp at e; obtain ⟨rfl, rfl⟩ := e; exact ⟨v', rfl⟩
      | succ i => simp at e
    parR := fun i x E' sz fr xs0 e _ => by cases i <;> simp at e }
  have fin : a.defers = [] ∧ ∃ y', (results fn a.tmps).run P w' = .ok y' w' ∧ ∃ v_1 obs' hs'_1, Ending.returned y' = .returned v_1 ∧ WOK w [.buf b v] ⟨w', w.heap.size, old, obs', hs'_1⟩ ∧
      R.r.VR ⟨w', w.heap.size, old, obs', hs'_1⟩ v_1 ∧ (∀ ob, R.o = some ob → obs'[0]? = some (some ob)) :=
    ⟨hr.df, y, h1, y, _, _, rfl, wok2, hvr2, fun ob e => by rw [hRo] at e; cases e; rfl⟩
  rcases he with rfl | rfl
  · exact fin
  · exact fin

/-- A region that draws its order, at a body's end. -/
theorem AWP.dn {P : Program} {E : En} {Q : Exit → St → Prop} {st : St} {G : Cfg} (hG : G.OK P) (own ks : List Nat) (hm : P.follows .mixedOrders = true) {id : Nat} {ops : List Oper} (hd : dstOK E.N ops = true)
    (h : ∀ K : St → Prop, (∀ st, Q .normal (st.keep ks) → K st) → evalD G own ops K ops 0 st []) : AWP P E (.region id ops.toArray true) Q st := fun a w hs hr => by
  have h1 := AWP.draw hG own hm hd (Q := fun e st => match e with | .normal => Q .normal (st.keep ks) | e => Q e st) (id := id) (fun K hK => h K fun st hst => hK st hst) a w hs hr
  refine Code.wp_mono (fun e a w ⟨st, hs, hr, hq⟩ => ?_) h1
  cases e with
  | normal => exact ⟨_, hs, hr.weak (Weak.keep ks st), hq⟩
  | _ => exact ⟨st, hs, hr, hq⟩

theorem VL.setv {C : Cx} {a : AV} {v : Value} : ∀ {as : List AV} {vs : List Value} {j : Nat}, AV.VL C as vs → vs[j]? = some v → a.VR C v → AV.VL C (as.set j a) vs
  | [], vs, j, h, _, _ => by simpa using h
  | x :: as, vs, j, h, hj, ha => by
    unfold AV.VL at h
    obtain ⟨y, rest, rfl, h1, h2⟩ := h
    cases j with
    | zero =>
      simp at hj
      subst hj
      simp only [List.set_cons_zero]
      unfold AV.VL
      exact ⟨y, rest, rfl, ha, h2⟩
    | succ j =>
      simp only [List.set_cons_succ]
      unfold AV.VL
      exact ⟨y, rest, rfl, h1, VL.setv h2 (by simpa using hj) ha⟩

/-- nil in a cell, as an own row. -/
theorem AWP.adoptC {P : Program} {E : En} {Q : Exit → St → Prop} {st : St} {c : Code} (m j e sz : Nat) (hz : 0 < sz) {Et : Nat} {cs : List AV} {fr : Bool} (ho : st.obs[m]? = some (some (.cells Et cs))) (hj : cs[j]? = some (.d fr (.v (.slice none 0 0))))
    (h : AWP P E c Q ⟨st.env, (st.obs ++ [some (Ob.row e sz 0 true [])]).set m (some (.cells Et (cs.set j (.own st.obs.length 0))))⟩) : AWP P E c Q st := fun a w hs hr => by
  have hlen : st.obs.length = hs.length := hr.wok.len
  have hm : m < st.obs.length := (List.getElem?_eq_some_iff.1 ho).1
  have hor : (Ob.row e sz 0 true []).OR ((st.cx E w hs).add w (.row e sz 0 true []) (.row (.slice none 0 0))) (.row (.slice none 0 0)) :=
    ⟨hz, by simp, [], by unfold Dat.RL; rfl, by simp, .inl ⟨rfl, rfl⟩⟩
  have hb : Below w.heap.size w w := Below.refl _ _
  have le := Cx.Le.add (C := st.cx E w hs) (o := .row e sz 0 true []) (h := .row (.slice none 0 0)) hlen hb (by simp [Hd.blks, Value.ownBlock])
  have wok := hr.wok.add hb (k := .row (.slice none 0 0)) (by simp [Hd.blks, Value.ownBlock]) hor
  have hr1 : Rel E ⟨st.env, st.obs ++ [some (.row e sz 0 true [])]⟩ a w (hs ++ [.row (.slice none 0 0)]) := hr.le le wok
  have ho1 : (st.obs ++ [some (.row e sz 0 true [])])[m]? = some (some (.cells Et cs)) := by rw [List.getElem?_append_left hm]; exact ho
  obtain ⟨hd, e3, h3⟩ := hr1.obj ho1
  obtain ⟨b, rfl, vs, hc, hv, h1⟩ := OR.cells_val h3
  obtain ⟨vj, hvj, hvr⟩ := VL.get hv hj
  have hnil : vj = .slice none 0 0 := vr_int hvr
  subst hnil
  have hw : Wrote w w (Hd.ptr b).blks := ⟨rfl, rfl, rfl, Nat.le_refl _, fun _ _ _ => rfl⟩
  have hf : (Ob.cells Et cs).follows (.ptr b) (.cells Et (cs.set j (.own st.obs.length 0))) (.ptr b) :=
    ⟨fun E2 sz2 γ2 fr2 xs2 e => (by cases e), fun b e => e, fun b q e => (by cases e)⟩
  have le2 := Cx.Le.setO (C := (St.mk st.env (st.obs ++ [some (Ob.row e sz 0 true [])])).cx E w (hs ++ [Hd.row (.slice none 0 0)])) (o' := .cells Et (cs.set j (.own st.obs.length 0))) hr1.wok.len ho1 e3 hw (fun b hb => .inl hb) hf
  have wok2 := hr1.wok.setO ho1 e3 hw (fun b hb => .inl hb) hf (o' := .cells Et (cs.set j (.own st.obs.length 0))) (by
    refine ⟨vs, hc, VL.setv (AV.VL.le le2 _ _ hv) hvj ?_, h1⟩
    unfold AV.VR
    refine ⟨by simp [St.cx, Cx.setO], fun E2 sz2 γ0 fr2 xs2 he => ?_⟩
    have hne : m ≠ st.obs.length := by omega
    have he' : ((st.obs ++ [some (Ob.row e sz 0 true [])]).set m (some (.cells Et (cs.set j (.own st.obs.length 0)))))[st.obs.length]? = some (some (.row E2 sz2 γ0 fr2 xs2)) := he
    rw [List.getElem?_set_ne hne, List.getElem?_append_right (Nat.le_refl _), Nat.sub_self] at he'
    simp at he'
    obtain ⟨_, _, rfl, _, _⟩ := he'
    refine ⟨Nat.le_refl _, fun _ => ?_⟩
    show ((hs ++ [Hd.row (.slice none 0 0)]).set m (.ptr b))[st.obs.length]? = _
    rw [List.getElem?_set_ne hne, hlen, List.getElem?_append_right (Nat.le_refl _), Nat.sub_self]
    rfl)
  exact h a w _ (hr1.le le2 wok2)

/-- Cells that hold nil alone, as a buffer: the object goes, another comes in its place. -/
theorem AWP.tobuf {P : Program} {E : En} {Q : Exit → St → Prop} {st : St} {c : Code} (t m Er : Nat) {Et : Nat} {fr : Bool} (hm : E.ps.length ≤ m) (hl : look t st.env = .ptr m 0) (ho : st.obs[m]? = some (some (.cells Et [.d fr (.v (.slice none 0 0))])))
    (h : AWP P E c Q ⟨(t, .ptr st.obs.length 0) :: st.env, st.obs.set m none ++ [some (.buf Et Er 1 [])]⟩) : AWP P E c Q st := fun a w hs hr => by
  have hlen : st.obs.length = hs.length := hr.wok.len
  have hmlt : m < st.obs.length := (List.getElem?_eq_some_iff.1 ho).1
  obtain ⟨hd, e3, h3⟩ := hr.obj ho
  obtain ⟨b, rfl, vs, hc, hv, h1⟩ := OR.cells_val h3
  have e3 : hs[m]? = some (.ptr b) := e3
  obtain ⟨v0, hv0, hvr⟩ := VL.get (i := 0) hv rfl
  have hnil : v0 = .slice none 0 0 := vr_int hvr
  subst hnil
  have hvs : vs = [.slice none 0 0] := by
    have := VL.len hv
    match vs, this, hv0 with
    | [y], _, e => simp at e; rw [e]
  subst hvs
  let obs2 := st.obs.set m none ++ [some (.buf Et Er 1 [])]
  let hs2 := hs ++ [Hd.buf b (.slice none 0 0)]
  let C := st.cx E w hs
  let C2 : Cx := ⟨w, E.w0.heap.size, E.old, obs2, hs2⟩
  have am : C.alive m := ⟨_, ho⟩
  have get : ∀ (n : Nat) (o : Ob), obs2[n]? = some (some o) → (n < st.obs.length ∧ n ≠ m ∧ st.obs[n]? = some (some o)) ∨ (n = st.obs.length ∧ o = .buf Et Er 1 []) := by
    intro n o e
    simp only [obs2] at e
    by_cases hn : n < st.obs.length
    · rw [List.getElem?_append_left (by simpa using hn)] at e
      have hne : n ≠ m := by
        rintro rfl
        rw [List.getElem?_set_self hn] at e
        cases e
      rw [List.getElem?_set_ne (Ne.symm hne)] at e
      exact .inl ⟨hn, hne, e⟩
    · rw [List.getElem?_append_right (by simpa using hn)] at e
      have h0 : n - (st.obs.set m none).length = 0 := by
        have := (List.getElem?_eq_some_iff.1 e).1
        simp at this ⊢; omega
      rw [h0] at e
      simp at e h0
      exact .inr ⟨by omega, e.symm⟩
  have hget : ∀ (n : Nat) (k : Hd), hs2[n]? = some k → (n < st.obs.length ∧ hs[n]? = some k) ∨ (n = st.obs.length ∧ k = .buf b (.slice none 0 0)) := by
    intro n k e
    simp only [hs2] at e
    by_cases hn : n < st.obs.length
    · rw [List.getElem?_append_left (by omega)] at e
      exact .inl ⟨hn, e⟩
    · rw [List.getElem?_append_right (by omega)] at e
      have h0 : n - hs.length = 0 := by
        have := (List.getElem?_eq_some_iff.1 e).1
        simp at this; omega
      rw [h0] at e
      simp at e
      exact .inr ⟨by omega, e.symm⟩
  have hSh : ∀ fr x, C.Sh fr x → C2.Sh fr x := fun fr x hx => ⟨hx.1, fun n k ⟨o, ho2⟩ hk hbk => by
    rcases get n o ho2 with ⟨hn, hne, ho3⟩ | ⟨hn, _⟩
    · rcases hget n k hk with ⟨_, hk'⟩ | ⟨hn', _⟩
      · exact hx.2.1 n k ⟨o, ho3⟩ hk' hbk
      · omega
    · rcases hget n k hk with ⟨hn', _⟩ | ⟨_, rfl⟩
      · omega
      · simp [Hd.blks, Value.ownBlock] at hbk
        subst hbk
        exact hx.2.1 m (.ptr x) am e3 (by simp [Hd.blks]), hx.2.2⟩
  have le : C.Le C2 := {
    b0 := rfl, old := rfl
    len := by simp [C, C2, St.cx, obs2]
    sh := fun fr x hx => ⟨hSh fr x hx, rfl⟩
    row := fun n E' sz γ fr' xs hn e => by
      have hn' : n < st.obs.length := hn
      rcases get n _ e with ⟨_, _, e'⟩ | ⟨hn2, _⟩
      · exact ⟨E', sz, γ, fr', xs, e', Nat.le_refl _, fun _ => by show hs2[n]? = hs[n]?; simp only [hs2]; rw [List.getElem?_append_left (by omega)]⟩
      · omega
    ptr := fun n o hn e => by
      have hn' : n < st.obs.length := hn
      rcases get n _ e with ⟨_, _, e'⟩ | ⟨hn2, _⟩
      · have hh : hs2[n]? = hs[n]? := by simp only [hs2]; rw [List.getElem?_append_left (by omega)]
        exact ⟨⟨o, e'⟩, fun x => ⟨fun g => by show hs2[n]? = _; rw [hh]; exact g, fun u g => ⟨u, by show hs2[n]? = _; rw [hh]; exact g⟩⟩⟩
      · omega }
  have hw := hr.wok
  have wok2 : WOK E.w0 E.ps C2 := {
    b0 := rfl, os := hw.os, tape := hw.tape, output := hw.output, size := hw.size
    len := by simp [C2, obs2, hs2, hlen]
    frame := hw.frame
    objs := fun n o k e1 e2 => by
      rcases get n o e1 with ⟨hn, hne, ho3⟩ | ⟨hn, rfl⟩
      · rcases hget n k e2 with ⟨_, hk'⟩ | ⟨hn', _⟩
        · exact (hw.objs n o k ho3 hk').le le fun _ _ => rfl
        · omega
      · rcases hget n k e2 with ⟨hn', _⟩ | ⟨_, rfl⟩
        · omega
        · exact ⟨hc, rfl, (fun x hx => by cases hx), [], (by unfold Dat.RL; rfl), by simp, .inl ⟨rfl, rfl⟩⟩
    dist := fun n n' k k' hnn ⟨o, ho2⟩ ⟨o', ho2'⟩ hk hk' x hx hx' => by
      have key : ∀ (n : Nat) (o : Ob) (k : Hd), obs2[n]? = some (some o) → hs2[n]? = some k → x ∈ k.blks → ∃ q k0, C.alive q ∧ hs[q]? = some k0 ∧ x ∈ k0.blks ∧ (q = n ∨ (q = m ∧ n = st.obs.length)) ∧ n ≠ m := by
        intro n o k e1 e2 hx
        rcases get n o e1 with ⟨hn, hne, ho3⟩ | ⟨hn, rfl⟩
        · rcases hget n k e2 with ⟨_, hk'⟩ | ⟨hn', _⟩
          · exact ⟨n, k, ⟨o, ho3⟩, hk', hx, .inl rfl, hne⟩
          · omega
        · rcases hget n k e2 with ⟨hn', _⟩ | ⟨_, rfl⟩
          · omega
          · exact ⟨m, .ptr b, am, e3, by simpa [Hd.blks, Value.ownBlock] using hx, .inr ⟨rfl, hn⟩, by omega⟩
      obtain ⟨q, k0, aq, hq, hxq, hqn, hnm⟩ := key n o k ho2 hk hx
      obtain ⟨q', k0', aq', hq', hxq', hqn', hnm'⟩ := key n' o' k' ho2' hk' hx'
      refine hw.dist q q' k0 k0' ?_ aq aq' hq hq' x hxq hxq'
      rcases hqn with rfl | ⟨rfl, e1⟩ <;> rcases hqn' with rfl | ⟨rfl, e2⟩
      · exact hnn
      · exact hnm
      · exact Ne.symm hnm'
      · omega
    new := fun n k ⟨o, ho2⟩ hk x hx => by
      rcases get n o ho2 with ⟨hn, hne, ho3⟩ | ⟨hn, rfl⟩
      · rcases hget n k hk with ⟨_, hk'⟩ | ⟨hn', _⟩
        · exact hw.new n k ⟨o, ho3⟩ hk' x hx
        · omega
      · rcases hget n k hk with ⟨hn', _⟩ | ⟨_, rfl⟩
        · omega
        · rcases hw.new m _ am e3 x (by simpa [Hd.blks, Value.ownBlock] using hx) with h4 | ⟨h4, _⟩
          · exact .inl h4
          · omega
    plen := by have := hw.plen; show E.ps.length ≤ hs2.length; have h5 : E.ps.length ≤ hs.length := this; simp [hs2]; omega
    parP := fun i x e => by
      have h4 := hw.parP i x e
      have h5 : hs[i]? = some (.ptr x) := h4
      show hs2[i]? = _
      simp only [hs2]
      rw [List.getElem?_append_left (List.getElem?_eq_some_iff.1 h5).1]
      exact h5
    parB := fun i x u e => by
      obtain ⟨u', h4⟩ := hw.parB i x u e
      have h5 : hs[i]? = some (.buf x u') := h4
      refine ⟨u', ?_⟩
      show hs2[i]? = _
      simp only [hs2]
      rw [List.getElem?_append_left (List.getElem?_eq_some_iff.1 h5).1]
      exact h5
    parR := fun i x E' sz fr' xs e e2 => by
      rcases get i _ e2 with ⟨hn, hne, ho3⟩ | ⟨hn, e4⟩
      · have h5 : hs[i]? = some (.row x) := hw.parR i x E' sz fr' xs e ho3
        show hs2[i]? = _
        simp only [hs2]
        rw [List.getElem?_append_left (List.getElem?_eq_some_iff.1 h5).1]
        exact h5
      · cases e4 }
  refine h a w hs2 ⟨wok2, hr.df, hr.size, fun q => ?_⟩
  simp only [look]
  split
  · rename_i eq
    subst eq
    have hv2 := hr.env q
    rw [hl] at hv2
    unfold AV.VR at hv2 ⊢
    refine ⟨by simp [St.cx], fun o _ => ?_⟩
    obtain ⟨b', hb', e⟩ := hv2.2 _ ho
    have : b' = b := by
      have e0 : (st.cx E w hs).hs = hs := rfl
      rw [e0, e3] at hb'
      rcases hb' with hb' | ⟨y, hb'⟩ <;> simp at hb'
      exact hb'.symm
    subst this
    refine ⟨b', .inr ⟨.slice none 0 0, ?_⟩, e⟩
    show hs2[st.obs.length]? = _
    simp only [hs2, hlen]
    rw [List.getElem?_append_right (Nat.le_refl _), Nat.sub_self]
    rfl
  · exact AV.VR.le (C := C) le _ _ (hr.env q)
end Go.AM
