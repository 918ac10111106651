/- AM, part 3: the state of a function under way, what is forgotten, values read off; the query trees. -/
import Derived.Test.YtmfobkiljlepjaaA2
set_option linter.unusedVariables false
set_option linter.unusedSimpArgs false
namespace Go.AM
open Go Go.RowKit

/-- Objects may go. -/
def Cx.sub (C : Cx) (obs' : List (Option Ob)) : Cx := { C with obs := obs' }
def Sub (obs obs' : List (Option Ob)) : Prop := obs'.length = obs.length ∧ ∀ (m : Nat) (o : Ob), obs'[m]? = some (some o) → obs[m]? = some (some o)

theorem Cx.Le.sub {C : Cx} {obs' : List (Option Ob)} (h : Sub C.obs obs') : C.Le (C.sub obs') where
  b0 := rfl
  old := rfl
  len := by simp [Cx.sub, h.1]
  sh := fun fr b hs => ⟨⟨hs.1, fun n k ⟨o, ho⟩ hk => hs.2.1 n k ⟨o, h.2 n o ho⟩ hk, hs.2.2⟩, rfl⟩
  row := fun n E sz γ fr xs _ e => ⟨E, sz, γ, fr, xs, h.2 _ _ e, Nat.le_refl _, fun _ => rfl⟩
  ptr := fun n o _ e => ⟨⟨o, h.2 _ _ e⟩, fun b => ⟨fun g => g, fun u g => ⟨u, g⟩⟩⟩

theorem WOK.sub {w0 : World} {ps : List Hd} {C : Cx} (h : WOK w0 ps C) {obs' : List (Option Ob)} (hs : Sub C.obs obs') : WOK w0 ps (C.sub obs') where
  b0 := h.b0
  os := h.os
  tape := h.tape
  output := h.output
  size := h.size
  len := hs.1.trans h.len
  frame := h.frame
  objs := fun n o k ho hk => (h.objs n o k (hs.2 _ _ ho) hk).le (Cx.Le.sub hs) fun _ _ => rfl
  dist := fun n m i j hnm ⟨o1, h1⟩ ⟨o2, h2⟩ => h.dist n m i j hnm ⟨o1, hs.2 _ _ h1⟩ ⟨o2, hs.2 _ _ h2⟩
  new := fun n k ⟨o, ho⟩ => h.new n k ⟨o, hs.2 _ _ ho⟩
  plen := h.plen
  parP := h.parP
  parB := h.parB
  parR := fun i v E sz fr xs e e2 => h.parR i v E sz fr xs e (hs.2 _ _ e2)

theorem Sub.kill {obs : List (Option Ob)} (n : Nat) : Sub obs (obs.set n none) := by
  refine ⟨by simp, fun m o h => ?_⟩
  by_cases e : n = m
  · subst e
    rw [List.getElem?_set] at h
    split at h
    · split at h <;> simp at h
    · contradiction
  · simpa [List.getElem?_set, e] using h

/- The names that a value bears lie below m. -/
mutual
def AV.lt (m : Nat) : AV → Bool
  | .own n _ => n < m
  | .ptr n _ => n < m
  | .elt n _ _ _ _ => n < m
  | .agg fs => AV.ltL m fs
  | .tup fs => AV.ltL m fs
  | .fn _ fs => AV.ltL m fs
  | .when _ a => a.lt m
  | .junk => true
  | .d _ _ => true
  | .sel _ _ => true
def AV.ltL (m : Nat) : List AV → Bool
  | [] => true
  | a :: as => a.lt m && AV.ltL m as
end

end Go.AM
namespace Go.AM
open Go Go.RowKit

/-! ### Labels -/
theorem Dat.RF.weak {C : Cx} {fr g : Bool} {fs : List Dat} {cs : List Value} (h : Dat.RF C.w (C.Sh fr) fs cs) : Dat.RF C.w (C.Sh (fr && g)) fs cs :=
  h.stable (fun b hb => ⟨by cases fr <;> cases g <;> first | exact hb | exact hb.any, rfl⟩)
theorem Dat.RF.weak' {C : Cx} {fr g : Bool} {fs : List Dat} {cs : List Value} (h : Dat.RF C.w (C.Sh fr) fs cs) : Dat.RF C.w (C.Sh (g && fr)) fs cs :=
  h.stable (fun b hb => ⟨by cases fr <;> cases g <;> first | exact hb | exact hb.any, rfl⟩)
theorem Dat.RL.weak {C : Cx} {fr g : Bool} {fs : List Dat} {cs : List Value} (h : Dat.RL C.w (C.Sh fr) fs cs) : Dat.RL C.w (C.Sh (fr && g)) fs cs :=
  h.stable (fun b hb => ⟨by cases fr <;> cases g <;> first | exact hb | exact hb.any, rfl⟩)
theorem Dat.RL.weak' {C : Cx} {fr g : Bool} {fs : List Dat} {cs : List Value} (h : Dat.RL C.w (C.Sh fr) fs cs) : Dat.RL C.w (C.Sh (g && fr)) fs cs :=
  h.stable (fun b hb => ⟨by cases fr <;> cases g <;> first | exact hb | exact hb.any, rfl⟩)

/-! ### Cells of values -/
def AV.cellsOf : AV → Option (List AV)
  | .d fr x => some (x.cells.map (.d fr))
  | .agg fs => some fs
  | .own n γ => some [.own n γ]
  | .ptr n o => some [.ptr n o]
  | .fn f c => some [.fn f c]
  | _ => none

theorem VL.of_RF {C : Cx} {fr : Bool} : ∀ {fs : List Dat} {cs : List Value}, Dat.RF C.w (C.Sh fr) fs cs → AV.VL C (fs.map (.d fr)) cs
  | [], cs, h => by unfold Dat.RF at h; subst h; simp [AV.VL]
  | f :: fs, cs, h => by
    unfold Dat.RF at h
    obtain ⟨c, rest, rfl, h0, h1, h2⟩ := h
    simp only [List.map_cons, AV.VL]
    refine ⟨c, rest, rfl, ?_, VL.of_RF h2⟩
    unfold AV.VR
    exact DV.of_one h1 (fun fs e => by subst e; simp [Dat.nagg] at h0)

theorem DV.nil_cells {w : World} {B : Nat → Prop} {d : Dat} {v : Value} (h : DV w B d v) (hn : d.nagg = true) : v.oneCell' = true ∧ v.cells = #[v] ∧ Dat.R w B d [v] := by
  cases d with
  | agg fs => simp [Dat.nagg] at hn
  | v x =>
    obtain ⟨rfl, h2⟩ := DV.v_iff.1 h
    refine ⟨h2, ?_, h⟩
    cases v <;> first | rfl | simp [Value.oneCell'] at h2
  | sl sz xs =>
    have h' : Dat.R w B (.sl sz xs) [v] := h
    have h2 := h'
    unfold Dat.R at h2
    obtain ⟨A, c, h3, _⟩ := h2
    have e : v = .slice A xs.length c := by simpa using h3
    subst e
    exact ⟨rfl, rfl, h'⟩

theorem oneCell_cells {v : Value} (h : v.oneCell' = true) : v.cells = #[v] := by
  cases v <;> first | rfl | simp [Value.oneCell'] at h

/-- A value's cells, told. -/
theorem VR.cells {C : Cx} {a : AV} {v : Value} (h : a.VR C v) {fs : List AV} (hc : a.cellsOf = some fs)
    (hrow : ∀ n γ, a = .own n γ → ∃ E sz fr xs, C.obs[n]? = some (some (.row E sz γ fr xs)))
    (hptr : ∀ n o, a = .ptr n o → C.alive n) (hwok : ∀ n k, C.hs[n]? = some (Hd.row k) → C.alive n → k.oneCell' = true) :
    AV.VL C fs v.cells.toList ∧ ∀ u ∈ v.cells.toList, u.oneCell' = true := by
  cases a with
  | d fr x =>
    simp only [AV.cellsOf, Option.some.injEq] at hc
    subst hc
    unfold AV.VR at h
    have h1 := Dat.RF.cells.2 h.cells
    exact ⟨VL.of_RF h1, Dat.RF.one _ _ h1⟩
  | agg gs =>
    simp only [AV.cellsOf, Option.some.injEq] at hc
    subst hc
    unfold AV.VR at h
    obtain ⟨cs, rfl, h1, h2⟩ := h
    exact ⟨h1, h2⟩
  | own n γ =>
    simp only [AV.cellsOf, Option.some.injEq] at hc
    subst hc
    obtain ⟨E, sz, fr, xs, e⟩ := hrow n γ rfl
    have h' := h
    unfold AV.VR at h'
    have h1 := (h'.2 _ _ _ _ _ e).2 rfl
    have h2 := hwok n v h1 ⟨_, e⟩
    rw [oneCell_cells h2]
    simp [AV.VL, h, h2]
  | ptr n o =>
    simp only [AV.cellsOf, Option.some.injEq] at hc
    subst hc
    obtain ⟨ob, e⟩ := hptr n o rfl
    have h' := h
    unfold AV.VR at h'
    obtain ⟨b, _, rfl⟩ := h'.2 ob e
    have : (Value.pointer (some ⟨b, o, none⟩)).cells = #[.pointer (some ⟨b, o, none⟩)] := rfl
    rw [this]
    simp [AV.VL, h, Value.oneCell']
  | fn f c =>
    simp only [AV.cellsOf, Option.some.injEq] at hc
    subst hc
    have h' := h
    unfold AV.VR at h'
    obtain ⟨cs, rfl, h2⟩ := h'
    have : (Value.func (.func f) #[] cs).cells = #[.func (.func f) #[] cs] := rfl
    rw [this]
    simp [AV.VL, h, Value.oneCell']
  | _ => simp [AV.cellsOf] at hc

def datas : List AV → Option (Bool × List Dat)
  | [] => some (true, [])
  | .d fr x :: as => if x.nagg then (datas as).map (fun p => (fr && p.1, x :: p.2)) else none
  | _ => none

def mkAgg (fs : List AV) : AV := match datas fs with
  | some (fr, xs) => .d fr (.agg xs)
  | none => .agg fs

theorem RF.of_VL {C : Cx} : ∀ {fs : List AV} {cs : List Value} {fr : Bool} {xs : List Dat}, datas fs = some (fr, xs) → AV.VL C fs cs → Dat.RF C.w (C.Sh fr) xs cs
  | [], cs, fr, xs, h, hv => by
    simp only [datas, Option.some.injEq, Prod.mk.injEq] at h
    unfold AV.VL at hv
    rw [← h.2, hv]
    unfold Dat.RF
    rfl
  | .d g x :: as, cs, fr, xs, h, hv => by
    unfold datas at h
    split at h
    · rename_i hn
      obtain ⟨⟨p1, p2⟩, e1, e2⟩ := Option.map_eq_some_iff.1 h
      simp only [Prod.mk.injEq] at e2
      obtain ⟨rfl, rfl⟩ := e2
      unfold AV.VL at hv
      obtain ⟨v, rest, rfl, h1, h2⟩ := hv
      unfold Dat.RF
      unfold AV.VR at h1
      have h3 := DV.nil_cells h1 hn
      exact ⟨v, rest, rfl, hn, Dat.R.stable (fun b hb => ⟨by cases g <;> cases p1 <;> first | exact hb | exact hb.any, rfl⟩) _ _ h3.2.2, (RF.of_VL e1 h2).weak'⟩
    · simp at h
  | .junk :: as, _, _, _, h, _ => by simp [datas] at h
  | .own _ _ :: as, _, _, _, h, _ => by simp [datas] at h
  | .ptr _ _ :: as, _, _, _, h, _ => by simp [datas] at h
  | .elt _ _ _ _ _ :: as, _, _, _, h, _ => by simp [datas] at h
  | .sel _ _ :: as, _, _, _, h, _ => by simp [datas] at h
  | .agg _ :: as, _, _, _, h, _ => by simp [datas] at h
  | .tup _ :: as, _, _, _, h, _ => by simp [datas] at h
  | .fn _ _ :: as, _, _, _, h, _ => by simp [datas] at h
  | .when _ _ :: as, _, _, _, h, _ => by simp [datas] at h

theorem VR.mkAgg {C : Cx} {fs : List AV} {cs : List Value} (h : AV.VL C fs cs) (h1 : ∀ u ∈ cs, u.oneCell' = true) : (mkAgg fs).VR C (.agg cs.toArray) := by
  unfold AM.mkAgg
  split
  · rename_i fr xs e
    unfold AV.VR
    exact ⟨cs.toArray, rfl, by simpa using RF.of_VL e h⟩
  · unfold AV.VR
    exact ⟨cs.toArray, rfl, by simpa using h, by simpa using h1⟩

/-! ### A function under way -/
structure St where
  env : List (Nat × AV)
  obs : List (Option Ob)

def look (t : Nat) : List (Nat × AV) → AV
  | [] => .junk
  | (k, v) :: e => if t = k then v else look t e

def St.put (st : St) (d : Option Nat) (v : AV) : St :=
  match d with
  | some d => ⟨(d, v) :: st.env, st.obs⟩
  | none => st

structure En where
  w0 : World
  old : Nat → Prop
  ps : List Hd
  N : Nat

def St.cx (st : St) (E : En) (w : World) (hs : List Hd) : Cx := ⟨w, E.w0.heap.size, E.old, st.obs, hs⟩

structure Rel (E : En) (st : St) (a : Act) (w : World) (hs : List Hd) : Prop where
  wok : WOK E.w0 E.ps (st.cx E w hs)
  df : a.defers = []
  size : a.tmps.size = E.N
  env : ∀ t, (look t st.env).VR (st.cx E w hs) (a.tmps.getD t undef)

theorem Rel.put {E : En} {st : St} {a : Act} {w : World} {hs : List Hd} (h : Rel E st a w hs) {av : AV} {v : Value} (hv : av.VR (st.cx E w hs) v) (d : Option Nat) (hd : ∀ t, d = some t → t < E.N) :
    Rel E (st.put d av) (a.put d v) w hs := by
  cases d with
  | none => exact h
  | some d =>
    have hd := hd d rfl
    refine ⟨h.wok, h.df, by simp [Act.put, h.size], fun t => ?_⟩
    simp only [St.put, look, Act.put]
    split
    · rename_i e
      subst e
      have : (a.tmps.setIfInBounds t v).getD t undef = v := by
        have : t < a.tmps.size := by rw [h.size]; exact hd
        simp [Array.getElem?_setIfInBounds, this]
      rw [this]
      exact hv
    · rename_i e
      have : (a.tmps.setIfInBounds d v).getD t undef = a.tmps.getD t undef := by
        simp [Array.getElem?_setIfInBounds, Ne.symm e]
      rw [this]
      exact h.env t

/-- The world has turned; what is known stays known. -/
theorem Rel.le {E : En} {st : St} {a : Act} {w : World} {hs : List Hd} (h : Rel E st a w hs) {obs' : List (Option Ob)} {w' : World} {hs' : List Hd}
    (hle : (st.cx E w hs).Le ⟨w', E.w0.heap.size, E.old, obs', hs'⟩) (hwok : WOK E.w0 E.ps ⟨w', E.w0.heap.size, E.old, obs', hs'⟩) : Rel E ⟨st.env, obs'⟩ a w' hs' :=
  ⟨hwok, h.df, h.size, fun t => AV.VR.le hle _ _ (h.env t)⟩


/-! ### data that bears no memory -/
def Dat.isV : Dat → Bool
  | .v _ => true
  | _ => false
def Dat.flat : Dat → Bool
  | .v _ => true
  | .agg fs => fs.all Dat.isV
  | .sl _ _ => false

theorem RF_flat {w w' : World} {B B' : Nat → Prop} : ∀ {fs : List Dat} {cs : List Value}, fs.all Dat.isV = true → Dat.RF w B fs cs → Dat.RF w' B' fs cs
  | [], cs, _, h => by unfold Dat.RF at h ⊢; exact h
  | x :: fs, cs, hf, h => by
    simp only [List.all_cons, Bool.and_eq_true] at hf
    unfold Dat.RF at h ⊢
    obtain ⟨c, rest, e, h0, h1, h2⟩ := h
    refine ⟨c, rest, e, h0, ?_, RF_flat hf.2 h2⟩
    cases x with
    | v x => unfold Dat.R at h1 ⊢; exact h1
    | sl sz xs => simp [Dat.isV] at hf
    | agg fs => simp [Dat.isV] at hf
theorem R_flat {w w' : World} {B B' : Nat → Prop} {x : Dat} {cs : List Value} (hf : x.flat = true) (h : Dat.R w B x cs) : Dat.R w' B' x cs := by
  cases x with
  | v x => unfold Dat.R at h ⊢; exact h
  | agg fs => unfold Dat.R at h ⊢; exact RF_flat hf h
  | sl sz xs => simp [Dat.flat] at hf
theorem RL_allflat {w w' : World} {B B' : Nat → Prop} : ∀ {xs : List Dat} {cs : List Value}, xs.all Dat.flat = true → Dat.RL w B xs cs → Dat.RL w' B' xs cs
  | [], cs, _, h => by unfold Dat.RL at h ⊢; exact h
  | x :: xs, cs, hf, h => by
    simp only [List.all_cons, Bool.and_eq_true] at hf
    unfold Dat.RL at h ⊢
    obtain ⟨c1, c2, e, h1, h2⟩ := h
    exact ⟨c1, c2, e, R_flat hf.1 h1, RL_allflat hf.2 h2⟩
theorem DV_flat {w w' : World} {B B' : Nat → Prop} {x : Dat} {v : Value} (hf : x.flat = true) (h : DV w B x v) : DV w' B' x v := by
  cases x with
  | v x => exact DV.v_iff.2 (DV.v_iff.1 h)
  | agg fs =>
    obtain ⟨cs, e, h2⟩ := h
    exact ⟨cs, e, RF_flat hf h2⟩
  | sl sz xs => simp [Dat.flat] at hf

end Go.AM
