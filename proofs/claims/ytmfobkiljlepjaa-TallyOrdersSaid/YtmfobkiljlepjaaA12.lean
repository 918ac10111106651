/- AM, part 12: calls. -/
import Derived.Test.YtmfobkiljlepjaaA11
set_option linter.unusedVariables false
set_option linter.unusedSimpArgs false
namespace Go.AM
open Go Go.RowKit

/-- What a call comes to: what it asks; its result; its object at the end (the one handed in, or a new one). -/
structure Res where
  pre : Prop
  r : AV
  o : Option Ob

abbrev FT := FuncId → List AV → Option Ob → Option Res

def entryCx (w : World) (old : Nat → Prop) (i : Option Ob) (hs : List Hd) : Cx := ⟨w, w.heap.size, old, i.toList.map some, hs⟩

def Spec (P : Program) (f : FuncId) (args : List AV) (i : Option Ob) (R : Res) : Prop :=
  ∀ (w : World) (old : Nat → Prop) (hs : List Hd) (vals : List Value),
    WOK w hs (entryCx w old i hs) → AV.VL (entryCx w old i hs) args vals → R.pre →
    Calls P f vals.toArray w fun e w' => ∃ v obs' hs', e = .returned v ∧ WOK w hs ⟨w', w.heap.size, old, obs', hs'⟩ ∧
      R.r.VR ⟨w', w.heap.size, old, obs', hs'⟩ v ∧ (∀ ob, R.o = some ob → obs'[0]? = some (some ob))

def FOK (P : Program) (F : FT) : Prop := ∀ f args i R, F f args i = some R →
  (∃ fn, P.funcs[f]? = some fn ∧ (fn.name == "runtime.NumGoroutine") = false ∧ fn.body.isNone = false) ∧ Spec P f args i R

/-! ### what goes in and out -/
def AV.hiD : AV → Bool
  | .d fr _ => fr
  | _ => false
def AV.isD : AV → Bool
  | .d _ _ => true
  | _ => false
def loL : List AV → Option (List AV)
  | [] => some []
  | .d _ x :: as => (loL as).map (.d x.flat x :: ·)
  | _ => none
def Ob.isRow : Ob → Bool
  | .row _ _ _ _ _ => true
  | _ => false
def Ob.inn : Ob → Option Ob
  | .row E sz _ _ xs => some (.row E sz 0 false xs)
  | .cells E cs => (loL cs).map (.cells E)
  | .buf E Er szr xs => some (.buf E Er szr xs)
def Ob.gam : Ob → Nat
  | .row _ _ γ _ _ => γ
  | _ => 0
def Ob.out (γ : Nat) : Ob → Ob
  | .row E sz g fr xs => .row E sz (γ + g) fr xs
  | o => o
def Ob.hi : Ob → Bool
  | .row _ _ _ fr _ => fr
  | .cells _ cs => cs.all AV.hiD
  | .buf _ _ _ _ => true
def Ob.data : Ob → Bool
  | .cells _ cs => cs.all AV.isD
  | _ => true
def Ob.alike : Ob → Ob → Bool
  | .row _ _ _ _ _, .row _ _ _ _ _ => true
  | .cells _ _, .cells _ _ => true
  | .buf _ _ _ _, .buf _ _ _ _ => true
  | _, _ => false

def AV.ren (m : Option Nat) (g : Nat) : AV → Option AV
  | .d fr x => some (.d fr x)
  | .ptr 0 off => m.map fun m => .ptr m off
  | .own 0 γ => m.map fun m => .own m (g + γ)
  | _ => none
def renL (m : Option Nat) (g : Nat) : List AV → Option (List AV)
  | [] => some []
  | a :: as => match a.ren m g, renL m g as with
    | some b, some bs => some (b :: bs)
    | _, _ => none
def AV.renT (m : Option Nat) (g : Nat) : AV → Option AV
  | .tup vs => (renL m g vs).map .tup
  | a => a.ren m g
def AV.hi1 : AV → Bool
  | .d fr _ => fr
  | _ => true
def AV.hi : AV → Bool
  | .tup vs => vs.all AV.hi1
  | a => a.hi1

section up
variable {C2 C' : Cx} {low : Bool}

theorem DV.up (hw : C'.w = C2.w) (hS : ∀ fr b, (low = true ∨ fr = true) → C2.Sh fr b → C'.Sh fr b) {fr : Bool} (hl : low = true ∨ fr = true) {x : Dat} {v : Value} (h : DV C2.w (C2.Sh fr) x v) : DV C'.w (C'.Sh fr) x v :=
  h.stable fun b hb => ⟨hS fr b hl hb, by rw [hw]⟩

theorem VR.ren (hw : C'.w = C2.w) (hS : ∀ fr b, (low = true ∨ fr = true) → C2.Sh fr b → C'.Sh fr b) {m : Option Nat} {g : Nat}
    (hp : ∀ n off v, m = some n → (AV.ptr 0 off).VR C2 v → (AV.ptr n off).VR C' v) (ho : ∀ n γ v, m = some n → (AV.own 0 γ).VR C2 v → (AV.own n (g + γ)).VR C' v)
    {a a' : AV} {v : Value} (e : a.ren m g = some a') (hl : low = true ∨ a.hi1 = true) (h : a.VR C2 v) : a'.VR C' v := by
  unfold AV.ren at e
  split at e
  · cases e
    unfold AV.VR at h ⊢
    exact DV.up hw hS hl h
  · obtain ⟨n, rfl, rfl⟩ := Option.map_eq_some_iff.1 e
    exact hp n _ v rfl h
  · obtain ⟨n, rfl, rfl⟩ := Option.map_eq_some_iff.1 e
    exact ho n _ v rfl h
  · cases e

theorem VL.ren (hw : C'.w = C2.w) (hS : ∀ fr b, (low = true ∨ fr = true) → C2.Sh fr b → C'.Sh fr b) {m : Option Nat} {g : Nat}
    (hp : ∀ n off v, m = some n → (AV.ptr 0 off).VR C2 v → (AV.ptr n off).VR C' v) (ho : ∀ n γ v, m = some n → (AV.own 0 γ).VR C2 v → (AV.own n (g + γ)).VR C' v) :
    ∀ {as bs : List AV} {vs : List Value}, renL m g as = some bs → (low = true ∨ as.all AV.hi1 = true) → AV.VL C2 as vs → AV.VL C' bs vs
  | [], bs, vs, e, hl, h => by
    simp only [renL, Option.some.injEq] at e
    subst e
    unfold AV.VL at h ⊢
    exact h
  | a :: as, bs, vs, e, hl, h => by
    unfold renL at e
    split at e
    · rename_i b cs e1 e2
      cases e
      unfold AV.VL at h ⊢
      obtain ⟨v, rest, rfl, h1, h2⟩ := h
      simp only [List.all_cons, Bool.and_eq_true] at hl
      exact ⟨v, rest, rfl, VR.ren hw hS hp ho e1 (hl.imp id And.left) h1, VL.ren hw hS hp ho e2 (hl.imp id And.right) h2⟩
    · cases e

theorem VR.renT (hw : C'.w = C2.w) (hS : ∀ fr b, (low = true ∨ fr = true) → C2.Sh fr b → C'.Sh fr b) {m : Option Nat} {g : Nat}
    (hp : ∀ n off v, m = some n → (AV.ptr 0 off).VR C2 v → (AV.ptr n off).VR C' v) (ho : ∀ n γ v, m = some n → (AV.own 0 γ).VR C2 v → (AV.own n (g + γ)).VR C' v)
    {a a' : AV} {v : Value} (e : a.renT m g = some a') (hl : low = true ∨ a.hi = true) (h : a.VR C2 v) : a'.VR C' v := by
  unfold AV.renT at e
  split at e
  · rename_i vs
    obtain ⟨bs, e1, rfl⟩ := Option.map_eq_some_iff.1 e
    unfold AV.VR at h ⊢
    obtain ⟨cs, rfl, h2⟩ := h
    exact ⟨cs, rfl, VL.ren hw hS hp ho e1 hl h2⟩
  · rename_i hn
    refine VR.ren hw hS hp ho e ?_ h
    cases a <;> first | exact hl | exact (hn _ rfl).elim

theorem VL.up (hw : C'.w = C2.w) (hS : ∀ fr b, (low = true ∨ fr = true) → C2.Sh fr b → C'.Sh fr b) : ∀ {cs : List AV} {vs : List Value}, cs.all AV.isD = true → (low = true ∨ cs.all AV.hiD = true) → AV.VL C2 cs vs → AV.VL C' cs vs
  | [], vs, _, _, h => by unfold AV.VL at h ⊢; exact h
  | a :: as, vs, hd, hl, h => by
    simp only [List.all_cons, Bool.and_eq_true] at hd hl
    unfold AV.VL at h ⊢
    obtain ⟨v, rest, rfl, h1, h2⟩ := h
    refine ⟨v, rest, rfl, ?_, VL.up hw hS hd.2 (hl.imp id And.right) h2⟩
    cases a <;> simp only [AV.isD, Bool.false_eq_true, false_and] at hd
    unfold AV.VR at h1 ⊢
    exact DV.up hw hS (hl.imp id And.left) h1

theorem OR.up (hw : C'.w = C2.w) (hS : ∀ fr b, (low = true ∨ fr = true) → C2.Sh fr b → C'.Sh fr b) {ob : Ob} {h : Hd} {γ : Nat} (hd : ob.data = true) (hl : low = true ∨ ob.hi = true) (ho : ob.OR C2 h) : (ob.out γ).OR C' h := by
  cases ob with
  | row E sz g fr xs =>
    cases h with
    | row v =>
      obtain ⟨h0, h1, fl, h2, h3⟩ := ho
      exact ⟨h0, h1, fl, Dat.RL.stable (fun b hb => ⟨hS fr b hl hb, by rw [hw]⟩) _ _ h2, by rw [hw]; exact h3⟩
    | _ => exact ho.elim
  | cells E cs =>
    cases h with
    | ptr b =>
      obtain ⟨vs, h1, h2, h3⟩ := ho
      exact ⟨vs, by rw [hw]; exact h1, VL.up hw hS hd hl h2, h3⟩
    | _ => exact ho.elim
  | buf E Er szr xs =>
    cases h with
    | buf b v =>
      obtain ⟨h1, h2, h3, fl, h4, h5⟩ := ho
      exact ⟨by rw [hw]; exact h1, h2, h3, fl, Dat.RL.stable (fun b hb => ⟨hS true b (.inr rfl) hb, by rw [hw]⟩) _ _ h4, by rw [hw]; exact h5⟩
    | _ => exact ho.elim
end up

/-! ### handed in -/
theorem RL_flat {w w' : World} {B B' : Nat → Prop} : ∀ {xs : List Dat} {fl : List Value}, (∀ x ∈ xs, ∃ c, x = .v c) → Dat.RL w B xs fl → Dat.RL w' B' xs fl
  | [], fl, _, h => by unfold Dat.RL at h ⊢; exact h
  | x :: xs, fl, hx, h => by
    unfold Dat.RL at h ⊢
    obtain ⟨c1, c2, e, h1, h2⟩ := h
    obtain ⟨c, rfl⟩ := hx x (by simp)
    refine ⟨c1, c2, e, ?_, RL_flat (fun y hy => hx y (by simp [hy])) h2⟩
    unfold Dat.R at h1 ⊢
    exact h1

section inn
variable {C C1 : Cx}
theorem DV.inn (hw : C1.w = C.w) (hS : ∀ fr b, C.Sh fr b → C1.Sh false b) {fr : Bool} {x : Dat} {v : Value} (h : DV C.w (C.Sh fr) x v) : DV C1.w (C1.Sh false) x v :=
  h.stable fun b hb => ⟨hS fr b hb, by rw [hw]⟩
theorem DV.lo {x : Dat} {v : Value} (h : DV C1.w (C1.Sh false) x v) : DV C1.w (C1.Sh x.flat) x v := by
  cases hf : x.flat with
  | true => exact DV_flat hf h
  | false => exact h
theorem VL.inn (hw : C1.w = C.w) (hS : ∀ fr b, C.Sh fr b → C1.Sh false b) : ∀ {cs bs : List AV} {vs : List Value}, loL cs = some bs → AV.VL C cs vs → AV.VL C1 bs vs
  | [], bs, vs, e, h => by simp only [loL, Option.some.injEq] at e; subst e; unfold AV.VL at h ⊢; exact h
  | a :: as, bs, vs, e, h => by
    unfold loL at e
    split at e
    · cases ‹_ = []›
    · rename_i fr x as' e0
      simp only [List.cons.injEq] at e0
      obtain ⟨rfl, rfl⟩ := e0
      obtain ⟨cs, e1, rfl⟩ := Option.map_eq_some_iff.1 e
      unfold AV.VL at h ⊢
      obtain ⟨v, rest, rfl, h1, h2⟩ := h
      refine ⟨v, rest, rfl, ?_, VL.inn hw hS e1 h2⟩
      unfold AV.VR at h1 ⊢
      exact DV.lo (DV.inn hw hS h1)
    · cases e
theorem OR.inn (hw : C1.w = C.w) (hS : ∀ fr b, C.Sh fr b → C1.Sh false b) {ob i : Ob} {h : Hd} (e : ob.inn = some i) (ho : ob.OR C h) : i.OR C1 h := by
  cases ob with
  | row E sz g fr xs =>
    simp only [Ob.inn, Option.some.injEq] at e
    subst e
    cases h with
    | row v =>
      obtain ⟨h0, h1, fl, h2, h3⟩ := ho
      exact ⟨h0, h1, fl, Dat.RL.stable (fun b hb => ⟨hS fr b hb, by rw [hw]⟩) _ _ h2, by rw [hw]; exact h3⟩
    | _ => exact ho.elim
  | cells E cs =>
    obtain ⟨bs, e1, rfl⟩ := Option.map_eq_some_iff.1 e
    cases h with
    | ptr b =>
      obtain ⟨vs, h1, h2, h3⟩ := ho
      exact ⟨vs, by rw [hw]; exact h1, VL.inn hw hS e1 h2, h3⟩
    | _ => exact ho.elim
  | buf E Er szr xs =>
    simp only [Ob.inn, Option.some.injEq] at e
    subst e
    cases h with
    | buf b v =>
      obtain ⟨h1, h2, h3, fl, h4, h5⟩ := ho
      exact ⟨by rw [hw]; exact h1, h2, h3, fl, RL_flat h3 h4, by rw [hw]; exact h5⟩
    | _ => exact ho.elim
end inn

section
variable {P : Program} {S : SpecEqT} {E : En} {st : St} {a : Act} {w : World} {hs : List Hd} {o : Oper} {v : AV} {u : List (Nat × Ob)} {n : List Ob} {T : Nat → TI}

def Q.args (T : Nat → TI) (mu : Bool) : List (Operand × Nat) → Option Nat → Bool → (List AV → Option Nat → Bool → Q) → Q
  | [], n, l, k => k [] n l
  | (x, ty) :: ps, n, l, k => Q.opnd x fun a => match a with
    | .d _ y => if smallNil y = true then Q.args T mu ps n l fun as n l => k (.d (normD T ty y).flat (normD T ty y) :: as) n l else .bad
    | .fn f [] => Q.args T mu ps n l fun as n l => k (.fn f [] :: as) n l
    | .ptr m off => if n = none then Q.args T mu ps (some m) l fun as n l => k (.ptr 0 off :: as) n l else .bad
    | .own m γ => .obj m fun ob => (match ob with
      | .row _ sz γ' _ xs => if γ = γ' then (if mu = true then (if n = none then Q.args T mu ps (some m) l fun as n l => k (.own 0 0 :: as) n l else .bad)
          else Q.args T mu ps n true fun as n l => k (.d false (.sl sz xs) :: as) n l) else .bad
      | _ => .bad)
    | _ => .bad

theorem args_sound (h : Rel E st a w hs) {mu : Bool} : ∀ {ps : List (Operand × Nat)} {n0 : Option Nat} {l0 : Bool} {k : List AV → Option Nat → Bool → Q}, (Q.args T mu ps n0 l0 k).Runs S st v u n →
    ∃ as n1 l1, (k as n1 l1).Runs S st v u n ∧ (∀ m, n0 = some m → n1 = some m) ∧ (l0 = true → l1 = true) ∧ (mu = true → l0 = false → l1 = false) ∧
      ∀ C1 : Cx, C1.w = w → (∀ fr b, (st.cx E w hs).Sh fr b → C1.Sh false b) →
        (l1 = true → ∀ (m E' sz γ : Nat) (fr : Bool) (xs : List Dat) (vv : Value), st.obs[m]? = some (some (.row E' sz γ fr xs)) → hs[m]? = some (.row vv) → ∀ b, vv.ownBlock = some b → C1.Sh false b) →
        (∀ m : Nat, n1 = some m → ∃ ob, st.obs[m]? = some (some ob) ∧ C1.hs[0]? = hs[m]? ∧ 0 < C1.obs.length) → AV.VL C1 as (ps.map fun p => a.eval p.1)
  | [], n0, l0, k, hr => ⟨[], n0, l0, hr, fun _ e => e, id, fun _ e => e, fun C1 _ _ _ _ => by simp [AV.VL]⟩
  | (x, ty) :: ps, n0, l0, k, hr => by
    unfold Q.args at hr
    replace hr := opnd_sound h hr; obtain ⟨av, hav, hr⟩ := hr
    split at hr
    · rename_i fr y
      split at hr
      · rename_i hsm
        obtain ⟨as, n1, l1, hr, g1, g2, g3, g4⟩ := args_sound h hr
        refine ⟨_, n1, l1, hr, g1, g2, g3, fun C1 hw hS hl hp => ?_⟩
        simp only [List.map_cons]
        unfold AV.VL
        refine ⟨_, _, rfl, ?_, g4 C1 hw hS hl hp⟩
        unfold AV.VR at hav ⊢
        exact DV.lo (normD_sound (DV.inn (C := st.cx E w hs) hw hS hav) fun m c e => by subst e; simp [smallNil] at hsm; subst hsm; simp [maxLen])
      · unfold Q.Runs at hr; exact hr.elim
    · rename_i f
      obtain ⟨as, n1, l1, hr, g1, g2, g3, g4⟩ := args_sound h hr
      refine ⟨_, n1, l1, hr, g1, g2, g3, fun C1 hw hS hl hp => ?_⟩
      simp only [List.map_cons]
      unfold AV.VL
      refine ⟨_, _, rfl, ?_, g4 C1 hw hS hl hp⟩
      unfold AV.VR at hav ⊢
      obtain ⟨cs, e1, h2⟩ := hav
      unfold AV.VL at h2
      exact ⟨cs, e1, by rw [h2]; simp [AV.VL]⟩
    · rename_i m off
      split at hr
      · rename_i hn0
        obtain ⟨as, n1, l1, hr, g1, g2, g3, g4⟩ := args_sound h hr
        refine ⟨_, n1, l1, hr, fun m' e => (by rw [hn0] at e; cases e), g2, g3, fun C1 hw hS hl hp => ?_⟩
        simp only [List.map_cons]
        unfold AV.VL
        refine ⟨_, _, rfl, ?_, g4 C1 hw hS hl hp⟩
        obtain ⟨ob, e1, e2, e3⟩ := hp m (g1 m rfl)
        unfold AV.VR at hav ⊢
        refine ⟨e3, fun _ _ => ?_⟩
        rw [e2]
        exact hav.2 ob e1
      · unfold Q.Runs at hr; exact hr.elim
    · rename_i m γ
      unfold Q.Runs at hr
      obtain ⟨ob, hob, hr⟩ := hr
      dsimp only at hr
      split at hr
      · split at hr
        · rename_i E' sz γ' fr xs ec
          subst ec
          have hav' := hav
          unfold AV.VR at hav'
          have h2 := (hav'.2 _ _ _ _ _ hob).2 rfl
          split at hr
          · split at hr
            · rename_i hmu hn0
              obtain ⟨as, n1, l1, hr, g1, g2, g3, g4⟩ := args_sound h hr
              refine ⟨_, n1, l1, hr, fun m' e => (by rw [hn0] at e; cases e), g2, g3, fun C1 hw hS hl hp => ?_⟩
              simp only [List.map_cons]
              unfold AV.VL
              refine ⟨_, _, rfl, ?_, g4 C1 hw hS hl hp⟩
              obtain ⟨ob, e1, e2, e3⟩ := hp m (g1 m rfl)
              unfold AV.VR
              refine ⟨e3, fun _ _ γ0 _ _ _ => ⟨Nat.zero_le _, fun _ => ?_⟩⟩
              rw [e2]
              exact h2
            · unfold Q.Runs at hr; exact hr.elim
          · rename_i hmu
            obtain ⟨as, n1, l1, hr, g1, g2, g3, g4⟩ := args_sound h hr
            refine ⟨_, n1, l1, hr, g1, fun _ => g2 rfl, fun e => absurd e hmu, fun C1 hw hS hl hp => ?_⟩
            simp only [List.map_cons]
            unfold AV.VL
            refine ⟨_, _, rfl, ?_, g4 C1 hw hS hl hp⟩
            obtain ⟨hd', e3, h3⟩ := h.obj hob
            obtain ⟨vv, rfl, _, hz, fl, hfl, h4⟩ := OR.row_val h3
            have e4 : vv = a.eval x := by
              have : (st.cx E w hs).hs = hs := rfl
              rw [this, e3] at h2
              simpa using h2
            subst e4
            unfold AV.VR
            show Dat.R _ _ _ _
            unfold Dat.R
            obtain ⟨A, c, e5, hc1, hc2, h6⟩ := owns_slice h4
            refine ⟨A, c, by rw [e5], hc1, hc2, hz, ?_⟩
            rcases h6 with h6 | ⟨b, rfl⟩
            · exact .inl (List.length_eq_zero_iff.1 h6)
            · refine .inr ⟨b, 0, fl, rfl, hl (g2 rfl) m _ _ _ _ _ _ hob e3 b (by rw [e5]; rfl), Dat.RL.stable (fun b' hb' => ⟨hS fr b' hb', by rw [hw]; rfl⟩) _ _ hfl, fun j q hq => ?_⟩
              have := h4.cells (g := b) (by rw [e5]; rfl) j q hq
              rw [hw]
              rw [Addr.add_mid, Nat.zero_add] at this
              rw [Nat.zero_add]
              exact this
        · unfold Q.Runs at hr; exact hr.elim
      · unfold Q.Runs at hr; exact hr.elim
    · unfold Q.Runs at hr; exact hr.elim


def opCallF (F : FT) (T : Nat → TI) (mu : Bool) (f : FuncId) (ps : List (Operand × Nat)) : Q :=
  Q.args T mu ps none false fun as n l => match n with
    | none => (match F f as none with
      | some R => .side R.pre (match R.o with
        | none => if l = false ∨ R.r.hi = true then (match R.r.renT none 0 with | some r => .fin r [] [] | none => .bad) else .bad
        | some ob => if ob.data = true ∧ (l = false ∨ (R.r.hi = true ∧ ob.hi = true)) then .fresh fun m => (match R.r.renT (some m) 0 with | some r => .fin r [] [ob] | none => .bad) else .bad)
      | none => .bad)
    | some m => .obj m fun ob => if ob.isRow = mu then (match ob.inn with
      | some i => (match F f as (some i) with
        | some R => .side R.pre (match R.o with
          | some ob' => if ob'.data = true ∧ ob.alike ob' = true ∧ (l = false ∨ (R.r.hi = true ∧ ob'.hi = true)) then (match R.r.renT (some m) ob.gam with | some r => .fin r [(m, ob'.out ob.gam)] [] | none => .bad) else .bad
          | none => .bad)
        | none => .bad)
      | none => .bad) else .bad

/-- The calling operation, its callee known. -/
def opCall (F : FT) (Mu : FuncId → Bool) (T : Nat → TI) (x : Operand) (args : Array Operand) (tys : Array TypeId) : Q :=
  if args.size = tys.size then Q.opnd x fun fv => (match fv with
    | .fn f [] => opCallF F T (Mu f) f (args.toList.zip tys.toList)
    | _ => .bad) else .bad

theorem OpOK.call (h : Rel E st a w hs) {f : FuncId} {vals : Array Value} {av : AV} (hrun : (execOp a.eval o).run P w = .ok (.enter f vals) w)
    (hc : Calls P f vals w fun e w' => ∃ x hs', e = .returned x ∧ Rel E (st.upd o.dst av u n) (a.put o.dst x) w' hs') : OpOK P E o st a w hs av u n := by
  intro Kp Q hK
  unfold Oper.wp
  rw [hrun, Oper.upon_enter]
  refine hc.mono fun e w' he => ?_
  obtain ⟨x, hs', rfl, hr⟩ := he
  exact hK _ _ hs' hr

theorem execOp_call {x : Operand} {args : Array Operand} {tys : Array TypeId} {f : FuncId} (ho : o.op = .call { callee := .value x, args := args, argTypes := tys }) (hx : a.eval x = .func (.func f) #[] #[])
    (hf : ∃ fn, P.funcs[f]? = some fn ∧ (fn.name == "runtime.NumGoroutine") = false ∧ fn.body.isNone = false) : (execOp a.eval o).run P w = .ok (.enter f (args.map a.eval)) w := by
  obtain ⟨fn, h1, h2, h3⟩ := hf
  simp only [execOp, ho, resolve, hx, Deferred.ofValue, invoke, callFunc, h1, h2, h3, Sem.run_bind, Sem.run_pure, run_program, Result.andThen_ok, Array.append_empty, Array.empty_append, Bool.false_eq_true, if_false]

theorem callF_sound (h : Rel E st a w hs) (hd : ∀ t, o.dst = some t → t < E.N) {F : FT} (hF : FOK P F) {mu : Bool} {f : FuncId} {ps : List (Operand × Nat)} {vals : Array Value}
    (hv : vals.toList = ps.map fun p => a.eval p.1) (hrun : (∃ fn, P.funcs[f]? = some fn ∧ (fn.name == "runtime.NumGoroutine") = false ∧ fn.body.isNone = false) → (execOp a.eval o).run P w = .ok (.enter f vals) w)
    (hr : (opCallF F T mu f ps).Runs S st v u n) : OpOK P E o st a w hs v u n := by
  unfold opCallF at hr
  obtain ⟨as, n1, l, hr, -, -, hmu, hvl⟩ := args_sound h hr
  have wok := h.wok
  have hlen : st.obs.length = hs.length := wok.len
  have alt : ∀ (m : Nat) (k : Hd), (st.cx E w hs).alive m → hs[m]? = some k → ∀ b ∈ k.blks, b < w.heap.size := fun m k ⟨ob, ho⟩ hk b hb => (wok.objs m ob k ho hk).lt b hb
  -- what the callee may share
  let old : Nat → Prop := if l = true then fun _ => True else (st.cx E w hs).Sh false
  have hold : ∀ b, (st.cx E w hs).Sh false b → old b := fun b hb => by simp only [old]; split; trivial; exact hb
  have hold' : l = false → ∀ b, old b → (st.cx E w hs).Sh false b := fun hl b hb => by simp only [old, hl] at hb; simpa using hb
  split at hr
  · -- no object handed in
    split at hr
    · rename_i R hR
      obtain ⟨hfn, hspec⟩ := hF _ _ _ _ hR
      unfold Q.Runs at hr
      obtain ⟨hpre, hr⟩ := hr
      have wok1 : WOK w [] (entryCx w old none []) :=
        ⟨rfl, rfl, rfl, rfl, Nat.le_refl _, rfl, fun _ _ _ => rfl, fun n o h e => by simp [entryCx] at e, fun n m h k _ ⟨o, e⟩ => by simp [entryCx] at e, fun n h ⟨o, e⟩ => by simp [entryCx] at e, Nat.le_refl _, fun i b e => by simp at e, fun i b u e => by simp at e, fun i v E sz fr xs e => by simp at e⟩
      have hSh1 : ∀ fr b, (st.cx E w hs).Sh fr b → (entryCx w old none []).Sh false b := fun fr b hb => ⟨hb.1, fun n h ⟨o, e⟩ => by simp [entryCx] at e, .inr ⟨rfl, hold b hb.any⟩⟩
      have hvl1 := hvl (entryCx w old none []) rfl hSh1 (fun hl m E' sz γ fr xs vv ho hk b hb => ⟨alt m _ ⟨_, ho⟩ hk b (by simp [Hd.blks, hb]), fun n h ⟨o, e⟩ => by simp [entryCx] at e, .inr ⟨rfl, by simp only [old, hl]; trivial⟩⟩) (fun m e => by cases e)
      have hcalls := hspec w old [] _ wok1 hvl1 hpre
      rw [← hv, Array.toArray_toList] at hcalls
      split at hr
      · -- none comes out
        split at hr
        · rename_i hhi
          split at hr
          · rename_i r hren
            unfold Q.Runs at hr
            obtain ⟨rfl, rfl, rfl⟩ := hr
            refine OpOK.call h (hrun hfn) (hcalls.mono fun e w' he => ?_)
            obtain ⟨x, obs', hs', rfl, wok2, hvr, -⟩ := he
            have hb : Below w.heap.size w w' := ⟨wok2.os, wok2.tape, wok2.output, wok2.size, fun k hk => wok2.frame k hk (by simp)⟩
            refine ⟨x, hs, rfl, ?_⟩
            have hr2 : Rel E ⟨st.env, st.obs⟩ a w' hs := h.le (Cx.Le.grow (C := st.cx E w hs) hb) (h.wok.grow hb)
            rw [St.upd_nil]
            refine hr2.put ?_ o.dst hd
            refine VR.renT (low := !l) (C2 := ⟨w', w.heap.size, old, obs', hs'⟩) (C' := St.cx ⟨st.env, st.obs⟩ E w' hs) rfl ?_ (fun n off v e => by cases e) (fun n γ v e => by cases e) hren (by rcases hhi with hhi | hhi; exact .inl (by simp [hhi]); exact .inr hhi) hvr
            intro fr b hl hb2
            refine ⟨hb2.1, fun m k hal hk hbk => ?_, ?_⟩
            · rcases hb2.2.2 with h3 | ⟨rfl, h3⟩
              · have := alt m k hal hk b hbk
                have h3' : w.heap.size ≤ b := h3
                omega
              · have hl' : l = false := by simpa using hl
                exact (hold' hl' b h3).2.1 m k hal hk hbk
            · rcases hb2.2.2 with h3 | ⟨rfl, h3⟩
              · exact .inl (Nat.le_trans wok.size h3)
              · have hl' : l = false := by simpa using hl
                exact (hold' hl' b h3).2.2
          · unfold Q.Runs at hr; exact hr.elim
        · unfold Q.Runs at hr; exact hr.elim
      · -- a new object
        rename_i ob hob
        split at hr
        · rename_i hhi
          obtain ⟨hdata, hhi⟩ := hhi
          unfold Q.Runs at hr
          dsimp only at hr
          split at hr
          · rename_i r hren
            unfold Q.Runs at hr
            obtain ⟨rfl, rfl, rfl⟩ := hr
            refine OpOK.call h (hrun hfn) (hcalls.mono fun e w' he => ?_)
            obtain ⟨x, obs', hs', rfl, wok2, hvr, ho2⟩ := he
            have ho2 := ho2 ob hob
            obtain ⟨k, hk⟩ := wok2.hd (n := 0) (alive_lt (C := ⟨w', w.heap.size, old, obs', hs'⟩) ⟨ob, ho2⟩)
            have hor := wok2.objs 0 ob k ho2 hk
            have hnew : ∀ b ∈ k.blks, w.heap.size ≤ b := fun b hb => (wok2.new 0 k ⟨ob, ho2⟩ hk b hb).resolve_right (by simp)
            have hb : Below w.heap.size w w' := ⟨wok2.os, wok2.tape, wok2.output, wok2.size, fun k hk => wok2.frame k hk (by simp)⟩
            have hS : ∀ fr b, ((!l) = true ∨ fr = true) → Cx.Sh ⟨w', w.heap.size, old, obs', hs'⟩ fr b → ((st.cx E w hs).add w' ob k).Sh fr b := by
              intro fr b hl hb2
              refine ⟨hb2.1, fun m j hal hj hbj => ?_, ?_⟩
              · by_cases e : m < st.obs.length
                · have hj' : hs[m]? = some j := by simpa [Cx.add, St.cx, List.getElem?_append_left (hlen ▸ e)] using hj
                  have hal' : (st.cx E w hs).alive m := by
                    obtain ⟨o', ho'⟩ := hal
                    exact ⟨o', by simpa [Cx.add, St.cx, List.getElem?_append_left e] using ho'⟩
                  rcases hb2.2.2 with h3 | ⟨rfl, h3⟩
                  · have := alt m j hal' hj' b hbj
                    have h3' : w.heap.size ≤ b := h3
                    omega
                  · have hl' : l = false := by simpa using hl
                    exact (hold' hl' b h3).2.1 m j hal' hj' hbj
                · have hj' : j = k := by
                    simp only [Cx.add, St.cx] at hj
                    rw [List.getElem?_append_right (by omega)] at hj
                    have h0 : m - hs.length = 0 := by
                      have := (List.getElem?_eq_some_iff.1 hj).1
                      simp at this; omega
                    rw [h0] at hj
                    simpa using hj.symm
                  subst hj'
                  exact hb2.2.1 0 j ⟨ob, ho2⟩ hk hbj
              · rcases hb2.2.2 with h3 | ⟨rfl, h3⟩
                · exact .inl (Nat.le_trans wok.size h3)
                · have hl' : l = false := by simpa using hl
                  exact (hold' hl' b h3).2.2
            have hor' : ob.OR ((st.cx E w hs).add w' ob k) k := by
              have := OR.up (C2 := ⟨w', w.heap.size, old, obs', hs'⟩) (C' := (st.cx E w hs).add w' ob k) (low := !l) (γ := 0) rfl hS hdata (by rcases hhi with hhi | hhi; exact .inl (by simp [hhi]); exact .inr hhi.2) hor
              have e0 : ob.out 0 = ob := by cases ob <;> simp [Ob.out]
              rw [e0] at this; exact this
            have le := Cx.Le.add (C := st.cx E w hs) (o := ob) hlen hb hnew
            have wok' := wok.add hb hnew hor'
            have hr2 : Rel E ⟨st.env, st.obs ++ [some ob]⟩ a w' (hs ++ [k]) := h.le le wok'
            refine ⟨x, hs ++ [k], rfl, ?_⟩
            have hC : (⟨st.env, st.obs ++ [some ob]⟩ : St).cx E w' (hs ++ [k]) = (st.cx E w hs).add w' ob k := rfl
            have hvr' : v.VR ((st.cx E w hs).add w' ob k) x := by
              refine VR.renT (low := !l) (C2 := ⟨w', w.heap.size, old, obs', hs'⟩) (C' := (st.cx E w hs).add w' ob k) rfl hS ?_ ?_ hren (by rcases hhi with hhi | hhi; exact .inl (by simp [hhi]); exact .inr hhi.1) hvr
              · intro m off v e hv0
                cases e
                unfold AV.VR at hv0 ⊢
                refine ⟨by simp [Cx.add, St.cx], fun o' ho' => ?_⟩
                obtain ⟨b, h3, h4⟩ := hv0.2 ob ho2
                have h3 : hs'[0]? = some (.ptr b) ∨ ∃ u, hs'[0]? = some (.buf b u) := h3
                have hk : hs'[0]? = some k := hk
                refine ⟨b, ?_, h4⟩
                simp only [Cx.add, St.cx, hlen, List.getElem?_concat_length]
                rw [hk] at h3
                exact h3
              · intro m γ v e hv0
                cases e
                rw [Nat.zero_add]
                unfold AV.VR at hv0 ⊢
                refine ⟨by simp [Cx.add, St.cx], fun E' sz γ0 fr xs ho' => ?_⟩
                have eo : ob = .row E' sz γ0 fr xs := by simpa [Cx.add, St.cx] using ho'
                subst eo
                obtain ⟨h3, h4⟩ := hv0.2 _ _ _ _ _ ho2
                have hk : hs'[0]? = some k := hk
                refine ⟨h3, fun e5 => ?_⟩
                simp only [Cx.add, St.cx, hlen, List.getElem?_concat_length]
                have h4 : hs'[0]? = some (.row v) := h4 e5
                rw [← hk]; exact h4
            have := hr2.put (av := v) (v := x) hvr' o.dst hd
            cases hdst : o.dst <;> simpa [St.upd, St.put, hdst] using this
          · unfold Q.Runs at hr; exact hr.elim
        · unfold Q.Runs at hr; exact hr.elim
    · unfold Q.Runs at hr; exact hr.elim
  · -- an object handed in
    rename_i m
    unfold Q.Runs at hr
    obtain ⟨ob, hob, hr⟩ := hr
    dsimp only at hr
    split at hr
    · rename_i hrow
      split at hr
      · rename_i i hinn
        split at hr
        · rename_i R hR
          obtain ⟨hfn, hspec⟩ := hF _ _ _ _ hR
          unfold Q.Runs at hr
          obtain ⟨hpre, hr⟩ := hr
          split at hr
          · rename_i ob' hob'
            split at hr
            · rename_i hcond
              obtain ⟨hdata, halike, hhi⟩ := hcond
              split at hr
              · rename_i r hren
                unfold Q.Runs at hr
                obtain ⟨rfl, rfl, rfl⟩ := hr
                obtain ⟨k, hk, hor⟩ := h.obj hob
                have hal : (st.cx E w hs).alive m := ⟨ob, hob⟩
                have hml : m < hs.length := (List.getElem?_eq_some_iff.1 hk).1
                have entry1 : ∀ n h, (entryCx w old (some i) [k]).alive n → (entryCx w old (some i) [k]).hs[n]? = some h → n = 0 ∧ h = k := by
                  intro n h _ e
                  have : ([k] : List Hd)[n]? = some h := e
                  cases n with
                  | zero => simpa [eq_comm] using this
                  | succ n => simp at this
                have hSh1 : ∀ fr b, (st.cx E w hs).Sh fr b → (entryCx w old (some i) [k]).Sh false b := fun fr b hb => ⟨hb.1, fun n h hal' e hbk => by
                  obtain ⟨rfl, rfl⟩ := entry1 n h hal' e
                  exact hb.2.1 m h hal hk hbk, .inr ⟨rfl, hold b hb.any⟩⟩
                have hor1 : i.OR (entryCx w old (some i) [k]) k := OR.inn (C := st.cx E w hs) (C1 := entryCx w old (some i) [k]) rfl hSh1 hinn hor
                have wok1 : WOK w [k] (entryCx w old (some i) [k]) :=
                  ⟨rfl, rfl, rfl, rfl, Nat.le_refl _, rfl, fun _ _ _ => rfl,
                    fun n o h e e2 => by
                      have e3 : ([some i] : List (Option Ob))[n]? = some (some o) := e
                      have e4 : ([k] : List Hd)[n]? = some h := e2
                      cases n with
                      | zero => simp at e3 e4; subst e3; subst e4; exact hor1
                      | succ n => simp at e3,
                    fun n m h k' hnm ha hb e1 e2 => by
                      obtain ⟨rfl, rfl⟩ := entry1 n h ha e1
                      obtain ⟨rfl, rfl⟩ := entry1 m k' hb e2
                      exact absurd rfl hnm,
                    fun n h ha e b hb => by
                      obtain ⟨rfl, rfl⟩ := entry1 n h ha e
                      exact .inr ⟨by simp, h, by simp, hb⟩,
                    Nat.le_refl _, fun i b e => e, fun i b u e => ⟨u, e⟩, fun i v E sz fr xs e _ => e⟩
                have hvl1 := hvl (entryCx w old (some i) [k]) rfl hSh1 (fun hl m' E' sz γ fr xs vv ho' hk' b hb => ⟨alt m' _ ⟨_, ho'⟩ hk' b (by simp [Hd.blks, hb]), fun n h hal' e hbk => by
                    obtain ⟨rfl, rfl⟩ := entry1 n h hal' e
                    have hne : m' ≠ m := by
                      rintro rfl
                      have : ob = .row E' sz γ fr xs := by rw [hob] at ho'; simpa using ho'
                      subst this
                      have : mu = true := by rw [← hrow]; rfl
                      have := hmu this rfl
                      rw [this] at hl
                      exact absurd hl (by simp)
                    exact wok.dist m' m (.row vv) h hne ⟨_, ho'⟩ hal hk' hk b (by simp [Hd.blks, hb]) hbk, .inr ⟨rfl, by simp only [old, hl]; trivial⟩⟩)
                  (fun m' e => by
                    have : m' = m := by simpa using e.symm
                    subst this
                    exact ⟨ob, hob, by rw [hk]; rfl, by simp [entryCx]⟩)
                have hcalls := hspec w old [k] _ wok1 hvl1 hpre
                rw [← hv, Array.toArray_toList] at hcalls
                refine OpOK.call h (hrun hfn) (hcalls.mono fun e w' he => ?_)
                obtain ⟨x, obs', hs', rfl, wok2, hvr, ho2⟩ := he
                have ho2 := ho2 ob' hob'
                obtain ⟨k', hk'⟩ := wok2.hd (n := 0) (alive_lt (C := ⟨w', w.heap.size, old, obs', hs'⟩) ⟨ob', ho2⟩)
                have hor2 := wok2.objs 0 ob' k' ho2 hk'
                have hk'' : hs'[0]? = some k' := hk'
                have hnew : ∀ b ∈ k'.blks, b ∈ k.blks ∨ w.heap.size ≤ b := fun b hb => by
                  rcases wok2.new 0 k' ⟨ob', ho2⟩ hk' b hb with h3 | ⟨_, p, h3, h4⟩
                  · exact .inr h3
                  · have : p = k := by simpa using h3
                    subst this
                    exact .inl h4
                have hw2 : Wrote w w' k.blks := ⟨wok2.os, wok2.tape, wok2.output, wok2.size, fun b hb hn => wok2.frame b hb (fun h' hh' => (List.mem_singleton.1 hh') ▸ hn)⟩
                have hf : ob.follows k (ob'.out ob.gam) k' := by
                  refine ⟨fun E' sz γ fr xs e => ?_, fun b e => ?_, fun b u e => ?_⟩
                  · cases ob' with
                    | row E2 sz2 g2 fr2 xs2 =>
                      cases ob with
                      | row E1 sz1 g1 fr1 xs1 =>
                        simp only [Ob.out, Ob.gam, Ob.row.injEq] at e
                        obtain ⟨rfl, rfl, rfl, rfl, rfl⟩ := e
                        refine ⟨_, _, _, _, _, rfl, Nat.le_add_right _ _, fun e => ?_⟩
                        have g0 : g2 = 0 := by omega
                        subst g0
                        obtain ⟨vv, rfl, _⟩ := OR.row_val hor
                        have := wok2.parR 0 vv _ _ _ _ (by simp) ho2
                        have h5 : hs'[0]? = some (.row vv) := this
                        rw [hk''] at h5
                        simpa using h5
                      | _ => simp [Ob.alike] at halike
                    | _ => simp [Ob.out] at e
                  · subst e
                    have := wok2.parP 0 b (by simp)
                    have h5 : hs'[0]? = some (.ptr b) := this
                    rw [hk''] at h5
                    simpa using h5
                  · subst e
                    obtain ⟨u', this⟩ := wok2.parB 0 b u (by simp)
                    have h5 : hs'[0]? = some (.buf b u') := this
                    rw [hk''] at h5
                    exact ⟨u', by simpa using h5⟩
                have hS : ∀ fr b, ((!l) = true ∨ fr = true) → Cx.Sh ⟨w', w.heap.size, old, obs', hs'⟩ fr b → ((st.cx E w hs).setO w' m (some (ob'.out ob.gam)) k').Sh fr b := by
                  intro fr b hl hb2
                  refine ⟨hb2.1, fun m' j hal' hj hbj => ?_, ?_⟩
                  · by_cases e : m' = m
                    · subst e
                      have : j = k' := by
                        have : (hs.set m' k')[m']? = some j := hj
                        rw [List.getElem?_set_self hml] at this
                        simpa using this.symm
                      subst this
                      exact hb2.2.1 0 j ⟨ob', ho2⟩ hk' hbj
                    · have hj' : hs[m']? = some j := by simpa [Cx.setO, St.cx, List.getElem?_set, Ne.symm e] using hj
                      have hal2 : (st.cx E w hs).alive m' := by
                        obtain ⟨o', ho'⟩ := hal'
                        exact ⟨o', by simpa [Cx.setO, St.cx, List.getElem?_set, Ne.symm e] using ho'⟩
                      rcases hb2.2.2 with h3 | ⟨rfl, h3⟩
                      · have := alt m' j hal2 hj' b hbj
                        have h3' : w.heap.size ≤ b := h3
                        omega
                      · have hl' : l = false := by simpa using hl
                        exact (hold' hl' b h3).2.1 m' j hal2 hj' hbj
                  · rcases hb2.2.2 with h3 | ⟨rfl, h3⟩
                    · exact .inl (Nat.le_trans wok.size h3)
                    · have hl' : l = false := by simpa using hl
                      exact (hold' hl' b h3).2.2
                have hor' : (ob'.out ob.gam).OR ((st.cx E w hs).setO w' m (some (ob'.out ob.gam)) k') k' :=
                  OR.up (C2 := ⟨w', w.heap.size, old, obs', hs'⟩) (C' := (st.cx E w hs).setO w' m (some (ob'.out ob.gam)) k') (low := !l) rfl hS hdata (by rcases hhi with hhi | hhi; exact .inl (by simp [hhi]); exact .inr hhi.2) hor2
                have le := Cx.Le.setO (C := st.cx E w hs) (o' := ob'.out ob.gam) hlen hob hk hw2 hnew hf
                have wok' := wok.setO hob hk hw2 hnew hf hor'
                have hr2 : Rel E ⟨st.env, st.obs.set m (some (ob'.out ob.gam))⟩ a w' (hs.set m k') := h.le le wok'
                refine ⟨x, hs.set m k', rfl, ?_⟩
                have hml' : m < st.obs.length := hlen ▸ hml
                have hvr' : v.VR ((st.cx E w hs).setO w' m (some (ob'.out ob.gam)) k') x := by
                  refine VR.renT (low := !l) (C2 := ⟨w', w.heap.size, old, obs', hs'⟩) (C' := (st.cx E w hs).setO w' m (some (ob'.out ob.gam)) k') rfl hS ?_ ?_ hren (by rcases hhi with hhi | hhi; exact .inl (by simp [hhi]); exact .inr hhi.1) hvr
                  · intro m' off v e hv0
                    cases e
                    unfold AV.VR at hv0 ⊢
                    refine ⟨by simpa [Cx.setO, St.cx] using hml', fun o' ho' => ?_⟩
                    obtain ⟨b, h3, h4⟩ := hv0.2 ob' ho2
                    have h3 : hs'[0]? = some (.ptr b) ∨ ∃ u, hs'[0]? = some (.buf b u) := h3
                    refine ⟨b, ?_, h4⟩
                    show (hs.set m k')[m]? = _ ∨ ∃ u, (hs.set m k')[m]? = _
                    rw [List.getElem?_set_self hml]
                    rw [hk''] at h3
                    exact h3
                  · intro m' γ v e hv0
                    cases e
                    unfold AV.VR at hv0 ⊢
                    refine ⟨by simpa [Cx.setO, St.cx] using hml', fun E' sz γ0 fr xs ho' => ?_⟩
                    have eo : ob'.out ob.gam = .row E' sz γ0 fr xs := by
                      have : (st.obs.set m (some (ob'.out ob.gam)))[m]? = some (some (.row E' sz γ0 fr xs)) := ho'
                      rw [List.getElem?_set_self hml'] at this
                      simpa using this
                    cases ob' with
                    | row E2 sz2 g2 fr2 xs2 =>
                      simp only [Ob.out, Ob.row.injEq] at eo
                      obtain ⟨rfl, rfl, rfl, rfl, rfl⟩ := eo
                      obtain ⟨h3, h4⟩ := hv0.2 _ _ _ _ _ ho2
                      refine ⟨by omega, fun e5 => ?_⟩
                      show (hs.set m k')[m]? = _
                      rw [List.getElem?_set_self hml]
                      have h4 : hs'[0]? = some (.row v) := h4 (by omega)
                      rw [← hk'']; exact h4
                    | _ => simp [Ob.out] at eo
                have := hr2.put (av := v) (v := x) hvr' o.dst hd
                cases hdst : o.dst <;> simpa [St.upd, St.put, hdst] using this
              · unfold Q.Runs at hr; exact hr.elim
            · unfold Q.Runs at hr; exact hr.elim
          · unfold Q.Runs at hr; exact hr.elim
        · unfold Q.Runs at hr; exact hr.elim
      · unfold Q.Runs at hr; exact hr.elim
    · unfold Q.Runs at hr; exact hr.elim

theorem opCall_sound (h : Rel E st a w hs) (hd : ∀ t, o.dst = some t → t < E.N) {F : FT} (hF : FOK P F) {Mu : FuncId → Bool} {x : Operand} {args : Array Operand} {tys : Array TypeId}
    (ho : o.op = .call { callee := .value x, args := args, argTypes := tys }) (hr : (opCall F Mu T x args tys).Runs S st v u n) : OpOK P E o st a w hs v u n := by
  unfold opCall at hr
  split at hr
  · rename_i hsz
    replace hr := opnd_sound h hr; obtain ⟨fv, hfv, hr⟩ := hr
    split at hr
    · rename_i f
      unfold AV.VR at hfv
      obtain ⟨cs, e1, h2⟩ := hfv
      unfold AV.VL at h2
      have : cs = #[] := by
        have := congrArg List.toArray h2
        simpa using this
      subst this
      refine callF_sound h hd hF (vals := args.map a.eval) ?_ (fun hf => execOp_call ho e1 hf) hr
      have e2 : (args.toList.zip tys.toList).map Prod.fst = args.toList := List.map_fst_zip (by simpa using Nat.le_of_eq hsz)
      rw [Array.toList_map]
      conv => lhs; rw [← e2]
      rw [List.map_map]; rfl
    · unfold Q.Runs at hr; exact hr.elim
  · unfold Q.Runs at hr; exact hr.elim
end
end Go.AM
