/- AM, part 14: code; a function's spec from its body. -/
import Derived.Test.YtmfobkiljlepjaaA13
set_option linter.unusedVariables false
set_option linter.unusedSimpArgs false
namespace Go.AM
open Go Go.RowKit

def Lift (E : En) (Q : Exit → St → Prop) : Exit → Act → World → Prop := fun e a w => ∃ st hs, Rel E st a w hs ∧ Q e st

def AWP (P : Program) (E : En) (c : Code) (Q : Exit → St → Prop) (st : St) : Prop := ∀ a w hs, Rel E st a w hs → c.wp P (Lift E Q) a w

def thenS (next : St → Prop) (Q : Exit → St → Prop) : Exit → St → Prop
  | .normal, st => next st
  | e, st => Q e st

def inBlockS (id : Nat) (Q : Exit → St → Prop) : Exit → St → Prop
  | .exit id', st => if id' = id then Q .normal st else Q (.exit id') st
  | e, st => Q e st

def condB (st : St) : Operand → Option Bool
  | .tmp t => match look t st.env with
    | .d _ (.v (.bool b)) => some b
    | _ => none
  | .const (.bool b) => some b
  | _ => none

structure Weak (st st' : St) : Prop where
  env : ∀ t, look t st'.env = .junk ∨ look t st'.env = look t st.env
  obs : Sub st.obs st'.obs

def St.keep (ks : List Nat) (st : St) : St := ⟨ks.map fun k => (k, look k st.env), st.obs⟩

theorem look_keep (env : List (Nat × AV)) : ∀ (ks : List Nat) (t : Nat), look t (ks.map fun k => (k, look k env)) = .junk ∨ look t (ks.map fun k => (k, look k env)) = look t env
  | [], t => .inl rfl
  | k :: ks, t => by
    simp only [List.map_cons, look]
    split
    · rename_i e; subst e; exact .inr rfl
    · exact look_keep env ks t

theorem Sub.refl (obs : List (Option Ob)) : Sub obs obs := ⟨rfl, fun _ _ h => h⟩
theorem Sub.trans {a b c : List (Option Ob)} (h : Sub a b) (k : Sub b c) : Sub a c := ⟨k.1.trans h.1, fun m o e => h.2 m o (k.2 m o e)⟩
theorem Weak.keep (ks : List Nat) (st : St) : Weak st (st.keep ks) := ⟨look_keep st.env ks, Sub.refl _⟩
theorem Weak.trans {a b c : St} (h : Weak a b) (k : Weak b c) : Weak a c :=
  ⟨fun t => by rcases k.env t with e | e; exact .inl e; rw [e]; exact h.env t, h.obs.trans k.obs⟩
def St.kill (n : Nat) (st : St) : St := ⟨st.env, st.obs.set n none⟩
theorem Weak.kill (n : Nat) (st : St) : Weak st (st.kill n) := ⟨fun _ => .inr rfl, Sub.kill n⟩

theorem Rel.weak {E : En} {st st' : St} {a : Act} {w : World} {hs : List Hd} (h : Rel E st a w hs) (k : Weak st st') : Rel E st' a w hs := by
  have h1 : Rel E ⟨st.env, st'.obs⟩ a w hs := h.le (Cx.Le.sub (C := st.cx E w hs) k.obs) (h.wok.sub k.obs)
  refine ⟨h1.wok, h1.df, h1.size, fun t => ?_⟩
  rcases k.env t with e | e
  · rw [e]; unfold AV.VR; trivial
  · rw [e]; exact h1.env t

theorem least {p : Nat → Prop} (h : ∃ n, p n) : ∃ n, p n ∧ ∀ m, p m → n ≤ m := by
  obtain ⟨n, hn⟩ := h
  induction n using Nat.strongRecOn with
  | _ n ih =>
    by_cases hx : ∃ m, m < n ∧ p m
    · obtain ⟨m, hm, hp⟩ := hx; exact ih m hm hp
    · exact ⟨n, hn, fun m hp => Nat.le_of_not_lt fun hlt => hx ⟨m, hlt, hp⟩⟩

section
variable {P : Program} {E : En} {Q : Exit → St → Prop} {st : St}

theorem AWP.mono {c : Code} {Q' : Exit → St → Prop} (h : AWP P E c Q st) (k : ∀ e st, Q e st → Q' e st) : AWP P E c Q' st :=
  fun a w hs hr => Code.wp_mono (fun e a w ⟨st, hs, h1, h2⟩ => ⟨st, hs, h1, k e st h2⟩) (h a w hs hr)

theorem AWP.weak {c : Code} {st' : St} (k : Weak st st') (h : AWP P E c Q st') : AWP P E c Q st := fun a w hs hr => h a w hs (hr.weak k)

theorem AWP.keep (ks : List Nat) {c : Code} (h : AWP P E c Q (st.keep ks)) : AWP P E c Q st := AWP.weak (Weak.keep ks st) h

theorem AWP.seq {x y : Code} (h : AWP P E x (thenS (AWP P E y Q) Q) st) : AWP P E (.seq x y) Q st := fun a w hs hr =>
  wp_seq (Code.wp_mono (fun e a w ⟨st, hs, h1, h2⟩ => by
    cases e with
    | normal => exact h2 a w hs h1
    | _ => exact ⟨st, hs, h1, h2⟩) (h a w hs hr))

theorem AWP.cond {c : Operand} {x y : Code} {b : Bool} (e : condB st c = some b) (ht : b = true → AWP P E x Q st) (hf : b = false → AWP P E y Q st) : AWP P E (.cond c x y) Q st := fun a w hs hr => by
  refine wp_cond_split (t := b) ?_ (fun e => ht e a w hs hr) (fun e => hf e a w hs hr)
  unfold condB at e
  split at e
  · rename_i t
    split at e
    · rename_i fr b' e2
      cases e
      have := hr.env t
      rw [e2] at this
      exact vr_int this
    · cases e
  · cases e; rfl
  · cases e

theorem AWP.skip (h : Q .normal st) : AWP P E .skip Q st := fun a w hs hr => wp_skip ⟨st, hs, hr, h⟩
theorem AWP.exit {id : Nat} (h : Q (.exit id) st) : AWP P E (.exit id) Q st := fun a w hs hr => wp_exit ⟨st, hs, hr, h⟩
theorem AWP.ret (h : Q .ret st) : AWP P E .ret Q st := fun a w hs hr => wp_ret ⟨st, hs, hr, h⟩
theorem AWP.block {id : Nat} {c : Code} (h : AWP P E c (inBlockS id Q) st) : AWP P E (.block id c) Q st := fun a w hs hr =>
  wp_block (Code.wp_mono (fun e a w ⟨st, hs, h1, h2⟩ => by
    cases e with
    | exit id' =>
      unfold Exit.inBlock
      dsimp only
      unfold inBlockS at h2
      dsimp only at h2
      split
      · rename_i e; rw [if_pos e] at h2; exact ⟨st, hs, h1, h2⟩
      · rename_i e; rw [if_neg e] at h2; exact ⟨st, hs, h1, h2⟩
    | _ => exact ⟨st, hs, h1, h2⟩) (h a w hs hr))

theorem AWP.loop {c : Code} (I : Nat → St → Prop) (n : Nat) (h0 : I n st) (round : ∀ n st, I n st → AWP P E c (thenS (fun st' => ∃ m, m < n ∧ I m st') Q) st) : AWP P E (.loop c) Q st := fun a w hs hr => by
  let J : Act → World → Nat → Prop := fun a w n => ∃ st hs, Rel E st a w hs ∧ I n st
  let μ : Act → World → Nat := fun a w => @dite Nat (∃ n, J a w n) (Classical.propDecidable _) (fun h => (least h).choose) (fun _ => 0)
  refine wp_loop (fun a w => ∃ n, J a w n) μ ⟨n, st, hs, hr, h0⟩ fun a w hI => ?_
  have hμ : J a w (μ a w) ∧ ∀ m, J a w m → μ a w ≤ m := by
    simp only [μ, dif_pos hI]
    exact (least hI).choose_spec
  obtain ⟨⟨st, hs, hr, hI'⟩, _⟩ := hμ
  refine Code.wp_mono (fun e a' w' ⟨st', hs', h1, h2⟩ => ?_) (round _ st hI' a w hs hr)
  cases e with
  | normal =>
    obtain ⟨m, hm, hIm⟩ := h2
    have hJ : ∃ n, J a' w' n := ⟨m, st', hs', h1, hIm⟩
    refine ⟨hJ, Nat.lt_of_le_of_lt ?_ hm⟩
    simp only [μ, dif_pos hJ]
    exact (least hJ).choose_spec.2 m ⟨st', hs', h1, hIm⟩
  | _ => exact ⟨st', hs', h1, h2⟩

def dstOK (N : Nat) (ops : List Oper) : Bool := ops.all fun o => match o.dst with
  | some t => decide (t < N)
  | none => true
theorem dstOK_spec {N : Nat} {ops : List Oper} (h : dstOK N ops = true) : ∀ o ∈ ops, ∀ t, o.dst = some t → t < N := by
  intro o ho t ht
  unfold dstOK at h
  have := List.all_eq_true.1 h o ho
  simpa [ht] using this

theorem AWP.region {G : Cfg} (hG : G.OK P) (own : List Nat) {id : Nat} {ops : List Oper} (hd : dstOK E.N ops = true) (h : ∀ K : St → Prop, (∀ st, Q .normal st → K st) → evalL G own ops K ops 0 st) : AWP P E (.region id ops.toArray false) Q st := fun a w hs hr =>
  wp_region_list (evalL_sound (ops := ops.toArray) hG (K := Q .normal) (fun st a w hs h1 h2 => ⟨st, hs, h1, h2⟩) hr (by simpa using dstOK_spec hd) (by simpa using dstOK_spec hd) (by simpa using h _ fun _ h => h))
end

/-! ### an own row becomes plain data -/
def AV.frz1 (n γ : Nat) (fr : Bool) (x : Dat) : AV → AV
  | .own m γ' => if m = n ∧ γ' = γ then .d fr x else .own m γ'
  | a => a
def AV.frz (n γ : Nat) (fr : Bool) (x : Dat) : AV → AV
  | .agg fs => mkAgg (fs.map (AV.frz1 n γ fr x))
  | a => a.frz1 n γ fr x

def Ob.frz (n γ : Nat) (fr : Bool) (x : Dat) : Ob → Ob
  | .cells E cs => .cells E (cs.map (AV.frz1 n γ fr x))
  | o => o
def St.frz (n γ : Nat) (fr : Bool) (x : Dat) (st : St) : St := ⟨st.env.map fun p => (p.1, p.2.frz n γ fr x), (st.obs.set n none).map fun o => o.map (Ob.frz n γ fr x)⟩

theorem look_map (g : AV → AV) (hg : g .junk = .junk) : ∀ (env : List (Nat × AV)) (t : Nat), look t (env.map fun p => (p.1, g p.2)) = g (look t env)
  | [], t => hg.symm
  | (k, v) :: e, t => by
    simp only [List.map_cons, look]
    split
    · rfl
    · exact look_map g hg e t

theorem frz_row {E : En} {st : St} {a : Act} {w : World} {hs : List Hd} (h : Rel E st a w hs) {n Ee sz γ : Nat} {fr : Bool} {xs : List Dat} (hn : E.ps.length ≤ n) (ho : st.obs[n]? = some (some (.row Ee sz γ fr xs))) {v : Value} (hk : hs[n]? = some (.row v)) :
    DV w (((st.cx E w hs).sub (st.obs.set n none)).Sh fr) (.sl sz xs) v := by
  have le := Cx.Le.sub (C := st.cx E w hs) (Sub.kill (obs := st.obs) n)
  obtain ⟨hd', e3, h3⟩ := h.obj ho
  rw [hk] at e3
  cases e3
  obtain ⟨vv, e4, h0, hz, fl, hl, h4⟩ := OR.row_val h3
  cases e4
  obtain ⟨A, c, rfl, h5, h6, h7⟩ := owns_slice h4
  show Dat.R _ _ _ _
  unfold Dat.R
  refine ⟨A, c, rfl, h5, h6, hz, ?_⟩
  rcases h7 with h7 | ⟨b, rfl⟩
  · exact .inl (List.length_eq_zero_iff.1 h7)
  · have hb : b < w.heap.size := (h4.lt b rfl).2
    refine .inr ⟨b, 0, fl, rfl, ?_, Dat.RL.stable (le.sh fr) _ _ hl, fun j q hq => ?_⟩
    · refine ⟨hb, fun m k hal hk' hbk => ?_, ?_⟩
      · obtain ⟨o', ho'⟩ := hal
        have hne : m ≠ n := by
          rintro rfl
          have : (st.obs.set m none)[m]? = some (some o') := ho'
          rw [List.getElem?_set] at this
          split at this
          · split at this <;> simp at this
          · contradiction
        have ho2 : st.obs[m]? = some (some o') := (Sub.kill (obs := st.obs) n).2 m o' ho'
        exact h.wok.dist m n k _ hne ⟨o', ho2⟩ ⟨_, ho⟩ hk' hk b hbk (by simp [Hd.blks, Value.ownBlock])
      · rcases h.wok.new n _ ⟨_, ho⟩ hk b (by simp [Hd.blks, Value.ownBlock]) with h8 | ⟨h8, _⟩
        · exact .inl h8
        · omega
    · have := h4.cells (g := b) rfl j q hq
      rw [Addr.add_mid, Nat.zero_add] at this
      rw [Nat.zero_add]
      exact this

theorem VL.map1 {C C' : Cx} {g : AV → AV} (hg : ∀ a v, a.VR C v → (g a).VR C' v) : ∀ {as : List AV} {vs : List Value}, AV.VL C as vs → AV.VL C' (as.map g) vs
  | [], vs, h => by unfold AV.VL at h ⊢; exact h
  | a :: as, vs, h => by
    simp only [List.map_cons]
    unfold AV.VL at h ⊢
    obtain ⟨v, rest, rfl, h1, h2⟩ := h
    exact ⟨v, rest, rfl, hg a v h1, VL.map1 hg h2⟩

theorem Rel.frz {E : En} {st : St} {a : Act} {w : World} {hs : List Hd} (h : Rel E st a w hs) {n Ee sz γ : Nat} {fr : Bool} {xs : List Dat} (hn : E.ps.length ≤ n) (ho : st.obs[n]? = some (some (.row Ee sz γ fr xs))) :
    Rel E (st.frz n γ fr (.sl sz xs)) a w hs := by
  have hs1 := Sub.kill (obs := st.obs) n
  have h1 : Rel E ⟨st.env, st.obs.set n none⟩ a w hs := h.le (Cx.Le.sub (C := st.cx E w hs) hs1) (h.wok.sub hs1)
  have le := Cx.Le.sub (C := st.cx E w hs) hs1
  have one : ∀ (av : AV) (v : Value), av.VR (st.cx E w hs) v → (av.frz1 n γ fr (.sl sz xs)).VR ((st.cx E w hs).sub (st.obs.set n none)) v := by
    intro av v hv
    unfold AV.frz1
    split
    · rename_i m γ'
      split
      · rename_i e
        obtain ⟨rfl, rfl⟩ := e
        unfold AV.VR at hv
        have hk := (hv.2 _ _ _ _ _ ho).2 rfl
        unfold AV.VR
        exact frz_row h hn ho hk
      · exact AV.VR.le le _ _ hv
    · exact AV.VR.le le _ _ hv
  -- the objects, told anew
  let obs1 := st.obs.set n none
  let obs2 := obs1.map fun o => o.map (Ob.frz n γ fr (.sl sz xs))
  let C1 : Cx := (st.cx E w hs).sub obs1
  let C2 : Cx := { C1 with obs := obs2 }
  have get2 : ∀ (m : Nat) (o : Ob), obs2[m]? = some (some o) → ∃ o', obs1[m]? = some (some o') ∧ o = o'.frz n γ fr (.sl sz xs) := by
    intro m o e
    simp only [obs2, List.getElem?_map] at e
    cases hq : obs1[m]? with
    | none => rw [hq] at e; cases e
    | some x =>
      rw [hq] at e
      cases x with
      | none => simp at e
      | some o' => simp at e; exact ⟨o', rfl, e.symm⟩
  have alive2 : ∀ m, C2.alive m → C1.alive m := fun m ⟨o, e⟩ => by
    obtain ⟨o', e', _⟩ := get2 m o e
    exact ⟨o', e'⟩
  have le2 : C1.Le C2 := {
    b0 := rfl
    old := rfl
    len := by simp [C1, C2, obs2, Cx.sub, obs1]
    sh := fun fr b hb => ⟨⟨hb.1, fun m k ha hk => hb.2.1 m k (alive2 m ha) hk, hb.2.2⟩, rfl⟩
    row := fun m E' sz' γ' fr' xs' _ e => by
      obtain ⟨o', e', e2⟩ := get2 m _ e
      cases o' with
      | row a1 a2 a3 a4 a5 =>
        simp only [Ob.frz, Ob.row.injEq] at e2
        obtain ⟨rfl, rfl, rfl, rfl, rfl⟩ := e2
        exact ⟨_, _, _, _, _, e', Nat.le_refl _, fun _ => rfl⟩
      | cells => simp [Ob.frz] at e2
      | buf => simp [Ob.frz] at e2
    ptr := fun m o _ e => by
      obtain ⟨o', e', _⟩ := get2 m o e
      exact ⟨⟨o', e'⟩, fun b => ⟨fun g => g, fun u g => ⟨u, g⟩⟩⟩ }
  have two : ∀ (av : AV) (v : Value), av.VR (st.cx E w hs) v → (av.frz1 n γ fr (.sl sz xs)).VR C2 v := fun av v hv => AV.VR.le le2 _ _ (one av v hv)
  have wok1 : WOK E.w0 E.ps C1 := h1.wok
  have wok2 : WOK E.w0 E.ps C2 := {
    b0 := wok1.b0
    os := wok1.os
    tape := wok1.tape
    output := wok1.output
    size := wok1.size
    len := by have := wok1.len; simpa [C2, obs2, C1, Cx.sub] using this
    frame := wok1.frame
    objs := fun m o k ho' hk' => by
      obtain ⟨o', e', rfl⟩ := get2 m o ho'
      have hor := wok1.objs m o' k e' hk'
      have hor2 := hor.le le2 fun _ _ => rfl
      cases o' with
      | row => exact hor2
      | buf => exact hor2
      | cells E' cs =>
        cases k with
        | ptr b =>
          have e0 : st.obs[m]? = some (some (.cells E' cs)) := hs1.2 m _ e'
          obtain ⟨vs, g1, g2, g3⟩ := h.wok.objs m _ (.ptr b) e0 hk'
          exact ⟨vs, g1, VL.map1 two g2, g3⟩
        | _ => exact hor.elim
    dist := fun m l i j hml ha hb => wok1.dist m l i j hml (alive2 m ha) (alive2 l hb)
    new := fun m k ha => wok1.new m k (alive2 m ha)
    plen := wok1.plen
    parP := wok1.parP
    parB := wok1.parB
    parR := fun i v E' sz' fr' xs' e e2 => by
      obtain ⟨o', e', e3⟩ := get2 i _ e2
      cases o' with
      | row a1 a2 a3 a4 a5 =>
        simp only [Ob.frz, Ob.row.injEq] at e3
        obtain ⟨rfl, rfl, rfl, rfl, rfl⟩ := e3
        exact wok1.parR i v _ _ _ _ e e'
      | cells => simp [Ob.frz] at e3
      | buf => simp [Ob.frz] at e3 }
  refine ⟨wok2, h1.df, h1.size, fun t => ?_⟩
  show (look t (st.env.map fun p => (p.1, p.2.frz n γ fr (.sl sz xs)))).VR _ _
  rw [look_map (fun av => av.frz n γ fr (.sl sz xs)) rfl]
  have hv := h.env t
  generalize look t st.env = av at hv
  unfold AV.frz
  split
  · rename_i fs
    unfold AV.VR at hv
    obtain ⟨cs, e, h2, h3⟩ := hv
    have := VR.mkAgg (C := C2) (VL.map1 two h2) h3
    simp only [Array.toArray_toList] at this
    rw [e]; exact this
  · exact two av _ hv

theorem AWP.frz {P : Program} {E : En} {Q : Exit → St → Prop} {st : St} {c : Code} (n : Nat) {Ee sz γ : Nat} {fr : Bool} {xs : List Dat} (hn : E.ps.length ≤ n) (ho : st.obs[n]? = some (some (.row Ee sz γ fr xs)))
    (h : AWP P E c Q (st.frz n γ fr (.sl sz xs))) : AWP P E c Q st := fun a w hs hr => h a w hs (hr.frz hn ho)

/-! ### a function -/
inductive AV.Sub1 : AV → AV → Prop where
  | refl (a : AV) : AV.Sub1 a a
  | lo (x : Dat) : AV.Sub1 (.d true x) (.d false x)
  | nil (g fr : Bool) (sz : Nat) : AV.Sub1 (.d g (.v (.slice none 0 0))) (.d fr (.sl sz []))

inductive SubL : List AV → List AV → Prop where
  | nil : SubL [] []
  | cons {a b : AV} {as bs : List AV} : AV.Sub1 a b → SubL as bs → SubL (a :: as) (b :: bs)

theorem AV.Sub1.vr {C : Cx} {a b : AV} (h : AV.Sub1 a b) {v : Value} (hv : a.VR C v) : b.VR C v := by
  cases h with
  | refl => exact hv
  | lo x =>
    unfold AV.VR at hv ⊢
    exact hv.stable fun b hb => ⟨hb.any, rfl⟩
  | nil g fr sz =>
    unfold AV.VR at hv ⊢
    obtain ⟨rfl, _⟩ := DV.v_iff.1 hv
    show Dat.R _ _ _ _
    unfold Dat.R
    exact ⟨none, 0, rfl, Nat.le_refl _, Nat.zero_le _, by simp, .inl rfl⟩
theorem SubL.vl {C : Cx} {as bs : List AV} (h : SubL as bs) : ∀ {vs : List Value}, AV.VL C as vs → AV.VL C bs vs := by
  induction h with
  | nil => exact fun h => h
  | cons h1 _ ih =>
    intro vs hv
    unfold AV.VL at hv ⊢
    obtain ⟨v, rest, rfl, h2, h3⟩ := hv
    exact ⟨v, rest, rfl, h1.vr h2, ih h3⟩

def resOne (T : Nat → TI) (st : St) : ResultVar → Option AV
  | .tmp t => some (look t st.env)
  | .cell t ty => match look t st.env with
    | .ptr m 0 => (match st.obs.getD m none with
      | some (.cells _ cs) => if (T ty).desc.agg = true ∧ (T ty).size = cs.length then some (mkAgg cs) else none
      | _ => none)
    | _ => none

def resL (T : Nat → TI) (st : St) : List ResultVar → Option (List AV)
  | [] => some []
  | r :: rs => match resOne T st r, resL T st rs with
    | some a, some as => some (a :: as)
    | _, _ => none

def resSem (tmps : Array Value) : ResultVar → Sem Value
  | .tmp t => pure (tmps.getD t undef)
  | .cell q t => do loadVar t (← asAddr (tmps.getD q undef))

theorem results_eq (fn : Func) (tmps : Array Value) : results fn tmps = (do let vs ← fn.results.mapM (resSem tmps); pure (if h : vs.size = 1 then vs[0] else .tuple vs)) := by
  unfold results
  congr 1

theorem resOne_sound {P : Program} {T : Nat → TI} (hT : TabOK P T) {E : En} {st : St} {a : Act} {w : World} {hs : List Hd} (h : Rel E st a w hs) {r : ResultVar} {av : AV} (e : resOne T st r = some av) :
    ∃ v, av.VR (st.cx E w hs) v ∧ (resSem a.tmps r).run P w = .ok v w := by
  cases r with
  | tmp t =>
    simp only [resOne, Option.some.injEq] at e
    subst e
    exact ⟨_, h.env t, rfl⟩
  | cell t ty =>
    unfold resOne at e
    dsimp only at e
    split at e
    · rename_i m e1
      split at e
      · rename_i E0 cs e2
        split at e
        · rename_i hc
          obtain ⟨ha, hl⟩ := hc
          cases e
          have hob : st.obs[m]? = some (some (.cells E0 cs)) := by
            rw [List.getD_eq_getElem?_getD] at e2
            cases hq : st.obs[m]? with
            | none => simp [hq] at e2
            | some x => simp [hq] at e2; rw [e2]
          have hv := h.env t
          rw [e1] at hv
          unfold AV.VR at hv
          obtain ⟨b, hb, e3⟩ := hv.2 _ hob
          obtain ⟨hd', e4, h3⟩ := h.obj hob
          obtain ⟨b', rfl, vs, h4, h5, h6⟩ := OR.cells_val h3
          have e5 : b' = b := by
            have e6 : (st.cx E w hs).hs = hs := rfl
            rcases hb with hb | ⟨q, hb⟩ <;> rw [e6, e4] at hb
            · simpa using hb
            · simp at hb
          subst e5
          have hc : ∀ j, w.cell? ⟨b', j, none⟩ = vs[j]? := fun j => by
            have : w.heap[b']? = some (.cells vs.toArray E0 (0, 0)) := h4
            simp [World.cell?, this]
          refine ⟨.agg vs.toArray, VR.mkAgg h5 h6, ?_⟩
          have := run_load_agg (P := P) (w := w) hT ha b' 0 vs (by rw [VL.len h5]; exact hl.symm) (fun j q hq => by rw [Nat.zero_add, hc]; exact hq)
          show (do loadVar ty (← asAddr (a.tmps.getD t undef)) : Sem Value).run P w = _
          rw [e3]
          exact this
        · cases e
      · cases e
    · cases e

theorem resL_sound {P : Program} {T : Nat → TI} (hT : TabOK P T) {E : En} {st : St} {a : Act} {w : World} {hs : List Hd} (h : Rel E st a w hs) : ∀ {rs : List ResultVar} {avs : List AV}, resL T st rs = some avs →
    ∃ vs : List Value, AV.VL (st.cx E w hs) avs vs ∧ (rs.mapM (m := Sem) (resSem a.tmps)).run P w = .ok vs w
  | [], avs, e => by
    simp only [resL, Option.some.injEq] at e
    subst e
    exact ⟨[], by simp [AV.VL], by simp⟩
  | r :: rs, avs, e => by
    unfold resL at e
    split at e
    · rename_i av as e1 e2
      cases e
      obtain ⟨v, h1, h2⟩ := resOne_sound hT h e1
      obtain ⟨vs, h3, h4⟩ := resL_sound hT h e2
      refine ⟨v :: vs, by unfold AV.VL; exact ⟨v, vs, rfl, h1, h3⟩, ?_⟩
      rw [List.mapM_cons, Sem.run_bind, h2, Result.andThen_ok, Sem.run_bind, h4, Result.andThen_ok, Sem.run_pure]
    · cases e

/-- What a function hands back fits what is said of it. -/
def Back (T : Nat → TI) (rs : List ResultVar) (R : Res) (st : St) : Prop :=
  (∃ avs, resL T st rs = some avs ∧ (match avs with
    | [a] => AV.Sub1 a R.r
    | as => ∃ bs, R.r = .tup bs ∧ SubL as bs)) ∧ ∀ ob, R.o = some ob → st.obs[0]? = some (some ob)

theorem results_sound {P : Program} {T : Nat → TI} (hT : TabOK P T) {E : En} {st : St} {a : Act} {w : World} {hs : List Hd} (h : Rel E st a w hs) {fn : Func} {R : Res} (hb : Back T fn.results.toList R st) :
    ∃ v, (results fn a.tmps).run P w = .ok v w ∧ R.r.VR (st.cx E w hs) v := by
  obtain ⟨⟨avs, e, hm⟩, _⟩ := hb
  obtain ⟨vs, h1, h2⟩ := resL_sound hT h e
  have hlen := VL.len h1
  have hrun : (results fn a.tmps).run P w = .ok (if h : vs.toArray.size = 1 then vs.toArray[0] else .tuple vs.toArray) w := by
    rw [results_eq, Array.mapM_eq_mapM_toList, Sem.run_bind]
    have : (List.toArray <$> fn.results.toList.mapM (m := Sem) (resSem a.tmps)).run P w = .ok vs.toArray w := by
      rw [map_eq_pure_bind, Sem.run_bind, h2, Result.andThen_ok, Sem.run_pure]
    rw [this, Result.andThen_ok, Sem.run_pure]
  refine ⟨_, hrun, ?_⟩
  split at hm
  · rename_i av
    have : ∃ v, vs = [v] := by
      match vs, hlen with
      | [v], _ => exact ⟨v, rfl⟩
    obtain ⟨v, rfl⟩ := this
    unfold AV.VL at h1
    obtain ⟨v', rest, e1, h3, h4⟩ := h1
    cases e1
    exact hm.vr h3
  · rename_i hn
    obtain ⟨bs, e1, h3⟩ := hm
    have : vs.length ≠ 1 := by
      intro e2
      rw [hlen] at e2
      obtain ⟨av, e3⟩ := List.length_eq_one_iff.1 e2
      exact hn av e3
    have e3 : ¬ vs.toArray.size = 1 := by simpa using this
    rw [dif_neg e3, e1]
    unfold AV.VR
    exact ⟨_, rfl, by simpa using h3.vl h1⟩

/-- The state a function begins in. -/
def begin (args : List AV) (i : Option Ob) : St := ⟨args.zipIdx.map (fun p => (p.2, p.1)), i.toList.map some⟩

theorem look_begin : ∀ (args : List AV) (k t : Nat), look t ((args.zipIdx k).map (fun p => (p.2, p.1))) = if k ≤ t then (args[t - k]?).getD .junk else .junk
  | [], k, t => by simp [look]
  | a :: as, k, t => by
    simp only [List.zipIdx_cons, List.map_cons, look]
    split
    · rename_i e; subst e; simp
    · rename_i e
      rw [look_begin as (k + 1) t]
      by_cases h : k + 1 ≤ t
      · have h1 : k ≤ t := by omega
        have h2 : t - k = (t - (k + 1)) + 1 := by omega
        simp [h, h1, h2]
      · have h1 : ¬ k ≤ t := by omega
        simp [h, h1]

theorem spec_of_awp {P : Program} {G : Cfg} (hG : G.OK P) {f : FuncId} {fn : Func} {c : Code} {args : List AV} {i : Option Ob} {R : Res} (hf : P.funcs[f]? = some fn) (hb : fn.body = some c) (hn : args.length ≤ fn.ntmps)
    (h : ∀ E : En, E.ps.length = i.toList.length → E.N = fn.ntmps → R.pre → AWP P E c (fun e st => (e = .ret ∨ e = .normal) ∧ Back G.T fn.results.toList R st) (begin args i)) : Spec P f args i R := by
  intro w old hs vals wok hvl hpre
  have hvn := VL.len hvl
  let E : En := ⟨w, old, hs, fn.ntmps⟩
  have hrel : Rel E (begin args i) { tmps := vals.toArray ++ Array.replicate (fn.ntmps - vals.toArray.size) undef, defers := [] } w hs := by
    refine ⟨wok, rfl, by simp [E]; omega, fun t => ?_⟩
    show (look t ((args.zipIdx 0).map (fun p => (p.2, p.1)))).VR _ _
    rw [look_begin args 0 t]
    simp only [Nat.zero_le, if_true, Nat.sub_zero]
    cases ht : args[t]? with
    | none => simp only [Option.getD_none]; unfold AV.VR; trivial
    | some av =>
      obtain ⟨v, hv, hvr⟩ := VL.get hvl ht
      have hlt : t < vals.length := (List.getElem?_eq_some_iff.1 hv).1
      have e : (vals.toArray ++ Array.replicate (fn.ntmps - vals.toArray.size) undef).getD t undef = v := by
        have h1 : (vals.toArray ++ Array.replicate (fn.ntmps - vals.toArray.size) undef)[t]? = some v := by
          rw [Array.getElem?_append_left (by simpa using hlt)]
          simpa using hv
        rw [Array.getD_eq_getD_getElem?, h1]; rfl
      simp only [e, Option.getD_some]
      exact hvr
  refine calls_of_wp hf hb (Code.wp_mono ?_ (h E (by have := wok.len; simp [entryCx] at this; exact this.symm) rfl hpre _ w hs hrel))
  intro e a w' ⟨st, hs', hr, he, hback⟩
  obtain ⟨v, h1, h2⟩ := results_sound hG.T hr hback
  have fin : a.defers = [] ∧ ∃ v, (results fn a.tmps).run P w' = .ok v w' ∧ ∃ v_1 obs' hs'_1, Ending.returned v = .returned v_1 ∧ WOK w hs ⟨w', w.heap.size, old, obs', hs'_1⟩ ∧
      R.r.VR ⟨w', w.heap.size, old, obs', hs'_1⟩ v_1 ∧ (∀ ob, R.o = some ob → obs'[0]? = some (some ob)) :=
    ⟨hr.df, v, h1, v, st.obs, hs', rfl, hr.wok, h2, hback.2⟩
  rcases he with rfl | rfl
  · exact fin
  · exact fin

end Go.AM
