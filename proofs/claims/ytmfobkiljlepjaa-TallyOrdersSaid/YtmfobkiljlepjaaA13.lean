/- AM, part 13: which operation; evaluation; a region in the order of its text. -/
import Derived.Test.YtmfobkiljlepjaaA20
set_option linter.unusedVariables false
set_option linter.unusedSimpArgs false
namespace Go.AM
open Go Go.RowKit

/-- The program's tables. -/
structure Cfg where
  T : Nat → TI
  F : FT
  Mu : FuncId → Bool
  Ef : FuncId → Bool

structure Cfg.OK (G : Cfg) (P : Program) : Prop where
  T : TabOK P G.T
  F : FOK P G.F

def opQ (G : Cfg) (g : Bool) (o : Oper) : Q := match o.op with
  | .move x => opMove x
  | .assign x => opMove x
  | .pick c x y => opPick c x y
  | .binOp op t x y _ => opBin G.T op t x y
  | .unOp op _ x => opUn op x
  | .convert s d x => opConv G.T s d x
  | .extract x i => opExtract x i
  | .nilCheck x => opNil x
  | .alloc t => opAlloc G.T t
  | .box t x => opBox G.T t x
  | .build t ps => opBuild G.T t ps
  | .buildSlice t len ps => opBuildSlice G.T g t len ps
  | .makeSlice t x y => opMakeSlice G.T g t x y
  | .load t p => opLoad G.T t p
  | .store t p x => opStore G.T t p x
  | .slice t x lo hi mx => opSlice G.T t x lo hi mx
  | .fieldAddr s x f => opFieldAddr G.T s x f
  | .field s x f => opField G.T s x f
  | .indexAddr t x i => opIndexAddr G.T t x i
  | .index t x i => opIndex G.T t x i
  | .call ⟨.builtin .len, ⟨[x]⟩, ⟨[t]⟩⟩ => opLen G.T t x
  | .call ⟨.builtin .min, ⟨[x, y]⟩, _⟩ => opMinMax false x y
  | .call ⟨.builtin .max, ⟨[x, y]⟩, _⟩ => opMinMax true x y
  | .call ⟨.builtin .append, ⟨[x, y]⟩, ⟨[t, t']⟩⟩ => if t = t' then opAppend G.T t x y else opAppendZ G.T t t' x y
  | .call ⟨.value f, args, tys⟩ => opCall G.F G.Mu G.T f args tys
  | _ => .bad

section
variable {P : Program} {G : Cfg} {S : SpecEqT} {E : En} {st : St} {a : Act} {w : World} {hs : List Hd} {o : Oper} {v : AV} {u : List (Nat × Ob)} {n : List Ob}

theorem opQ_sound (hG : G.OK P) (h : Rel E st a w hs) (hd : ∀ t, o.dst = some t → t < E.N) {g : Bool} (hr : (opQ G g o).Runs S st v u n) : OpOK P E o st a w hs v u n := by
  unfold opQ at hr
  split at hr <;> rename_i ho
  · exact opMove_sound h hd (.inl ho) hr
  · exact opMove_sound h hd (.inr ho) hr
  · exact opPick_sound h hd ho hr
  · exact opBin_sound hG.T h hd ho hr
  · exact opUn_sound h hd ho hr
  · exact opConv_sound hG.T h hd ho hr
  · exact opExtract_sound h hd ho hr
  · exact opNil_sound h hd ho hr
  · exact opAlloc_sound hG.T h hd ho hr
  · exact opBox_sound h hd ho hr
  · exact opBuild_sound hG.T h hd ho hr
  · exact opBuildSlice_sound hG.T h hd ho hr
  · exact opMakeSlice_sound hG.T h hd ho hr
  · exact opLoad_sound hG.T h hd ho hr
  · exact opStore_sound hG.T h hd ho hr
  · exact opSlice_sound hG.T h hd ho hr
  · exact opFieldAddr_sound hG.T h hd ho hr
  · exact opField_sound hG.T h hd ho hr
  · exact opIndexAddr_sound hG.T h hd ho hr
  · exact opIndex_sound hG.T h hd ho hr
  · exact opLen_sound hG.T h hd ho hr
  · exact opMin_sound h hd ho hr
  · exact opMax_sound h hd ho hr
  · split at hr
    · rename_i e
      subst e
      exact opAppend_sound hG.T h hd ho hr
    · exact opAppendZ_sound hG.T h hd ho hr
  · exact opCall_sound h hd hG.F ho hr
  · unfold Q.Runs at hr; exact hr.elim

end

/-! ### evaluation -/
inductive Out where
  | bad
  | ok (p : Prop) (v : AV) (u : List (Nat × Ob)) (n : List Ob)

def Out.and (q : Prop) : Out → Out
  | .bad => .bad
  | .ok p v u n => .ok (q ∧ p) v u n

def Q.eval (c : Bool) : Q → St → Out
  | .slot t k, st => match look t st.env with
    | .when c' a => ((k a).eval c st).and (c = true → c' = true)
    | a => (k a).eval c st
  | .slotW t k, st => (k (look t st.env)).eval c st
  | .obj m k, st => match st.obs.getD m none with
    | some o => (k o).eval c st
    | none => .bad
  | .fresh k, st => (k st.obs.length).eval c st
  | .side p k, st => (k.eval c st).and p
  | .call _ _ _, _ => .bad
  | .fin v u n, _ => .ok True v u n
  | .bad, _ => .bad

theorem Out.and_ok {q : Prop} {r : Out} {p : Prop} {v : AV} {u : List (Nat × Ob)} {n : List Ob} (h : r.and q = .ok p v u n) : ∃ p', r = .ok p' v u n ∧ (p → q ∧ p') := by
  cases r with
  | bad => simp [Out.and] at h
  | ok p' v' u' n' =>
    simp only [Out.and, Out.ok.injEq] at h
    obtain ⟨rfl, rfl, rfl, rfl⟩ := h
    exact ⟨p', rfl, fun x => x⟩

theorem eval_runs {S : SpecEqT} {c : Bool} (hc : c = true) : ∀ {q : Q} {st : St} {p : Prop} {v : AV} {u : List (Nat × Ob)} {n : List Ob}, q.eval c st = .ok p v u n → p → q.Runs S st v u n
  | .slot t k, st, p, v, u, n, h, hp => by
    unfold Q.eval at h
    split at h
    · rename_i c' a e
      obtain ⟨p', h1, h2⟩ := Out.and_ok h
      unfold Q.Runs
      exact ⟨a, .inr ⟨c', e, (h2 hp).1 hc⟩, eval_runs hc h1 (h2 hp).2⟩
    · unfold Q.Runs
      exact ⟨_, .inl rfl, eval_runs hc h hp⟩
  | .slotW t k, st, p, v, u, n, h, hp => by
    unfold Q.eval at h
    unfold Q.Runs
    exact eval_runs hc h hp
  | .obj m k, st, p, v, u, n, h, hp => by
    unfold Q.eval at h
    split at h
    · rename_i o e
      unfold Q.Runs
      refine ⟨o, ?_, eval_runs hc h hp⟩
      rw [List.getD_eq_getElem?_getD] at e
      cases hq : st.obs[m]? with
      | none => simp [hq] at e
      | some x => simp [hq] at e; rw [e]
    · cases h
  | .fresh k, st, p, v, u, n, h, hp => by
    unfold Q.eval at h
    unfold Q.Runs
    exact eval_runs hc h hp
  | .side q k, st, p, v, u, n, h, hp => by
    unfold Q.eval at h
    obtain ⟨p', h1, h2⟩ := Out.and_ok h
    unfold Q.Runs
    exact ⟨(h2 hp).1, eval_runs hc h1 (h2 hp).2⟩
  | .call _ _ _, st, p, v, u, n, h, hp => by unfold Q.eval at h; cases h
  | .fin v' u' n', st, p, v, u, n, h, hp => by
    unfold Q.eval at h
    simp only [Out.ok.injEq] at h
    obtain ⟨_, rfl, rfl, rfl⟩ := h
    unfold Q.Runs
    exact ⟨rfl, rfl, rfl⟩
  | .bad, st, p, v, u, n, h, hp => by unfold Q.eval at h; cases h

/-- The guard of an operation: what it comes to. -/
def gcond (all : List Oper) (st : St) (j : Nat) (want : Bool) : Option Bool :=
  match (all[j]?).bind (·.dst) with
  | some t => (boolOf (look t st.env)).map fun p => p.1 && (if want then p.2 else !p.2)
  | none => none

def Oper.ef (G : Cfg) (o : Oper) : Bool := match o.op with
  | .store _ _ _ => true
  | .alloc _ => true
  | .box _ _ => true
  | .call ⟨.builtin .append, _, _⟩ => true
  | .call ⟨.value (.func f), _, _⟩ => G.Ef f
  | _ => false

def evalL (G : Cfg) (own : List Nat) (all : List Oper) (K : St → Prop) : List Oper → Nat → St → Prop
  | [], _, st => K st
  | o :: os, i, st => match o.guard with
    | none => match (opQ G (!own.contains i) o).eval true st with
      | .bad => False
      | .ok p v u n => p ∧ evalL G own all K os (i + 1) (st.upd o.dst v u n)
    | some (j, want) => match gcond all st j want with
      | none => False
      | some c => if Oper.ef G o = true then (c = true → match (opQ G (!own.contains i) o).eval true st with
          | .bad => False
          | .ok p v u n => p ∧ evalL G own all K os (i + 1) (st.upd o.dst v u n)) ∧ (c = false → evalL G own all K os (i + 1) (st.put o.dst (.when false .junk)))
        else match (opQ G true o).eval c st with
          | .bad => False
          | .ok p v u n => (c = true → p) ∧ u = [] ∧ n = [] ∧ evalL G own all K os (i + 1) (st.put o.dst (.when c v))

def stepL (G : Cfg) (own : List Nat) (all : List Oper) (K : St → Prop) (os : List Oper) (i : Nat) (d : Option Nat) : Out → St → Prop
  | .bad, _ => False
  | .ok p v u n, st => p ∧ evalL G own all K os (i + 1) (st.upd d v u n)
def stepG (G : Cfg) (own : List Nat) (all : List Oper) (K : St → Prop) (os : List Oper) (i : Nat) (d : Option Nat) (c : Bool) : Out → St → Prop
  | .bad, _ => False
  | .ok p v u n, st => (c = true → p) ∧ u = [] ∧ n = [] ∧ evalL G own all K os (i + 1) (st.put d (.when c v))
def guardL (G : Cfg) (own : List Nat) (all : List Oper) (K : St → Prop) (os : List Oper) (i : Nat) (o : Oper) (st : St) : Option Bool → Prop
  | none => False
  | some c => if Oper.ef G o = true then (c = true → stepL G own all K os i o.dst ((opQ G (!own.contains i) o).eval true st) st) ∧ (c = false → evalL G own all K os (i + 1) (st.put o.dst (.when false .junk)))
        else stepG G own all K os i o.dst c ((opQ G true o).eval c st) st

section
variable {P : Program} {G : Cfg} {E : En} {st : St} {a : Act} {w : World} {hs : List Hd} {all : List Oper} {K : St → Prop} {own : List Nat} {i : Nat}

theorem evalL_nil : evalL G own all K [] i st = K st := rfl
theorem evalL_plain {d : Option Tmp} {op : Op} {ty : TypeId} {ps : String} {af : Array Edge} {os : List Oper} :
    evalL G own all K (⟨d, op, ty, ps, af, none⟩ :: os) i st = stepL G own all K os i d ((opQ G (!own.contains i) ⟨d, op, ty, ps, af, none⟩).eval true st) st := by
  unfold evalL stepL
  dsimp only
  split <;> (rename_i h; rw [h]) <;> try rfl
theorem evalL_guard {d : Option Tmp} {op : Op} {ty : TypeId} {ps : String} {af : Array Edge} {j : Nat} {want : Bool} {os : List Oper} :
    evalL G own all K (⟨d, op, ty, ps, af, some (j, want)⟩ :: os) i st = guardL G own all K os i ⟨d, op, ty, ps, af, some (j, want)⟩ st (gcond all st j want) := by
  unfold evalL guardL stepL stepG
  dsimp only
  split
  · simp [*]
  · rename_i c e
    try simp only [e]
    split
    · congr 1
      apply propext
      constructor <;> intro h hc <;> have := h hc <;> split at this <;> simp_all
    · split <;> (rename_i h; rw [h]) <;> try rfl

theorem evalL_sound (hG : G.OK P) {ops : Array Oper} {Q : Exit → Act → World → Prop} (hK : ∀ st a w hs, Rel E st a w hs → K st → Q .normal a w) :
    ∀ {os : List Oper} {i : Nat} {st : St} {a : Act} {w : World} {hs : List Hd}, Rel E st a w hs → (∀ o ∈ os, ∀ t, o.dst = some t → t < E.N) → (∀ o ∈ ops.toList, ∀ t, o.dst = some t → t < E.N) → evalL G own ops.toList K os i st → wpList P ops Q os a w
  | [], i, st, a, w, hs, h, _, _, he => by unfold evalL at he; exact wpList_nil (hK _ _ _ _ h he)
  | o :: os, i, st, a, w, hs, h, hd, hd2, he => by
    have hdo : ∀ t, o.dst = some t → t < E.N := hd o (by simp)
    have hdos : ∀ o ∈ os, ∀ t, o.dst = some t → t < E.N := fun o' ho' => hd o' (by simp [ho'])
    have main : ∀ {v : AV} {u : List (Nat × Ob)} {n : List Ob} {g : Bool} {p : Prop} {c : Bool}, c = true → (opQ G g o).eval c st = .ok p v u n → p → evalL G own ops.toList K os (i + 1) (st.upd o.dst v u n) →
        ∀ K' : Act → World → Prop, (∀ a w, wpList P ops Q os a w → K' a w) → o.wp P a w K' Q := by
      intro v u n g p c hc e hp hrest K' hK'
      have hr : (opQ G g o).Runs (fun _ _ _ => False) st v u n := eval_runs hc e hp
      exact opQ_sound hG h hdo hr K' Q fun a' w' hs' hrel => hK' _ _ (evalL_sound hG hK hrel hdos hd2 hrest)
    have skip : ∀ v : AV, evalL G own ops.toList K os (i + 1) (st.put o.dst v) → v.VR (st.cx E w hs) undef → wpList P ops Q os (a.put o.dst undef) w := fun v hrest hv => evalL_sound hG hK (h.put hv o.dst hdo) hdos hd2 hrest
    refine wpList_step fun K' hK' => ?_
    unfold evalL at he
    split at he
    · rename_i hg
      rw [if_pos (by simp [Region.wanted, hg])]
      split at he
      · exact he.elim
      · rename_i p v u n e
        exact main rfl e he.1 he.2 K' hK'
    · rename_i j want hg
      split at he
      · exact he.elim
      · rename_i c e
        -- the guard, read
        have hc : Region.wanted o (yielded ops a.tmps) = c := by
          simp only [Region.wanted, hg, yielded]
          unfold gcond at e
          have hl : ops.toList[j]? = ops[j]? := by simp
          rw [hl] at e
          split at e
          · rename_i t ht
            obtain ⟨⟨c1, b⟩, e1, rfl⟩ := Option.map_eq_some_iff.1 e
            rw [ht]
            have hv := h.env t
            have htN : t < a.tmps.size := by
              rw [h.size]
              obtain ⟨o', ho', h3⟩ := Option.bind_eq_some_iff.1 ht
              exact hd2 o' (by rw [← hl] at ho'; exact List.mem_of_getElem? ho') t h3
            have hget : a.tmps[t]? = some (a.tmps.getD t undef) := by simp [htN]
            simp only [Option.bind_some, hget]
            cases c1 with
            | true =>
              rw [boolOf_sound hv e1 rfl]
              cases want <;> cases b <;> rfl
            | false =>
              have : a.tmps.getD t undef = undef := by
                unfold boolOf at e1
                split at e1
                · cases e1
                · rename_i e5
                  rw [e5] at hv
                  unfold AV.VR at hv
                  simp only [Option.some.injEq, Prod.mk.injEq] at e1
                  exact hv.2 e1.1
                · cases e1
              rw [this]
              cases want <;> rfl
          · cases e
        rw [hc]
        split at he
        · cases c with
          | true =>
            simp only [if_true]
            have := he.1 rfl
            split at this
            · exact this.elim
            · rename_i p v u n e
              exact main rfl e this.1 this.2 K' hK'
          | false =>
            simp only [Bool.false_eq_true, if_false]
            exact hK' _ _ (skip _ (he.2 rfl) (by unfold AV.VR; exact ⟨by simp, fun _ => rfl⟩))
        · split at he
          · exact he.elim
          · rename_i p v u n e
            obtain ⟨h1, rfl, rfl, h4⟩ := he
            cases c with
            | true =>
              simp only [if_true]
              have hr : (opQ G true o).Runs (fun _ _ _ => False) st v [] [] := eval_runs rfl e (h1 rfl)
              refine opQ_sound hG h hdo hr K' Q fun a' w' hs' hrel => hK' _ _ ?_
              rw [St.upd_nil] at hrel
              have : Rel E (st.put o.dst (.when true v)) a' w' hs' := by
                refine ⟨?_, hrel.df, hrel.size, fun t => ?_⟩
                · have := hrel.wok
                  cases hdst : o.dst <;> rw [hdst] at this <;> exact this
                · have := hrel.env t
                  cases hdst : o.dst with
                  | none => rw [hdst] at this; exact this
                  | some d =>
                    rw [hdst] at this
                    simp only [St.put, look] at this ⊢
                    split at this
                    · rename_i etd
                      rw [if_pos etd]
                      unfold AV.VR
                      exact ⟨fun _ => this, by simp⟩
                    · rename_i etd
                      rw [if_neg etd]
                      exact this
              exact evalL_sound hG hK this hdos hd2 h4
            | false =>
              simp only [Bool.false_eq_true, if_false]
              exact hK' _ _ (skip _ h4 (by unfold AV.VR; exact ⟨by simp, fun _ => rfl⟩))
end

end Go.AM
