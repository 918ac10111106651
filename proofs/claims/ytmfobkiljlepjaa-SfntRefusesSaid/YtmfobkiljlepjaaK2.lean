/- AM, second half: regions, code, functions, arguments. -/
import Derived.Test.YtmfobkiljlepjaaK1
import Derived.Orders
import Derived.Laws.BitsLemmas
import Derived.RangeFuncCalls
import Derived.OrdersIn
import Derived.TacticsIn
import Derived.ChangeOld
import Derived.ChangeArms
import Derived.OpenShut
set_option linter.unusedVariables false
set_option linter.unusedSimpArgs false

/- AM, part 13: which operation; evaluation; a region in the order of its text. -/
namespace Go.AM
open Go Go.RowKit

/-- The program's tables. -/
structure Cfg where
  T : Nat → TI
  F : FT
  Mu : FuncId → Bool
  Ef : FuncId → Bool
  K : Nat → Option (List IntKind)

structure Cfg.OK (G : Cfg) (P : Program) : Prop where
  T : TabOK P G.T
  F : FOK P G.F
  K : ∀ t ks, G.K t = some ks → EqLaw P t ks

def opQ (G : Cfg) (g : Bool) (o : Oper) : Q := match o.op with
  | .move x => opMove x
  | .assign x => opMove x
  | .pick c x y => opPick c x y
  | .binOp op t x y _ => opBinK G.K G.T op t x y
  | .unOp op _ x => opUn op x
  | .convert s d x => opConvS G.T s d x
  | .extract x i => opExtract x i
  | .nilCheck x => opNil x
  | .alloc t => opAlloc G.T t
  | .box t x => opBox G.T t x
  | .build t ps => opBuild G.T t ps
  | .buildSlice t len ps => opBuildSlice G.T g t len ps
  | .makeSlice t x y => opMakeSlice G.T g t x y
  | .load t p => opLoad G.T t p
  | .store t p x => opStore G.T t p x
  | .slice t x lo hi mx => opSlice G.T t x lo hi mx
  | .fieldAddr s x f => opFieldAddr G.T s x f
  | .field s x f => opField G.T s x f
  | .indexAddr t x i => opIndexAddr G.T t x i
  | .index t x i => opIndex G.T t x i
  | .call ⟨.builtin .len, ⟨[x]⟩, ⟨[t]⟩⟩ => opLen G.T t x
  | .call ⟨.builtin .min, ⟨[x, y]⟩, _⟩ => opMinMax false x y
  | .call ⟨.builtin .max, ⟨[x, y]⟩, _⟩ => opMinMax true x y
  | .call ⟨.builtin .append, ⟨[x, y]⟩, ⟨[t, t']⟩⟩ => if t = t' then opAppend G.T t x y else opAppendZ G.T t t' x y
  | .call ⟨.builtin .copy, ⟨[x, y]⟩, ⟨[t, t']⟩⟩ => if t = t' then opCopy G.T t x y else .bad
  | .makeFunc fn first caps => opMakeFunc fn first caps
  | .call ⟨.value f, args, tys⟩ => opCall G.F G.Mu G.T f args tys
  | .makeMap t r => opMakeMap G.T t r
  | .lookup t x i ok => opLookup G.T t x i ok
  | .mapUpdate t x i y => opMapUpdate G.T t x i y
  | _ => .bad

section
variable {P : Program} {G : Cfg} {S : SpecEqT} {E : En} {st : St} {a : Act} {w : World} {hs : List Hd} {o : Oper} {v : AV} {u : List (Nat × Ob)} {n : List Ob}

theorem opQ_sound (hG : G.OK P) (h : Rel E st a w hs) (hd : ∀ t, o.dst = some t → t < E.N) {g : Bool} (hr : (opQ G g o).Runs S st v u n) : OpOK P E o st a w hs v u n := by
  unfold opQ at hr
  split at hr <;> rename_i ho
  · exact opMove_sound h hd (.inl ho) hr
  · exact opMove_sound h hd (.inr ho) hr
  · exact opPick_sound h hd ho hr
  · exact opBinK_sound hG.K hG.T h hd ho hr
  · exact opUn_sound h hd ho hr
  · exact opConvS_sound hG.T h hd ho hr
  · exact opExtract_sound h hd ho hr
  · exact opNil_sound h hd ho hr
  · exact opAlloc_sound hG.T h hd ho hr
  · exact opBox_sound h hd ho hr
  · exact opBuild_sound hG.T h hd ho hr
  · exact opBuildSlice_sound hG.T h hd ho hr
  · exact opMakeSlice_sound hG.T h hd ho hr
  · exact opLoad_sound hG.T h hd ho hr
  · exact opStore_sound hG.T h hd ho hr
  · exact opSlice_sound hG.T h hd ho hr
  · exact opFieldAddr_sound hG.T h hd ho hr
  · exact opField_sound hG.T h hd ho hr
  · exact opIndexAddr_sound hG.T h hd ho hr
  · exact opIndex_sound hG.T h hd ho hr
  · exact opLen_sound hG.T h hd ho hr
  · exact opMin_sound h hd ho hr
  · exact opMax_sound h hd ho hr
  · split at hr
    · rename_i e
      subst e
      exact opAppend_sound hG.T h hd ho hr
    · exact opAppendZ_sound hG.T h hd ho hr
  · split at hr
    · rename_i e
      subst e
      exact opCopy_sound hG.T h hd ho hr
    · unfold Q.Runs at hr; exact hr.elim
  · exact opMakeFunc_sound h hd ho hr
  · exact opCall_sound h hd hG.F ho hr
  · exact opMakeMap_sound hG.T h hd ho hr
  · exact opLookup_sound hG.T h hd ho hr
  · exact opMapUpdate_sound hG.T h hd ho hr
  · unfold Q.Runs at hr; exact hr.elim

end

/-! ### evaluation -/
inductive Out where
  | bad
  | ok (p : Prop) (v : AV) (u : List (Nat × Ob)) (n : List Ob)

def Out.and (q : Prop) : Out → Out
  | .bad => .bad
  | .ok p v u n => .ok (q ∧ p) v u n

def Q.eval (c : Bool) : Q → St → Out
  | .slot t k, st => match look t st.env with
    | .when c' a => ((k a).eval c st).and (c = true → c' = true)
    | a => (k a).eval c st
  | .slotW t k, st => (k (look t st.env)).eval c st
  | .obj m k, st => match st.obs.getD m none with
    | some o => (k o).eval c st
    | none => .bad
  | .fresh k, st => (k st.obs.length).eval c st
  | .side p k, st => (k.eval c st).and p
  | .call _ _ _, _ => .bad
  | .fin v u n, _ => .ok True v u n
  | .bad, _ => .bad

theorem Out.and_ok {q : Prop} {r : Out} {p : Prop} {v : AV} {u : List (Nat × Ob)} {n : List Ob} (h : r.and q = .ok p v u n) : ∃ p', r = .ok p' v u n ∧ (p → q ∧ p') := by
  cases r with
  | bad => simp [Out.and] at h
  | ok p' v' u' n' =>
    simp only [Out.and, Out.ok.injEq] at h
    obtain ⟨rfl, rfl, rfl, rfl⟩ := h
    exact ⟨p', rfl, fun x => x⟩

theorem eval_runs {S : SpecEqT} {c : Bool} (hc : c = true) : ∀ {q : Q} {st : St} {p : Prop} {v : AV} {u : List (Nat × Ob)} {n : List Ob}, q.eval c st = .ok p v u n → p → q.Runs S st v u n
  | .slot t k, st, p, v, u, n, h, hp => by
    unfold Q.eval at h
    split at h
    · rename_i c' a e
      obtain ⟨p', h1, h2⟩ := Out.and_ok h
      unfold Q.Runs
      exact ⟨a, .inr ⟨c', e, (h2 hp).1 hc⟩, eval_runs hc h1 (h2 hp).2⟩
    · unfold Q.Runs
      exact ⟨_, .inl rfl, eval_runs hc h hp⟩
  | .slotW t k, st, p, v, u, n, h, hp => by
    unfold Q.eval at h
    unfold Q.Runs
    exact eval_runs hc h hp
  | .obj m k, st, p, v, u, n, h, hp => by
    unfold Q.eval at h
    split at h
    · rename_i o e
      unfold Q.Runs
      refine ⟨o, ?_, eval_runs hc h hp⟩
      rw [List.getD_eq_getElem?_getD] at e
      cases hq : st.obs[m]? with
      | none => simp [hq] at e
      | some x => simp [hq] at e; rw [e]
    · cases h
  | .fresh k, st, p, v, u, n, h, hp => by
    unfold Q.eval at h
    unfold Q.Runs
    exact eval_runs hc h hp
  | .side q k, st, p, v, u, n, h, hp => by
    unfold Q.eval at h
    obtain ⟨p', h1, h2⟩ := Out.and_ok h
    unfold Q.Runs
    exact ⟨(h2 hp).1, eval_runs hc h1 (h2 hp).2⟩
  | .call _ _ _, st, p, v, u, n, h, hp => by unfold Q.eval at h; cases h
  | .fin v' u' n', st, p, v, u, n, h, hp => by
    unfold Q.eval at h
    simp only [Out.ok.injEq] at h
    obtain ⟨_, rfl, rfl, rfl⟩ := h
    unfold Q.Runs
    exact ⟨rfl, rfl, rfl⟩
  | .bad, st, p, v, u, n, h, hp => by unfold Q.eval at h; cases h

/-- The guard of an operation: what it comes to. -/
def gcond (all : List Oper) (st : St) (j : Nat) (want : Bool) : Option Bool :=
  match (all[j]?).bind (·.dst) with
  | some t => (boolOf (look t st.env)).map fun p => p.1 && (if want then p.2 else !p.2)
  | none => none

def Oper.ef (G : Cfg) (o : Oper) : Bool := match o.op with
  | .store _ _ _ => true
  | .alloc _ => true
  | .box _ _ => true
  | .makeMap _ _ => true
  | .mapUpdate _ _ _ _ => true
  | .call ⟨.builtin .append, _, _⟩ => true
  | .call ⟨.builtin .copy, _, _⟩ => true
  | .call ⟨.value (.func f), _, _⟩ => G.Ef f
  | _ => false

def evalL (G : Cfg) (own : List Nat) (all : List Oper) (K : St → Prop) : List Oper → Nat → St → Prop
  | [], _, st => K st
  | o :: os, i, st => match o.guard with
    | none => match (opQ G (!own.contains i) o).eval true st with
      | .bad => False
      | .ok p v u n => p ∧ evalL G own all K os (i + 1) (st.upd o.dst v u n)
    | some (j, want) => match gcond all st j want with
      | none => False
      | some c => if Oper.ef G o = true then (c = true → match (opQ G (!own.contains i) o).eval true st with
          | .bad => False
          | .ok p v u n => p ∧ evalL G own all K os (i + 1) (st.upd o.dst v u n)) ∧ (c = false → evalL G own all K os (i + 1) (st.put o.dst (.when false .junk)))
        else match (opQ G true o).eval c st with
          | .bad => False
          | .ok p v u n => (c = true → p) ∧ u = [] ∧ n = [] ∧ evalL G own all K os (i + 1) (st.put o.dst (.when c v))

def stepL (G : Cfg) (own : List Nat) (all : List Oper) (K : St → Prop) (os : List Oper) (i : Nat) (d : Option Nat) : Out → St → Prop
  | .bad, _ => False
  | .ok p v u n, st => p ∧ evalL G own all K os (i + 1) (st.upd d v u n)
def stepG (G : Cfg) (own : List Nat) (all : List Oper) (K : St → Prop) (os : List Oper) (i : Nat) (d : Option Nat) (c : Bool) : Out → St → Prop
  | .bad, _ => False
  | .ok p v u n, st => (c = true → p) ∧ u = [] ∧ n = [] ∧ evalL G own all K os (i + 1) (st.put d (.when c v))
def guardL (G : Cfg) (own : List Nat) (all : List Oper) (K : St → Prop) (os : List Oper) (i : Nat) (o : Oper) (st : St) : Option Bool → Prop
  | none => False
  | some c => if Oper.ef G o = true then (c = true → stepL G own all K os i o.dst ((opQ G (!own.contains i) o).eval true st) st) ∧ (c = false → evalL G own all K os (i + 1) (st.put o.dst (.when false .junk)))
        else stepG G own all K os i o.dst c ((opQ G true o).eval c st) st

section
variable {P : Program} {G : Cfg} {E : En} {st : St} {a : Act} {w : World} {hs : List Hd} {all : List Oper} {K : St → Prop} {own : List Nat} {i : Nat}

theorem evalL_nil : evalL G own all K [] i st = K st := rfl
theorem evalL_plain {d : Option Tmp} {op : Op} {ty : TypeId} {ps : String} {af : Array Edge} {os : List Oper} :
    evalL G own all K (⟨d, op, ty, ps, af, none⟩ :: os) i st = stepL G own all K os i d ((opQ G (!own.contains i) ⟨d, op, ty, ps, af, none⟩).eval true st) st := by
  unfold evalL stepL
  dsimp only
  split <;> (rename_i h; rw [h]) <;> try rfl
theorem evalL_guard {d : Option Tmp} {op : Op} {ty : TypeId} {ps : String} {af : Array Edge} {j : Nat} {want : Bool} {os : List Oper} :
    evalL G own all K (⟨d, op, ty, ps, af, some (j, want)⟩ :: os) i st = guardL G own all K os i ⟨d, op, ty, ps, af, some (j, want)⟩ st (gcond all st j want) := by
  unfold evalL guardL stepL stepG
  dsimp only
  split
  · simp [*]
  · rename_i c e
    try simp only [e]
    split
    · congr 1
      apply propext
      constructor <;> intro h hc <;> have := h hc <;> split at this <;> simp_all
    · split <;> (rename_i h; rw [h]) <;> try rfl

theorem evalL_sound (hG : G.OK P) {ops : Array Oper} {Q : Exit → Act → World → Prop} (hK : ∀ st a w hs, Rel E st a w hs → K st → Q .normal a w) :
    ∀ {os : List Oper} {i : Nat} {st : St} {a : Act} {w : World} {hs : List Hd}, Rel E st a w hs → (∀ o ∈ os, ∀ t, o.dst = some t → t < E.N) → (∀ o ∈ ops.toList, ∀ t, o.dst = some t → t < E.N) → evalL G own ops.toList K os i st → wpList P ops Q os a w
  | [], i, st, a, w, hs, h, _, _, he => by unfold evalL at he; exact wpList_nil (hK _ _ _ _ h he)
  | o :: os, i, st, a, w, hs, h, hd, hd2, he => by
    have hdo : ∀ t, o.dst = some t → t < E.N := hd o (by simp)
    have hdos : ∀ o ∈ os, ∀ t, o.dst = some t → t < E.N := fun o' ho' => hd o' (by simp [ho'])
    have main : ∀ {v : AV} {u : List (Nat × Ob)} {n : List Ob} {g : Bool} {p : Prop} {c : Bool}, c = true → (opQ G g o).eval c st = .ok p v u n → p → evalL G own ops.toList K os (i + 1) (st.upd o.dst v u n) →
        ∀ K' : Act → World → Prop, (∀ a w, wpList P ops Q os a w → K' a w) → o.wp P a w K' Q := by
      intro v u n g p c hc e hp hrest K' hK'
      have hr : (opQ G g o).Runs (fun _ _ _ => False) st v u n := eval_runs hc e hp
      exact opQ_sound hG h hdo hr K' Q fun a' w' hs' hrel => hK' _ _ (evalL_sound hG hK hrel hdos hd2 hrest)
    have skip : ∀ v : AV, evalL G own ops.toList K os (i + 1) (st.put o.dst v) → v.VR (st.cx E w hs) undef → wpList P ops Q os (a.put o.dst undef) w := fun v hrest hv => evalL_sound hG hK (h.put hv o.dst hdo) hdos hd2 hrest
    refine wpList_step fun K' hK' => ?_
    unfold evalL at he
    split at he
    · rename_i hg
      rw [if_pos (by simp [Region.wanted, hg])]
      split at he
      · exact he.elim
      · rename_i p v u n e
        exact main rfl e he.1 he.2 K' hK'
    · rename_i j want hg
      split at he
      · exact he.elim
      · rename_i c e
        -- the guard, read
        have hc : Region.wanted o (yielded ops a.tmps) = c := by
          simp only [Region.wanted, hg, yielded]
          unfold gcond at e
          have hl : ops.toList[j]? = ops[j]? := by simp
          rw [hl] at e
          split at e
          · rename_i t ht
            obtain ⟨⟨c1, b⟩, e1, rfl⟩ := Option.map_eq_some_iff.1 e
            rw [ht]
            have hv := h.env t
            have htN : t < a.tmps.size := by
              rw [h.size]
              obtain ⟨o', ho', h3⟩ := Option.bind_eq_some_iff.1 ht
              exact hd2 o' (by rw [← hl] at ho'; exact List.mem_of_getElem? ho') t h3
            have hget : a.tmps[t]? = some (a.tmps.getD t undef) := by simp [htN]
            simp only [Option.bind_some, hget]
            cases c1 with
            | true =>
              rw [boolOf_sound hv e1 rfl]
              cases want <;> cases b <;> rfl
            | false =>
              have : a.tmps.getD t undef = undef := by
                unfold boolOf at e1
                split at e1
                · cases e1
                · rename_i e5
                  rw [e5] at hv
                  unfold AV.VR at hv
                  simp only [Option.some.injEq, Prod.mk.injEq] at e1
                  exact hv.2 e1.1
                · cases e1
              rw [this]
              cases want <;> rfl
          · cases e
        rw [hc]
        split at he
        · cases c with
          | true =>
            simp only [if_true]
            have := he.1 rfl
            split at this
            · exact this.elim
            · rename_i p v u n e
              exact main rfl e this.1 this.2 K' hK'
          | false =>
            simp only [Bool.false_eq_true, if_false]
            exact hK' _ _ (skip _ (he.2 rfl) (by unfold AV.VR; exact ⟨by simp, fun _ => rfl⟩))
        · split at he
          · exact he.elim
          · rename_i p v u n e
            obtain ⟨h1, rfl, rfl, h4⟩ := he
            cases c with
            | true =>
              simp only [if_true]
              have hr : (opQ G true o).Runs (fun _ _ _ => False) st v [] [] := eval_runs rfl e (h1 rfl)
              refine opQ_sound hG h hdo hr K' Q fun a' w' hs' hrel => hK' _ _ ?_
              rw [St.upd_nil] at hrel
              have : Rel E (st.put o.dst (.when true v)) a' w' hs' := by
                refine ⟨?_, hrel.df, hrel.size, fun t => ?_⟩
                · have := hrel.wok
                  cases hdst : o.dst <;> rw [hdst] at this <;> exact this
                · have := hrel.env t
                  cases hdst : o.dst with
                  | none => rw [hdst] at this; exact this
                  | some d =>
                    rw [hdst] at this
                    simp only [St.put, look] at this ⊢
                    split at this
                    · rename_i etd
                      rw [if_pos etd]
                      unfold AV.VR
                      exact ⟨fun _ => this, by simp⟩
                    · rename_i etd
                      rw [if_neg etd]
                      exact this
              exact evalL_sound hG hK this hdos hd2 h4
            | false =>
              simp only [Bool.false_eq_true, if_false]
              exact hK' _ _ (skip _ h4 (by unfold AV.VR; exact ⟨by simp, fun _ => rfl⟩))
end

end Go.AM

/- AM, part 14: code; a function's spec from its body. -/
namespace Go.AM
open Go Go.RowKit

def Lift (E : En) (Q : Exit → St → Prop) : Exit → Act → World → Prop := fun e a w => ∃ st hs, Rel E st a w hs ∧ Q e st

def AWP (P : Program) (E : En) (c : Code) (Q : Exit → St → Prop) (st : St) : Prop := ∀ a w hs, Rel E st a w hs → c.wp P (Lift E Q) a w

def thenS (next : St → Prop) (Q : Exit → St → Prop) : Exit → St → Prop
  | .normal, st => next st
  | e, st => Q e st

def inBlockS (id : Nat) (Q : Exit → St → Prop) : Exit → St → Prop
  | .exit id', st => if id' = id then Q .normal st else Q (.exit id') st
  | e, st => Q e st

def condB (st : St) : Operand → Option Bool
  | .tmp t => match look t st.env with
    | .d _ (.v (.bool b)) => some b
    | _ => none
  | .const (.bool b) => some b
  | _ => none

structure Weak (st st' : St) : Prop where
  env : ∀ t, look t st'.env = .junk ∨ look t st'.env = look t st.env
  obs : Sub st.obs st'.obs

def St.keep (ks : List Nat) (st : St) : St := ⟨ks.map fun k => (k, look k st.env), st.obs⟩

theorem look_keep (env : List (Nat × AV)) : ∀ (ks : List Nat) (t : Nat), look t (ks.map fun k => (k, look k env)) = .junk ∨ look t (ks.map fun k => (k, look k env)) = look t env
  | [], t => .inl rfl
  | k :: ks, t => by
    simp only [List.map_cons, look]
    split
    · rename_i e; subst e; exact .inr rfl
    · exact look_keep env ks t

theorem Sub.refl (obs : List (Option Ob)) : Sub obs obs := ⟨rfl, fun _ _ h => h⟩
theorem Sub.trans {a b c : List (Option Ob)} (h : Sub a b) (k : Sub b c) : Sub a c := ⟨k.1.trans h.1, fun m o e => h.2 m o (k.2 m o e)⟩
theorem Weak.keep (ks : List Nat) (st : St) : Weak st (st.keep ks) := ⟨look_keep st.env ks, Sub.refl _⟩
theorem Weak.trans {a b c : St} (h : Weak a b) (k : Weak b c) : Weak a c :=
  ⟨fun t => by rcases k.env t with e | e; exact .inl e; rw [e]; exact h.env t, h.obs.trans k.obs⟩
def St.kill (n : Nat) (st : St) : St := ⟨st.env, st.obs.set n none⟩
theorem Weak.kill (n : Nat) (st : St) : Weak st (st.kill n) := ⟨fun _ => .inr rfl, Sub.kill n⟩

theorem Rel.weak {E : En} {st st' : St} {a : Act} {w : World} {hs : List Hd} (h : Rel E st a w hs) (k : Weak st st') : Rel E st' a w hs := by
  have h1 : Rel E ⟨st.env, st'.obs⟩ a w hs := h.le (Cx.Le.sub (C := st.cx E w hs) k.obs) (h.wok.sub k.obs)
  refine ⟨h1.wok, h1.df, h1.size, fun t => ?_⟩
  rcases k.env t with e | e
  · rw [e]; unfold AV.VR; trivial
  · rw [e]; exact h1.env t

theorem least {p : Nat → Prop} (h : ∃ n, p n) : ∃ n, p n ∧ ∀ m, p m → n ≤ m := by
  obtain ⟨n, hn⟩ := h
  induction n using Nat.strongRecOn with
  | _ n ih =>
    by_cases hx : ∃ m, m < n ∧ p m
    · obtain ⟨m, hm, hp⟩ := hx; exact ih m hm hp
    · exact ⟨n, hn, fun m hp => Nat.le_of_not_lt fun hlt => hx ⟨m, hlt, hp⟩⟩

section
variable {P : Program} {E : En} {Q : Exit → St → Prop} {st : St}

theorem AWP.mono {c : Code} {Q' : Exit → St → Prop} (h : AWP P E c Q st) (k : ∀ e st, Q e st → Q' e st) : AWP P E c Q' st :=
  fun a w hs hr => Code.wp_mono (fun e a w ⟨st, hs, h1, h2⟩ => ⟨st, hs, h1, k e st h2⟩) (h a w hs hr)

theorem AWP.weak {c : Code} {st' : St} (k : Weak st st') (h : AWP P E c Q st') : AWP P E c Q st := fun a w hs hr => h a w hs (hr.weak k)

theorem AWP.keep (ks : List Nat) {c : Code} (h : AWP P E c Q (st.keep ks)) : AWP P E c Q st := AWP.weak (Weak.keep ks st) h

theorem AWP.seq {x y : Code} (h : AWP P E x (thenS (AWP P E y Q) Q) st) : AWP P E (.seq x y) Q st := fun a w hs hr =>
  wp_seq (Code.wp_mono (fun e a w ⟨st, hs, h1, h2⟩ => by
    cases e with
    | normal => exact h2 a w hs h1
    | _ => exact ⟨st, hs, h1, h2⟩) (h a w hs hr))

theorem AWP.cond {c : Operand} {x y : Code} {b : Bool} (e : condB st c = some b) (ht : b = true → AWP P E x Q st) (hf : b = false → AWP P E y Q st) : AWP P E (.cond c x y) Q st := fun a w hs hr => by
  refine wp_cond_split (t := b) ?_ (fun e => ht e a w hs hr) (fun e => hf e a w hs hr)
  unfold condB at e
  split at e
  · rename_i t
    split at e
    · rename_i fr b' e2
      cases e
      have := hr.env t
      rw [e2] at this
      exact vr_int this
    · cases e
  · cases e; rfl
  · cases e

theorem AWP.skip (h : Q .normal st) : AWP P E .skip Q st := fun a w hs hr => wp_skip ⟨st, hs, hr, h⟩
theorem AWP.exit {id : Nat} (h : Q (.exit id) st) : AWP P E (.exit id) Q st := fun a w hs hr => wp_exit ⟨st, hs, hr, h⟩
theorem AWP.ret (h : Q .ret st) : AWP P E .ret Q st := fun a w hs hr => wp_ret ⟨st, hs, hr, h⟩
theorem AWP.block {id : Nat} {c : Code} (h : AWP P E c (inBlockS id Q) st) : AWP P E (.block id c) Q st := fun a w hs hr =>
  wp_block (Code.wp_mono (fun e a w ⟨st, hs, h1, h2⟩ => by
    cases e with
    | exit id' =>
      unfold Exit.inBlock
      dsimp only
      unfold inBlockS at h2
      dsimp only at h2
      split
      · rename_i e; rw [if_pos e] at h2; exact ⟨st, hs, h1, h2⟩
      · rename_i e; rw [if_neg e] at h2; exact ⟨st, hs, h1, h2⟩
    | _ => exact ⟨st, hs, h1, h2⟩) (h a w hs hr))

theorem AWP.loop {c : Code} (I : Nat → St → Prop) (n : Nat) (h0 : I n st) (round : ∀ n st, I n st → AWP P E c (thenS (fun st' => ∃ m, m < n ∧ I m st') Q) st) : AWP P E (.loop c) Q st := fun a w hs hr => by
  let J : Act → World → Nat → Prop := fun a w n => ∃ st hs, Rel E st a w hs ∧ I n st
  let μ : Act → World → Nat := fun a w => @dite Nat (∃ n, J a w n) (Classical.propDecidable _) (fun h => (least h).choose) (fun _ => 0)
  refine wp_loop (fun a w => ∃ n, J a w n) μ ⟨n, st, hs, hr, h0⟩ fun a w hI => ?_
  have hμ : J a w (μ a w) ∧ ∀ m, J a w m → μ a w ≤ m := by
    simp only [μ, dif_pos hI]
    exact (least hI).choose_spec
  obtain ⟨⟨st, hs, hr, hI'⟩, _⟩ := hμ
  refine Code.wp_mono (fun e a' w' ⟨st', hs', h1, h2⟩ => ?_) (round _ st hI' a w hs hr)
  cases e with
  | normal =>
    obtain ⟨m, hm, hIm⟩ := h2
    have hJ : ∃ n, J a' w' n := ⟨m, st', hs', h1, hIm⟩
    refine ⟨hJ, Nat.lt_of_le_of_lt ?_ hm⟩
    simp only [μ, dif_pos hJ]
    exact (least hJ).choose_spec.2 m ⟨st', hs', h1, hIm⟩
  | _ => exact ⟨st', hs', h1, h2⟩

def dstOK (N : Nat) (ops : List Oper) : Bool := ops.all fun o => match o.dst with
  | some t => decide (t < N)
  | none => true
theorem dstOK_spec {N : Nat} {ops : List Oper} (h : dstOK N ops = true) : ∀ o ∈ ops, ∀ t, o.dst = some t → t < N := by
  intro o ho t ht
  unfold dstOK at h
  have := List.all_eq_true.1 h o ho
  simpa [ht] using this

theorem AWP.region {G : Cfg} (hG : G.OK P) (own : List Nat) {id : Nat} {ops : List Oper} (hd : dstOK E.N ops = true) (h : ∀ K : St → Prop, (∀ st, Q .normal st → K st) → evalL G own ops K ops 0 st) : AWP P E (.region id ops.toArray false) Q st := fun a w hs hr =>
  wp_region_list (evalL_sound (ops := ops.toArray) hG (K := Q .normal) (fun st a w hs h1 h2 => ⟨st, hs, h1, h2⟩) hr (by simpa using dstOK_spec hd) (by simpa using dstOK_spec hd) (by simpa using h _ fun _ h => h))
end

/-! ### an own row becomes plain data -/
def AV.frz1 (n γ : Nat) (fr : Bool) (x : Dat) : AV → AV
  | .own m γ' => if m = n ∧ γ' = γ then .d fr x else .own m γ'
  | a => a
def AV.frz (n γ : Nat) (fr : Bool) (x : Dat) : AV → AV
  | .agg fs => mkAgg (fs.map (AV.frz1 n γ fr x))
  | a => a.frz1 n γ fr x

def Ob.frz (n γ : Nat) (fr : Bool) (x : Dat) : Ob → Ob
  | .cells E cs => .cells E (cs.map (AV.frz1 n γ fr x))
  | o => o
def St.frz (n γ : Nat) (fr : Bool) (x : Dat) (st : St) : St := ⟨st.env.map fun p => (p.1, p.2.frz n γ fr x), (st.obs.set n none).map fun o => o.map (Ob.frz n γ fr x)⟩

theorem look_map (g : AV → AV) (hg : g .junk = .junk) : ∀ (env : List (Nat × AV)) (t : Nat), look t (env.map fun p => (p.1, g p.2)) = g (look t env)
  | [], t => hg.symm
  | (k, v) :: e, t => by
    simp only [List.map_cons, look]
    split
    · rfl
    · exact look_map g hg e t

theorem frz_row {E : En} {st : St} {a : Act} {w : World} {hs : List Hd} (h : Rel E st a w hs) {n Ee sz γ : Nat} {fr : Bool} {xs : List Dat} (hn : E.ps.length ≤ n) (ho : st.obs[n]? = some (some (.row Ee sz γ fr xs))) {v : Value} (hk : hs[n]? = some (.row v)) :
    DV w (((st.cx E w hs).sub (st.obs.set n none)).Sh fr) (.sl sz xs) v := by
  have le := Cx.Le.sub (C := st.cx E w hs) (Sub.kill (obs := st.obs) n)
  obtain ⟨hd', e3, h3⟩ := h.obj ho
  rw [hk] at e3
  cases e3
  obtain ⟨vv, e4, h0, hz, fl, hl, h4⟩ := OR.row_val h3
  cases e4
  obtain ⟨A, c, rfl, h5, h6, h7⟩ := owns_slice h4
  show Dat.R _ _ _ _
  unfold Dat.R
  refine ⟨A, c, rfl, h5, h6, hz, ?_⟩
  rcases h7 with h7 | ⟨b, rfl⟩
  · exact .inl (List.length_eq_zero_iff.1 h7)
  · have hb : b < w.heap.size := (h4.lt b rfl).2
    refine .inr ⟨b, 0, fl, rfl, ?_, Dat.RL.stable (le.sh fr) _ _ hl, fun j q hq => ?_⟩
    · refine ⟨hb, fun m k hal hk' hbk => ?_, ?_⟩
      · obtain ⟨o', ho'⟩ := hal
        have hne : m ≠ n := by
          rintro rfl
          have : (st.obs.set m none)[m]? = some (some o') := ho'
          rw [List.getElem?_set] at this
          split at this
          · split at this <;> simp at this
          · contradiction
        have ho2 : st.obs[m]? = some (some o') := (Sub.kill (obs := st.obs) n).2 m o' ho'
        exact h.wok.dist m n k _ hne ⟨o', ho2⟩ ⟨_, ho⟩ hk' hk b hbk (by simp [Hd.blks, Value.ownBlock])
      · rcases h.wok.new n _ ⟨_, ho⟩ hk b (by simp [Hd.blks, Value.ownBlock]) with h8 | ⟨h8, _⟩
        · exact .inl h8
        · omega
    · have := h4.cells (g := b) rfl j q hq
      rw [Addr.add_mid, Nat.zero_add] at this
      rw [Nat.zero_add]
      exact this

theorem VL.map1 {C C' : Cx} {g : AV → AV} (hg : ∀ a v, a.VR C v → (g a).VR C' v) : ∀ {as : List AV} {vs : List Value}, AV.VL C as vs → AV.VL C' (as.map g) vs
  | [], vs, h => by unfold AV.VL at h ⊢; exact h
  | a :: as, vs, h => by
    simp only [List.map_cons]
    unfold AV.VL at h ⊢
    obtain ⟨v, rest, rfl, h1, h2⟩ := h
    exact ⟨v, rest, rfl, hg a v h1, VL.map1 hg h2⟩

theorem Rel.frz {E : En} {st : St} {a : Act} {w : World} {hs : List Hd} (h : Rel E st a w hs) {n Ee sz γ : Nat} {fr : Bool} {xs : List Dat} (hn : E.ps.length ≤ n) (ho : st.obs[n]? = some (some (.row Ee sz γ fr xs))) :
    Rel E (st.frz n γ fr (.sl sz xs)) a w hs := by
  have hs1 := Sub.kill (obs := st.obs) n
  have h1 : Rel E ⟨st.env, st.obs.set n none⟩ a w hs := h.le (Cx.Le.sub (C := st.cx E w hs) hs1) (h.wok.sub hs1)
  have le := Cx.Le.sub (C := st.cx E w hs) hs1
  have one : ∀ (av : AV) (v : Value), av.VR (st.cx E w hs) v → (av.frz1 n γ fr (.sl sz xs)).VR ((st.cx E w hs).sub (st.obs.set n none)) v := by
    intro av v hv
    unfold AV.frz1
    split
    · rename_i m γ'
      split
      · rename_i e
        obtain ⟨rfl, rfl⟩ := e
        unfold AV.VR at hv
        have hk := (hv.2 _ _ _ _ _ ho).2 rfl
        unfold AV.VR
        exact frz_row h hn ho hk
      · exact AV.VR.le le _ _ hv
    · exact AV.VR.le le _ _ hv
  -- the objects, told anew
  let obs1 := st.obs.set n none
  let obs2 := obs1.map fun o => o.map (Ob.frz n γ fr (.sl sz xs))
  let C1 : Cx := (st.cx E w hs).sub obs1
  let C2 : Cx := { C1 with obs := obs2 }
  have get2 : ∀ (m : Nat) (o : Ob), obs2[m]? = some (some o) → ∃ o', obs1[m]? = some (some o') ∧ o = o'.frz n γ fr (.sl sz xs) := by
    intro m o e
    simp only [obs2, List.getElem?_map] at e
    cases hq : obs1[m]? with
    | none => rw [hq] at e; cases e
    | some x =>
      rw [hq] at e
      cases x with
      | none => simp at e
      | some o' => simp at e; exact ⟨o', rfl, e.symm⟩
  have alive2 : ∀ m, C2.alive m → C1.alive m := fun m ⟨o, e⟩ => by
    obtain ⟨o', e', _⟩ := get2 m o e
    exact ⟨o', e'⟩
  have le2 : C1.Le C2 := {
    b0 := rfl
    old := rfl
    len := by simp [C1, C2, obs2, Cx.sub, obs1]
    sh := fun fr b hb => ⟨⟨hb.1, fun m k ha hk => hb.2.1 m k (alive2 m ha) hk, hb.2.2⟩, rfl⟩
    row := fun m E' sz' γ' fr' xs' _ e => by
      obtain ⟨o', e', e2⟩ := get2 m _ e
      cases o' with
      | row a1 a2 a3 a4 a5 =>
        simp only [Ob.frz, Ob.row.injEq] at e2
        obtain ⟨rfl, rfl, rfl, rfl, rfl⟩ := e2
        exact ⟨_, _, _, _, _, e', Nat.le_refl _, fun _ => rfl⟩
      | cells => simp [Ob.frz] at e2
      | buf => simp [Ob.frz] at e2
      | mp => simp [Ob.frz] at e2
    ptr := fun m o _ e => by
      obtain ⟨o', e', _⟩ := get2 m o e
      exact ⟨⟨o', e'⟩, fun b => ⟨fun g => g, fun u g => ⟨u, g⟩⟩⟩ }
  have two : ∀ (av : AV) (v : Value), av.VR (st.cx E w hs) v → (av.frz1 n γ fr (.sl sz xs)).VR C2 v := fun av v hv => AV.VR.le le2 _ _ (one av v hv)
  have wok1 : WOK E.w0 E.ps C1 := h1.wok
  have wok2 : WOK E.w0 E.ps C2 := {
    b0 := wok1.b0
    os := wok1.os
    tape := wok1.tape
    output := wok1.output
    size := wok1.size
    len := by have := wok1.len; simpa [C2, obs2, C1, Cx.sub] using this
    frame := wok1.frame
    objs := fun m o k ho' hk' => by
      obtain ⟨o', e', rfl⟩ := get2 m o ho'
      have hor := wok1.objs m o' k e' hk'
      have hor2 := hor.le le2 fun _ _ => rfl
      cases o' with
      | row => exact hor2
      | buf => exact hor2
      | mp => exact hor2
      | cells E' cs =>
        cases k with
        | ptr b =>
          have e0 : st.obs[m]? = some (some (.cells E' cs)) := hs1.2 m _ e'
          obtain ⟨vs, g1, g2, g3⟩ := h.wok.objs m _ (.ptr b) e0 hk'
          exact ⟨vs, g1, VL.map1 two g2, g3⟩
        | _ => exact hor.elim
    dist := fun m l i j hml ha hb => wok1.dist m l i j hml (alive2 m ha) (alive2 l hb)
    new := fun m k ha => wok1.new m k (alive2 m ha)
    plen := wok1.plen
    parP := wok1.parP
    parB := wok1.parB
    parR := fun i v E' sz' fr' xs' e e2 => by
      obtain ⟨o', e', e3⟩ := get2 i _ e2
      cases o' with
      | row a1 a2 a3 a4 a5 =>
        simp only [Ob.frz, Ob.row.injEq] at e3
        obtain ⟨rfl, rfl, rfl, rfl, rfl⟩ := e3
        exact wok1.parR i v _ _ _ _ e e'
      | cells => simp [Ob.frz] at e3
      | buf => simp [Ob.frz] at e3
      | mp => simp [Ob.frz] at e3 }
  refine ⟨wok2, h1.df, h1.size, fun t => ?_⟩
  show (look t (st.env.map fun p => (p.1, p.2.frz n γ fr (.sl sz xs)))).VR _ _
  rw [look_map (fun av => av.frz n γ fr (.sl sz xs)) rfl]
  have hv := h.env t
  generalize look t st.env = av at hv
  unfold AV.frz
  split
  · rename_i fs
    unfold AV.VR at hv
    obtain ⟨cs, e, h2, h3⟩ := hv
    have := VR.mkAgg (C := C2) (VL.map1 two h2) h3
    simp only [Array.toArray_toList] at this
    rw [e]; exact this
  · exact two av _ hv

theorem AWP.frz {P : Program} {E : En} {Q : Exit → St → Prop} {st : St} {c : Code} (n : Nat) {Ee sz γ : Nat} {fr : Bool} {xs : List Dat} (hn : E.ps.length ≤ n) (ho : st.obs[n]? = some (some (.row Ee sz γ fr xs)))
    (h : AWP P E c Q (st.frz n γ fr (.sl sz xs))) : AWP P E c Q st := fun a w hs hr => h a w hs (hr.frz hn ho)

/-! ### a function -/
inductive AV.Sub1 : AV → AV → Prop where
  | refl (a : AV) : AV.Sub1 a a
  | lo (x : Dat) : AV.Sub1 (.d true x) (.d false x)
  | any (a : AV) : AV.Sub1 a .junk
  | nil (g fr : Bool) (sz : Nat) : AV.Sub1 (.d g (.v (.slice none 0 0))) (.d fr (.sl sz []))

inductive SubL : List AV → List AV → Prop where
  | nil : SubL [] []
  | cons {a b : AV} {as bs : List AV} : AV.Sub1 a b → SubL as bs → SubL (a :: as) (b :: bs)

theorem AV.Sub1.vr {C : Cx} {a b : AV} (h : AV.Sub1 a b) {v : Value} (hv : a.VR C v) : b.VR C v := by
  cases h with
  | refl => exact hv
  | any => unfold AV.VR; trivial
  | lo x =>
    unfold AV.VR at hv ⊢
    exact hv.stable fun b hb => ⟨hb.any, rfl⟩
  | nil g fr sz =>
    unfold AV.VR at hv ⊢
    obtain ⟨rfl, _⟩ := DV.v_iff.1 hv
    show Dat.R _ _ _ _
    unfold Dat.R
    exact ⟨none, 0, rfl, Nat.le_refl _, Nat.zero_le _, by simp, .inl rfl⟩
theorem SubL.vl {C : Cx} {as bs : List AV} (h : SubL as bs) : ∀ {vs : List Value}, AV.VL C as vs → AV.VL C bs vs := by
  induction h with
  | nil => exact fun h => h
  | cons h1 _ ih =>
    intro vs hv
    unfold AV.VL at hv ⊢
    obtain ⟨v, rest, rfl, h2, h3⟩ := hv
    exact ⟨v, rest, rfl, h1.vr h2, ih h3⟩

def resOne (T : Nat → TI) (st : St) : ResultVar → Option AV
  | .tmp t => some (look t st.env)
  | .cell t ty => match look t st.env with
    | .ptr m 0 => (match st.obs.getD m none with
      | some (.cells _ cs) => if (T ty).desc.agg = true ∧ (T ty).size = cs.length then some (mkAgg cs) else none
      | _ => none)
    | _ => none

def resL (T : Nat → TI) (st : St) : List ResultVar → Option (List AV)
  | [] => some []
  | r :: rs => match resOne T st r, resL T st rs with
    | some a, some as => some (a :: as)
    | _, _ => none

def resSem (tmps : Array Value) : ResultVar → Sem Value
  | .tmp t => pure (tmps.getD t undef)
  | .cell q t => do loadVar t (← asAddr (tmps.getD q undef))

theorem results_eq (fn : Func) (tmps : Array Value) : results fn tmps = (do let vs ← fn.results.mapM (resSem tmps); pure (if h : vs.size = 1 then vs[0] else .tuple vs)) := by
  unfold results
  congr 1

theorem resOne_sound {P : Program} {T : Nat → TI} (hT : TabOK P T) {E : En} {st : St} {a : Act} {w : World} {hs : List Hd} (h : Rel E st a w hs) {r : ResultVar} {av : AV} (e : resOne T st r = some av) :
    ∃ v, av.VR (st.cx E w hs) v ∧ (resSem a.tmps r).run P w = .ok v w := by
  cases r with
  | tmp t =>
    simp only [resOne, Option.some.injEq] at e
    subst e
    exact ⟨_, h.env t, rfl⟩
  | cell t ty =>
    unfold resOne at e
    dsimp only at e
    split at e
    · rename_i m e1
      split at e
      · rename_i E0 cs e2
        split at e
        · rename_i hc
          obtain ⟨ha, hl⟩ := hc
          cases e
          have hob : st.obs[m]? = some (some (.cells E0 cs)) := by
            rw [List.getD_eq_getElem?_getD] at e2
            cases hq : st.obs[m]? with
            | none => simp [hq] at e2
            | some x => simp [hq] at e2; rw [e2]
          have hv := h.env t
          rw [e1] at hv
          unfold AV.VR at hv
          obtain ⟨b, hb, e3⟩ := hv.2 _ hob
          obtain ⟨hd', e4, h3⟩ := h.obj hob
          obtain ⟨b', rfl, vs, h4, h5, h6⟩ := OR.cells_val h3
          have e5 : b' = b := by
            have e6 : (st.cx E w hs).hs = hs := rfl
            rcases hb with hb | ⟨q, hb⟩ <;> rw [e6, e4] at hb
            · simpa using hb
            · simp at hb
          subst e5
          have hc : ∀ j, w.cell? ⟨b', j, none⟩ = vs[j]? := fun j => by
            have : w.heap[b']? = some (.cells vs.toArray E0 (0, 0)) := h4
            simp [World.cell?, this]
          refine ⟨.agg vs.toArray, VR.mkAgg h5 h6, ?_⟩
          have := run_load_agg (P := P) (w := w) hT ha b' 0 vs (by rw [VL.len h5]; exact hl.symm) (fun j q hq => by rw [Nat.zero_add, hc]; exact hq)
          show (do loadVar ty (← asAddr (a.tmps.getD t undef)) : Sem Value).run P w = _
          rw [e3]
          exact this
        · cases e
      · cases e
    · cases e

theorem resL_sound {P : Program} {T : Nat → TI} (hT : TabOK P T) {E : En} {st : St} {a : Act} {w : World} {hs : List Hd} (h : Rel E st a w hs) : ∀ {rs : List ResultVar} {avs : List AV}, resL T st rs = some avs →
    ∃ vs : List Value, AV.VL (st.cx E w hs) avs vs ∧ (rs.mapM (m := Sem) (resSem a.tmps)).run P w = .ok vs w
  | [], avs, e => by
    simp only [resL, Option.some.injEq] at e
    subst e
    exact ⟨[], by simp [AV.VL], by simp⟩
  | r :: rs, avs, e => by
    unfold resL at e
    split at e
    · rename_i av as e1 e2
      cases e
      obtain ⟨v, h1, h2⟩ := resOne_sound hT h e1
      obtain ⟨vs, h3, h4⟩ := resL_sound hT h e2
      refine ⟨v :: vs, by unfold AV.VL; exact ⟨v, vs, rfl, h1, h3⟩, ?_⟩
      rw [List.mapM_cons, Sem.run_bind, h2, Result.andThen_ok, Sem.run_bind, h4, Result.andThen_ok, Sem.run_pure]
    · cases e

/-- What a function hands back fits what is said of it. -/
def Back (T : Nat → TI) (rs : List ResultVar) (R : Res) (st : St) : Prop :=
  (∃ avs, resL T st rs = some avs ∧ (match avs with
    | [a] => AV.Sub1 a R.r
    | as => ∃ bs, R.r = .tup bs ∧ SubL as bs)) ∧ ∀ ob, R.o = some ob → st.obs[0]? = some (some ob)

theorem results_sound {P : Program} {T : Nat → TI} (hT : TabOK P T) {E : En} {st : St} {a : Act} {w : World} {hs : List Hd} (h : Rel E st a w hs) {fn : Func} {R : Res} (hb : Back T fn.results.toList R st) :
    ∃ v, (results fn a.tmps).run P w = .ok v w ∧ R.r.VR (st.cx E w hs) v := by
  obtain ⟨⟨avs, e, hm⟩, _⟩ := hb
  obtain ⟨vs, h1, h2⟩ := resL_sound hT h e
  have hlen := VL.len h1
  have hrun : (results fn a.tmps).run P w = .ok (if h : vs.toArray.size = 1 then vs.toArray[0] else .tuple vs.toArray) w := by
    rw [results_eq, Array.mapM_eq_mapM_toList, Sem.run_bind]
    have : (List.toArray <$> fn.results.toList.mapM (m := Sem) (resSem a.tmps)).run P w = .ok vs.toArray w := by
      rw [map_eq_pure_bind, Sem.run_bind, h2, Result.andThen_ok, Sem.run_pure]
    rw [this, Result.andThen_ok, Sem.run_pure]
  refine ⟨_, hrun, ?_⟩
  split at hm
  · rename_i av
    have : ∃ v, vs = [v] := by
      match vs, hlen with
      | [v], _ => exact ⟨v, rfl⟩
    obtain ⟨v, rfl⟩ := this
    unfold AV.VL at h1
    obtain ⟨v', rest, e1, h3, h4⟩ := h1
    cases e1
    exact hm.vr h3
  · rename_i hn
    obtain ⟨bs, e1, h3⟩ := hm
    have : vs.length ≠ 1 := by
      intro e2
      rw [hlen] at e2
      obtain ⟨av, e3⟩ := List.length_eq_one_iff.1 e2
      exact hn av e3
    have e3 : ¬ vs.toArray.size = 1 := by simpa using this
    rw [dif_neg e3, e1]
    unfold AV.VR
    exact ⟨_, rfl, by simpa using h3.vl h1⟩

/-- The state a function begins in. -/
def begin (args : List AV) (i : Option Ob) : St := ⟨args.zipIdx.map (fun p => (p.2, p.1)), i.toList.map some⟩

theorem look_begin : ∀ (args : List AV) (k t : Nat), look t ((args.zipIdx k).map (fun p => (p.2, p.1))) = if k ≤ t then (args[t - k]?).getD .junk else .junk
  | [], k, t => by simp [look]
  | a :: as, k, t => by
    simp only [List.zipIdx_cons, List.map_cons, look]
    split
    · rename_i e; subst e; simp
    · rename_i e
      rw [look_begin as (k + 1) t]
      by_cases h : k + 1 ≤ t
      · have h1 : k ≤ t := by omega
        have h2 : t - k = (t - (k + 1)) + 1 := by omega
        simp [h, h1, h2]
      · have h1 : ¬ k ≤ t := by omega
        simp [h, h1]

theorem spec_of_awp {P : Program} {G : Cfg} (hG : G.OK P) {f : FuncId} {fn : Func} {c : Code} {args : List AV} {i : Option Ob} {R : Res} (hf : P.funcs[f]? = some fn) (hb : fn.body = some c) (hn : args.length ≤ fn.ntmps)
    (h : ∀ E : En, E.ps.length = i.toList.length → E.N = fn.ntmps → R.pre → AWP P E c (fun e st => (e = .ret ∨ e = .normal) ∧ Back G.T fn.results.toList R st) (begin args i)) : Spec P f args i R := by
  intro w old hs vals wok hvl hpre
  have hvn := VL.len hvl
  let E : En := ⟨w, old, hs, fn.ntmps⟩
  have hrel : Rel E (begin args i) { tmps := vals.toArray ++ Array.replicate (fn.ntmps - vals.toArray.size) undef, defers := [] } w hs := by
    refine ⟨wok, rfl, by simp [E]; omega, fun t => ?_⟩
    show (look t ((args.zipIdx 0).map (fun p => (p.2, p.1)))).VR _ _
    rw [look_begin args 0 t]
    simp only [Nat.zero_le, if_true, Nat.sub_zero]
    cases ht : args[t]? with
    | none => simp only [Option.getD_none]; unfold AV.VR; trivial
    | some av =>
      obtain ⟨v, hv, hvr⟩ := VL.get hvl ht
      have hlt : t < vals.length := (List.getElem?_eq_some_iff.1 hv).1
      have e : (vals.toArray ++ Array.replicate (fn.ntmps - vals.toArray.size) undef).getD t undef = v := by
        have h1 : (vals.toArray ++ Array.replicate (fn.ntmps - vals.toArray.size) undef)[t]? = some v := by
          rw [Array.getElem?_append_left (by simpa using hlt)]
          simpa using hv
        rw [Array.getD_eq_getD_getElem?, h1]; rfl
      simp only [e, Option.getD_some]
      exact hvr
  refine calls_of_wp hf hb (Code.wp_mono ?_ (h E (by have := wok.len; simp [entryCx] at this; exact this.symm) rfl hpre _ w hs hrel))
  intro e a w' ⟨st, hs', hr, he, hback⟩
  obtain ⟨v, h1, h2⟩ := results_sound hG.T hr hback
  have fin : a.defers = [] ∧ ∃ v, (results fn a.tmps).run P w' = .ok v w' ∧ ∃ v_1 obs' hs'_1, Ending.returned v = .returned v_1 ∧ WOK w hs ⟨w', w.heap.size, old, obs', hs'_1⟩ ∧
      R.r.VR ⟨w', w.heap.size, old, obs', hs'_1⟩ v_1 ∧ (∀ ob, R.o = some ob → obs'[0]? = some (some ob)) :=
    ⟨hr.df, v, h1, v, st.obs, hs', rfl, hr.wok, h2, hback.2⟩
  rcases he with rfl | rfl
  · exact fin
  · exact fin

end Go.AM

/- AM, part 15: regions that draw their order. -/
namespace Go.AM
open Go Go.RowKit

inductive Loc where
  | slot (t : Nat)
  | obj (m : Nat)
  | len

inductive Val where
  | a (v : AV)
  | o (x : Option Ob)
  | n (k : Nat)

def St.val (st : St) : Loc → Val
  | .slot t => .a (look t st.env)
  | .obj m => .o (st.obs.getD m none)
  | .len => .n st.obs.length

structure LE where
  rs : List Nat
  ro : List Nat
  ws : Option Nat
  wo : List Nat
  fr : Bool

def LE.R (e : LE) : Loc → Bool
  | .slot t => e.rs.contains t
  | .obj m => e.ro.contains m
  | .len => e.fr
def LE.W (e : LE) : Loc → Bool
  | .slot t => e.ws == some t
  | .obj m => e.wo.contains m
  | .len => e.fr

def LE.conf (a b : LE) : Bool :=
  (match a.ws with | some t => b.rs.contains t || b.ws == some t | none => false) || (match b.ws with | some t => a.rs.contains t | none => false)
  || a.wo.any (fun m => b.ro.contains m || b.wo.contains m) || b.wo.any (fun m => a.ro.contains m) || (a.fr && b.fr)

theorem LE.conf_spec {a b : LE} (h : a.conf b = false) (x : Loc) : (a.W x = true → b.R x = false ∧ b.W x = false) ∧ (a.R x = true → b.W x = false) := by
  unfold LE.conf at h
  simp only [Bool.or_eq_false_iff] at h
  obtain ⟨⟨⟨⟨h1, h2⟩, h3⟩, h4⟩, h5⟩ := h
  cases x with
  | slot t =>
    constructor
    · intro hw
      have hw : a.ws = some t := by simpa [LE.W] using hw
      rw [hw] at h1
      simp only [Bool.or_eq_false_iff] at h1
      exact ⟨h1.1, h1.2⟩
    · intro hr
      have hr : a.rs.contains t = true := hr
      show (b.ws == some t) = false
      cases hb : b.ws with
      | none => rfl
      | some q =>
        rw [hb] at h2
        dsimp only at h2
        by_cases e : q = t
        · subst e; rw [hr] at h2; cases h2
        · simpa using e
  | obj m =>
    constructor
    · intro hw
      have hw : m ∈ a.wo := by simpa [LE.W] using hw
      have := List.any_eq_false.1 h3 m hw
      simp only [Bool.or_eq_true, not_or, Bool.not_eq_true] at this
      exact this
    · intro hr
      have hr : a.ro.contains m = true := hr
      cases hb : b.wo.contains m with
      | false => exact hb
      | true =>
        have := List.any_eq_false.1 h4 m (by simpa using hb)
        rw [hr] at this
        exact absurd rfl this
  | len =>
    constructor
    · intro hw
      have hw : a.fr = true := hw
      rw [hw] at h5
      simp only [Bool.true_and] at h5
      exact ⟨h5, h5⟩
    · intro hr
      have hr : a.fr = true := hr
      rw [hr] at h5
      show b.fr = false
      simpa using h5

/-! ### evaluation that tells what it reads -/
inductive OutR where
  | bad
  | ok (p : Prop) (v : AV) (u : List (Nat × Ob)) (n : List Ob) (rs ro : List Nat) (fr : Bool)

def OutR.and (q : Prop) : OutR → OutR
  | .bad => .bad
  | .ok p v u n rs ro fr => .ok (q ∧ p) v u n rs ro fr
def OutR.rd (t : Nat) : OutR → OutR
  | .bad => .bad
  | .ok p v u n rs ro fr => .ok p v u n (t :: rs) ro fr
def OutR.ob (m : Nat) : OutR → OutR
  | .bad => .bad
  | .ok p v u n rs ro fr => .ok p v u n rs (m :: ro) fr
def OutR.new : OutR → OutR
  | .bad => .bad
  | .ok p v u n rs ro fr => .ok p v u n rs ro true

def Q.evalR (c : Bool) : Q → St → OutR
  | .slot t k, st => (match look t st.env with
    | .when c' a => ((k a).evalR c st).and (c = true → c' = true)
    | a => (k a).evalR c st).rd t
  | .slotW t k, st => ((k (look t st.env)).evalR c st).rd t
  | .obj m k, st => (match st.obs.getD m none with
    | some o => (k o).evalR c st
    | none => .bad).ob m
  | .fresh k, st => ((k st.obs.length).evalR c st).new
  | .side p k, st => (k.evalR c st).and p
  | .call _ _ _, _ => .bad
  | .fin v u n, _ => .ok True v u n [] [] false
  | .bad, _ => .bad

def Agree (st st' : St) (rs ro : List Nat) (fr : Bool) : Prop :=
  (∀ t ∈ rs, look t st'.env = look t st.env) ∧ (∀ m ∈ ro, st'.obs.getD m none = st.obs.getD m none) ∧ (fr = true → st'.obs.length = st.obs.length)

theorem OutR.and_ok {q : Prop} {r : OutR} {p v u n rs ro fr} (h : r.and q = .ok p v u n rs ro fr) : ∃ p', r = .ok p' v u n rs ro fr ∧ (p → q ∧ p') := by
  cases r with
  | bad => simp [OutR.and] at h
  | ok =>
    simp only [OutR.and, OutR.ok.injEq] at h
    obtain ⟨rfl, rfl, rfl, rfl, rfl, rfl, rfl⟩ := h
    exact ⟨_, rfl, fun x => x⟩
theorem OutR.rd_ok {t : Nat} {r : OutR} {p v u n rs ro fr} (h : r.rd t = .ok p v u n rs ro fr) : ∃ rs', r = .ok p v u n rs' ro fr ∧ rs = t :: rs' := by
  cases r with
  | bad => simp [OutR.rd] at h
  | ok =>
    simp only [OutR.rd, OutR.ok.injEq] at h
    obtain ⟨rfl, rfl, rfl, rfl, rfl, rfl, rfl⟩ := h
    exact ⟨_, rfl, rfl⟩
theorem OutR.ob_ok {t : Nat} {r : OutR} {p v u n rs ro fr} (h : r.ob t = .ok p v u n rs ro fr) : ∃ ro', r = .ok p v u n rs ro' fr ∧ ro = t :: ro' := by
  cases r with
  | bad => simp [OutR.ob] at h
  | ok =>
    simp only [OutR.ob, OutR.ok.injEq] at h
    obtain ⟨rfl, rfl, rfl, rfl, rfl, rfl, rfl⟩ := h
    exact ⟨_, rfl, rfl⟩
theorem OutR.new_ok {r : OutR} {p v u n rs ro fr} (h : r.new = .ok p v u n rs ro fr) : ∃ fr', r = .ok p v u n rs ro fr' ∧ fr = true := by
  cases r with
  | bad => simp [OutR.new] at h
  | ok =>
    simp only [OutR.new, OutR.ok.injEq] at h
    obtain ⟨rfl, rfl, rfl, rfl, rfl, rfl, rfl⟩ := h
    exact ⟨_, rfl, rfl⟩

theorem evalR_runs {S : SpecEqT} {c : Bool} (hc : c = true) {st st' : St} : ∀ {q : Q} {p : Prop} {v : AV} {u : List (Nat × Ob)} {n : List Ob} {rs ro : List Nat} {fr : Bool}, q.evalR c st = .ok p v u n rs ro fr → p → Agree st st' rs ro fr → q.Runs S st' v u n
  | .slot t k, p, v, u, n, rs, ro, fr, h, hp, hag => by
    unfold Q.evalR at h
    obtain ⟨rs', h0, e0⟩ := OutR.rd_ok h
    subst e0
    clear h
    have h := h0
    clear h0
    have hag' : Agree st st' rs' ro fr := ⟨fun x hx => hag.1 x (by simp [hx]), hag.2⟩
    have et := hag.1 t (by simp)
    split at h
    · rename_i c' a e
      obtain ⟨p', h1, h2⟩ := OutR.and_ok h
      unfold Q.Runs
      exact ⟨a, .inr ⟨c', et.trans e, (h2 hp).1 hc⟩, evalR_runs hc h1 (h2 hp).2 hag'⟩
    · unfold Q.Runs
      exact ⟨_, .inl et, evalR_runs hc h hp hag'⟩
  | .slotW t k, p, v, u, n, rs, ro, fr, h, hp, hag => by
    unfold Q.evalR at h
    obtain ⟨rs', h0, e0⟩ := OutR.rd_ok h
    subst e0
    clear h
    have h := h0
    clear h0
    have hag' : Agree st st' rs' ro fr := ⟨fun x hx => hag.1 x (by simp [hx]), hag.2⟩
    unfold Q.Runs
    rw [hag.1 t (by simp)]
    exact evalR_runs hc h hp hag'
  | .obj m k, p, v, u, n, rs, ro, fr, h, hp, hag => by
    unfold Q.evalR at h
    obtain ⟨ro', h0, e0⟩ := OutR.ob_ok h
    subst e0
    clear h
    have h := h0
    clear h0
    have hag' : Agree st st' rs ro' fr := ⟨hag.1, fun x hx => hag.2.1 x (by simp [hx]), hag.2.2⟩
    have em := hag.2.1 m (by simp)
    split at h
    · rename_i o e
      unfold Q.Runs
      refine ⟨o, ?_, evalR_runs hc h hp hag'⟩
      rw [e, List.getD_eq_getElem?_getD] at em
      cases hq : st'.obs[m]? with
      | none => simp [hq] at em
      | some x => simp [hq] at em; rw [em]
    · cases h
  | .fresh k, p, v, u, n, rs, ro, fr, h, hp, hag => by
    unfold Q.evalR at h
    obtain ⟨fr', h0, e0⟩ := OutR.new_ok h
    subst e0
    clear h
    have h := h0
    clear h0
    unfold Q.Runs
    rw [hag.2.2 rfl]
    exact evalR_runs hc h hp ⟨hag.1, hag.2.1, fun _ => hag.2.2 rfl⟩
  | .side q k, p, v, u, n, rs, ro, fr, h, hp, hag => by
    unfold Q.evalR at h
    obtain ⟨p', h1, h2⟩ := OutR.and_ok h
    unfold Q.Runs
    exact ⟨(h2 hp).1, evalR_runs hc h1 (h2 hp).2 hag⟩
  | .call _ _ _, p, v, u, n, rs, ro, fr, h, hp, hag => by unfold Q.evalR at h; cases h
  | .fin v' u' n', p, v, u, n, rs, ro, fr, h, hp, hag => by
    unfold Q.evalR at h
    simp only [OutR.ok.injEq] at h
    obtain ⟨_, rfl, rfl, rfl, _⟩ := h
    unfold Q.Runs
    exact ⟨rfl, rfl, rfl⟩
  | .bad, p, v, u, n, rs, ro, fr, h, hp, hag => by unfold Q.evalR at h; cases h

/-! ### one step of a region in any order -/
structure Stp where
  L : LE
  v : AV
  u : List (Nat × Ob)
  n : List Ob

def Stp.app (s : Stp) (d : Option Nat) (st : St) : St := st.upd d s.v s.u s.n

/-- It does in every state that agrees what it does in this one. -/
def StepOK (P : Program) (E : En) (ops : Array Oper) (Q : Exit → Act → World → Prop) (i : Nat) (s : Stp) (st0 : St) : Prop :=
  ∀ (d : Option Nat), (ops[i]?).bind (·.dst) = d → s.L.ws = d → ∀ st a w hs, Rel E st a w hs → Agree st0 st s.L.rs s.L.ro s.L.fr → ∀ K : Act → World → Prop, (∀ a' w' hs', Rel E (s.app d st) a' w' hs' → K a' w') → wpOp P ops Q i K a w

/-- What it writes is what it says. -/
def Stp.wf (s : Stp) (st : St) : Bool :=
  s.u.all (fun p => s.L.ro.contains p.1 && s.L.wo.contains p.1 && (st.obs.getD p.1 none).isSome) && (s.n.isEmpty || s.L.fr) && (List.range s.n.length).all (fun k => s.L.wo.contains (st.obs.length + k))
    && s.L.wo.all (fun m => (s.u.any fun p => p.1 == m) || (decide (st.obs.length ≤ m) && decide (m < st.obs.length + s.n.length)))

theorem foldl_set_len : ∀ (u : List (Nat × Ob)) (os : List (Option Ob)), (u.foldl (fun os p => os.set p.1 (some p.2)) os).length = os.length
  | [], os => rfl
  | p :: u, os => by simp only [List.foldl_cons]; rw [foldl_set_len u]; simp
theorem foldl_set_not {m : Nat} : ∀ (u : List (Nat × Ob)) (os : List (Option Ob)), (∀ p ∈ u, p.1 ≠ m) → (u.foldl (fun os p => os.set p.1 (some p.2)) os).getD m none = os.getD m none
  | [], os, _ => rfl
  | p :: u, os, h => by
    simp only [List.foldl_cons]
    rw [foldl_set_not u _ fun q hq => h q (by simp [hq])]
    simp [List.getD_eq_getElem?_getD, List.getElem?_set, h p (by simp)]
theorem foldl_set_same {m : Nat} : ∀ (u : List (Nat × Ob)) (os os' : List (Option Ob)), m < os.length → m < os'.length → os.getD m none = os'.getD m none →
    (u.foldl (fun os p => os.set p.1 (some p.2)) os).getD m none = (u.foldl (fun os p => os.set p.1 (some p.2)) os').getD m none
  | [], os, os', _, _, h => h
  | p :: u, os, os', h1, h2, h => by
    simp only [List.foldl_cons]
    refine foldl_set_same u _ _ (by simpa using h1) (by simpa using h2) ?_
    by_cases e : p.1 = m
    · subst e; simp [List.getD_eq_getElem?_getD, List.getElem?_set, h1, h2]
    · simpa [List.getD_eq_getElem?_getD, List.getElem?_set, e] using h
theorem getD_some_lt {os : List (Option Ob)} {m : Nat} (h : (os.getD m none).isSome = true) : m < os.length := by
  rcases Nat.lt_or_ge m os.length with h1 | h1
  · exact h1
  · rw [List.getD_eq_getElem?_getD, List.getElem?_eq_none h1] at h; cases h
theorem getD_app {A B : List (Option Ob)} {m : Nat} : (A ++ B).getD m none = if m < A.length then A.getD m none else B.getD (m - A.length) none := by
  simp only [List.getD_eq_getElem?_getD]
  split
  · rename_i h; rw [List.getElem?_append_left h]
  · rename_i h; rw [List.getElem?_append_right (by omega)]

theorem Stp.eff {s : Stp} {d : Option Nat} {st0 st : St} (hws : s.L.ws = d) (hwf : s.wf st0 = true) (ha : Agree st0 st s.L.rs s.L.ro s.L.fr) (x : Loc) :
    (s.app d st).val x = if s.L.W x = true then (s.app d st0).val x else st.val x := by
  unfold Stp.wf at hwf
  simp only [Bool.and_eq_true] at hwf
  obtain ⟨⟨⟨h1, h2⟩, h3⟩, h4⟩ := hwf
  have hlen : s.n ≠ [] → st.obs.length = st0.obs.length := fun hn => ha.2.2 (by
    rcases (by simpa only [Bool.or_eq_true] using h2 : s.n.isEmpty = true ∨ s.L.fr = true) with h | h
    · exact absurd (by simpa using h) hn
    · exact h)
  cases x with
  | slot t =>
    simp only [St.val, Stp.app, St.upd, LE.W, hws]
    cases d with
    | none => simp [St.put]
    | some d =>
      simp only [St.put, look]
      by_cases e : t = d
      · subst e; simp
      · simp [e, Ne.symm e]
  | len =>
    simp only [St.val, Stp.app, St.upd, LE.W, List.length_append, List.length_map, foldl_set_len]
    split
    · rename_i hfr; rw [ha.2.2 hfr]
    · rename_i hfr
      have : s.n = [] := by
        rcases (by simpa only [Bool.or_eq_true] using h2 : s.n.isEmpty = true ∨ s.L.fr = true) with h | h
        · simpa using h
        · exact absurd h hfr
      simp [this]
  | obj m =>
    simp only [St.val, Stp.app, St.upd]
    by_cases hu : ∃ p ∈ s.u, p.1 = m
    · obtain ⟨p, hp, rfl⟩ := hu
      have h5 := List.all_eq_true.1 h1 p hp
      simp only [Bool.and_eq_true] at h5
      obtain ⟨⟨h6, h7⟩, h8⟩ := h5
      have h6' : p.1 ∈ s.L.ro := by simpa using h6
      have he := ha.2.1 p.1 h6'
      have l0 : p.1 < st0.obs.length := getD_some_lt h8
      have l1 : p.1 < st.obs.length := getD_some_lt (by rw [he]; exact h8)
      rw [if_pos (show s.L.W (.obj p.1) = true from h7), getD_app, getD_app, foldl_set_len, foldl_set_len, if_pos l0, if_pos l1, foldl_set_same s.u st.obs st0.obs l1 l0 he]
    · have hu' : ∀ p ∈ s.u, p.1 ≠ m := fun p hp e => hu ⟨p, hp, e⟩
      by_cases hW : s.L.wo.contains m = true
      · rw [if_pos (show s.L.W (.obj m) = true from hW)]
        have hm : m ∈ s.L.wo := by simpa using hW
        have h5 := List.all_eq_true.1 h4 m hm
        have hany : (s.u.any fun p => p.1 == m) = false := by
          rw [List.any_eq_false]; intro p hp; simpa using hu' p hp
        rw [hany] at h5
        simp only [Bool.false_or, Bool.and_eq_true, decide_eq_true_eq] at h5
        have hn : s.n ≠ [] := by intro e; rw [e] at h5; simp at h5; omega
        rw [getD_app, getD_app, foldl_set_len, foldl_set_len, hlen hn, if_neg (by omega), if_neg (by omega)]
      · rw [if_neg (show ¬ s.L.W (.obj m) = true from hW), getD_app, foldl_set_len]
        split
        · rw [foldl_set_not s.u _ hu']
        · rename_i hge
          by_cases hn : s.n = []
          · simp [hn, List.getD_eq_getElem?_getD, List.getElem?_eq_none (Nat.le_of_not_lt hge)]
          · have e1 := hlen hn
            have : s.n.length ≤ m - st.obs.length := by
              rcases Nat.lt_or_ge (m - st.obs.length) s.n.length with hlt | hge'
              · exfalso
                have h5 := List.all_eq_true.1 h3 (m - st.obs.length) (by simpa using hlt)
                rw [← e1] at h5
                have : st.obs.length + (m - st.obs.length) = m := by omega
                rw [this] at h5
                exact hW h5
              · exact hge'
            simp [List.getD_eq_getElem?_getD, List.getElem?_eq_none (Nat.le_of_not_lt hge), List.getElem?_eq_none (l := s.n) this]

/-! ### any order -/
def Closed (ops : Array Oper) (listed : Nat → Bool) : Prop := ∀ j o, ops[j]? = some o → listed j = true → ∀ e ∈ o.after, Region.binds .any e = true → listed e.on = true

def bstep (acc : List Nat) (o : Oper) : List Nat :=
  acc ++ [o.after.toList.foldl (fun s e => if Region.binds .any e = true then s ||| 2 ^ e.on ||| acc.getD e.on 0 else s) 0]
def befs (ops : List Oper) : List Nat := ops.foldl bstep []

theorem fold_bits {acc : List Nat} {i : Nat} : ∀ (es : List Edge) (s0 : Nat), (es.foldl (fun s e => if Region.binds .any e = true then s ||| 2 ^ e.on ||| acc.getD e.on 0 else s) s0).testBit i = true →
    s0.testBit i = true ∨ ∃ e ∈ es, Region.binds .any e = true ∧ (e.on = i ∨ (acc.getD e.on 0).testBit i = true)
  | [], s0, h => .inl h
  | e :: es, s0, h => by
    simp only [List.foldl_cons] at h
    rcases fold_bits es _ h with h1 | ⟨e', he', h1⟩
    · split at h1
      · rename_i hb
        simp only [Nat.testBit_or, Bool.or_eq_true] at h1
        rcases h1 with (h1 | h1) | h1
        · exact .inl h1
        · exact .inr ⟨e, by simp, hb, .inl (by simpa [Nat.testBit_two_pow] using h1)⟩
        · exact .inr ⟨e, by simp, hb, .inr h1⟩
      · exact .inl h1
    · exact .inr ⟨e', by simp [he'], h1⟩

theorem befs_spec (ops : Array Oper) : ∀ (l : List Oper) (k : Nat) (acc : List Nat), acc.length = k → (∀ j o, l[j]? = some o → ops[k + j]? = some o) →
    (∀ listed, Closed ops listed → ∀ j, j < k → ∀ i, (acc.getD j 0).testBit i = true → (∀ o, ops[j]? = some o → ∀ e ∈ o.after, Region.binds .any e = true → listed e.on = true) → listed i = true) →
    ∀ listed, Closed ops listed → ∀ j, j < k + l.length → ∀ i, ((l.foldl bstep acc).getD j 0).testBit i = true → (∀ o, ops[j]? = some o → ∀ e ∈ o.after, Region.binds .any e = true → listed e.on = true) → listed i = true
  | [], k, acc, _, _, h, listed, hc, j, hj, i, hb, hp => h listed hc j (by simpa using hj) i hb hp
  | o :: l, k, acc, hk, hl, h, listed, hc, j, hj, i, hb, hp => by
    simp only [List.foldl_cons] at hb
    refine befs_spec ops l (k + 1) (bstep acc o) (by simp [bstep, hk]) (fun j o' ho' => ?_) ?_ listed hc j (by simp at hj; omega) i hb hp
    · have := hl (j + 1) o' (by simpa using ho')
      rw [show k + 1 + j = k + (j + 1) by omega]; exact this
    · intro listed hc j hj i hb hp
      by_cases e : j < k
      · refine h listed hc j e i ?_ hp
        have : (bstep acc o).getD j 0 = acc.getD j 0 := by
          simp only [bstep, List.getD_eq_getElem?_getD]
          rw [List.getElem?_append_left (by omega)]
        rwa [this] at hb
      · have ej : j = k := by omega
        subst ej
        have : (bstep acc o).getD j 0 = o.after.toList.foldl (fun s e => if Region.binds .any e = true then s ||| 2 ^ e.on ||| acc.getD e.on 0 else s) 0 := by
          simp only [bstep, List.getD_eq_getElem?_getD]
          rw [List.getElem?_append_right (by omega)]
          simp [hk]
        rw [this] at hb
        have ho : ops[j]? = some o := by simpa using hl 0 o (by simp)
        rcases fold_bits _ _ hb with h1 | ⟨e, he, hbd, h1⟩
        · simp at h1
        · have hle : listed e.on = true := hp o ho e (by simpa using he) hbd
          rcases h1 with rfl | h1
          · exact hle
          · by_cases e2 : e.on < j
            · exact h listed hc e.on e2 i h1 fun o' ho' e' he' hb' => hc e.on o' ho' hle e' he' hb'
            · rw [List.getD_eq_getElem?_getD, List.getElem?_eq_none (by omega)] at h1
              simp at h1

section any
variable {P : Program} {E : En} {ops : Array Oper} {Q : Exit → Act → World → Prop} {step : Nat → Stp} {S : Nat → St}

def seen (step : Nat → Stp) (S : Nat → St) (listed : Nat → Bool) (x : Loc) : Nat → Val
  | 0 => (S 0).val x
  | k + 1 => if listed k = true ∧ (step k).L.W x = true then (S (k + 1)).val x else seen step S listed x k

theorem seen_all {listed : Nat → Bool} {x : Loc} (hS : ∀ i, i < ops.size → (S (i + 1)).val x = if (step i).L.W x = true then (S (i + 1)).val x else (S i).val x) :
    ∀ k, k ≤ ops.size → (∀ i, i < k → (step i).L.W x = true → listed i = true) → seen step S listed x k = (S k).val x
  | 0, _, _ => rfl
  | k + 1, hk, h => by
    unfold seen
    split
    · rfl
    · rename_i hn
      rw [seen_all hS k (by omega) fun i hi hw => h i (by omega) hw]
      have := hS k (by omega)
      have hw : ¬ (step k).L.W x = true := fun hw => hn ⟨h k (by omega) hw, hw⟩
      rw [if_neg hw] at this
      exact this.symm

theorem seen_none {listed : Nat → Bool} {x : Loc} {j : Nat} : ∀ k, j ≤ k → (∀ i, j ≤ i → i < k → (step i).L.W x = true → listed i = false) → seen step S listed x k = seen step S listed x j
  | k, hk, h => by
    by_cases e : j = k
    · subst e; rfl
    · obtain ⟨k', rfl⟩ : ∃ k', k = k' + 1 := ⟨k - 1, by omega⟩
      rw [seen, if_neg, seen_none k' (by omega) fun i h1 h2 => h i h1 (by omega)]
      rintro ⟨h1, h2⟩
      rw [h k' (by omega) (by omega) h2] at h1
      cases h1

theorem seen_congr {l l' : Nat → Bool} {x : Loc} : ∀ k, (∀ i, i < k → (step i).L.W x = true → l i = l' i) → seen step S l x k = seen step S l' x k
  | 0, _ => rfl
  | k + 1, h => by
    unfold seen
    rw [seen_congr k fun i hi => h i (by omega)]
    by_cases hw : (step k).L.W x = true
    · rw [h k (by omega) hw]
    · simp [hw]

theorem any_sound (hS : ∀ i, i < ops.size → S (i + 1) = (step i).app ((ops[i]?).bind (·.dst)) (S i)) (hws : ∀ i, i < ops.size → (step i).L.ws = (ops[i]?).bind (·.dst)) (hstep : ∀ i, i < ops.size → StepOK P E ops Q i (step i) (S i))
    (hwf : ∀ i, i < ops.size → (step i).wf (S i) = true) (hback : ∀ i o, ops[i]? = some o → ∀ e ∈ o.after, Region.binds .any e = true → e.on < i)
    (hconf : ∀ i j, i < j → j < ops.size → (step i).L.conf (step j).L = true → ((befs ops.toList).getD j 0).testBit i = true)
    (hK : ∀ st a w hs, Rel E st a w hs → (∀ x, st.val x = (S ops.size).val x) → Q .normal a w) :
    ∀ (fuel : Nat) (listed : Array Bool) (st : St) (a : Act) (w : World) (hs : List Hd), listed.size = ops.size → (listed.toList.filter fun b => !b).length ≤ fuel → Closed ops (fun i => listed.getD i false) → Rel E st a w hs →
      (∀ x, st.val x = seen step S (fun i => listed.getD i false) x ops.size) → wpAny P .any ops Q fuel listed a w := by
  have heff : ∀ i, i < ops.size → ∀ x, (S (i + 1)).val x = if (step i).L.W x = true then (S (i + 1)).val x else (S i).val x := fun i hi x => by
    have := Stp.eff (st0 := S i) (st := S i) (hws i hi) (hwf i hi) ⟨fun _ _ => rfl, fun _ _ => rfl, fun _ => rfl⟩ x
    rw [← hS i hi] at this
    exact this
  have hbef : ∀ listed, Closed ops listed → ∀ j, j < ops.size → ∀ i, ((befs ops.toList).getD j 0).testBit i = true → (∀ o, ops[j]? = some o → ∀ e ∈ o.after, Region.binds .any e = true → listed e.on = true) → listed i = true := fun listed hc j hj =>
    befs_spec ops ops.toList 0 [] rfl (fun j o ho => by simpa using ho) (fun _ _ j hj => absurd hj (Nat.not_lt_zero _)) listed hc j (by simpa using hj)
  have hend : ∀ (listed : Array Bool) (st : St) (a : Act) (w : World) (hs : List Hd), listed.size = ops.size → Closed ops (fun i => listed.getD i false) → Region.ready .any ops listed = [] → Rel E st a w hs → (∀ x, st.val x = seen step S (fun i => listed.getD i false) x ops.size) → Q .normal a w := by
    intro listed st a w hs hsz hc hr hrel hinv
    have hall : ∀ i, i < ops.size → listed.getD i false = true := by
      intro i
      induction i using Nat.strongRecOn with
      | _ i ih =>
        intro hi
        rcases hb : listed.getD i false with _ | _
        · exfalso
          have hmem : i ∈ Region.ready .any ops listed := by
            rw [mem_ready]
            refine ⟨?_, ops[i], by simp [hi], fun e he hbd => ?_⟩
            · have hi' : i < listed.size := hsz ▸ hi
              simp only [Array.getD_eq_getD_getElem?, Array.getElem?_eq_getElem hi', Option.getD_some] at hb ⊢
              exact hb
            · have := hback i ops[i] (by simp [hi]) e he hbd
              exact ih e.on this (by omega)
          rw [hr] at hmem
          cases hmem
        · rfl
    exact hK st a w hs hrel fun x => (hinv x).trans (seen_all (ops := ops) (fun i hi => heff i hi x) ops.size (Nat.le_refl _) fun i hi _ => hall i hi)
  have hone : ∀ (listed : Array Bool) (st : St) (a : Act) (w : World) (hs : List Hd) (j : Nat), listed.size = ops.size → Closed ops (fun i => listed.getD i false) → j ∈ Region.ready .any ops listed → Rel E st a w hs →
      (∀ x, st.val x = seen step S (fun i => listed.getD i false) x ops.size) → ∀ K : Act → World → Prop,
      (∀ st' a' w' hs', Rel E st' a' w' hs' → (listed.setIfInBounds j true).size = ops.size → Closed ops (fun i => (listed.setIfInBounds j true).getD i false) → (∀ x, st'.val x = seen step S (fun i => (listed.setIfInBounds j true).getD i false) x ops.size) → K a' w') →
      wpOp P ops Q j K a w := by
    intro listed st a w hs j hsz hc hj hrel hinv K hKK
    obtain ⟨hun, o, ho, hpre⟩ := mem_ready.1 hj
    have hjn : j < ops.size := (Array.getElem?_eq_some_iff.1 ho).1
    have hjl : j < listed.size := hsz ▸ hjn
    have hun' : listed.getD j false = false := by
      simp only [Array.getD_eq_getD_getElem?, Array.getElem?_eq_getElem hjl, Option.getD_some] at hun ⊢
      exact hun
    have hpre' : ∀ o', ops[j]? = some o' → ∀ e ∈ o'.after, Region.binds .any e = true → listed.getD e.on false = true := fun o' ho' => by
      rw [ho] at ho'; cases ho'; exact hpre
    -- conflicts
    have before : ∀ i, i < j → (step i).L.conf (step j).L = true → listed.getD i false = true := fun i hi hcf => hbef (fun i => listed.getD i false) hc j hjn i (hconf i j hi hjn hcf) hpre'
    have after : ∀ i, j < i → i < ops.size → (step j).L.conf (step i).L = true → listed.getD i false = false := fun i hi hin hcf => by
      rcases hb : listed.getD i false with _ | _
      · rfl
      · have := hbef (fun i => listed.getD i false) hc i hin j (hconf j i hi hin hcf) fun o' ho' e he hbd => hc i o' ho' hb e he hbd
        rw [hun'] at this
        cases this
    have rd : ∀ x, (step j).L.R x = true → st.val x = (S j).val x := fun x hx => by
      rw [hinv x, seen_none (j := j) ops.size (by omega) fun i h1 h2 hw => ?_]
      · exact seen_all (ops := ops) (fun i hi => heff i hi x) j (by omega) fun i hi hw => before i hi (by
          rcases hb : (step i).L.conf (step j).L with _ | _
          · have := ((LE.conf_spec hb x).1 hw).1
            rw [hx] at this; cases this
          · rfl)
      · by_cases e : i = j
        · subst e; exact hun'
        · refine after i (by omega) h2 ?_
          rcases hb : (step j).L.conf (step i).L with _ | _
          · have := (LE.conf_spec hb x).2 hx
            rw [hw] at this; cases this
          · rfl
    have hag : Agree (S j) st (step j).L.rs (step j).L.ro (step j).L.fr := by
      refine ⟨fun t ht => ?_, fun m hm => ?_, fun hfr => ?_⟩
      · have := rd (.slot t) (by simpa [LE.R] using ht)
        simpa [St.val] using this
      · have := rd (.obj m) (by simpa [LE.R] using hm)
        simp only [St.val, Val.o.injEq] at this
        exact this
      · have := rd .len hfr
        simpa [St.val] using this
    refine hstep j hjn _ rfl (hws j hjn) st a w hs hrel hag K fun a' w' hs' hrel' => hKK _ a' w' hs' hrel' (by simpa using hsz) ?_ fun x => ?_
    · intro i o' ho' hi e he hbd
      by_cases eij : i = j
      · subst eij
        exact getD_set_true (hpre' o' ho' e he hbd)
      · have hi0 : (listed.setIfInBounds j true).getD i false = true := hi
        have hi' : listed.getD i false = true := by rw [getD_set_ne false (Ne.symm eij)] at hi0; exact hi0
        exact getD_set_true (hc i o' ho' hi' e he hbd)
    · rw [Stp.eff (hws j hjn) (hwf j hjn) hag x, ← hS j hjn]
      have hset : (listed.setIfInBounds j true).getD j false = true := by simp [hjl]
      split
      · rename_i hw
        rw [seen_none (j := j + 1) ops.size (by omega) fun i h1 h2 hwi => ?_]
        · simp only [seen]
          rw [if_pos ⟨hset, hw⟩]
        · show (listed.setIfInBounds j true).getD i false = false
          rw [getD_set_ne false (by omega : j ≠ i)]
          refine after i (by omega) h2 ?_
          rcases hb : (step j).L.conf (step i).L with _ | _
          · have := ((LE.conf_spec hb x).1 hw).2
            rw [hwi] at this; cases this
          · rfl
      · rename_i hw
        rw [hinv x]
        refine seen_congr ops.size fun i _ hwi => ?_
        by_cases eij : j = i
        · subst eij; exact absurd hwi hw
        · show listed.getD i false = (listed.setIfInBounds j true).getD i false
          rw [getD_set_ne false eij]
  intro fuel
  induction fuel with
  | zero =>
    intro listed st a w hs hsz hf hc hrel hinv
    have hr : Region.ready .any ops listed = [] := by
      rw [List.eq_nil_iff_forall_not_mem]
      intro j hj
      obtain ⟨hun, o, ho, _⟩ := mem_ready.1 hj
      have hjl : j < listed.size := hsz ▸ (Array.getElem?_eq_some_iff.1 ho).1
      have h0 : listed.toList.filter (fun b => !b) = [] := List.length_eq_zero_iff.1 (by omega)
      have hmem : false ∈ listed.toList.filter (fun b => !b) := by
        rw [List.mem_filter]
        refine ⟨?_, rfl⟩
        simp only [Array.getD_eq_getD_getElem?, Array.getElem?_eq_getElem hjl, Option.getD_some] at hun
        rw [← hun]
        simp
      rw [h0] at hmem
      cases hmem
    exact ⟨hr, hend listed st a w hs hsz hc hr hrel hinv⟩
  | succ fuel ih =>
    intro listed st a w hs hsz hf hc hrel hinv
    refine ⟨fun hr => hend listed st a w hs hsz hc hr hrel hinv, fun j hj => ?_⟩
    refine hone listed st a w hs j hsz hc hj hrel hinv _ fun st' a' w' hs' hrel' h1 h2 h3 => ih _ st' a' w' hs' h1 ?_ h2 hrel' h3
    obtain ⟨hun, o, ho, _⟩ := mem_ready.1 hj
    have hjl : j < listed.size := hsz ▸ (Array.getElem?_eq_some_iff.1 ho).1
    have hget : listed.toList[j]'(by simpa using hjl) = false := by
      simp only [Array.getD_eq_getD_getElem?, Array.getElem?_eq_getElem hjl, Option.getD_some] at hun
      simpa using hun
    have key : ∀ (l : List Bool) (j : Nat) (h : j < l.length), l[j] = false → ((l.set j true).filter fun b => !b).length + 1 = (l.filter fun b => !b).length := by
      intro l
      induction l with
      | nil => intro j h; simp at h
      | cons b l ih =>
        intro j h e
        cases j with
        | zero => simp at e; subst e; simp
        | succ j =>
          have := ih j (by simpa using h) (by simpa using e)
          cases b <;> simp <;> omega
    have := key listed.toList j (by simpa using hjl) hget
    rw [Array.toList_setIfInBounds]
    omega
end any

end Go.AM

/- AM, part 16: regions that draw their order: evaluation. -/
namespace Go.AM
open Go Go.RowKit

def gslot (all : List Oper) (j : Nat) : Option Nat := (all[j]?).bind (·.dst)

def backOK (all : List Oper) : Bool := all.zipIdx.all fun p => p.1.after.toList.all fun e => !Region.binds .any e || decide (e.on < p.2)
def pairsOK (b : List Nat) (L : List LE) (n : Nat) : Bool := (List.range n).all fun j => (List.range j).all fun i =>
  !((L.getD i ⟨[], [], none, [], false⟩).conf (L.getD j ⟨[], [], none, [], false⟩)) || (b.getD j 0).testBit i
def ordOK (all : List Oper) (log : List LE) : Bool := backOK all && pairsOK (befs all) log.reverse all.length

/-- What an operation writes. -/
def wrs (st : St) (u : List (Nat × Ob)) (n : List Ob) : List Nat := u.map (·.1) ++ (List.range n.length).map (fun k => st.obs.length + k)

def evalD (G : Cfg) (own : List Nat) (all : List Oper) (K : St → Prop) : List Oper → Nat → St → List LE → Prop
  | [], _, st, log => ordOK all log = true ∧ K st
  | o :: os, i, st, log => match o.guard with
    | none => match (opQ G (!own.contains i) o).evalR true st with
      | .bad => False
      | .ok p v u n rs ro fr => p ∧ Stp.wf ⟨⟨rs, ro, o.dst, wrs st u n, fr⟩, v, u, n⟩ st = true ∧ evalD G own all K os (i + 1) (st.upd o.dst v u n) (⟨rs, ro, o.dst, wrs st u n, fr⟩ :: log)
    | some (j, want) => match gslot all j, gcond all st j want with
      | some t, some c => if (Oper.ef G o || own.contains 9999) = true then (match c with
          | true => (match (opQ G (!own.contains i) o).evalR true st with
            | .bad => False
            | .ok p v u n rs ro fr => p ∧ Stp.wf ⟨⟨t :: rs, ro, o.dst, wrs st u n, fr⟩, v, u, n⟩ st = true ∧ evalD G own all K os (i + 1) (st.upd o.dst v u n) (⟨t :: rs, ro, o.dst, wrs st u n, fr⟩ :: log))
          | false => ∃ av, evalD G own all K os (i + 1) (st.put o.dst (.when false av)) (⟨[t], [], o.dst, [], false⟩ :: log))
        else match (opQ G true o).evalR c st with
          | .bad => False
          | .ok p v u n rs ro fr => (c = true → p) ∧ u = [] ∧ n = [] ∧ evalD G own all K os (i + 1) (st.put o.dst (.when c v)) (⟨t :: rs, ro, o.dst, [], fr⟩ :: log)
      | _, _ => False

def stepD (G : Cfg) (own : List Nat) (all : List Oper) (K : St → Prop) (os : List Oper) (i : Nat) (d : Option Nat) (ts : List Nat) (log : List LE) : OutR → St → Prop
  | .bad, _ => False
  | .ok p v u n rs ro fr, st => p ∧ Stp.wf ⟨⟨ts ++ rs, ro, d, wrs st u n, fr⟩, v, u, n⟩ st = true ∧ evalD G own all K os (i + 1) (st.upd d v u n) (⟨ts ++ rs, ro, d, wrs st u n, fr⟩ :: log)
def stepDG (G : Cfg) (own : List Nat) (all : List Oper) (K : St → Prop) (os : List Oper) (i : Nat) (d : Option Nat) (t : Nat) (c : Bool) (log : List LE) : OutR → St → Prop
  | .bad, _ => False
  | .ok p v u n rs ro fr, st => (c = true → p) ∧ u = [] ∧ n = [] ∧ evalD G own all K os (i + 1) (st.put d (.when c v)) (⟨t :: rs, ro, d, [], fr⟩ :: log)
def guardD (G : Cfg) (own : List Nat) (all : List Oper) (K : St → Prop) (os : List Oper) (i : Nat) (o : Oper) (log : List LE) (st : St) : Option Nat → Option Bool → Prop
  | some t, some c => if (Oper.ef G o || own.contains 9999) = true then (match c with
      | true => stepD G own all K os i o.dst [t] log ((opQ G (!own.contains i) o).evalR true st) st
      | false => ∃ av, evalD G own all K os (i + 1) (st.put o.dst (.when false av)) (⟨[t], [], o.dst, [], false⟩ :: log))
    else stepDG G own all K os i o.dst t c log ((opQ G true o).evalR c st) st
  | _, _ => False

section
variable {P : Program} {G : Cfg} {E : En} {st : St} {a : Act} {w : World} {hs : List Hd} {all : List Oper} {K : St → Prop} {own : List Nat} {i : Nat} {log : List LE}

theorem evalD_nil : evalD G own all K [] i st log = (ordOK all log = true ∧ K st) := rfl
theorem evalD_plain {d : Option Tmp} {op : Op} {ty : TypeId} {ps : String} {af : Array Edge} {os : List Oper} :
    evalD G own all K (⟨d, op, ty, ps, af, none⟩ :: os) i st log = stepD G own all K os i d [] log ((opQ G (!own.contains i) ⟨d, op, ty, ps, af, none⟩).evalR true st) st := by
  unfold evalD stepD
  dsimp only
  split <;> (rename_i h; rw [h]) <;> try rfl
theorem evalD_guard {d : Option Tmp} {op : Op} {ty : TypeId} {ps : String} {af : Array Edge} {j : Nat} {want : Bool} {os : List Oper} :
    evalD G own all K (⟨d, op, ty, ps, af, some (j, want)⟩ :: os) i st log = guardD G own all K os i ⟨d, op, ty, ps, af, some (j, want)⟩ log st (gslot all j) (gcond all st j want) := by
  unfold evalD guardD stepD stepDG
  dsimp only
  split
  · rename_i t c e1 e2
    try simp only [e1, e2]
    split
    · cases c
      · rfl
      · dsimp only
        split <;> (rename_i h; rw [h]) <;> try rfl
    · split <;> (rename_i h; rw [h])
  · first
    | rfl
    | (rename_i hn
       split
       · rename_i t c e1 e2
         exact absurd e2 (hn t c e1)
       · rfl)

theorem wanted_of (h : Rel E st a w hs) {ops : Array Oper} {o : Oper} {j : Nat} {want : Bool} {c : Bool} (hg : o.guard = some (j, want)) (e : gcond ops.toList st j want = some c)
    (hd2 : ∀ o ∈ ops.toList, ∀ t, o.dst = some t → t < E.N) : Region.wanted o (yielded ops a.tmps) = c := by
  simp only [Region.wanted, hg, yielded]
  unfold gcond at e
  have hl : ops.toList[j]? = ops[j]? := by simp
  rw [hl] at e
  split at e
  · rename_i t ht
    obtain ⟨⟨c1, b⟩, e1, rfl⟩ := Option.map_eq_some_iff.1 e
    rw [ht]
    have hv := h.env t
    have htN : t < a.tmps.size := by
      rw [h.size]
      obtain ⟨o', ho', h3⟩ := Option.bind_eq_some_iff.1 ht
      exact hd2 o' (by rw [← hl] at ho'; exact List.mem_of_getElem? ho') t h3
    have hget : a.tmps[t]? = some (a.tmps.getD t undef) := by simp [htN]
    simp only [Option.bind_some, hget]
    cases c1 with
    | true =>
      rw [boolOf_sound hv e1 rfl]
      cases want <;> cases b <;> rfl
    | false =>
      have : a.tmps.getD t undef = undef := by
        unfold boolOf at e1
        split at e1
        · cases e1
        · rename_i e5
          rw [e5] at hv
          unfold AV.VR at hv
          simp only [Option.some.injEq, Prod.mk.injEq] at e1
          exact hv.2 e1.1
        · cases e1
      rw [this]
      cases want <;> rfl
  · cases e

theorem gcond_agree {ops : List Oper} {st st' : St} {j t : Nat} {want : Bool} (ht : gslot ops j = some t) (e : look t st'.env = look t st.env) : gcond ops st' j want = gcond ops st j want := by
  unfold gcond
  unfold gslot at ht
  rw [ht]
  dsimp only
  rw [e]

theorem Rel.when {o : Oper} {v : AV} (hrel : Rel E (st.put o.dst v) a w hs) : Rel E (st.put o.dst (.when true v)) a w hs := by
  refine ⟨?_, hrel.df, hrel.size, fun t => ?_⟩
  · have := hrel.wok
    cases hdst : o.dst <;> rw [hdst] at this <;> exact this
  · have := hrel.env t
    cases hdst : o.dst with
    | none => rw [hdst] at this; exact this
    | some d =>
      rw [hdst] at this
      simp only [St.put, look] at this ⊢
      split at this
      · rename_i etd
        rw [if_pos etd]
        unfold AV.VR
        exact ⟨fun _ => this, by simp⟩
      · rename_i etd
        rw [if_neg etd]
        exact this

theorem wf_empty {L : LE} {v : AV} (st : St) (h : L.wo = []) : Stp.wf ⟨L, v, [], []⟩ st = true := by
  simp [Stp.wf, h]

/-- The text's own order, told as steps. -/
def Told (P : Program) (E : En) (ops : Array Oper) (Q : Exit → Act → World → Prop) (st0 : St) (k : Nat) (st : St) (log : List LE) : Prop :=
  ∃ (step : Nat → Stp) (S : Nat → St), S 0 = st0 ∧ S k = st ∧ log.reverse = (List.range k).map (fun i => (step i).L) ∧
    ∀ i, i < k → S (i + 1) = (step i).app ((ops[i]?).bind (·.dst)) (S i) ∧ (step i).L.ws = (ops[i]?).bind (·.dst) ∧ StepOK P E ops Q i (step i) (S i) ∧ (step i).wf (S i) = true

theorem Told.step {ops : Array Oper} {Q : Exit → Act → World → Prop} {st0 : St} {k : Nat} (h : Told P E ops Q st0 k st log) {o : Oper} (ho : ops[k]? = some o) (s : Stp) (hws : s.L.ws = o.dst) (hok : StepOK P E ops Q k s st) (hwf : s.wf st = true) :
    Told P E ops Q st0 (k + 1) (s.app o.dst st) (s.L :: log) := by
  obtain ⟨step, S, h0, h1, h2, h3⟩ := h
  refine ⟨fun i => if i = k then s else step i, fun i => if i = k + 1 then s.app o.dst st else S i, by simp [h0], by simp, ?_, fun i hi => ?_⟩
  · rw [List.reverse_cons, h2, List.range_succ, List.map_append]
    congr 1
    · refine List.map_congr_left fun i hi => ?_
      have : i ≠ k := by simp at hi; omega
      simp [this]
    · simp
  · by_cases e : i = k
    · subst e
      simp only [if_true, if_neg (show ¬ i = i + 1 by omega), ho, Option.bind_some, h1]
      exact ⟨trivial, hws, hok, hwf⟩
    · have h4 := h3 i (by omega)
      simp only [if_neg e, if_neg (show ¬ i = k + 1 by omega), if_neg (show ¬ i + 1 = k + 1 by omega)]
      exact h4

theorem stepOK_plain (hG : G.OK P) {ops : Array Oper} {Q : Exit → Act → World → Prop} (hd2 : ∀ o ∈ ops.toList, ∀ t, o.dst = some t → t < E.N) {k : Nat} {o : Oper} (ho : ops[k]? = some o) {g : Bool} {p : Prop} {v : AV} {u : List (Nat × Ob)} {n : List Ob} {rs ro ts wo : List Nat} {fr : Bool}
    (e : (opQ G g o).evalR true st = .ok p v u n rs ro fr) (hp : p) (hg : ∀ st' a w hs, Rel E st' a w hs → (∀ t ∈ ts, look t st'.env = look t st.env) → Region.wanted o (yielded ops a.tmps) = true) :
    StepOK P E ops Q k ⟨⟨ts ++ rs, ro, o.dst, wo, fr⟩, v, u, n⟩ st := by
  intro d hd hws st' a w hs hr hag K hK
  rw [ho] at hd
  simp only [Option.bind_some] at hd
  subst hd
  have hdo : ∀ t, o.dst = some t → t < E.N := hd2 o (by
    have : ops.toList[k]? = some o := by simpa using ho
    exact List.mem_of_getElem? this)
  unfold wpOp
  simp only [ho]
  rw [if_pos (hg st' a w hs hr fun t ht => hag.1 t (by simp [ht]))]
  have hruns : (opQ G g o).Runs (fun _ _ _ => False) st' v u n := evalR_runs rfl e hp ⟨fun t ht => hag.1 t (by simp [ht]), hag.2⟩
  exact .inl (opQ_sound hG hr hdo hruns K Q hK)

theorem evalD_told (hG : G.OK P) {ops : Array Oper} {Q : Exit → Act → World → Prop} {st0 : St} (hd2 : ∀ o ∈ ops.toList, ∀ t, o.dst = some t → t < E.N) :
    ∀ {os : List Oper} {k : Nat} {st : St} {log : List LE}, k ≤ ops.size → ops.toList.drop k = os → Told P E ops Q st0 k st log → evalD G own ops.toList K os k st log →
      ∃ st' log', Told P E ops Q st0 ops.size st' log' ∧ ordOK ops.toList log' = true ∧ K st'
  | [], k, st, log, hk, hdrop, ht, he => by
    unfold evalD at he
    have hk2 : ops.size ≤ k := by
      have := congrArg List.length hdrop
      simp at this
      omega
    have e : k = ops.size := by omega
    subst e
    exact ⟨st, log, ht, he.1, he.2⟩
  | o :: os, k, st, log, hk, hdrop, ht, he => by
    have hkl : k < ops.size := by
      rcases Nat.lt_or_ge k ops.size with h | h
      · exact h
      · have : ops.toList.drop k = [] := List.drop_eq_nil_of_le (by simpa using h)
        rw [this] at hdrop; cases hdrop
    have ho' : ops.toList[k]? = some o := by
      have := congrArg (fun l => l[0]?) hdrop
      simpa using this
    have ho : ops[k]? = some o := by simpa using ho'
    have hdrop' : ops.toList.drop (k + 1) = os := by
      have := congrArg (fun l => l.drop 1) hdrop
      simpa [List.drop_drop] using this
    have go : ∀ (s : Stp), s.L.ws = o.dst → StepOK P E ops Q k s st → s.wf st = true → evalD G own ops.toList K os (k + 1) (s.app o.dst st) (s.L :: log) → ∃ st' log', Told P E ops Q st0 ops.size st' log' ∧ ordOK ops.toList log' = true ∧ K st' :=
      fun s h1 h2 h3 h4 => evalD_told hG hd2 hkl hdrop' (ht.step ho s h1 h2 h3) h4
    have hput : ∀ v, (⟨⟨[], [], none, [], false⟩, v, [], []⟩ : Stp).app o.dst st = st.put o.dst v := fun v => St.upd_nil st o.dst v
    unfold evalD at he
    split at he
    · rename_i hg
      split at he
      · exact he.elim
      · rename_i p v u n rs ro fr e
        obtain ⟨hp, hwf, hrest⟩ := he
        exact go ⟨⟨[] ++ rs, ro, o.dst, wrs st u n, fr⟩, v, u, n⟩ rfl (stepOK_plain hG hd2 ho e hp fun st' a w hs _ _ => by simp [Region.wanted, hg]) hwf hrest
    · rename_i j want hg
      split at he
      · rename_i t c et ec
        have hw : ∀ st' a w hs, Rel E st' a w hs → (∀ t' ∈ [t], look t' st'.env = look t' st.env) → Region.wanted o (yielded ops a.tmps) = c := fun st' a w hs hr hl =>
          wanted_of hr hg ((gcond_agree et (hl t (by simp))).trans ec) hd2
        have hdo : ∀ t, o.dst = some t → t < E.N := hd2 o (List.mem_of_getElem? ho')
        have skip : c = false → ∀ (L : LE) (v : AV), L.ws = o.dst → t ∈ L.rs → (∀ C : Cx, v.VR C undef) → StepOK P E ops Q k ⟨L, v, [], []⟩ st := by
          intro hc L v hL hm hv d hd hws st' a w hs hr hag K' hK'
          rw [ho] at hd
          simp only [Option.bind_some] at hd
          subst hd
          unfold wpOp
          simp only [ho]
          rw [hw st' a w hs hr (fun t' ht' => by have : t' = t := by simpa using ht'
                                                 subst this; exact hag.1 t' hm), hc]
          simp only [Bool.false_eq_true, if_false]
          refine hK' _ _ hs ?_
          show Rel E (st'.upd o.dst v [] []) _ _ _
          rw [St.upd_nil]
          exact hr.put (hv _) o.dst hdo
        split at he
        · cases c with
          | true =>
            dsimp only at he
            split at he
            · exact he.elim
            · rename_i p v u n rs ro fr e
              obtain ⟨hp, hwf, hrest⟩ := he
              exact go ⟨⟨[t] ++ rs, ro, o.dst, wrs st u n, fr⟩, v, u, n⟩ rfl (stepOK_plain hG hd2 ho e hp hw) hwf hrest
          | false =>
            dsimp only at he
            obtain ⟨av, he⟩ := he
            refine go ⟨⟨[t], [], o.dst, [], false⟩, .when false av, [], []⟩ rfl (skip rfl _ _ rfl (by simp) fun C => by unfold AV.VR; exact ⟨by simp, fun _ => rfl⟩) (wf_empty st rfl) ?_
            show evalD G own ops.toList K os (k + 1) (st.upd o.dst _ [] []) _
            rw [St.upd_nil]
            exact he
        · split at he
          · exact he.elim
          · rename_i p v u n rs ro fr e
            obtain ⟨hp, rfl, rfl, hrest⟩ := he
            refine go ⟨⟨t :: rs, ro, o.dst, [], fr⟩, .when c v, [], []⟩ rfl ?_ (wf_empty st rfl) ?_
            · cases c with
              | false => exact skip rfl _ _ rfl (by simp) fun C => by unfold AV.VR; exact ⟨by simp, fun _ => rfl⟩
              | true =>
                intro d hd hws st' a w hs hr hag K' hK'
                rw [ho] at hd
                simp only [Option.bind_some] at hd
                subst hd
                unfold wpOp
                simp only [ho]
                rw [if_pos (hw st' a w hs hr (fun t' ht' => by have : t' = t := by simpa using ht'
                                                               subst this; exact hag.1 t' (by simp)))]
                have hruns : (opQ G true o).Runs (fun _ _ _ => False) st' v [] [] := evalR_runs rfl e (hp rfl) ⟨fun t ht => hag.1 t (by simp [ht]), hag.2⟩
                refine .inl (opQ_sound hG hr hdo hruns K' Q fun a' w' hs' hrel => hK' _ _ hs' ?_)
                rw [St.upd_nil] at hrel
                show Rel E (st'.upd o.dst _ [] []) _ _ _
                rw [St.upd_nil]
                exact hrel.when
            · show evalD G own ops.toList K os (k + 1) (st.upd o.dst _ [] []) _
              rw [St.upd_nil]
              exact hrest
      · exact he.elim

theorem val_ext {st st' : St} (h : ∀ x, st.val x = st'.val x) : (∀ t, look t st.env = look t st'.env) ∧ st.obs = st'.obs := by
  refine ⟨fun t => by simpa [St.val] using h (.slot t), ?_⟩
  have hl : st.obs.length = st'.obs.length := by simpa [St.val] using h .len
  refine List.ext_getElem hl fun m h1 h2 => ?_
  have := h (.obj m)
  simp only [St.val, Val.o.injEq] at this
  simpa [List.getD_eq_getElem?_getD, h1, h2] using this

theorem draw_any {Q : Exit → St → Prop} (hG : G.OK P) (own : List Nat) {ops : List Oper} (hd : dstOK E.N ops = true)
    (h : ∀ K : St → Prop, (∀ st, Q .normal st → K st) → evalD G own ops K ops 0 st []) (hr : Rel E st a w hs) :
    wpAny P .any ops.toArray (Lift E Q) ops.toArray.size (Array.replicate ops.toArray.size false) a { w with drawn := w.drawn + 1 } := by
  have hd2 : ∀ o ∈ ops.toArray.toList, ∀ t, o.dst = some t → t < E.N := by simpa using dstOK_spec hd
  obtain ⟨st', log', ⟨step, S, h0, h1, h2, h3⟩, hord, hK⟩ := evalD_told (Q := Lift E Q) (own := own) (ops := ops.toArray) (K := Q .normal) (st0 := st) hG hd2 (os := ops) (k := 0) (st := st) (log := []) (Nat.zero_le _) (by simp)
    ⟨fun _ => ⟨⟨[], [], none, [], false⟩, .junk, [], []⟩, fun _ => st, rfl, rfl, by simp, fun i hi => absurd hi (Nat.not_lt_zero _)⟩ (by simpa using h _ fun _ h => h)
  unfold ordOK at hord
  simp only [Bool.and_eq_true] at hord
  obtain ⟨hb, hp⟩ := hord
  have hsz : ops.toArray.size = ops.length := by simp
  have hlen : log'.reverse = (List.range ops.length).map (fun i => (step i).L) := by rw [← hsz]; exact h2
  refine any_sound (Q := Lift E Q) (step := step) (S := S) (fun i hi => (h3 i hi).1) (fun i hi => (h3 i hi).2.1) (fun i hi => (h3 i hi).2.2.1) (fun i hi => (h3 i hi).2.2.2) ?_ ?_ ?_ _ _ st a _ hs (by simp) ?_ ?_ ?_ ?_
  · intro i o ho e he hbd
    have ho' : ops[i]? = some o := by simpa using ho
    have hmem : (o, i) ∈ ops.zipIdx := by
      rw [List.mem_zipIdx_iff_getElem?]
      exact ho'
    have h4 := List.all_eq_true.1 hb (o, i) (by simpa using hmem)
    have h5 := List.all_eq_true.1 h4 e (by simpa using he)
    simpa [hbd] using h5
  · intro i j hij hj hc
    have hj' : j < ops.length := by simpa using hj
    have h4 := List.all_eq_true.1 hp j (by simpa using hj')
    have h5 := List.all_eq_true.1 h4 i (by simpa using hij)
    have e1 : log'.reverse.getD i ⟨[], [], none, [], false⟩ = (step i).L := by
      rw [hlen, List.getD_eq_getElem?_getD, List.getElem?_map, List.getElem?_range (by omega)]; rfl
    have e2 : log'.reverse.getD j ⟨[], [], none, [], false⟩ = (step j).L := by
      rw [hlen, List.getD_eq_getElem?_getD, List.getElem?_map, List.getElem?_range hj']; rfl
    rw [e1, e2, hc] at h5
    simpa using h5
  · intro st2 a2 w2 hs2 hr2 hx
    rw [h1] at hx
    obtain ⟨g1, g2⟩ := val_ext hx
    refine ⟨st', hs2, ⟨?_, hr2.df, hr2.size, fun t => ?_⟩, hK⟩
    · have := hr2.wok
      have e : st2.cx E w2 hs2 = st'.cx E w2 hs2 := by simp [St.cx, g2]
      rw [← e]; exact this
    · have := hr2.env t
      have e : st2.cx E w2 hs2 = st'.cx E w2 hs2 := by simp [St.cx, g2]
      rw [← e, ← g1]; exact this
  · have : ((List.replicate ops.length false).filter fun b => !b) = List.replicate ops.length false := by
      rw [List.filter_eq_self]; intro b hb; rw [(List.mem_replicate.1 hb).2]; rfl
    simp [this]
  · intro j o ho hl e he hbd
    exfalso
    have : (Array.replicate ops.toArray.size false).getD j false = false := by
      rw [Array.getD_eq_getD_getElem?, Array.getElem?_replicate]
      split <;> rfl
    have hl : (Array.replicate ops.toArray.size false).getD j false = true := hl
    rw [this] at hl
    cases hl
  · have hb2 : Below w.heap.size w { w with drawn := w.drawn + 1 } := ⟨rfl, rfl, rfl, Nat.le_refl _, fun _ _ => rfl⟩
    exact hr.le (Cx.Le.grow (C := st.cx E w hs) hb2) (hr.wok.grow hb2)
  · intro x
    have : ∀ k, seen step S (fun i => (Array.replicate ops.toArray.size false).getD i false) x k = (S 0).val x := by
      intro k
      induction k with
      | zero => rfl
      | succ k ih =>
        rw [seen, if_neg, ih]
        rintro ⟨hl, _⟩
        have : (Array.replicate ops.toArray.size false).getD k false = false := by
          rw [Array.getD_eq_getD_getElem?, Array.getElem?_replicate]
          split <;> rfl
        have hl : (Array.replicate ops.toArray.size false).getD k false = true := hl
        rw [this] at hl
        cases hl
    rw [this, h0]
end

theorem AWP.draw {P : Program} {G : Cfg} {E : En} {st : St} {Q : Exit → St → Prop} (hG : G.OK P) (own : List Nat) (hm : P.follows .mixedOrders = true) {id : Nat} {ops : List Oper} (hd : dstOK E.N ops = true)
    (h : ∀ K : St → Prop, (∀ st, Q .normal st → K st) → evalD G own ops K ops 0 st []) : AWP P E (.region id ops.toArray true) Q st := fun a w hs hr =>
  wp_region_any hm (draw_any hG own hd h hr)

end Go.AM

/- AM, part 17: objects that go; nil taken for an own row. -/
namespace Go.AM
open Go Go.RowKit

def Cx.take (C : Cx) (k : Nat) : Cx := { C with obs := C.obs.take k, hs := C.hs.take k }

theorem Cx.take_alive {C : Cx} {k n : Nat} (h : (C.take k).alive n) : n < k ∧ C.alive n := by
  obtain ⟨o, ho⟩ := h
  have : (C.obs.take k)[n]? = some (some o) := ho
  rw [List.getElem?_take] at this
  split at this
  · rename_i hlt; exact ⟨hlt, o, this⟩
  · cases this

theorem Cx.take_hs {C : Cx} {k n : Nat} {h : Hd} (e : (C.take k).hs[n]? = some h) : n < k ∧ C.hs[n]? = some h := by
  have : (C.hs.take k)[n]? = some h := e
  rw [List.getElem?_take] at this
  split at this
  · rename_i hlt; exact ⟨hlt, this⟩
  · cases this

theorem Cx.Sh.take {C : Cx} {k : Nat} {fr : Bool} {b : Nat} (h : C.Sh fr b) : (C.take k).Sh fr b :=
  ⟨h.1, fun n j ha hj => h.2.1 n j (Cx.take_alive ha).2 (Cx.take_hs hj).2, h.2.2⟩

mutual
theorem AV.VR.take {C : Cx} {k : Nat} (hk : k ≤ C.obs.length) : ∀ (a : AV) (v : Value), a.lt k = true → a.VR C v → a.VR (C.take k) v
  | .junk, _, _, _ => by unfold AV.VR; trivial
  | .d fr x, v, _, hv => by unfold AV.VR at hv ⊢; exact hv.stable fun b hb => ⟨hb.take, rfl⟩
  | .own n γ, v, hl, hv => by
    have hl : n < k := by simpa [AV.lt] using hl
    unfold AV.VR at hv ⊢
    refine ⟨by simp [Cx.take]; omega, fun E sz γ0 fr xs e => ?_⟩
    have e' : (C.obs.take k)[n]? = some (some (.row E sz γ0 fr xs)) := e
    rw [List.getElem?_take, if_pos hl] at e'
    obtain ⟨h1, h2⟩ := hv.2 _ _ _ _ _ e'
    refine ⟨h1, fun e5 => ?_⟩
    show (C.hs.take k)[n]? = _
    rw [List.getElem?_take, if_pos hl]
    exact h2 e5
  | .ptr n off, v, hl, hv => by
    have hl : n < k := by simpa [AV.lt] using hl
    unfold AV.VR at hv ⊢
    refine ⟨by simp [Cx.take]; omega, fun o e => ?_⟩
    have e' : (C.obs.take k)[n]? = some (some o) := e
    rw [List.getElem?_take, if_pos hl] at e'
    obtain ⟨b, h1, h2⟩ := hv.2 o e'
    refine ⟨b, ?_, h2⟩
    show (C.hs.take k)[n]? = _ ∨ ∃ u, (C.hs.take k)[n]? = _
    rw [List.getElem?_take, if_pos hl]
    exact h1
  | .elt n γ sz i off, v, hl, hv => by
    have hl : n < k := by simpa [AV.lt] using hl
    unfold AV.VR at hv ⊢
    refine ⟨by simp [Cx.take]; omega, fun E sz γ0 fr xs e => ?_⟩
    have e' : (C.obs.take k)[n]? = some (some (.row E sz γ0 fr xs)) := e
    rw [List.getElem?_take, if_pos hl] at e'
    obtain ⟨h1, h2⟩ := hv.2 _ _ _ _ _ e'
    refine ⟨h1, fun e5 => ?_⟩
    obtain ⟨b, len, cap, h3, h4⟩ := h2 e5
    refine ⟨b, len, cap, ?_, h4⟩
    show (C.hs.take k)[n]? = _
    rw [List.getElem?_take, if_pos hl]
    exact h3
  | .sel fr cs, v, _, hv => by
    unfold AV.VR at hv ⊢
    obtain ⟨b, o, vs, h1, h2, h3, h4⟩ := hv
    exact ⟨b, o, vs, h1, h2.take, h3.stable fun b hb => ⟨hb.take, rfl⟩, h4⟩
  | .agg fs, v, hl, hv => by
    have hl : AV.ltL k fs = true := by simpa [AV.lt] using hl
    unfold AV.VR at hv ⊢
    obtain ⟨cs, h1, h2, h3⟩ := hv
    exact ⟨cs, h1, AV.VL.take hk _ _ hl h2, h3⟩
  | .tup fs, v, hl, hv => by
    have hl : AV.ltL k fs = true := by simpa [AV.lt] using hl
    unfold AV.VR at hv ⊢
    obtain ⟨cs, h1, h2⟩ := hv
    exact ⟨cs, h1, AV.VL.take hk _ _ hl h2⟩
  | .fn f fs, v, hl, hv => by
    have hl : AV.ltL k fs = true := by simpa [AV.lt] using hl
    unfold AV.VR at hv ⊢
    obtain ⟨cs, h1, h2⟩ := hv
    exact ⟨cs, h1, AV.VL.take hk _ _ hl h2⟩
  | .when c a, v, hl, hv => by
    have hl : a.lt k = true := by simpa [AV.lt] using hl
    unfold AV.VR at hv ⊢
    exact ⟨fun hc => AV.VR.take hk a v hl (hv.1 hc), hv.2⟩
  | .cut n γ sz i, v, hl, hv => by
    have hl : n < k := by simpa [AV.lt] using hl
    unfold AV.VR at hv ⊢
    refine ⟨by simp [Cx.take]; omega, fun E sz γ0 fr xs e => ?_⟩
    have e' : (C.obs.take k)[n]? = some (some (.row E sz γ0 fr xs)) := e
    rw [List.getElem?_take, if_pos hl] at e'
    obtain ⟨h1, h2⟩ := hv.2 _ _ _ _ _ e'
    refine ⟨h1, fun e5 => ?_⟩
    obtain ⟨b, len, cap, h3, h4⟩ := h2 e5
    refine ⟨b, len, cap, ?_, h4⟩
    show (C.hs.take k)[n]? = _
    rw [List.getElem?_take, if_pos hl]
    exact h3
  | .mpv n, v, hl, hv => by
    have hl : n < k := by simpa [AV.lt] using hl
    unfold AV.VR at hv ⊢
    refine ⟨by simp [Cx.take]; omega, fun o e => ?_⟩
    have e' : (C.obs.take k)[n]? = some (some o) := e
    rw [List.getElem?_take, if_pos hl] at e'
    obtain ⟨b, h1, h2⟩ := hv.2 o e'
    refine ⟨b, ?_, h2⟩
    show (C.hs.take k)[n]? = _ ∨ ∃ u, (C.hs.take k)[n]? = _
    rw [List.getElem?_take, if_pos hl]
    exact h1
theorem AV.VL.take {C : Cx} {k : Nat} (hk : k ≤ C.obs.length) : ∀ (as : List AV) (vs : List Value), AV.ltL k as = true → AV.VL C as vs → AV.VL (C.take k) as vs
  | [], vs, _, hv => by unfold AV.VL at hv ⊢; exact hv
  | a :: as, vs, hl, hv => by
    have hl : a.lt k = true ∧ AV.ltL k as = true := by simpa [AV.ltL] using hl
    unfold AV.VL at hv ⊢
    obtain ⟨v, rest, h1, h2, h3⟩ := hv
    exact ⟨v, rest, h1, AV.VR.take hk a v hl.1 h2, AV.VL.take hk as rest hl.2 h3⟩
end

def Ob.lt (k : Nat) : Ob → Bool
  | .cells _ cs => AV.ltL k cs
  | _ => true

def St.ltOK (k : Nat) (st : St) : Bool := decide (k ≤ st.obs.length) && st.env.all (fun p => p.2.lt k) && (st.obs.take k).all (fun o => match o with | some o => o.lt k | none => true)
def St.trunc (k : Nat) (st : St) : St := ⟨st.env, st.obs.take k⟩

theorem look_lt {k : Nat} : ∀ {env : List (Nat × AV)} (h : env.all (fun p => p.2.lt k) = true) (t : Nat), (look t env).lt k = true
  | [], _, t => rfl
  | (q, v) :: e, h, t => by
    simp only [List.all_cons, Bool.and_eq_true] at h
    simp only [look]
    split
    · exact h.1
    · exact look_lt h.2 t

theorem OR.take {C : Cx} {k : Nat} (hk : k ≤ C.obs.length) {o : Ob} {h : Hd} (hl : o.lt k = true) (ho : o.OR C h) : o.OR (C.take k) h := by
  cases o with
  | row E sz γ fr xs =>
    cases h with
    | row v =>
      obtain ⟨h0, h1, fl, h2, h3⟩ := ho
      exact ⟨h0, h1, fl, h2.stable fun b hb => ⟨hb.take, rfl⟩, h3⟩
    | _ => exact ho.elim
  | cells E cs =>
    cases h with
    | ptr b =>
      obtain ⟨vs, h1, h2, h3⟩ := ho
      exact ⟨vs, h1, AV.VL.take hk _ _ hl h2, h3⟩
    | _ => exact ho.elim
  | buf E Er szr xs =>
    cases h with
    | buf b v =>
      obtain ⟨h1, h2, h3, fl, h4, h5⟩ := ho
      exact ⟨h1, h2, h3, fl, h4.stable fun b hb => ⟨hb.take, rfl⟩, h5⟩
    | _ => exact ho.elim
  | mp ks kv es =>
    cases h with
    | ptr b => exact ho
    | _ => exact ho.elim

theorem Rel.trunc {E : En} {st : St} {a : Act} {w : World} {hs : List Hd} (h : Rel E st a w hs) {k : Nat} (hp : E.ps.length ≤ k) (hl : st.ltOK k = true) : Rel E (st.trunc k) a w (hs.take k) := by
  unfold St.ltOK at hl
  simp only [Bool.and_eq_true, decide_eq_true_eq] at hl
  obtain ⟨⟨hk, hl1⟩, hl2⟩ := hl
  have hlen : st.obs.length = hs.length := h.wok.len
  refine ⟨?_, h.df, h.size, fun t => AV.VR.take (C := st.cx E w hs) hk _ _ (look_lt hl1 t) (h.env t)⟩
  have hw := h.wok
  exact {
    b0 := rfl
    os := hw.os
    tape := hw.tape
    output := hw.output
    size := hw.size
    len := by simp [St.cx, St.trunc, hlen]
    frame := hw.frame
    objs := fun n o j ho hj => by
      obtain ⟨hn, hj'⟩ := Cx.take_hs (C := st.cx E w hs) hj
      have ho' : (st.obs.take k)[n]? = some (some o) := ho
      have ho2 := ho'
      rw [List.getElem?_take, if_pos hn] at ho'
      have hol : o.lt k = true := by
        have := List.all_eq_true.1 hl2 (some o) (List.mem_of_getElem? ho2)
        exact this
      exact OR.take (C := st.cx E w hs) hk hol (hw.objs n o j ho' hj')
    dist := fun n m i j hnm hn hm hi hj => hw.dist n m i j hnm (Cx.take_alive (C := st.cx E w hs) hn).2 (Cx.take_alive (C := st.cx E w hs) hm).2 (Cx.take_hs (C := st.cx E w hs) hi).2 (Cx.take_hs (C := st.cx E w hs) hj).2
    new := fun n j hn hj => hw.new n j (Cx.take_alive (C := st.cx E w hs) hn).2 (Cx.take_hs (C := st.cx E w hs) hj).2
    plen := by
      have h1 : E.ps.length ≤ hs.length := hw.plen
      show E.ps.length ≤ (hs.take k).length
      simp only [List.length_take]
      omega
    parP := fun i b e => by
      have hi : i < E.ps.length := (List.getElem?_eq_some_iff.1 e).1
      show (hs.take k)[i]? = _
      rw [List.getElem?_take, if_pos (by omega)]
      exact hw.parP i b e
    parB := fun i b u e => by
      have hi : i < E.ps.length := (List.getElem?_eq_some_iff.1 e).1
      obtain ⟨u', h1⟩ := hw.parB i b u e
      refine ⟨u', ?_⟩
      show (hs.take k)[i]? = _
      rw [List.getElem?_take, if_pos (by omega)]
      exact h1
    parR := fun i v E' sz fr xs e e2 => by
      have hi : i < E.ps.length := (List.getElem?_eq_some_iff.1 e).1
      have e3 : (st.obs.take k)[i]? = some (some (.row E' sz 0 fr xs)) := e2
      rw [List.getElem?_take, if_pos (by omega)] at e3
      show (hs.take k)[i]? = _
      rw [List.getElem?_take, if_pos (by omega)]
      exact hw.parR i v E' sz fr xs e e3 }

theorem AWP.trunc {P : Program} {E : En} {Q : Exit → St → Prop} {st : St} {c : Code} (k : Nat) (hp : E.ps.length ≤ k) (hl : st.ltOK k = true) (h : AWP P E c Q (st.trunc k)) : AWP P E c Q st :=
  fun a w hs hr => h a w _ (hr.trunc hp hl)

/-- nil as an own row. -/
def St.adopt (t e sz : Nat) (st : St) : St := ⟨(t, .own st.obs.length 0) :: st.env, st.obs ++ [some (.row e sz 0 true [])]⟩

theorem Rel.adopt {E : En} {st : St} {a : Act} {w : World} {hs : List Hd} (h : Rel E st a w hs) (t e sz : Nat) {fr : Bool} (hz : 0 < sz) (hl : look t st.env = .d fr (.v (.slice none 0 0))) : Rel E (st.adopt t e sz) a w (hs ++ [.row (.slice none 0 0)]) := by
  have hv : a.tmps.getD t undef = .slice none 0 0 := by
    have := h.env t
    rw [hl] at this
    exact vr_int this
  have hlen : st.obs.length = hs.length := h.wok.len
  have hor : (Ob.row e sz 0 true []).OR ((st.cx E w hs).add w (.row e sz 0 true []) (.row (.slice none 0 0))) (.row (.slice none 0 0)) :=
    ⟨hz, by simp, [], by unfold Dat.RL; rfl, by simp, .inl ⟨rfl, rfl⟩⟩
  have hb : Below w.heap.size w w := Below.refl _ _
  have le := Cx.Le.add (C := st.cx E w hs) (o := .row e sz 0 true []) (h := .row (.slice none 0 0)) hlen hb (by simp [Hd.blks, Value.ownBlock])
  have wok := h.wok.add hb (k := .row (.slice none 0 0)) (by simp [Hd.blks, Value.ownBlock]) hor
  have hr : Rel E ⟨st.env, st.obs ++ [some (.row e sz 0 true [])]⟩ a w (hs ++ [.row (.slice none 0 0)]) := h.le le wok
  refine ⟨hr.wok, hr.df, hr.size, fun q => ?_⟩
  simp only [St.adopt, look]
  split
  · rename_i eq
    subst eq
    rw [hv]
    unfold AV.VR
    refine ⟨by simp [St.cx], fun E' sz' γ0 fr' xs eo => ?_⟩
    have eo' : (Ob.row e sz 0 true []) = .row E' sz' γ0 fr' xs := by simpa [St.cx] using eo
    simp only [Ob.row.injEq] at eo'
    obtain ⟨_, _, rfl, _⟩ := eo'
    refine ⟨Nat.le_refl _, fun _ => ?_⟩
    simp [St.cx, hlen]
  · exact hr.env q

theorem AWP.adopt {P : Program} {E : En} {Q : Exit → St → Prop} {st : St} {c : Code} (t e sz : Nat) {fr : Bool} (hz : 0 < sz) (hl : look t st.env = .d fr (.v (.slice none 0 0))) (h : AWP P E c Q (st.adopt t e sz)) : AWP P E c Q st :=
  fun a w hs hr => h a w _ (hr.adopt t e sz hz hl)

end Go.AM

/- AM, part 18: rules for evaluation by simp. -/
namespace Go.AM
open Go Go.RowKit

section
variable {P : Program} {G : Cfg} {E : En} {st : St} {a : Act} {w : World} {hs : List Hd} {all os : List Oper} {K : St → Prop} {own : List Nat} {i : Nat} {Q : Exit → St → Prop}
  {d : Option Nat} {p q : Prop} {v : AV} {u : List (Nat × Ob)} {n : List Ob} {c : Bool} {o : Oper} {rr oo ts : List Nat} {fr : Bool} {log : List LE} {t : Nat}

theorem AWP.rs (hG : G.OK P) (own ks : List Nat) {id : Nat} {ops : List Oper} {y : Code} (hd : dstOK E.N ops = true)
    (h : ∀ K : St → Prop, (∀ st, AWP P E y Q (st.keep ks) → K st) → evalL G own ops K ops 0 st) : AWP P E (.seq (.region id ops.toArray false) y) Q st :=
  AWP.seq (AWP.region hG own hd fun K hK => h K fun st hst => hK st (AWP.keep ks hst))
theorem AWP.rd (hG : G.OK P) (own ks : List Nat) (hm : P.follows .mixedOrders = true) {id : Nat} {ops : List Oper} {y : Code} (hd : dstOK E.N ops = true)
    (h : ∀ K : St → Prop, (∀ st, AWP P E y Q (st.keep ks) → K st) → evalD G own ops K ops 0 st []) : AWP P E (.seq (.region id ops.toArray true) y) Q st :=
  AWP.seq (AWP.draw hG own hm hd fun K hK => h K fun st hst => hK st (AWP.keep ks hst))
theorem AWP.nest {x y z : Code} (h : AWP P E (.seq x y) (thenS (AWP P E z Q) Q) st) : AWP P E (.seq (.seq x y) z) Q st := AWP.seq h
/-- A region at a body's end. -/
theorem AWP.rn (hG : G.OK P) (own ks : List Nat) {id : Nat} {ops : List Oper} (hd : dstOK E.N ops = true)
    (h : ∀ K : St → Prop, (∀ st, Q .normal (st.keep ks) → K st) → evalL G own ops K ops 0 st) : AWP P E (.region id ops.toArray false) Q st := fun a w hs hr => by
  have h1 := AWP.region hG own hd (Q := fun e st => match e with | .normal => Q .normal (st.keep ks) | e => Q e st) (id := id) (fun K hK => h K fun st hst => hK st hst) a w hs hr
  refine Code.wp_mono (fun e a w ⟨st, hs, hr, hq⟩ => ?_) h1
  cases e with
  | normal => exact ⟨_, hs, hr.weak (Weak.keep ks st), hq⟩
  | _ => exact ⟨st, hs, hr, hq⟩

/-- A slice is not longer than memory. -/
theorem AWP.len {c : Code} {fr : Bool} {sz : Nat} {xs : List Dat} (t : Nat) (hl : look t st.env = .d fr (.sl sz xs)) (h : xs.length ≤ 9223372036854775807 → AWP P E c Q st) : AWP P E c Q st := fun a w hs hr => by
  have hv := hr.env t
  rw [hl] at hv
  unfold AV.VR at hv
  obtain ⟨A, cc, _, h1, h2, _⟩ := hv.slice
  exact h (by simp only [maxLen] at h2; omega) a w hs hr
theorem AWP.lenO {c : Code} {fr : Bool} {e sz γ : Nat} {xs : List Dat} (m : Nat) (hl : st.obs[m]? = some (some (.row e sz γ fr xs))) (h : xs.length ≤ 9223372036854775807 → AWP P E c Q st) : AWP P E c Q st := fun a w hs hr => by
  obtain ⟨hd, _, h3⟩ := hr.obj hl
  obtain ⟨vv, rfl, _, hz, fl, hfl, h4⟩ := OR.row_val h3
  obtain ⟨A, cc, _, h1, h2, _⟩ := owns_slice h4
  exact h (by simp only [maxLen] at h2; omega) a w hs hr

/-- A row's name, lifted. -/
theorem AWP.bump {c : Code} (t : Nat) {m γ e sz : Nat} {fr : Bool} {xs : List Dat} (k : Nat) (hl : look t st.env = .own m γ) (ho : st.obs[m]? = some (some (.row e sz γ fr xs)))
    (h : AWP P E c Q ⟨(t, .own m (γ + k)) :: st.env, st.obs.set m (some (.row e sz (γ + k) fr xs))⟩) : AWP P E c Q st := fun a w hs hr => by
  obtain ⟨hd, e3, h3⟩ := hr.obj ho
  have hv := hr.env t
  rw [hl] at hv
  unfold AV.VR at hv
  have hk := (hv.2 _ _ _ _ _ ho).2 rfl
  have hk : hs[m]? = some (.row (a.tmps.getD t undef)) := hk
  rw [hk] at e3
  cases e3
  have hw : Wrote w w (Hd.row (a.tmps.getD t undef)).blks := ⟨rfl, rfl, rfl, Nat.le_refl _, fun _ _ _ => rfl⟩
  have hf : (Ob.row e sz γ fr xs).follows (.row (a.tmps.getD t undef)) (.row e sz (γ + k) fr xs) (.row (a.tmps.getD t undef)) :=
    ⟨fun E2 sz2 γ2 fr2 xs2 e => by
      simp only [Ob.row.injEq] at e
      obtain ⟨_, _, rfl, _, _⟩ := e
      exact ⟨_, _, γ, _, _, rfl, Nat.le_add_right _ _, fun _ => rfl⟩, fun b e => by simp at e, fun b q e => by simp at e⟩
  have le := Cx.Le.setO (C := st.cx E w hs) (o' := .row e sz (γ + k) fr xs) hr.wok.len ho hk hw (fun b hb => .inl hb) hf
  have wok := hr.wok.setO ho hk hw (fun b hb => .inl hb) hf (o' := .row e sz (γ + k) fr xs) (by
    obtain ⟨h0, h1, fl, h2, h4⟩ := h3
    exact ⟨h0, h1, fl, Dat.RL.stable (le.sh fr) _ _ h2, h4⟩)
  have hr2 : Rel E ⟨st.env, st.obs.set m (some (.row e sz (γ + k) fr xs))⟩ a w (hs.set m (.row (a.tmps.getD t undef))) := hr.le le wok
  refine h a w _ ⟨hr2.wok, hr2.df, hr2.size, fun q => ?_⟩
  simp only [look]
  split
  · rename_i eq
    subst eq
    have hlt : m < hs.length := (List.getElem?_eq_some_iff.1 hk).1
    have hlt' : m < st.obs.length := (List.getElem?_eq_some_iff.1 ho).1
    unfold AV.VR
    refine ⟨by simpa [St.cx] using hlt', fun E2 sz2 γ0 fr2 xs2 he => ?_⟩
    have : γ0 = γ + k := by
      simp [St.cx, List.getElem?_set, hlt'] at he
      exact he.2.2.1.symm
    subst this
    exact ⟨Nat.le_refl _, fun _ => by simp [St.cx, List.getElem?_set, hlt]⟩
  · exact hr2.env q

/-- A slice held against nil. -/
theorem AWP.nilcmp {T : Nat → TI} (hT : TabOK P T) {id : Nat} {y : Code} {t0 t1 t2 ty e : Nat} {ty1 ty2 ty3 : TypeId} {p1 p2 : String} {a1 a2 : Array Edge} {fr : Bool} {sz : Nat} {xs : List Dat}
    (hl : look t0 st.env = .d fr (.sl sz xs)) (hty : (T ty).desc = .slice e) (h1 : t1 < E.N) (h2 : t2 < E.N)
    (h : ∀ b : Bool, (b = true → xs = []) → AWP P E y Q ⟨(t2, .d true (.v (.bool b))) :: (t1, .d fr (.sl sz xs)) :: st.env, st.obs⟩) :
    AWP P E (.seq (.region id [⟨some t1, .move (.tmp t0), ty1, p1, a1, none⟩, ⟨some t2, .binOp .eql ty (.tmp t1) (.const (.slice none 0 0)) ty3, ty2, p2, a2, none⟩].toArray false) y) Q st := fun a w hs hr => by
  refine wp_seq (wp_region_list ?_)
  obtain ⟨gty, _⟩ := hT ty (by rw [hty]; simp)
  rw [hty] at gty
  have hv := hr.env t0
  rw [hl] at hv
  unfold AV.VR at hv
  obtain ⟨A, c, ev, _, _, _, hA⟩ := hv.slice
  refine wpList_plain rfl fun K1 hK1 => ?_
  show Oper.wp P _ a w K1 _
  unfold Oper.wp
  have r1 : (execOp a.eval ⟨some t1, .move (.tmp t0), ty1, p1, a1, none⟩).run P w = .ok (.value (a.tmps.getD t0 undef)) w := by simp only [execOp, Sem.run_pure]; rfl
  rw [r1, Oper.upon_value]
  refine hK1 _ _ (wpList_plain rfl fun K2 hK2 => ?_)
  have hr1 : Rel E (st.put (some t1) (.d fr (.sl sz xs))) (a.put (some t1) (a.tmps.getD t0 undef)) w hs := hr.put (by unfold AV.VR; exact hv) (some t1) (fun t e => by cases e; exact h1)
  unfold Oper.wp
  have e1 : (a.put (some t1) (a.tmps.getD t0 undef)).eval (.tmp t1) = .slice A xs.length c := by
    have h3 : t1 < a.tmps.size := by rw [hr.size]; exact h1
    simp only [Act.eval, Act.put]
    rw [← ev]
    simp [h3]
  have r2 : (execOp (a.put (some t1) (a.tmps.getD t0 undef)).eval ⟨some t2, .binOp .eql ty (.tmp t1) (.const (.slice none 0 0)) ty3, ty2, p2, a2, none⟩).run P w = .ok (.value (.bool A.isNone)) w := by
    have h4 := run_equal_slice_nil (P := P) w ty e A xs.length c gty
    simp only [execOp, e1, Sem.run_bind]
    have h5 : (eqGuard .eql ty (.tmp t1) (.const (.slice none 0 0)) (.slice A xs.length c) ((a.put (some t1) (a.tmps.getD t0 undef)).eval (.const (.slice none 0 0)))).run P w = .ok () w := by
      unfold eqGuard
      rfl
    rw [h5, Result.andThen_ok]
    have h6 : (binOp .eql ty (.slice A xs.length c) ((a.put (some t1) (a.tmps.getD t0 undef)).eval (.const (.slice none 0 0)))).run P w = .ok (.bool A.isNone) w := by
      show (binOp .eql ty (.slice A xs.length c) (.slice none 0 0)).run P w = _
      simp only [binOp, Sem.run_bind, h4, Result.andThen_ok, Sem.run_pure]
    rw [h6]
    rfl
  rw [r2, Oper.upon_value]
  refine hK2 _ _ (wpList_nil ?_)
  show Exit.then _ _ _ _ _
  unfold Exit.then
  dsimp only
  have hr2 := hr1.put (av := .d true (.v (.bool A.isNone))) (v := .bool A.isNone) (vr_v rfl) (some t2) (fun t e => by cases e; exact h2)
  refine h A.isNone (fun hb => ?_) _ _ hs hr2
  rcases hA with hA | ⟨b, off, fl, rfl, _⟩
  · exact hA
  · cases hb

theorem stepL_ok : stepL G own all K os i d (.ok p v u n) st = (p ∧ evalL G own all K os (i + 1) (st.upd d v u n)) := rfl
theorem stepG_ok : stepG G own all K os i d c (.ok p v u n) st = ((c = true → p) ∧ u = [] ∧ n = [] ∧ evalL G own all K os (i + 1) (st.put d (.when c v))) := rfl
theorem guardL_some : guardL G own all K os i o st (some c) = if Oper.ef G o = true then (c = true → stepL G own all K os i o.dst ((opQ G (!own.contains i) o).eval true st) st) ∧ (c = false → evalL G own all K os (i + 1) (st.put o.dst (.when false .junk)))
        else stepG G own all K os i o.dst c ((opQ G true o).eval c st) st := rfl
theorem stepD_ok : stepD G own all K os i d ts log (.ok p v u n rr oo fr) st = (p ∧ Stp.wf ⟨⟨ts ++ rr, oo, d, wrs st u n, fr⟩, v, u, n⟩ st = true ∧ evalD G own all K os (i + 1) (st.upd d v u n) (⟨ts ++ rr, oo, d, wrs st u n, fr⟩ :: log)) := rfl
theorem stepD_pure : stepD G own all K os i d ts log (.ok p v [] [] rr oo fr) st = (p ∧ evalD G own all K os (i + 1) (st.upd d v [] []) (⟨ts ++ rr, oo, d, [], fr⟩ :: log)) := by
  have h : Stp.wf ⟨⟨ts ++ rr, oo, d, [], fr⟩, v, [], []⟩ st = true := wf_empty st rfl
  simp only [stepD, wrs, List.map_nil, List.length_nil, List.range_zero, List.append_nil, h, true_and]
theorem stepDG_ok : stepDG G own all K os i d t c log (.ok p v u n rr oo fr) st = ((c = true → p) ∧ u = [] ∧ n = [] ∧ evalD G own all K os (i + 1) (st.put d (.when c v)) (⟨t :: rr, oo, d, [], fr⟩ :: log)) := rfl
theorem guardD_some : guardD G own all K os i o log st (some t) (some c) = if (Oper.ef G o || own.contains 9999) = true then (match c with
      | true => stepD G own all K os i o.dst [t] log ((opQ G (!own.contains i) o).evalR true st) st
      | false => ∃ av, evalD G own all K os (i + 1) (st.put o.dst (.when false av)) (⟨[t], [], o.dst, [], false⟩ :: log))
    else stepDG G own all K os i o.dst t c log ((opQ G true o).evalR c st) st := rfl

theorem out_and : (Out.ok p v u n).and q = .ok (q ∧ p) v u n := rfl
theorem outR_and : (OutR.ok p v u n rr oo fr).and q = .ok (q ∧ p) v u n rr oo fr := rfl
theorem outR_rd : (OutR.ok p v u n rr oo fr).rd t = .ok p v u n (t :: rr) oo fr := rfl
theorem outR_ob : (OutR.ok p v u n rr oo fr).ob t = .ok p v u n rr (t :: oo) fr := rfl
theorem outR_new : (OutR.ok p v u n rr oo fr).new = .ok p v u n rr oo true := rfl

theorem binV_int {T : Nat → TI} {op : BinOp} {fr fr' : Bool} {k k' : IntKind} {a b : Int} : binV T op t (.d fr (.v (.int k a))) (.d fr' (.v (.int k' b))) = binI op k a k' b := rfl
theorem binV_str {T : Nat → TI} {op : BinOp} {fr fr' : Bool} {a b : ByteArray} : binV T op t (.d fr (.v (.string a))) (.d fr' (.v (.string b))) = binS op a b := rfl

theorem binV_ptr_eq {T : Nat → TI} {m off : Nat} {fr : Bool} : binV T .eql t (.ptr m off) (.d fr (.v (.pointer none))) = match (T t).desc with | .ptr _ => AM.Q.obj m fun _ => AM.Q.ret (.bool false) | _ => AM.Q.bad := by
  unfold binV; cases (T t).desc <;> rfl
theorem binV_ptr_ne {T : Nat → TI} {m off : Nat} {fr : Bool} : binV T .neq t (.ptr m off) (.d fr (.v (.pointer none))) = match (T t).desc with | .ptr _ => AM.Q.obj m fun _ => AM.Q.ret (.bool true) | _ => AM.Q.bad := by
  unfold binV; cases (T t).desc <;> rfl
theorem binV_bool_eq {T : Nat → TI} {p q : Bool} {fr fr' : Bool} : binV T .eql t (.d fr (.v (.bool p))) (.d fr' (.v (.bool q))) = match (T t).desc with | .bool => AM.Q.ret (.bool (p == q)) | _ => AM.Q.bad := by
  unfold binV; cases (T t).desc <;> rfl
theorem binV_bool_ne {T : Nat → TI} {p q : Bool} {fr fr' : Bool} : binV T .neq t (.d fr (.v (.bool p))) (.d fr' (.v (.bool q))) = match (T t).desc with | .bool => AM.Q.ret (.bool (p != q)) | _ => AM.Q.bad := by
  unfold binV; cases (T t).desc <;> rfl

theorem upd_plain {env : List (Nat × AV)} {obs : List (Option Ob)} {d : Nat} : St.upd ⟨env, obs⟩ (some d) v [] [] = ⟨(d, v) :: env, obs⟩ := by simp [St.upd, St.put]
theorem upd_none {env : List (Nat × AV)} {obs : List (Option Ob)} : St.upd ⟨env, obs⟩ none v [] [] = ⟨env, obs⟩ := by simp [St.upd, St.put]
theorem upd_set {env : List (Nat × AV)} {obs : List (Option Ob)} {d : Nat} {m : Nat} {ob : Ob} : St.upd ⟨env, obs⟩ (some d) v [(m, ob)] [] = ⟨(d, v) :: env, obs.set m (some ob)⟩ := by simp [St.upd, St.put]
theorem upd_none_set {env : List (Nat × AV)} {obs : List (Option Ob)} {m : Nat} {ob : Ob} : St.upd ⟨env, obs⟩ none v [(m, ob)] [] = ⟨env, obs.set m (some ob)⟩ := by simp [St.upd, St.put]
theorem upd_new {env : List (Nat × AV)} {obs : List (Option Ob)} {d : Nat} {ob : Ob} : St.upd ⟨env, obs⟩ (some d) v [] [ob] = ⟨(d, v) :: env, obs ++ [some ob]⟩ := by simp [St.upd, St.put]
theorem put_some {env : List (Nat × AV)} {obs : List (Option Ob)} {d : Nat} : St.put ⟨env, obs⟩ (some d) v = ⟨(d, v) :: env, obs⟩ := rfl
theorem put_none {env : List (Nat × AV)} {obs : List (Option Ob)} : St.put ⟨env, obs⟩ none v = ⟨env, obs⟩ := rfl

/-! ### one operation after the other -/
theorem evalL_next {op : Op} {ty : TypeId} {ps : String} {af : Array Edge} (e : (opQ G (!own.contains i) ⟨d, op, ty, ps, af, none⟩).eval true st = .ok p v u n) (hp : p) (h : evalL G own all K os (i + 1) (st.upd d v u n)) :
    evalL G own all K (⟨d, op, ty, ps, af, none⟩ :: os) i st := by
  rw [evalL_plain, e]
  exact ⟨hp, h⟩
theorem gcond_of {j : Nat} {want : Bool} {c1 b : Bool} (ht : gslot all j = some t) (hb : boolOf (look t st.env) = some (c1, b)) (hc : (c1 && (if want then b else !b)) = c) : gcond all st j want = some c := by
  unfold gcond
  unfold gslot at ht
  rw [ht]
  dsimp only
  rw [hb, ← hc]
  rfl
theorem evalL_nextG {op : Op} {ty : TypeId} {ps : String} {af : Array Edge} {j : Nat} {want : Bool} {c1 b : Bool} (ht : gslot all j = some t) (hef : Oper.ef G ⟨d, op, ty, ps, af, some (j, want)⟩ = false) (hb : boolOf (look t st.env) = some (c1, b)) (hc : (c1 && (if want then b else !b)) = c)
    (e : (opQ G true ⟨d, op, ty, ps, af, some (j, want)⟩).eval c st = .ok p v [] []) (hp : c = true → p) (h : evalL G own all K os (i + 1) (st.put d (.when c v))) :
    evalL G own all K (⟨d, op, ty, ps, af, some (j, want)⟩ :: os) i st := by
  rw [evalL_guard, gcond_of ht hb hc, guardL_some, hef, e]
  exact ⟨hp, rfl, rfl, h⟩
theorem evalL_nextS {op : Op} {ty : TypeId} {ps : String} {af : Array Edge} {j : Nat} {want : Bool} {c1 b : Bool} (ht : gslot all j = some t) (hef : Oper.ef G ⟨d, op, ty, ps, af, some (j, want)⟩ = true) (hb : boolOf (look t st.env) = some (c1, b)) (hc : (c1 && (if want then b else !b)) = c)
    (h1 : c = true → ∃ p v u n, (opQ G (!own.contains i) ⟨d, op, ty, ps, af, some (j, want)⟩).eval true st = .ok p v u n ∧ p ∧ evalL G own all K os (i + 1) (st.upd d v u n))
    (h2 : c = false → evalL G own all K os (i + 1) (st.put d (.when false .junk))) :
    evalL G own all K (⟨d, op, ty, ps, af, some (j, want)⟩ :: os) i st := by
  rw [evalL_guard, gcond_of ht hb hc, guardL_some, hef]
  refine ⟨fun hc => ?_, h2⟩
  obtain ⟨p, v, u, n, e, hp, h⟩ := h1 hc
  show stepL _ _ _ _ _ _ _ _ _
  rw [e]
  exact ⟨hp, h⟩
theorem evalD_next {op : Op} {ty : TypeId} {ps : String} {af : Array Edge} (e : (opQ G (!own.contains i) ⟨d, op, ty, ps, af, none⟩).evalR true st = .ok p v [] [] rr oo fr) (hp : p) (h : evalD G own all K os (i + 1) (st.upd d v [] []) (⟨rr, oo, d, [], fr⟩ :: log)) :
    evalD G own all K (⟨d, op, ty, ps, af, none⟩ :: os) i st log := by
  rw [evalD_plain, e, stepD_pure]
  exact ⟨hp, h⟩
theorem evalD_nextU {op : Op} {ty : TypeId} {ps : String} {af : Array Edge} {wo : List Nat} (e : (opQ G (!own.contains i) ⟨d, op, ty, ps, af, none⟩).evalR true st = .ok p v u n rr oo fr) (hp : p)
    (hw : wrs st u n = wo) (hwf : Stp.wf ⟨⟨rr, oo, d, wo, fr⟩, v, u, n⟩ st = true) (h : evalD G own all K os (i + 1) (st.upd d v u n) (⟨rr, oo, d, wo, fr⟩ :: log)) :
    evalD G own all K (⟨d, op, ty, ps, af, none⟩ :: os) i st log := by
  rw [evalD_plain, e, stepD_ok, hw]
  exact ⟨hp, hwf, h⟩
theorem evalD_nextG {op : Op} {ty : TypeId} {ps : String} {af : Array Edge} {j : Nat} {want : Bool} {c1 b : Bool} (ht : gslot all j = some t) (hef : (Oper.ef G ⟨d, op, ty, ps, af, some (j, want)⟩ || own.contains 9999) = false) (hb : boolOf (look t st.env) = some (c1, b)) (hc : (c1 && (if want then b else !b)) = c)
    (e : (opQ G true ⟨d, op, ty, ps, af, some (j, want)⟩).evalR c st = .ok p v [] [] rr oo fr) (hp : c = true → p) (h : evalD G own all K os (i + 1) (st.put d (.when c v)) (⟨t :: rr, oo, d, [], fr⟩ :: log)) :
    evalD G own all K (⟨d, op, ty, ps, af, some (j, want)⟩ :: os) i st log := by
  rw [evalD_guard, gcond_of ht hb hc, ht, guardD_some, hef, e]
  exact ⟨hp, rfl, rfl, h⟩
theorem evalD_nextT {op : Op} {ty : TypeId} {ps : String} {af : Array Edge} {j : Nat} {want : Bool} {c1 b : Bool} {wo : List Nat} (ht : gslot all j = some t) (hef : (Oper.ef G ⟨d, op, ty, ps, af, some (j, want)⟩ || own.contains 9999) = true) (hb : boolOf (look t st.env) = some (c1, b)) (hc : (c1 && (if want then b else !b)) = true)
    (e : (opQ G (!own.contains i) ⟨d, op, ty, ps, af, some (j, want)⟩).evalR true st = .ok p v u n rr oo fr) (hp : p) (hw : wrs st u n = wo) (hwf : Stp.wf ⟨⟨t :: rr, oo, d, wo, fr⟩, v, u, n⟩ st = true) (h : evalD G own all K os (i + 1) (st.upd d v u n) (⟨t :: rr, oo, d, wo, fr⟩ :: log)) :
    evalD G own all K (⟨d, op, ty, ps, af, some (j, want)⟩ :: os) i st log := by
  rw [evalD_guard, gcond_of ht hb hc, ht, guardD_some, hef, e]
  simp only [if_true]
  rw [stepD_ok, hw]
  exact ⟨hp, hwf, h⟩
theorem evalD_nextF {op : Op} {ty : TypeId} {ps : String} {af : Array Edge} {j : Nat} {want : Bool} {c1 b : Bool} (ht : gslot all j = some t) (hef : (Oper.ef G ⟨d, op, ty, ps, af, some (j, want)⟩ || own.contains 9999) = true) (hb : boolOf (look t st.env) = some (c1, b)) (hc : (c1 && (if want then b else !b)) = false)
    (av : AV) (h : evalD G own all K os (i + 1) (st.put d (.when false av)) (⟨[t], [], d, [], false⟩ :: log)) :
    evalD G own all K (⟨d, op, ty, ps, af, some (j, want)⟩ :: os) i st log := by
  rw [evalD_guard, gcond_of ht hb hc, ht, guardD_some, hef]
  simp only [if_true]
  exact ⟨av, h⟩
theorem evalD_done (ho : ordOK all log = true) (h : K st) : evalD G own all K [] i st log := ⟨ho, h⟩
end

end Go.AM

/- AM, part 21: a function that hands back a new object. -/
namespace Go.AM
open Go Go.RowKit

def AV.renJ (j : Nat) : AV → Option AV
  | .d fr x => some (.d fr x)
  | .ptr m off => if m = j then some (.ptr 0 off) else none
  | .own m γ => if m = j then some (.own 0 γ) else none
  | .mpv m => if m = j then some (.mpv 0) else none
  | _ => none
def renJL (j : Nat) : List AV → Option (List AV)
  | [] => some []
  | a :: as => match a.renJ j, renJL j as with
    | some b, some bs => some (b :: bs)
    | _, _ => none

/-- The context of the object j alone. -/
def Cx.only (C : Cx) (j : Nat) (ob : Ob) (h : Hd) : Cx := { C with obs := [some ob], hs := [h] }

section
variable {C : Cx} {j : Nat} {ob : Ob} {h : Hd}

theorem Cx.Sh.only (ho : C.obs[j]? = some (some ob)) (hh : C.hs[j]? = some h) {fr : Bool} {b : Nat} (hs : C.Sh fr b) : (C.only j ob h).Sh fr b :=
  ⟨hs.1, fun n k ha hk => by
    have hk' : ([h] : List Hd)[n]? = some k := hk
    cases n with
    | zero => simp at hk'; subst hk'; exact hs.2.1 j h ⟨ob, ho⟩ hh
    | succ n => simp at hk', hs.2.2⟩

theorem VR.renJ (ho : C.obs[j]? = some (some ob)) (hh : C.hs[j]? = some h) {a b : AV} {v : Value} (e : a.renJ j = some b) (hv : a.VR C v) : b.VR (C.only j ob h) v := by
  unfold AV.renJ at e
  split at e
  · cases e
    unfold AV.VR at hv ⊢
    exact hv.stable fun b hb => ⟨hb.only ho hh, rfl⟩
  · split at e
    · rename_i em
      subst em
      cases e
      unfold AV.VR at hv ⊢
      refine ⟨by simp [Cx.only], fun o _ => ?_⟩
      obtain ⟨b, h1, h2⟩ := hv.2 ob ho
      rw [hh] at h1
      exact ⟨b, h1, h2⟩
    · cases e
  · split at e
    · rename_i em
      subst em
      cases e
      unfold AV.VR at hv ⊢
      refine ⟨by simp [Cx.only], fun E sz γ0 fr xs e => ?_⟩
      have e' : ob = .row E sz γ0 fr xs := by simpa [Cx.only] using e
      subst e'
      obtain ⟨h1, h2⟩ := hv.2 _ _ _ _ _ ho
      refine ⟨h1, fun e5 => ?_⟩
      have := h2 e5
      rw [hh] at this
      exact this
    · cases e
  · split at e
    · rename_i em
      subst em
      cases e
      unfold AV.VR at hv ⊢
      refine ⟨by simp [Cx.only], fun o _ => ?_⟩
      obtain ⟨b, h1, h2⟩ := hv.2 ob ho
      rw [hh] at h1
      exact ⟨b, h1, h2⟩
    · cases e
  · cases e

theorem VL.renJ (ho : C.obs[j]? = some (some ob)) (hh : C.hs[j]? = some h) : ∀ {as bs : List AV} {vs : List Value}, renJL j as = some bs → AV.VL C as vs → AV.VL (C.only j ob h) bs vs
  | [], bs, vs, e, hv => by simp only [renJL, Option.some.injEq] at e; subst e; unfold AV.VL at hv ⊢; exact hv
  | a :: as, bs, vs, e, hv => by
    unfold renJL at e
    split at e
    · rename_i b cs e1 e2
      cases e
      unfold AV.VL at hv ⊢
      obtain ⟨v, rest, rfl, h1, h2⟩ := hv
      exact ⟨v, rest, rfl, VR.renJ ho hh e1 h1, VL.renJ ho hh e2 h2⟩
    · cases e

theorem VL.onlyD (ho : C.obs[j]? = some (some ob)) (hh : C.hs[j]? = some h) : ∀ {cs : List AV} {vs : List Value}, cs.all AV.isD = true → AV.VL C cs vs → AV.VL (C.only j ob h) cs vs
  | [], vs, _, hv => by unfold AV.VL at hv ⊢; exact hv
  | a :: as, vs, hd, hv => by
    simp only [List.all_cons, Bool.and_eq_true] at hd
    unfold AV.VL at hv ⊢
    obtain ⟨v, rest, rfl, h1, h2⟩ := hv
    refine ⟨v, rest, rfl, ?_, VL.onlyD ho hh hd.2 h2⟩
    cases a <;> simp only [AV.isD, Bool.false_eq_true, false_and] at hd
    exact VR.renJ ho hh rfl h1

theorem OR.only (ho : C.obs[j]? = some (some ob)) (hh : C.hs[j]? = some h) (hd : ob.data = true) (hor : ob.OR C h) : ob.OR (C.only j ob h) h := by
  cases ob with
  | row E sz g fr xs =>
    cases h with
    | row v =>
      obtain ⟨h0, h1, fl, h2, h3⟩ := hor
      exact ⟨h0, h1, fl, h2.stable fun b hb => ⟨hb.only ho hh, rfl⟩, h3⟩
    | _ => exact hor.elim
  | cells E cs =>
    cases h with
    | ptr b =>
      obtain ⟨vs, h1, h2, h3⟩ := hor
      exact ⟨vs, h1, VL.onlyD ho hh hd h2, h3⟩
    | _ => exact hor.elim
  | buf E Er szr xs =>
    cases h with
    | buf b v =>
      obtain ⟨h1, h2, h3, fl, h4, h5⟩ := hor
      exact ⟨h1, h2, h3, fl, h4.stable fun b hb => ⟨hb.only ho hh, rfl⟩, h5⟩
    | _ => exact hor.elim
  | mp ks kv es =>
    cases h with
    | ptr b => exact hor
    | _ => exact hor.elim

theorem WOK.only {w0 : World} (hw : WOK w0 [] C) (ho : C.obs[j]? = some (some ob)) (hh : C.hs[j]? = some h) (hd : ob.data = true) : WOK w0 [] (C.only j ob h) where
  b0 := hw.b0
  os := hw.os
  tape := hw.tape
  output := hw.output
  size := hw.size
  len := rfl
  frame := hw.frame
  objs := fun n o k e1 e2 => by
    have e1' : ([some ob] : List (Option Ob))[n]? = some (some o) := e1
    have e2' : ([h] : List Hd)[n]? = some k := e2
    cases n with
    | zero => simp at e1' e2'; subst e1'; subst e2'; exact OR.only ho hh hd (hw.objs j ob h ho hh)
    | succ n => simp at e1'
  dist := fun n m i k hnm ⟨o1, h1⟩ ⟨o2, h2⟩ => by
    have e1 : ([some ob] : List (Option Ob))[n]? = some (some o1) := h1
    have e2 : ([some ob] : List (Option Ob))[m]? = some (some o2) := h2
    cases n with
    | zero => cases m with
      | zero => exact absurd rfl hnm
      | succ m => simp at e2
    | succ n => simp at e1
  new := fun n k ⟨o, e1⟩ e2 => by
    have e2' : ([h] : List Hd)[n]? = some k := e2
    cases n with
    | zero => simp at e2'; subst e2'; exact fun b hb => .inl ((hw.new j h ⟨ob, ho⟩ hh b hb).resolve_right (by simp))
    | succ n => simp at e2'
  plen := Nat.zero_le _
  parP := fun i b e => by simp at e
  parB := fun i b u e => by simp at e
  parR := fun i v E sz fr xs e => by simp at e
end

/-- What is handed back: the object j, the new one. -/
def BackJ (T : Nat → TI) (rs : List ResultVar) (R : Res) (j : Nat) (st : St) : Prop :=
  (∃ avs bs, resL T st rs = some avs ∧ renJL j avs = some bs ∧ (match bs with
    | [a] => AV.Sub1 a R.r
    | as => ∃ cs, R.r = .tup cs ∧ SubL as cs)) ∧ ∃ ob, R.o = some ob ∧ st.obs[j]? = some (some ob) ∧ ob.data = true

theorem renJL_len {j : Nat} : ∀ {as bs : List AV}, renJL j as = some bs → bs.length = as.length
  | [], bs, e => by simp only [renJL, Option.some.injEq] at e; subst e; rfl
  | a :: as, bs, e => by
    unfold renJL at e
    split at e
    · rename_i b cs e1 e2
      cases e
      simp [renJL_len e2]
    · cases e

theorem spec_of_awpJ {P : Program} {G : Cfg} (hG : G.OK P) (j : Nat) {f : FuncId} {fn : Func} {c : Code} {args : List AV} {R : Res} (hf : P.funcs[f]? = some fn) (hb : fn.body = some c) (hn : args.length ≤ fn.ntmps)
    (h : ∀ E : En, E.ps.length = 0 → E.N = fn.ntmps → R.pre → AWP P E c (fun e st => (e = .ret ∨ e = .normal) ∧ BackJ G.T fn.results.toList R j st) (begin args none)) : Spec P f args none R := by
  intro w old hs vals wok hvl hpre
  have hhs : hs = [] := by
    have := wok.len
    simp [entryCx] at this
    exact List.eq_nil_of_length_eq_zero this.symm
  subst hhs
  have hvn := VL.len hvl
  let E : En := ⟨w, old, [], fn.ntmps⟩
  have hrel : Rel E (begin args none) { tmps := vals.toArray ++ Array.replicate (fn.ntmps - vals.toArray.size) undef, defers := [] } w [] := by
    refine ⟨wok, rfl, by simp [E]; omega, fun t => ?_⟩
    show (look t ((args.zipIdx 0).map (fun p => (p.2, p.1)))).VR _ _
    rw [look_begin args 0 t]
    simp only [Nat.zero_le, if_true, Nat.sub_zero]
    cases ht : args[t]? with
    | none => simp only [Option.getD_none]; unfold AV.VR; trivial
    | some av =>
      obtain ⟨v, hv, hvr⟩ := VL.get hvl ht
      have hlt : t < vals.length := (List.getElem?_eq_some_iff.1 hv).1
      have e : (vals.toArray ++ Array.replicate (fn.ntmps - vals.toArray.size) undef).getD t undef = v := by
        have h1 : (vals.toArray ++ Array.replicate (fn.ntmps - vals.toArray.size) undef)[t]? = some v := by
          rw [Array.getElem?_append_left (by simpa using hlt)]
          simpa using hv
        rw [Array.getD_eq_getD_getElem?, h1]; rfl
      simp only [e, Option.getD_some]
      exact hvr
  refine calls_of_wp hf hb (Code.wp_mono ?_ (h E rfl rfl hpre _ w [] hrel))
  intro e a w' ⟨st, hs', hr, he, ⟨avs, bs, e1, e2, hm⟩, ob, hR, hob, hdata⟩
  obtain ⟨vs, h1, h2⟩ := resL_sound hG.T hr e1
  have hlen := VL.len h1
  have hblen := renJL_len e2
  obtain ⟨k, hk⟩ := hr.wok.hd (n := j) (alive_lt (C := st.cx E w' hs') ⟨ob, hob⟩)
  have h3 : AV.VL ((st.cx E w' hs').only j ob k) bs vs := VL.renJ (C := st.cx E w' hs') hob hk e2 h1
  have hrun : (results fn a.tmps).run P w' = .ok (if h : vs.toArray.size = 1 then vs.toArray[0] else .tuple vs.toArray) w' := by
    rw [results_eq, Array.mapM_eq_mapM_toList, Sem.run_bind]
    have : (List.toArray <$> fn.results.toList.mapM (m := Sem) (resSem a.tmps)).run P w' = .ok vs.toArray w' := by
      rw [map_eq_pure_bind, Sem.run_bind, h2, Result.andThen_ok, Sem.run_pure]
    rw [this, Result.andThen_ok, Sem.run_pure]
  have hvr : R.r.VR ((st.cx E w' hs').only j ob k) (if h : vs.toArray.size = 1 then vs.toArray[0] else .tuple vs.toArray) := by
    split at hm
    · rename_i av
      have : ∃ v, vs = [v] := List.length_eq_one_iff.1 (by rw [hlen, ← hblen]; rfl)
      obtain ⟨v, rfl⟩ := this
      unfold AV.VL at h3
      obtain ⟨v', rest, e1, h4, h5⟩ := h3
      cases e1
      exact hm.vr h4
    · rename_i hn
      obtain ⟨cs, e3, h4⟩ := hm
      have hne : vs.length ≠ 1 := by
        intro e2
        rw [hlen, ← hblen] at e2
        obtain ⟨av, e3⟩ := List.length_eq_one_iff.1 e2
        exact hn av e3
      have e4 : ¬ vs.toArray.size = 1 := by simpa using hne
      rw [dif_neg e4, e3]
      unfold AV.VR
      exact ⟨_, rfl, by simpa using h4.vl h3⟩
  have wok' : WOK w [] ((st.cx E w' hs').only j ob k) := hr.wok.only hob hk hdata
  have fin : a.defers = [] ∧ ∃ v, (results fn a.tmps).run P w' = .ok v w' ∧ ∃ v_1 obs' hs'_1, Ending.returned v = .returned v_1 ∧ WOK w [] ⟨w', w.heap.size, old, obs', hs'_1⟩ ∧
      R.r.VR ⟨w', w.heap.size, old, obs', hs'_1⟩ v_1 ∧ (∀ ob, R.o = some ob → obs'[0]? = some (some ob)) :=
    ⟨hr.df, _, hrun, _, [some ob], [k], rfl, wok', hvr, fun o ho => by rw [hR] at ho; cases ho; rfl⟩
  rcases he with rfl | rfl
  · exact fin
  · exact fin

end Go.AM

/- AM, part 19: whole numbers, lists of them, tables of functions. -/
namespace Go.AM
open Go Go.RowKit

/-! ### whole numbers -/
theorem w_i64 {x : Int} (h : -9223372036854775808 ≤ x) (h' : x ≤ 9223372036854775807) : IntKind.wrap .i64 x = x := by rw [IntKind.wrap_i64]; omega
theorem w_i32 {x : Int} (h : -2147483648 ≤ x) (h' : x ≤ 2147483647) : IntKind.wrap .i32 x = x := by rw [IntKind.wrap_i32]; omega
theorem w_u8 {x : Int} : IntKind.wrap .u8 x = x % 256 := by simp [IntKind.wrap, IntKind.bits, IntKind.signed]
theorem w_u16 {x : Int} : IntKind.wrap .u16 x = x % 65536 := by simp [IntKind.wrap, IntKind.bits, IntKind.signed]
theorem w_u32 {x : Int} : IntKind.wrap .u32 x = x % 4294967296 := by simp [IntKind.wrap, IntKind.bits, IntKind.signed]
theorem w_u64 {x : Int} : IntKind.wrap .u64 x = x % 18446744073709551616 := by simp [IntKind.wrap, IntKind.bits, IntKind.signed]
theorem tdiv_nn {a b : Int} (h : 0 ≤ a) : a.tdiv b = a / b := Int.tdiv_eq_ediv_of_nonneg h
theorem tmod_nn {a b : Int} (h : 0 ≤ a) : a.tmod b = a % b := Int.tmod_eq_emod_of_nonneg h

/-! ### lists of whole numbers -/
theorem ints_length {k : IntKind} {l : List Int} : (ints k l).length = l.length := by simp [ints]
theorem ints_append {k : IntKind} {l m : List Int} : ints k l ++ ints k m = ints k (l ++ m) := by simp [ints]
theorem ints_drop {k : IntKind} {l : List Int} {n : Nat} : (ints k l).drop n = ints k (l.drop n) := by simp [ints, List.map_drop]
theorem ints_take {k : IntKind} {l : List Int} {n : Nat} : (ints k l).take n = ints k (l.take n) := by simp [ints, List.map_take]
theorem ints_getD {k : IntKind} {l : List Int} {n : Nat} : (ints k l).getD n (.v (.int k 0)) = .v (.int k (l.getD n 0)) := by
  simp only [ints, List.getD_eq_getElem?_getD, List.getElem?_map]
  cases l[n]? <;> rfl
theorem ints_set {k : IntKind} {l : List Int} {n : Nat} {x : Int} : (ints k l).set n (.v (.int k x)) = ints k (l.set n x) := by simp [ints, List.map_set]
theorem ints_replicate {k : IntKind} {n : Nat} {x : Int} : List.replicate n (.v (.int k x)) = ints k (List.replicate n x) := by simp [ints, List.map_replicate]
theorem ints_one {k : IntKind} {x : Int} : [Dat.v (.int k x)] = ints k [x] := rfl
theorem ints_cons {k : IntKind} {x : Int} {l : List Int} : Dat.v (.int k x) :: ints k l = ints k (x :: l) := rfl
theorem ints_nil {k : IntKind} : ints k [] = [] := rfl

theorem ints_flat {k : IntKind} {l : List Int} : (ints k l).all Dat.flat = true := by simp [ints, Dat.flat]
/-- A slice's elements, gathered. -/
def slc (sz : Nat) (k : IntKind) (l : List Int) (xs : List Dat) : Dat := .sl sz (ints k l ++ xs)
theorem sl_v {sz : Nat} {k : IntKind} {x : Int} {xs : List Dat} : Dat.sl sz (.v (.int k x) :: xs) = slc sz k [x] xs := rfl
theorem slc_cons {sz : Nat} {k : IntKind} {l : List Int} {x : Int} {xs : List Dat} : slc sz k l (.v (.int k x) :: xs) = slc sz k (l ++ [x]) xs := by simp [slc, ints]
theorem slc_nil {sz : Nat} {k : IntKind} {l : List Int} : slc sz k l [] = .sl sz (ints k l) := by simp [slc]
/-- Bytes. -/
def Byt (l : List Int) : Prop := ∀ b ∈ l, 0 ≤ b ∧ b < 256
def IsB (xs : List Dat) : Prop := xs = ints .u8 (toInts xs) ∧ Byt (toInts xs)
theorem isB_ints {l : List Int} : IsB (ints .u8 l) = Byt l := by simp [IsB, toInts_ints]
theorem IsB.elim {xs : List Dat} (h : IsB xs) : ∃ l, xs = ints .u8 l ∧ Byt l := ⟨_, h⟩
theorem isB_nil : IsB [] = True := by simp [IsB, toInts, ints, Byt]
theorem Byt.append {l m : List Int} (h : Byt l) (h' : Byt m) : Byt (l ++ m) := fun b hb => (List.mem_append.1 hb).elim (h b) (h' b)
theorem Byt.take {l : List Int} (h : Byt l) (n : Nat) : Byt (l.take n) := fun b hb => h b (List.mem_of_mem_take hb)
theorem Byt.drop {l : List Int} (h : Byt l) (n : Nat) : Byt (l.drop n) := fun b hb => h b (List.mem_of_mem_drop hb)
theorem Byt.nil : Byt [] := fun b hb => by cases hb
theorem Byt.cons {b : Int} {l : List Int} (h0 : 0 ≤ b) (h1 : b < 256) (h : Byt l) : Byt (b :: l) := fun c hc => by
  rcases List.mem_cons.1 hc with rfl | hc
  · exact ⟨h0, h1⟩
  · exact h c hc
theorem Byt.replicate {b : Int} (n : Nat) (h0 : 0 ≤ b) (h1 : b < 256) : Byt (List.replicate n b) := fun c hc => by
  rw [(List.mem_replicate.1 hc).2]; exact ⟨h0, h1⟩
theorem Byt.getD {l : List Int} (h : Byt l) (n : Nat) : 0 ≤ l.getD n 0 ∧ l.getD n 0 < 256 := by
  rw [List.getD_eq_getElem?_getD]
  cases e : l[n]? with
  | none => simp
  | some x => exact h x (List.mem_of_getElem? e)

theorem byt_nil : Byt [] = True := by simp [Byt]
theorem byt_cons {b : Int} {l : List Int} : Byt (b :: l) = ((0 ≤ b ∧ b < 256) ∧ Byt l) := by simp [Byt]
theorem byt_append {l m : List Int} : Byt (l ++ m) = (Byt l ∧ Byt m) := by
  apply propext
  constructor
  · intro h; exact ⟨fun b hb => h b (by simp [hb]), fun b hb => h b (by simp [hb])⟩
  · intro h; exact h.1.append h.2
theorem sub1_of {a b : AV} (h : a = b) : AV.Sub1 a b := h ▸ .refl a
theorem sub1_lo {x y : Dat} (h : x = y) : AV.Sub1 (.d true x) (.d false y) := h ▸ .lo x
/-- Lists of bytes. -/
def rows (ls : List (List Int)) : List Dat := ls.map fun l => .sl 1 (ints .u8 l)
def datRow : Dat → List Int
  | .sl _ ys => toInts ys
  | _ => []
def toRows (xs : List Dat) : List (List Int) := xs.map datRow
theorem toRows_nil : toRows [] = [] := rfl
theorem toRows_cons {l : List Int} {xs : List Dat} : toRows (.sl 1 (ints .u8 l) :: xs) = l :: toRows xs := by simp [toRows, datRow, toInts_ints]
theorem toRows_cons_nil {xs : List Dat} : toRows (.sl 1 [] :: xs) = [] :: toRows xs := rfl
theorem toRows_rows {ls : List (List Int)} : toRows (rows ls) = ls := by
  induction ls with
  | nil => rfl
  | cons a l ih => simp only [toRows, rows, List.map_cons, datRow, toInts_ints, List.cons.injEq, true_and] at ih ⊢; exact ih
def IsBB (xs : List Dat) : Prop := xs = rows (toRows xs) ∧ ∀ l ∈ toRows xs, Byt l
theorem IsBB.elim {xs : List Dat} (h : IsBB xs) : ∃ l, xs = rows l ∧ ∀ b ∈ l, Byt b := ⟨_, h⟩
theorem isBB_nil : IsBB [] = True := by simp [IsBB, toRows, rows]
theorem isBB_cons {l : List Int} {xs : List Dat} : IsBB (.sl 1 (ints .u8 l) :: xs) = (Byt l ∧ IsBB xs) := by
  simp only [IsBB, toRows_cons, rows, List.map_cons, List.cons.injEq, true_and, List.mem_cons, forall_eq_or_imp]
  apply propext
  constructor
  · rintro ⟨h1, h2, h3⟩; exact ⟨h2, h1, h3⟩
  · rintro ⟨h1, h2, h3⟩; exact ⟨h2, h1, h3⟩
theorem isBB_cons_nil {xs : List Dat} : IsBB (.sl 1 [] :: xs) = IsBB xs := by
  have := isBB_cons (l := []) (xs := xs)
  rw [ints_nil] at this
  rw [this]
  simp [Byt.nil]
theorem isBB_rows {ls : List (List Int)} : IsBB (rows ls) = ∀ l ∈ ls, Byt l := by simp [IsBB, toRows_rows]
theorem rows_length {ls : List (List Int)} : (rows ls).length = ls.length := by simp [rows]
theorem rows_append {l m : List (List Int)} : rows l ++ rows m = rows (l ++ m) := by simp [rows]
theorem rows_getD {ls : List (List Int)} {n : Nat} : (rows ls).getD n (.sl 1 []) = .sl 1 (ints .u8 (ls.getD n [])) := by
  simp only [rows, List.getD_eq_getElem?_getD, List.getElem?_map]
  cases ls[n]? <;> rfl

/-! ### tables of functions -/
def FT.upd (F : FT) (f : FuncId) (s : List AV → Option Ob → Option Res) : FT := fun g => if g = f then s else F g
theorem Spec.pre {P : Program} {f : FuncId} {args : List AV} {i : Option Ob} {p : Prop} {r : AV} {o : Option Ob} (h : p → Spec P f args i ⟨True, r, o⟩) : Spec P f args i ⟨p, r, o⟩ :=
  fun w old hs vals h1 h2 h3 => h h3 w old hs vals h1 h2 trivial
theorem FOK.upd {P : Program} {F : FT} (h : FOK P F) {f : FuncId} {s : List AV → Option Ob → Option Res} {fn : Func} (hf : P.funcs[f]? = some fn) (hn : (fn.name == "runtime.NumGoroutine") = false) (hb : fn.body.isNone = false)
    (hs : ∀ args i R, s args i = some R → Spec P f args i R) : FOK P (F.upd f s) := by
  intro g args i R e
  unfold FT.upd at e
  split at e
  · rename_i eg
    subst eg
    exact ⟨⟨fn, hf, hn, hb⟩, hs args i R e⟩
  · exact h g args i R e
theorem FOK.none {P : Program} : FOK P (fun _ _ _ => Option.none) := fun _ _ _ _ h => by cases h

end Go.AM

/- AM, part 22: a region in a round of a range over a function. -/
namespace Go.AM
open Go Go.RowKit

theorem rowsIn_wide {n : Nat} {P : Program} {row : String} {args : Array Value} {w : World} {R : Value → World → Prop} (h : Rows P row args w R) : RowsIn Fence.wide n P row args w R :=
  fun c cs _ => let ⟨v, w', r, s⟩ := h c cs; ⟨v, w', r, stepsIn_wide.2 s⟩

theorem oper_wpIn {l n : Nat} {P : Program} {o : Oper} {a : Act} {w : World} {K : Act → World → Prop} {Q : Exit → Act → World → Prop} (hd : ∀ c, o.op ≠ .defer c) (h : o.wp P a w K Q) : o.wpIn (Fence.wide.inRound l) n P a w K Q := by
  refine ⟨fun f _ => trivial, ?_⟩
  have hs : Oper.semAt (Fence.wide.inRound l).round a.eval o = execOp a.eval o := Oper.semAt_some l a.eval o hd
  rw [hs]
  unfold Oper.wp at h
  generalize (execOp a.eval o).run P w = r at *
  cases r with
  | ok nx w' =>
    cases nx <;> simp only [Oper.upon, Oper.uponIn] at h ⊢ <;> first
      | exact h
      | exact h.elim
      | exact ⟨fun e => (by cases e), CallsIn.inRound l (callsIn_wide.2 h)⟩
      | exact ⟨fun e => (by cases e), rowsIn_wide h⟩
  | halt x w' => cases x <;> simp only [Oper.upon, Oper.uponIn] at h ⊢ <;> exact h

theorem opIn {l n : Nat} {P : Program} {ops : Array Oper} {Q : Exit → Act → World → Prop} (hd : ∀ o ∈ ops.toList, ∀ c, o.op ≠ .defer c) (hQ : ¬ LetsOut Q) {i : Nat} {K K' : Act → World → Prop} {a : Act} {w : World}
    (hK : ∀ a w, K a w → K' a w) (h : wpOp P ops Q i K a w) : wpOpIn (Fence.wide.inRound l) n P ops Q i K' a w := by
  unfold wpOp at h
  unfold wpOpIn
  split
  · rename_i ho; simp only [ho] at h; exact hK _ _ h
  · rename_i o ho
    simp only [ho] at h
    have hmem : o ∈ ops.toList := by
      have : ops.toList[i]? = some o := by simpa using ho
      exact List.mem_of_getElem? this
    split
    · rename_i hw
      simp only [hw, if_true] at h
      rcases h with h | h
      · exact Oper.wpIn_mono hK (oper_wpIn (hd o hmem) h)
      · exact absurd h.2 hQ
    · rename_i hw
      simp only [hw] at h
      exact ⟨fun f _ => trivial, hK _ _ h⟩

theorem anyIn {l n : Nat} {P : Program} {md : Region.Mode} {ops : Array Oper} {Q : Exit → Act → World → Prop} (hd : ∀ o ∈ ops.toList, ∀ c, o.op ≠ .defer c) (hQ : ¬ LetsOut Q) :
    ∀ (fuel : Nat) (listed : Array Bool) (a : Act) (w : World), wpAny P md ops Q fuel listed a w → wpAnyIn (Fence.wide.inRound l) n P md ops Q fuel listed a w
  | 0, listed, a, w, h => h
  | fuel + 1, listed, a, w, h => ⟨h.1, fun i hi => opIn hd hQ (fun a w => anyIn hd hQ fuel _ a w) (h.2 i hi)⟩

def noDefer (ops : List Oper) : Bool := ops.all fun o => match o.op with
  | .defer _ => false
  | _ => true

/-- A region that draws its order, in a round. -/
theorem round_draw {P : Program} {G : Cfg} {E : En} {st : St} {Q : Exit → St → Prop} (hG : G.OK P) (own : List Nat) (hm : P.follows .mixedOrders = true) {l n id : Nat} {ops : List Oper} (hd : dstOK E.N ops = true) (hnd : noDefer ops = true)
    (hout : ∀ st, ¬ Q .outgrown st) (h : ∀ K : St → Prop, (∀ st, Q .normal st → K st) → evalD G own ops K ops 0 st []) {a : Act} {w : World} {hs : List Hd} (hr : Rel E st a w hs) :
    (Code.region id ops.toArray true).wpIn (Fence.wide.inRound l) n P (Lift E Q) a w :=
  wpIn_region_any hm (anyIn (fun o ho c e => by
    have ho' : o ∈ ops := by simpa using ho
    have := List.all_eq_true.1 hnd o ho'
    rw [e] at this
    cases this) (by
    intro hl
    obtain ⟨a, w, st, hs, _, hq⟩ := hl
    exact hout st hq) _ _ _ _ (draw_any hG own hd h hr))

end Go.AM

/- AM, part 23: arguments that came in, read as data. -/
namespace Go.AM
open Go Go.RowKit

inductive AT where
  | int (k : IntKind)
  | bool
  | str
  | sl (e : Nat) (t : AT)
  | st2 (a b : AT) (ta tb : Nat)

def AT.size : AT → Nat
  | .st2 _ _ _ _ => 2
  | _ => 1

def AT.ok (P : Program) : AT → Nat → Prop
  | .int k, t => P.underlying t = some (.int k)
  | .bool, t => P.underlying t = some .bool
  | .str, t => P.underlying t = some .string
  | .sl e A, t => P.underlying t = some (.slice e) ∧ P.cellsOf e = A.size ∧ A.ok P e
  | .st2 A B ta tb, t => ∃ fields, P.underlying t = some (.struct fields) ∧ (∃ f0 f1, fields = #[f0, f1] ∧ f0.type = ta ∧ f0.offset = 0 ∧ f1.type = tb ∧ f1.offset = 1) ∧ P.cellsOf t = 2 ∧ P.cellsOf ta = 1 ∧ P.cellsOf tb = 1 ∧ A.ok P ta ∧ B.ok P tb

def AT.holds : AT → Dat → Prop
  | .int k, x => ∃ n, x = .v (.int k n) ∧ (Lit.int k n).wf = true
  | .bool, x => ∃ b, x = .v (.bool b)
  | .str, x => ∃ s, x = .v (.string s) ∧ s.size ≤ maxLen
  | .sl _ A, x => ∃ xs, x = .sl A.size xs ∧ ∀ y ∈ xs, A.holds y
  | .st2 A B _ _, x => ∃ y z, x = .agg [y, z] ∧ A.holds y ∧ B.holds z

theorem AT.holds.wd : ∀ {A : AT} {x : Dat}, A.holds x → x.wd = A.size
  | .int k, x, h => by obtain ⟨n, rfl, _⟩ := h; rfl
  | .bool, x, h => by obtain ⟨n, rfl⟩ := h; rfl
  | .str, x, h => by obtain ⟨n, rfl, _⟩ := h; rfl
  | .sl _ A, x, h => by obtain ⟨n, rfl, _⟩ := h; rfl
  | .st2 A B _ _, x, h => by obtain ⟨y, z, rfl, _⟩ := h; rfl

theorem AT.holds.nagg {A : AT} {x : Dat} (h : A.holds x) (hp : A.size = 1) : x.nagg = true := by
  cases A with
  | int k => obtain ⟨n, rfl, _⟩ := h; rfl
  | bool => obtain ⟨n, rfl⟩ := h; rfl
  | str => obtain ⟨n, rfl, _⟩ := h; rfl
  | sl _ A => obtain ⟨n, rfl, _⟩ := h; rfl
  | st2 A B _ _ => simp [AT.size] at hp

section
variable {H : Type} {enc : TypeId × Value → H} {P : Program} {w : World} {base : Nat} {spare : Nat → Bool} {held : Bool}

theorem list_of {α : Type} {p : Nat → α → Prop} : ∀ n : Nat, (∀ i, i < n → ∃ x, p i x) → ∃ l : List α, l.length = n ∧ ∀ i x, l[i]? = some x → p i x
  | 0, _ => ⟨[], rfl, fun i x h => by simp at h⟩
  | n + 1, h => by
    obtain ⟨l, hl, hp⟩ := list_of n (fun i hi => h i (by omega))
    obtain ⟨x, hx⟩ := h n (by omega)
    refine ⟨l ++ [x], by simp [hl], fun i y hy => ?_⟩
    by_cases hi : i < n
    · rw [List.getElem?_append_left (by omega)] at hy
      exact hp i y hy
    · rw [List.getElem?_append_right (by omega)] at hy
      have : i - l.length = 0 := by
        have := (List.getElem?_eq_some_iff.1 hy).1
        simp at this; omega
      rw [this] at hy
      simp at hy
      subst hy
      have : i = n := by omega
      subst this
      exact hx

theorem RL_of {B : Nat → Prop} {b off sz : Nat} : ∀ (l : List Dat), (∀ i x, l[i]? = some x → ∃ cs : List Value, Dat.R w B x cs ∧ cs.length = sz ∧ ∀ j, j < sz → w.cell? ⟨b, off + (i * sz + j), none⟩ = cs[j]?) →
    ∃ fl, Dat.RL w B l fl ∧ fl.length = l.length * sz ∧ ∀ j u, fl[j]? = some u → w.cell? ⟨b, off + j, none⟩ = some u
  | [], _ => ⟨[], by unfold Dat.RL; rfl, by simp, fun j u h => by simp at h⟩
  | x :: l, h => by
    obtain ⟨cs, h1, h2, h3⟩ := h 0 x rfl
    obtain ⟨fl, g1, g2, g3⟩ := RL_of (b := b) (off := off + sz) (sz := sz) l (fun i y hy => by
      obtain ⟨cs, k1, k2, k3⟩ := h (i + 1) y (by simpa using hy)
      refine ⟨cs, k1, k2, fun j hj => ?_⟩
      rw [← k3 j hj]
      congr 2
      rw [Nat.succ_mul]; omega)
    refine ⟨cs ++ fl, by unfold Dat.RL; exact ⟨cs, fl, rfl, h1, g1⟩, by simp [h2, g2, Nat.succ_mul]; omega, fun j u hu => ?_⟩
    by_cases hj : j < sz
    · rw [List.getElem?_append_left (by omega)] at hu
      have := h3 j hj
      rw [Nat.zero_mul, Nat.zero_add] at this
      rw [this, hu]
    · rw [List.getElem?_append_right (by omega), h2] at hu
      have := g3 (j - sz) u hu
      rw [← this]
      congr 2
      omega

theorem trod_dat : ∀ (A : AT) (fuel t : Nat) (cs : List Value) (r : DataW H × List MemPlace), A.ok P t → DataW.trod enc P w base spare held fuel t cs = some r → ∃ x, A.holds x ∧ Dat.R w (fun b => b < w.heap.size) x cs
  | .int k, fuel, t, cs, r, hA, h => by
    obtain ⟨n, rfl, _, hw⟩ := DataW.trod_int hA h
    exact ⟨.v (.int k n), ⟨n, rfl, hw⟩, by unfold Dat.R; exact ⟨rfl, rfl⟩⟩
  | .bool, fuel, t, cs, r, hA, h => by
    obtain ⟨b, rfl, _⟩ := DataW.trod_bool hA h
    exact ⟨.v (.bool b), ⟨b, rfl⟩, by unfold Dat.R; exact ⟨rfl, rfl⟩⟩
  | .str, fuel, t, cs, r, hA, h => by
    obtain ⟨s, rfl, _, hs⟩ := DataW.trod_string hA h
    exact ⟨.v (.string s), ⟨s, rfl, hs⟩, by unfold Dat.R; exact ⟨rfl, rfl⟩⟩
  | .sl e A, fuel, t, cs, r, hA, h => by
    obtain ⟨h1, h2, h3⟩ := hA
    rcases DataW.trod_slice h1 h with ⟨rfl, _⟩ | ⟨a, len, cap, elems, rest, n, _, rfl, _, hb, hl, hm, hlen, hel, _, _⟩
    · refine ⟨.sl A.size [], ⟨[], rfl, fun y hy => by cases hy⟩, ?_⟩
      unfold Dat.R
      exact ⟨none, 0, rfl, Nat.le_refl _, Nat.zero_le _, by simp, .inl rfl⟩
    · rw [h2] at hel
      have hsz : 0 < A.size := by cases A <;> simp [AT.size]
      have each : ∀ i, i < len → ∃ x, A.holds x ∧ ∃ cs : List Value, Dat.R w (fun b => b < w.heap.size) x cs ∧ cs.length = A.size ∧ ∀ j, j < A.size → w.cell? ((a.add (i * A.size)).add j) = cs[j]? := by
        intro i hi
        have hi' : i < elems.length := by omega
        have := hel i hi
        rw [List.getElem?_eq_getElem hi', Option.bind_eq_some_iff] at this
        obtain ⟨cs, g1, g2⟩ := this
        obtain ⟨_, g3, g4⟩ := World.cells?_some g1
        obtain ⟨x, hx, hR⟩ := trod_dat A n e cs _ h3 g2
        exact ⟨x, hx, cs, hR, g3, g4⟩
      obtain ⟨xs, hxl, hx⟩ := list_of len each
      refine ⟨.sl A.size xs, ⟨xs, rfl, fun y hy => ?_⟩, ?_⟩
      · obtain ⟨i, hi⟩ := List.mem_iff_getElem?.1 hy
        exact (hx i y hi).1
      unfold Dat.R
      refine ⟨some a, cap, by rw [hxl], by omega, hm, fun y hy => ?_, ?_⟩
      · obtain ⟨i, hi⟩ := List.mem_iff_getElem?.1 hy
        exact (hx i y hi).1.wd
      · by_cases h0 : len = 0
        · exact .inl (List.eq_nil_of_length_eq_zero (by omega))
        · obtain ⟨b, off, spot⟩ := a
          have hfirst : ∃ v, w.cell? ⟨b, off, spot⟩ = some v := by
            obtain ⟨x, _, cs, hR, hc, hcell⟩ := each 0 (by omega)
            have := hcell 0 hsz
            rw [List.getElem?_eq_getElem (by omega)] at this
            exact ⟨cs[0], by simpa [Addr.add] using this⟩
          obtain ⟨v, hv⟩ := hfirst
          have hspot : spot = none := by simpa using World.cell?_spot hv
          subst hspot
          obtain ⟨fl, g1, g2, g3⟩ := RL_of (w := w) (B := fun b => b < w.heap.size) (b := b) (off := off) (sz := A.size) xs (fun i x hi => by
            obtain ⟨_, cs, k1, k2, k3⟩ := hx i x hi
            refine ⟨cs, k1, k2, fun j hj => ?_⟩
            rw [← k3 j hj, Addr.add_mid, Addr.add_mid, Nat.add_assoc])
          refine .inr ⟨b, off, fl, rfl, ?_, g1, g3⟩
          have : w.heap[b]? ≠ none := by
            intro e
            simp [World.cell?, e] at hv
          simp only [ne_eq, Array.getElem?_eq_none_iff, Nat.not_le] at this
          exact this
  | .st2 A B ta tb, fuel, t, cs, r, hA, h => by
    obtain ⟨fields, h1, ⟨f0, f1, rfl, rfl, ho0, rfl, ho1⟩, h2, h3, h4, hA, hB⟩ := hA
    obtain ⟨xs, n, rfl, _, hl, hx, hf⟩ := DataW.trod_struct h1 h
    rw [h2] at hl
    have hx2 : xs.length = 2 := by simpa using hx
    have e0 := hf 0 f0 rfl
    have e1 := hf 1 f1 rfl
    rw [h3, ho0, List.getElem?_eq_getElem (by omega)] at e0
    rw [h4, ho1, List.getElem?_eq_getElem (by omega)] at e1
    obtain ⟨x0, hx0, hR0⟩ := trod_dat A n f0.type _ _ hA e0
    obtain ⟨x1, hx1, hR1⟩ := trod_dat B n f1.type _ _ hB e1
    have hcs : ∃ c0 c1, cs = [c0, c1] := by
      match cs, hl with
      | [c0, c1], _ => exact ⟨c0, c1, rfl⟩
    obtain ⟨c0, c1, rfl⟩ := hcs
    simp at hR0 hR1
    have l0 : x0.wd = 1 := by have := Dat.R.len _ _ hR0; simpa using this.symm
    have l1 : x1.wd = 1 := by have := Dat.R.len _ _ hR1; simpa using this.symm
    have n0 : x0.nagg = true := hx0.nagg (by rw [← hx0.wd, l0])
    have n1 : x1.nagg = true := hx1.nagg (by rw [← hx1.wd, l1])
    refine ⟨.agg [x0, x1], ⟨x0, x1, rfl, hx0, hx1⟩, ?_⟩
    unfold Dat.R
    unfold Dat.RF
    refine ⟨c0, [c1], rfl, n0, hR0, ?_⟩
    unfold Dat.RF
    refine ⟨c1, [], rfl, n1, hR1, ?_⟩
    unfold Dat.RF
    rfl

/-- An argument of one cell, read. -/
theorem arg_read {A : AT} {t : Nat} {v : Value} {d : DataW H} {ps : List MemPlace} (hA : A.ok P t) (h1 : A.size = 1) (h : DataW.Trod enc P w base spare held t v d ps) (hc : v.cells = #[v]) :
    ∃ x, A.holds x ∧ ∀ old : Nat → Prop, (∀ b, old b) → (AV.d x.flat x).VR (entryCx w old none []) v := by
  obtain ⟨fuel, hf⟩ := h
  rw [hc] at hf
  obtain ⟨x, hx, hR⟩ := trod_dat A fuel t [v] _ hA hf
  refine ⟨x, hx, fun old ho => ?_⟩
  have hdv : DV w (fun b => b < w.heap.size) x v := DV.of_one hR (fun fs e => by
    have := hx.nagg h1
    rw [e] at this; cases this)
  unfold AV.VR
  cases hfl : x.flat with
  | true => exact DV_flat hfl hdv
  | false => exact hdv.stable fun b hb => ⟨⟨hb, fun n h ⟨o, e⟩ => by simp [entryCx] at e, .inr ⟨rfl, ho b⟩⟩, rfl⟩
end
theorem ints_of {k : IntKind} : ∀ {xs : List Dat}, (∀ y ∈ xs, (AT.int k).holds y) → ∃ l, xs = ints k l ∧ ∀ n ∈ l, (Lit.int k n).wf = true
  | [], _ => ⟨[], rfl, fun n h => by cases h⟩
  | x :: xs, h => by
    obtain ⟨n, rfl, hn⟩ := h x (by simp)
    obtain ⟨l, rfl, hl⟩ := ints_of (xs := xs) (fun y hy => h y (by simp [hy]))
    exact ⟨n :: l, rfl, fun m hm => by rcases List.mem_cons.1 hm with rfl | hm; exact hn; exact hl m hm⟩
theorem byt_of {l : List Int} (h : ∀ n ∈ l, (Lit.int .u8 n).wf = true) : Byt l := fun b hb => by have := bounds_u8 (h b hb); omega
theorem bytes_of {e : Nat} {x : Dat} (h : (AT.sl e (.int .u8)).holds x) : ∃ l, x = .sl 1 (ints .u8 l) ∧ Byt l := by
  obtain ⟨xs, rfl, hx⟩ := h
  obtain ⟨l, rfl, hl⟩ := ints_of hx
  exact ⟨l, rfl, byt_of hl⟩
theorem rows_of {e : Nat} : ∀ {xs : List Dat}, (∀ y ∈ xs, (AT.sl e (.int .u8)).holds y) → ∃ ls, xs = rows ls ∧ ∀ l ∈ ls, Byt l
  | [], _ => ⟨[], rfl, fun n h => by cases h⟩
  | x :: xs, h => by
    obtain ⟨l, rfl, hn⟩ := bytes_of (h x (by simp))
    obtain ⟨ls, rfl, hl⟩ := rows_of (xs := xs) (e := e) (fun y hy => h y (by simp [hy]))
    exact ⟨l :: ls, rfl, fun m hm => by rcases List.mem_cons.1 hm with rfl | hm; exact hn; exact hl m hm⟩
end Go.AM

/- AM, part 24: evaluation in short: one lemma a step, the rewriting rules in bundles. -/
namespace Go.AM
open Go Go.RowKit

section
variable {P : Program} {G : Cfg} {E : En} {st st' : St} {all os : List Oper} {K : St → Prop} {own : List Nat} {i : Nat} {d : Option Nat} {p : Prop} {v : AV} {u : List (Nat × Ob)} {n : List Ob} {c : Bool} {rr oo : List Nat} {fr : Bool} {log : List LE} {t : Nat}

theorem eL {op : Op} {ty : TypeId} {ps : String} {af : Array Edge} (e : (opQ G (!own.contains i) ⟨d, op, ty, ps, af, none⟩).eval true st = .ok p v u n) (s : st.upd d v u n = st') (hp : p) (h : evalL G own all K os (i + 1) st') :
    evalL G own all K (⟨d, op, ty, ps, af, none⟩ :: os) i st := evalL_next e hp (s ▸ h)

/-- The guard, and the operation under it. -/
def evG (q : Q) (st : St) (want : Bool) : Option (Bool × Bool) → Option (Bool × Out)
  | some (c1, b) => some (c1 && (if want then b else !b), q.eval (c1 && (if want then b else !b)) st)
  | none => none
def evGR (q : Q) (st : St) (want : Bool) : Option (Bool × Bool) → Option (Bool × OutR)
  | some (c1, b) => some (c1 && (if want then b else !b), q.evalR (c1 && (if want then b else !b)) st)
  | none => none

theorem eG {op : Op} {ty : TypeId} {ps : String} {af : Array Edge} {j : Nat} {want : Bool} (ht : gslot all j = some t) (hef : Oper.ef G ⟨d, op, ty, ps, af, some (j, want)⟩ = false)
    (e : evG (opQ G true ⟨d, op, ty, ps, af, some (j, want)⟩) st want (boolOf (look t st.env)) = some (c, .ok p v [] [])) (s : st.put d (.when c v) = st') (hp : c = true → p) (h : evalL G own all K os (i + 1) st') :
    evalL G own all K (⟨d, op, ty, ps, af, some (j, want)⟩ :: os) i st := by
  cases hb : boolOf (look t st.env) with
  | none => rw [hb] at e; cases e
  | some q =>
    obtain ⟨c1, b⟩ := q
    rw [hb] at e
    simp only [evG, Option.some.injEq, Prod.mk.injEq] at e
    obtain ⟨rfl, e⟩ := e
    exact evalL_nextG ht hef hb rfl e hp (s ▸ h)

theorem eD {op : Op} {ty : TypeId} {ps : String} {af : Array Edge} {wo : List Nat} (e : (opQ G (!own.contains i) ⟨d, op, ty, ps, af, none⟩).evalR true st = .ok p v u n rr oo fr) (s : st.upd d v u n = st')
    (hw : wrs st u n = wo) (hf : Stp.wf ⟨⟨rr, oo, d, wo, fr⟩, v, u, n⟩ st = true) (hp : p) (h : evalD G own all K os (i + 1) st' (⟨rr, oo, d, wo, fr⟩ :: log)) :
    evalD G own all K (⟨d, op, ty, ps, af, none⟩ :: os) i st log := evalD_nextU e hp hw hf (s ▸ h)

theorem eDG {op : Op} {ty : TypeId} {ps : String} {af : Array Edge} {j : Nat} {want : Bool} (ht : gslot all j = some t) (hef : (Oper.ef G ⟨d, op, ty, ps, af, some (j, want)⟩ || own.contains 9999) = false)
    (e : evGR (opQ G true ⟨d, op, ty, ps, af, some (j, want)⟩) st want (boolOf (look t st.env)) = some (c, .ok p v [] [] rr oo fr)) (s : st.put d (.when c v) = st') (hp : c = true → p) (h : evalD G own all K os (i + 1) st' (⟨t :: rr, oo, d, [], fr⟩ :: log)) :
    evalD G own all K (⟨d, op, ty, ps, af, some (j, want)⟩ :: os) i st log := by
  cases hb : boolOf (look t st.env) with
  | none => rw [hb] at e; cases e
  | some q =>
    obtain ⟨c1, b⟩ := q
    rw [hb] at e
    simp only [evGR, Option.some.injEq, Prod.mk.injEq] at e
    obtain ⟨rfl, e⟩ := e
    exact evalD_nextG ht hef hb rfl e hp (s ▸ h)
end

theorem evB : type_of% (And.intro (And.intro (And.intro (And.intro (And.intro (And.intro @outR_and (And.intro @outR_rd @outR_ob)) (And.intro (And.intro @outR_new @selB_and) (And.intro @selB_or @binV_int))) (And.intro (And.intro (And.intro @binV_str @binV_ptr_eq) (And.intro @binV_ptr_ne @binV_bool_eq)) (And.intro (And.intro @binV_bool_ne @out_and) (And.intro @upd_plain @upd_none)))) (And.intro (And.intro (And.intro @upd_set (And.intro @upd_none_set @upd_new)) (And.intro (And.intro @put_some @put_none) (And.intro @ints_length @ints_append))) (And.intro (And.intro (And.intro @ints_drop @ints_take) (And.intro @ints_getD @ints_set)) (And.intro (And.intro @sl_v @slc_cons) (And.intro @slc_nil @ints_cons))))) (And.intro (And.intro (And.intro (And.intro @toInts_ints (And.intro @isB_ints @isB_nil)) (And.intro (And.intro @ints_replicate @ints_flat) (And.intro @toRows_nil @toRows_cons))) (And.intro (And.intro (And.intro @toRows_cons_nil @toRows_rows) (And.intro @isBB_nil @isBB_cons)) (And.intro (And.intro @isBB_cons_nil @isBB_rows) (And.intro @rows_length @rows_append)))) (And.intro (And.intro (And.intro (And.intro @rows_getD @byt_nil) (And.intro @byt_cons @byt_append)) (And.intro (And.intro @List.flatten_cons.{0} @List.flatten_nil.{0}) (And.intro @Bool.or_self @Bool.true_or))) (And.intro (And.intro (And.intro @List.all_cons.{0} @List.all_nil.{0}) (And.intro @List.any_cons.{0} @List.any_nil.{0})) (And.intro (And.intro @List.map_cons.{0,0} @List.map_nil.{0,0}) (And.intro @List.length_cons.{0} @List.length_nil.{0})))))) (And.intro (And.intro (And.intro (And.intro (And.intro @List.length_append.{0} (And.intro @List.zip_cons_cons.{0,0} @List.zip_nil_left.{0,0})) (And.intro (And.intro @List.zip_nil_right.{0,0} @List.nil_append.{0}) (And.intro @List.cons_append.{0} @List.append_nil.{0}))) (And.intro (And.intro (And.intro @List.set_cons_zero.{0} @List.set_cons_succ.{0}) (And.intro @List.getD_cons_zero.{0} @List.getD_cons_succ.{0})) (And.intro (And.intro @List.getD_nil.{0} @List.getElem?_cons_zero.{0}) (And.intro @List.getElem?_cons_succ.{0} @List.getElem?_nil.{0})))) (And.intro (And.intro (And.intro (And.intro @List.drop_zero.{0} @List.drop_succ_cons.{0}) (And.intro @List.take_succ_cons.{0} @List.take_zero.{0})) (And.intro (And.intro @List.foldl_cons.{0,0} @List.foldl_nil.{0,0}) (And.intro @List.size_toArray.{0} @Option.map_some.{0,0}))) (And.intro (And.intro (And.intro @Option.map_none.{0,0} @Option.bind_some.{0,0}) (And.intro @Option.bind_none.{0,0} @Nat.zero_add)) (And.intro (And.intro @Nat.add_zero @Nat.mul_one) (And.intro @beq_self_eq_true.{0} @Bool.and_true))))) (And.intro (And.intro (And.intro (And.intro @Bool.true_and (And.intro @Bool.and_self @Bool.and_false)) (And.intro (And.intro @Bool.false_and @Bool.or_false) (And.intro @Bool.or_true @Bool.false_or))) (And.intro (And.intro (And.intro @Bool.not_true @Bool.not_false) (And.intro @Bool.false_eq_true @if_true.{0})) (And.intro (And.intro @if_false.{0} @and_true) (And.intro @true_and @true_implies)))) (And.intro (And.intro (And.intro (And.intro @implies_true.{0} @forall_const.{0}) (And.intro @decide_true @decide_false)) (And.intro (And.intro @Int.toNat_natCast @Nat.min_def) (And.intro @ne_eq.{0} @not_false_eq_true))) (And.intro (And.intro (And.intro @not_true_eq_false @eq_self.{0}) (And.intro @or_true @true_or)) (And.intro (And.intro @or_self @or_false) (And.intro @false_or @Nat.lt_irrefl))))))) :=
  (And.intro (And.intro (And.intro (And.intro (And.intro (And.intro @outR_and (And.intro @outR_rd @outR_ob)) (And.intro (And.intro @outR_new @selB_and) (And.intro @selB_or @binV_int))) (And.intro (And.intro (And.intro @binV_str @binV_ptr_eq) (And.intro @binV_ptr_ne @binV_bool_eq)) (And.intro (And.intro @binV_bool_ne @out_and) (And.intro @upd_plain @upd_none)))) (And.intro (And.intro (And.intro @upd_set (And.intro @upd_none_set @upd_new)) (And.intro (And.intro @put_some @put_none) (And.intro @ints_length @ints_append))) (And.intro (And.intro (And.intro @ints_drop @ints_take) (And.intro @ints_getD @ints_set)) (And.intro (And.intro @sl_v @slc_cons) (And.intro @slc_nil @ints_cons))))) (And.intro (And.intro (And.intro (And.intro @toInts_ints (And.intro @isB_ints @isB_nil)) (And.intro (And.intro @ints_replicate @ints_flat) (And.intro @toRows_nil @toRows_cons))) (And.intro (And.intro (And.intro @toRows_cons_nil @toRows_rows) (And.intro @isBB_nil @isBB_cons)) (And.intro (And.intro @isBB_cons_nil @isBB_rows) (And.intro @rows_length @rows_append)))) (And.intro (And.intro (And.intro (And.intro @rows_getD @byt_nil) (And.intro @byt_cons @byt_append)) (And.intro (And.intro @List.flatten_cons.{0} @List.flatten_nil.{0}) (And.intro @Bool.or_self @Bool.true_or))) (And.intro (And.intro (And.intro @List.all_cons.{0} @List.all_nil.{0}) (And.intro @List.any_cons.{0} @List.any_nil.{0})) (And.intro (And.intro @List.map_cons.{0,0} @List.map_nil.{0,0}) (And.intro @List.length_cons.{0} @List.length_nil.{0})))))) (And.intro (And.intro (And.intro (And.intro (And.intro @List.length_append.{0} (And.intro @List.zip_cons_cons.{0,0} @List.zip_nil_left.{0,0})) (And.intro (And.intro @List.zip_nil_right.{0,0} @List.nil_append.{0}) (And.intro @List.cons_append.{0} @List.append_nil.{0}))) (And.intro (And.intro (And.intro @List.set_cons_zero.{0} @List.set_cons_succ.{0}) (And.intro @List.getD_cons_zero.{0} @List.getD_cons_succ.{0})) (And.intro (And.intro @List.getD_nil.{0} @List.getElem?_cons_zero.{0}) (And.intro @List.getElem?_cons_succ.{0} @List.getElem?_nil.{0})))) (And.intro (And.intro (And.intro (And.intro @List.drop_zero.{0} @List.drop_succ_cons.{0}) (And.intro @List.take_succ_cons.{0} @List.take_zero.{0})) (And.intro (And.intro @List.foldl_cons.{0,0} @List.foldl_nil.{0,0}) (And.intro @List.size_toArray.{0} @Option.map_some.{0,0}))) (And.intro (And.intro (And.intro @Option.map_none.{0,0} @Option.bind_some.{0,0}) (And.intro @Option.bind_none.{0,0} @Nat.zero_add)) (And.intro (And.intro @Nat.add_zero @Nat.mul_one) (And.intro @beq_self_eq_true.{0} @Bool.and_true))))) (And.intro (And.intro (And.intro (And.intro @Bool.true_and (And.intro @Bool.and_self @Bool.and_false)) (And.intro (And.intro @Bool.false_and @Bool.or_false) (And.intro @Bool.or_true @Bool.false_or))) (And.intro (And.intro (And.intro @Bool.not_true @Bool.not_false) (And.intro @Bool.false_eq_true @if_true.{0})) (And.intro (And.intro @if_false.{0} @and_true) (And.intro @true_and @true_implies)))) (And.intro (And.intro (And.intro (And.intro @implies_true.{0} @forall_const.{0}) (And.intro @decide_true @decide_false)) (And.intro (And.intro @Int.toNat_natCast @Nat.min_def) (And.intro @ne_eq.{0} @not_false_eq_true))) (And.intro (And.intro (And.intro @not_true_eq_false @eq_self.{0}) (And.intro @or_true @true_or)) (And.intro (And.intro @or_self @or_false) (And.intro @false_or @Nat.lt_irrefl)))))))
theorem evU : type_of% (And.intro (And.intro (And.intro @upd_plain (And.intro @upd_none @upd_set)) (And.intro (And.intro @upd_none_set @upd_new) (And.intro @put_some @put_none))) (And.intro (And.intro @List.foldl_nil.{0,0} (And.intro @List.map_nil.{0,0} @List.append_nil.{0})) (And.intro (And.intro @List.set_cons_zero.{0} @List.set_cons_succ.{0}) (And.intro @List.nil_append.{0} @List.cons_append.{0})))) :=
  (And.intro (And.intro (And.intro @upd_plain (And.intro @upd_none @upd_set)) (And.intro (And.intro @upd_none_set @upd_new) (And.intro @put_some @put_none))) (And.intro (And.intro @List.foldl_nil.{0,0} (And.intro @List.map_nil.{0,0} @List.append_nil.{0})) (And.intro (And.intro @List.set_cons_zero.{0} @List.set_cons_succ.{0}) (And.intro @List.nil_append.{0} @List.cons_append.{0}))))
end Go.AM

/- AM, part 25: a slot's value told less sharply. -/
namespace Go.AM
open Go Go.RowKit

theorem wrs_nil {st : St} : wrs st [] [] = [] := rfl
theorem AWP.tell {P : Program} {E : En} {Q : Exit → St → Prop} {st : St} {c : Code} (t : Nat) {a b : AV} (hl : look t st.env = a) (hs : AV.Sub1 a b) (h : AWP P E c Q ⟨(t, b) :: st.env, st.obs⟩) : AWP P E c Q st := fun ac w hs' hr => by
  refine h ac w hs' ⟨hr.wok, hr.df, hr.size, fun q => ?_⟩
  simp only [look]
  split
  · rename_i e
    subst e
    have := hr.env q
    rw [hl] at this
    exact hs.vr this
  · exact hr.env q
/-- nil as a list without elements. -/
theorem AWP.nilD {P : Program} {E : En} {Q : Exit → St → Prop} {st : St} {c : Code} (t : Nat) (fr : Bool) (sz : Nat) {g : Bool} (hl : look t st.env = .d g (.v (.slice none 0 0))) (h : AWP P E c Q ⟨(t, .d fr (.sl sz [])) :: st.env, st.obs⟩) : AWP P E c Q st :=
  AWP.tell t hl (.nil g fr sz) h
end Go.AM

/- AM, part 26: a buffer taken as its cell and its row; nil in a cell taken for an own row; cells taken for a buffer. -/
namespace Go.AM
open Go Go.RowKit

def AV.plainB : AV → Bool
  | .d _ _ => true
  | .ptr 0 _ => true
  | _ => false

section
variable {C C' : Cx} {b : Nat}
theorem VR.plainB (hw : C'.w = C.w) (hS : ∀ fr x, C.Sh fr x → C'.Sh fr x) (h0 : ∀ v off, (AV.ptr 0 off).VR C v → (AV.ptr 0 off).VR C' v) {a : AV} {v : Value} (hp : a.plainB = true) (h : a.VR C v) : a.VR C' v := by
  cases a with
  | d fr x =>
    unfold AV.VR at h ⊢
    exact h.stable fun b hb => ⟨hS fr b hb, by rw [hw]⟩
  | ptr n off =>
    cases n with
    | zero => exact h0 v off h
    | succ n => simp [AV.plainB] at hp
  | _ => simp [AV.plainB] at hp
theorem VL.plainB (hw : C'.w = C.w) (hS : ∀ fr x, C.Sh fr x → C'.Sh fr x) (h0 : ∀ v off, (AV.ptr 0 off).VR C v → (AV.ptr 0 off).VR C' v) : ∀ {as : List AV} {vs : List Value}, as.all AV.plainB = true → AV.VL C as vs → AV.VL C' as vs
  | [], vs, _, h => by unfold AV.VL at h ⊢; exact h
  | a :: as, vs, hp, h => by
    simp only [List.all_cons, Bool.and_eq_true] at hp
    unfold AV.VL at h ⊢
    obtain ⟨v, rest, rfl, h1, h2⟩ := h
    exact ⟨v, rest, rfl, VR.plainB hw hS h0 hp.1 h1, VL.plainB hw hS h0 hp.2 h2⟩
end

theorem buf_hd {w : World} {old : Nat → Prop} {hs : List Hd} {E Er szr : Nat} {xs : List Dat} (h : WOK w hs (entryCx w old (some (.buf E Er szr xs)) hs)) :
    ∃ b v, hs = [.buf b v] ∧ (Ob.buf E Er szr xs).OR (entryCx w old (some (.buf E Er szr xs)) [.buf b v]) (.buf b v) := by
  have hlen := h.len
  obtain ⟨k, rfl⟩ : ∃ k, hs = [k] := List.length_eq_one_iff.1 (by simpa [entryCx] using hlen.symm)
  have hor := h.objs 0 _ k rfl rfl
  cases k with
  | buf b v => exact ⟨b, v, rfl, hor⟩
  | _ => exact hor.elim

theorem two_get {α : Type} {a b : α} {n : Nat} {x : α} (h : [a, b][n]? = some x) : (n = 0 ∧ x = a) ∨ (n = 1 ∧ x = b) := by
  cases n with
  | zero => simp at h; exact .inl ⟨rfl, h.symm⟩
  | succ n => cases n with
    | zero => simp at h; exact .inr ⟨rfl, h.symm⟩
    | succ n => simp at h

theorem spec_of_buf {P : Program} {G : Cfg} (hG : G.OK P) {f : FuncId} {fn : Func} {c : Code} {args : List AV} {Et Er : Nat} {xs xs' : List Dat} {R : Res} (hne : Et ≠ Er) (hf : P.funcs[f]? = some fn) (hb : fn.body = some c) (hn : args.length ≤ fn.ntmps)
    (hpa : args.all AV.plainB = true) (hpr : R.r.plainB = true) (hxs' : ∀ x ∈ xs', ∃ q, x = .v q) (hRo : R.o = some (.buf Et Er 1 xs'))
    (h : ∀ E : En, E.ps.length = 2 → E.N = fn.ntmps → R.pre → AWP P E c (fun e st => (e = .ret ∨ e = .normal) ∧ Back G.T fn.results.toList ⟨True, R.r, none⟩ st ∧
      ∃ γ fr, st.obs[0]? = some (some (.cells Et [.own 1 γ])) ∧ st.obs[1]? = some (some (.row Er 1 γ fr xs'))) ⟨(begin args none).env, [some (.cells Et [.own 1 0]), some (.row Er 1 0 true xs)]⟩) :
    Spec P f args (some (.buf Et Er 1 xs)) R := by
  intro w old hs vals wok hvl hpre
  have hvn := VL.len hvl
  obtain ⟨b, v, rfl, hor⟩ := buf_hd wok
  obtain ⟨hcell0, _, hflat, fl, hRL, hown⟩ := hor
  have hcell : w.heap[b]? = some (.cells #[v] Et (0, 0)) := hcell0
  have hown : w.ownsRow 0 Er 1 v xs.length fl := hown
  have hbne : ∀ g, v.ownBlock = some g → g ≠ b := fun g hg e => by
    subst e
    rcases hown.2 with ⟨rfl, _⟩ | ⟨g', cap, cur, rfl, _, h4, _⟩
    · cases hg
    · simp [Value.ownBlock] at hg
      subst hg
      have h4' : w.heap[g']? = _ := h4
      rw [hcell] at h4'
      simp at h4'
      exact hne h4'.2
  have hblt : b < w.heap.size := (Array.getElem?_eq_some_iff.1 hcell).1
  let E : En := ⟨w, old, [.ptr b, .row v], fn.ntmps⟩
  let st0 : St := ⟨(begin args none).env, [some (.cells Et [.own 1 0]), some (.row Er 1 0 true xs)]⟩
  let C0 : Cx := st0.cx E w [.ptr b, .row v]
  have hSh0 : ∀ fr x, (entryCx w old (some (.buf Et Er 1 xs)) [.buf b v]).Sh fr x → C0.Sh fr x := fun fr x hx => ⟨hx.1, fun n k ha hk hbk => by
    have hall := hx.2.1 0 (.buf b v) ⟨_, rfl⟩ rfl
    simp only [Hd.blks, List.mem_cons, not_or] at hall
    rcases two_get (show ([.ptr b, .row v] : List Hd)[n]? = some k from hk) with ⟨rfl, rfl⟩ | ⟨rfl, rfl⟩
    · simp [Hd.blks] at hbk; exact hall.1 hbk
    · exact hall.2 hbk, hx.2.2⟩
  have hwok : WOK w [.ptr b, .row v] C0 := {
    b0 := rfl, os := rfl, tape := rfl, output := rfl, size := Nat.le_refl _, len := rfl, frame := fun _ _ _ => rfl
    objs := fun n o k e1 e2 => by
      rcases two_get (show ([.ptr b, .row v] : List Hd)[n]? = some k from e2) with ⟨rfl, rfl⟩ | ⟨rfl, rfl⟩
      · have e1' : (Ob.cells Et [AV.own 1 0]) = o := by simpa [C0, st0, St.cx] using e1
        subst e1'
        refine ⟨[v], hcell, ?_, fun u hu => ?_⟩
        · unfold AV.VL
          refine ⟨v, [], rfl, ?_, by unfold AV.VL; rfl⟩
          unfold AV.VR
          exact ⟨by simp [C0, st0, St.cx], fun E' sz γ0 fr xs0 _ => ⟨Nat.zero_le _, fun _ => rfl⟩⟩
        · simp at hu
          subst hu
          obtain ⟨A, cc, rfl, _⟩ := owns_slice hown
          rfl
      · have e1' : (Ob.row Er 1 0 true xs) = o := by simpa [C0, st0, St.cx] using e1
        subst e1'
        exact ⟨by decide, fun x hx => by obtain ⟨q, rfl⟩ := hflat x hx; rfl, fl, RL_flat hflat hRL, hown⟩
    dist := fun n m k k' hnm _ _ e1 e2 x hx hx' => by
      rcases two_get (show ([.ptr b, .row v] : List Hd)[n]? = some k from e1) with ⟨rfl, rfl⟩ | ⟨rfl, rfl⟩ <;>
        rcases two_get (show ([.ptr b, .row v] : List Hd)[m]? = some k' from e2) with ⟨rfl, rfl⟩ | ⟨rfl, rfl⟩
      · exact hnm rfl
      · simp only [Hd.blks, List.mem_cons, List.not_mem_nil, or_false, Option.mem_toList] at hx hx'
        exact hbne x hx' hx
      · simp only [Hd.blks, List.mem_cons, List.not_mem_nil, or_false, Option.mem_toList] at hx hx'
        exact hbne x hx hx'
      · exact hnm rfl
    new := fun n k _ e2 x hx => .inr ⟨(List.getElem?_eq_some_iff.1 e2).1, k, List.mem_of_getElem? e2, hx⟩
    plen := Nat.le_refl _
    parP := fun i x e => e
    parB := fun i x u e => ⟨u, e⟩
    parR := fun i x E' sz fr xs0 e _ => e }
  have hvl0 : AV.VL C0 args vals := VL.plainB (C := entryCx w old (some (.buf Et Er 1 xs)) [.buf b v]) (C' := C0) rfl hSh0 (fun u off hu => by
    unfold AV.VR at hu ⊢
    refine ⟨by simp [C0, st0, St.cx], fun o _ => ?_⟩
    obtain ⟨b', hb', e⟩ := hu.2 _ rfl
    have : b' = b := by
      rcases hb' with hb' | ⟨y, hb'⟩ <;> simp [entryCx] at hb'
      exact hb'.1.symm
    subst this
    exact ⟨b', .inl rfl, e⟩) hpa hvl
  have hrel : Rel E st0 { tmps := vals.toArray ++ Array.replicate (fn.ntmps - vals.toArray.size) undef, defers := [] } w [.ptr b, .row v] := by
    refine ⟨hwok, rfl, by simp [E]; omega, fun t => ?_⟩
    show (look t ((args.zipIdx 0).map (fun p => (p.2, p.1)))).VR _ _
    rw [look_begin args 0 t]
    simp only [Nat.zero_le, if_true, Nat.sub_zero]
    cases ht : args[t]? with
    | none => simp only [Option.getD_none]; unfold AV.VR; trivial
    | some av =>
      obtain ⟨y, hy, hvr⟩ := VL.get hvl0 ht
      have hlt : t < vals.length := (List.getElem?_eq_some_iff.1 hy).1
      have e : (vals.toArray ++ Array.replicate (fn.ntmps - vals.toArray.size) undef).getD t undef = y := by
        have h1 : (vals.toArray ++ Array.replicate (fn.ntmps - vals.toArray.size) undef)[t]? = some y := by
          rw [Array.getElem?_append_left (by simpa using hlt)]
          simpa using hy
        rw [Array.getD_eq_getD_getElem?, h1]; rfl
      simp only [e, Option.getD_some]
      exact hvr
  refine calls_of_wp hf hb (Code.wp_mono ?_ (h E rfl rfl hpre _ w [.ptr b, .row v] hrel))
  intro e a w' ⟨st, hs', hr, he, hback, γ, fr, ho0, ho1⟩
  obtain ⟨y, h1, h2⟩ := results_sound hG.T hr hback
  -- behind
  have k0 := hr.wok.parP 0 b rfl
  obtain ⟨k1, hk1⟩ := hr.wok.hd (n := 1) (alive_lt (C := st.cx E w' hs') ⟨_, ho1⟩)
  obtain ⟨v', rfl, _, hz', fl', hRL', hown'⟩ := OR.row_val (hr.wok.objs 1 _ _ ho1 hk1)
  obtain ⟨b2, e2, vs, hc', hv', _⟩ := OR.cells_val (hr.wok.objs 0 _ _ ho0 k0)
  cases e2
  unfold AV.VL at hv'
  obtain ⟨u, rest, rfl, hu, hrest⟩ := hv'
  unfold AV.VL at hrest
  subst hrest
  unfold AV.VR at hu
  have hu2 := (hu.2 _ _ _ _ _ ho1).2 rfl
  have hu3 : hs'[1]? = some (.row u) := hu2
  have hk1' : hs'[1]? = some (.row v') := hk1
  rw [hk1'] at hu3
  cases hu3
  let C2 : Cx := ⟨w', w.heap.size, old, [some (.buf Et Er 1 xs')], [.buf b v']⟩
  have hSh2 : ∀ fr x, (st.cx E w' hs').Sh fr x → C2.Sh fr x := fun fr x hx => ⟨hx.1, fun n k ha hk hbk => by
    have hk' : ([.buf b v'] : List Hd)[n]? = some k := hk
    cases n with
    | zero =>
      simp at hk'
      subst hk'
      simp only [Hd.blks, List.mem_cons] at hbk
      rcases hbk with hbk | hbk
      · exact hx.2.1 0 _ ⟨_, ho0⟩ k0 (by simp [Hd.blks, hbk])
      · exact hx.2.1 1 _ ⟨_, ho1⟩ hk1 hbk
    | succ n => simp at hk', hx.2.2⟩
  have hvr2 : R.r.VR C2 y := VR.plainB (C := st.cx E w' hs') (C' := C2) rfl hSh2 (fun u off hu => by
    unfold AV.VR at hu ⊢
    refine ⟨by simp [C2], fun o _ => ?_⟩
    obtain ⟨b', hb', e⟩ := hu.2 _ ho0
    have k0' : hs'[0]? = some (.ptr b) := k0
    have : b' = b := by
      have e0 : (st.cx E w' hs').hs = hs' := rfl
      rw [e0, k0'] at hb'
      rcases hb' with hb' | ⟨y, hb'⟩ <;> simp at hb'
      exact hb'.symm
    subst this
    exact ⟨b', .inr ⟨v', rfl⟩, e⟩) hpr h2
  have wok2 : WOK w [.buf b v] C2 := {
    b0 := rfl, os := hr.wok.os, tape := hr.wok.tape, output := hr.wok.output, size := hr.wok.size, len := rfl
    frame := fun x hx hp => hr.wok.frame x hx (fun k hk => by
      have := hp _ (List.mem_singleton.2 rfl)
      simp only [Hd.blks, List.mem_cons, not_or] at this
      have hk' : k ∈ [Hd.ptr b, Hd.row v] := hk
      simp only [List.mem_cons, List.not_mem_nil, or_false] at hk'
      rcases hk' with rfl | rfl
      · simp only [Hd.blks, List.mem_cons, List.not_mem_nil, or_false]; exact this.1
      · exact this.2)
    objs := fun n o k e1 e2 => by
      cases n with
      | zero =>
        simp [C2] at e1 e2
        subst e1
        subst e2
        exact ⟨hc', rfl, hxs', fl', RL_flat hxs' hRL', hown'⟩
      | succ n => simp [C2] at e1
    dist := fun n m k k' hnm ⟨o1, h1⟩ ⟨o2, h2⟩ => by
      have h1' : n < 1 := by have := (List.getElem?_eq_some_iff.1 h1).1; simpa [C2] using this
      have h2' : m < 1 := by have := (List.getElem?_eq_some_iff.1 h2).1; simpa [C2] using this
      omega
    new := fun n k ⟨o, e1⟩ e2 x hx => by
      cases n with
      | zero =>
        simp [C2] at e2
        subst e2
        simp only [Hd.blks, List.mem_cons] at hx
        rcases hx with rfl | hx
        · exact .inr ⟨by simp, _, List.mem_singleton.2 rfl, by simp [Hd.blks]⟩
        · rcases hr.wok.new 1 _ ⟨_, ho1⟩ hk1 x hx with h3 | ⟨_, p, hp, hxp⟩
          · exact .inl h3
          · refine .inr ⟨by simp, _, List.mem_singleton.2 rfl, ?_⟩
            have hp' : p ∈ [Hd.ptr b, Hd.row v] := hp
            simp only [List.mem_cons, List.not_mem_nil, or_false] at hp'
            rcases hp' with rfl | rfl
            · simp only [Hd.blks, List.mem_cons, List.not_mem_nil, or_false] at hxp ⊢; exact .inl hxp
            · simp only [Hd.blks, List.mem_cons] at hxp ⊢; exact .inr hxp
      | succ n => simp [C2] at e1
    plen := Nat.le_refl _
    parP := fun i x e => by cases i <;> simp at e
    parB := fun i x u e => by
      cases i with
      | zero => simp at e; obtain ⟨rfl, rfl⟩ := e; exact ⟨v', rfl⟩
      | succ i => simp at e
    parR := fun i x E' sz fr xs0 e _ => by cases i <;> simp at e }
  have fin : a.defers = [] ∧ ∃ y', (results fn a.tmps).run P w' = .ok y' w' ∧ ∃ v_1 obs' hs'_1, Ending.returned y' = .returned v_1 ∧ WOK w [.buf b v] ⟨w', w.heap.size, old, obs', hs'_1⟩ ∧
      R.r.VR ⟨w', w.heap.size, old, obs', hs'_1⟩ v_1 ∧ (∀ ob, R.o = some ob → obs'[0]? = some (some ob)) :=
    ⟨hr.df, y, h1, y, _, _, rfl, wok2, hvr2, fun ob e => by rw [hRo] at e; cases e; rfl⟩
  rcases he with rfl | rfl
  · exact fin
  · exact fin

/-- A region that draws its order, at a body's end. -/
theorem AWP.dn {P : Program} {E : En} {Q : Exit → St → Prop} {st : St} {G : Cfg} (hG : G.OK P) (own ks : List Nat) (hm : P.follows .mixedOrders = true) {id : Nat} {ops : List Oper} (hd : dstOK E.N ops = true)
    (h : ∀ K : St → Prop, (∀ st, Q .normal (st.keep ks) → K st) → evalD G own ops K ops 0 st []) : AWP P E (.region id ops.toArray true) Q st := fun a w hs hr => by
  have h1 := AWP.draw hG own hm hd (Q := fun e st => match e with | .normal => Q .normal (st.keep ks) | e => Q e st) (id := id) (fun K hK => h K fun st hst => hK st hst) a w hs hr
  refine Code.wp_mono (fun e a w ⟨st, hs, hr, hq⟩ => ?_) h1
  cases e with
  | normal => exact ⟨_, hs, hr.weak (Weak.keep ks st), hq⟩
  | _ => exact ⟨st, hs, hr, hq⟩

theorem VL.setv {C : Cx} {a : AV} {v : Value} : ∀ {as : List AV} {vs : List Value} {j : Nat}, AV.VL C as vs → vs[j]? = some v → a.VR C v → AV.VL C (as.set j a) vs
  | [], vs, j, h, _, _ => by simpa using h
  | x :: as, vs, j, h, hj, ha => by
    unfold AV.VL at h
    obtain ⟨y, rest, rfl, h1, h2⟩ := h
    cases j with
    | zero =>
      simp at hj
      subst hj
      simp only [List.set_cons_zero]
      unfold AV.VL
      exact ⟨y, rest, rfl, ha, h2⟩
    | succ j =>
      simp only [List.set_cons_succ]
      unfold AV.VL
      exact ⟨y, rest, rfl, h1, VL.setv h2 (by simpa using hj) ha⟩

/-- nil in a cell, as an own row. -/
theorem AWP.adoptC {P : Program} {E : En} {Q : Exit → St → Prop} {st : St} {c : Code} (m j e sz : Nat) (hz : 0 < sz) {Et : Nat} {cs : List AV} {fr : Bool} (ho : st.obs[m]? = some (some (.cells Et cs))) (hj : cs[j]? = some (.d fr (.v (.slice none 0 0))))
    (h : AWP P E c Q ⟨st.env, (st.obs ++ [some (Ob.row e sz 0 true [])]).set m (some (.cells Et (cs.set j (.own st.obs.length 0))))⟩) : AWP P E c Q st := fun a w hs hr => by
  have hlen : st.obs.length = hs.length := hr.wok.len
  have hm : m < st.obs.length := (List.getElem?_eq_some_iff.1 ho).1
  have hor : (Ob.row e sz 0 true []).OR ((st.cx E w hs).add w (.row e sz 0 true []) (.row (.slice none 0 0))) (.row (.slice none 0 0)) :=
    ⟨hz, by simp, [], by unfold Dat.RL; rfl, by simp, .inl ⟨rfl, rfl⟩⟩
  have hb : Below w.heap.size w w := Below.refl _ _
  have le := Cx.Le.add (C := st.cx E w hs) (o := .row e sz 0 true []) (h := .row (.slice none 0 0)) hlen hb (by simp [Hd.blks, Value.ownBlock])
  have wok := hr.wok.add hb (k := .row (.slice none 0 0)) (by simp [Hd.blks, Value.ownBlock]) hor
  have hr1 : Rel E ⟨st.env, st.obs ++ [some (.row e sz 0 true [])]⟩ a w (hs ++ [.row (.slice none 0 0)]) := hr.le le wok
  have ho1 : (st.obs ++ [some (.row e sz 0 true [])])[m]? = some (some (.cells Et cs)) := by rw [List.getElem?_append_left hm]; exact ho
  obtain ⟨hd, e3, h3⟩ := hr1.obj ho1
  obtain ⟨b, rfl, vs, hc, hv, h1⟩ := OR.cells_val h3
  obtain ⟨vj, hvj, hvr⟩ := VL.get hv hj
  have hnil : vj = .slice none 0 0 := vr_int hvr
  subst hnil
  have hw : Wrote w w (Hd.ptr b).blks := ⟨rfl, rfl, rfl, Nat.le_refl _, fun _ _ _ => rfl⟩
  have hf : (Ob.cells Et cs).follows (.ptr b) (.cells Et (cs.set j (.own st.obs.length 0))) (.ptr b) :=
    ⟨fun E2 sz2 γ2 fr2 xs2 e => (by cases e), fun b e => e, fun b q e => (by cases e)⟩
  have le2 := Cx.Le.setO (C := (St.mk st.env (st.obs ++ [some (Ob.row e sz 0 true [])])).cx E w (hs ++ [Hd.row (.slice none 0 0)])) (o' := .cells Et (cs.set j (.own st.obs.length 0))) hr1.wok.len ho1 e3 hw (fun b hb => .inl hb) hf
  have wok2 := hr1.wok.setO ho1 e3 hw (fun b hb => .inl hb) hf (o' := .cells Et (cs.set j (.own st.obs.length 0))) (by
    refine ⟨vs, hc, VL.setv (AV.VL.le le2 _ _ hv) hvj ?_, h1⟩
    unfold AV.VR
    refine ⟨by simp [St.cx, Cx.setO], fun E2 sz2 γ0 fr2 xs2 he => ?_⟩
    have hne : m ≠ st.obs.length := by omega
    have he' : ((st.obs ++ [some (Ob.row e sz 0 true [])]).set m (some (.cells Et (cs.set j (.own st.obs.length 0)))))[st.obs.length]? = some (some (.row E2 sz2 γ0 fr2 xs2)) := he
    rw [List.getElem?_set_ne hne, List.getElem?_append_right (Nat.le_refl _), Nat.sub_self] at he'
    simp at he'
    obtain ⟨_, _, rfl, _, _⟩ := he'
    refine ⟨Nat.le_refl _, fun _ => ?_⟩
    show ((hs ++ [Hd.row (.slice none 0 0)]).set m (.ptr b))[st.obs.length]? = _
    rw [List.getElem?_set_ne hne, hlen, List.getElem?_append_right (Nat.le_refl _), Nat.sub_self]
    rfl)
  exact h a w _ (hr1.le le2 wok2)

/-- Cells that hold nil alone, as a buffer: the object goes, another comes in its place. -/
theorem AWP.tobuf {P : Program} {E : En} {Q : Exit → St → Prop} {st : St} {c : Code} (t m Er : Nat) {Et : Nat} {fr : Bool} (hm : E.ps.length ≤ m) (hl : look t st.env = .ptr m 0) (ho : st.obs[m]? = some (some (.cells Et [.d fr (.v (.slice none 0 0))])))
    (h : AWP P E c Q ⟨(t, .ptr st.obs.length 0) :: st.env, st.obs.set m none ++ [some (.buf Et Er 1 [])]⟩) : AWP P E c Q st := fun a w hs hr => by
  have hlen : st.obs.length = hs.length := hr.wok.len
  have hmlt : m < st.obs.length := (List.getElem?_eq_some_iff.1 ho).1
  obtain ⟨hd, e3, h3⟩ := hr.obj ho
  obtain ⟨b, rfl, vs, hc, hv, h1⟩ := OR.cells_val h3
  have e3 : hs[m]? = some (.ptr b) := e3
  obtain ⟨v0, hv0, hvr⟩ := VL.get (i := 0) hv rfl
  have hnil : v0 = .slice none 0 0 := vr_int hvr
  subst hnil
  have hvs : vs = [.slice none 0 0] := by
    have := VL.len hv
    match vs, this, hv0 with
    | [y], _, e => simp at e; rw [e]
  subst hvs
  let obs2 := st.obs.set m none ++ [some (.buf Et Er 1 [])]
  let hs2 := hs ++ [Hd.buf b (.slice none 0 0)]
  let C := st.cx E w hs
  let C2 : Cx := ⟨w, E.w0.heap.size, E.old, obs2, hs2⟩
  have am : C.alive m := ⟨_, ho⟩
  have get : ∀ (n : Nat) (o : Ob), obs2[n]? = some (some o) → (n < st.obs.length ∧ n ≠ m ∧ st.obs[n]? = some (some o)) ∨ (n = st.obs.length ∧ o = .buf Et Er 1 []) := by
    intro n o e
    simp only [obs2] at e
    by_cases hn : n < st.obs.length
    · rw [List.getElem?_append_left (by simpa using hn)] at e
      have hne : n ≠ m := by
        rintro rfl
        rw [List.getElem?_set_self hn] at e
        cases e
      rw [List.getElem?_set_ne (Ne.symm hne)] at e
      exact .inl ⟨hn, hne, e⟩
    · rw [List.getElem?_append_right (by simpa using hn)] at e
      have h0 : n - (st.obs.set m none).length = 0 := by
        have := (List.getElem?_eq_some_iff.1 e).1
        simp at this ⊢; omega
      rw [h0] at e
      simp at e h0
      exact .inr ⟨by omega, e.symm⟩
  have hget : ∀ (n : Nat) (k : Hd), hs2[n]? = some k → (n < st.obs.length ∧ hs[n]? = some k) ∨ (n = st.obs.length ∧ k = .buf b (.slice none 0 0)) := by
    intro n k e
    simp only [hs2] at e
    by_cases hn : n < st.obs.length
    · rw [List.getElem?_append_left (by omega)] at e
      exact .inl ⟨hn, e⟩
    · rw [List.getElem?_append_right (by omega)] at e
      have h0 : n - hs.length = 0 := by
        have := (List.getElem?_eq_some_iff.1 e).1
        simp at this; omega
      rw [h0] at e
      simp at e
      exact .inr ⟨by omega, e.symm⟩
  have hSh : ∀ fr x, C.Sh fr x → C2.Sh fr x := fun fr x hx => ⟨hx.1, fun n k ⟨o, ho2⟩ hk hbk => by
    rcases get n o ho2 with ⟨hn, hne, ho3⟩ | ⟨hn, _⟩
    · rcases hget n k hk with ⟨_, hk'⟩ | ⟨hn', _⟩
      · exact hx.2.1 n k ⟨o, ho3⟩ hk' hbk
      · omega
    · rcases hget n k hk with ⟨hn', _⟩ | ⟨_, rfl⟩
      · omega
      · simp [Hd.blks, Value.ownBlock] at hbk
        subst hbk
        exact hx.2.1 m (.ptr x) am e3 (by simp [Hd.blks]), hx.2.2⟩
  have le : C.Le C2 := {
    b0 := rfl, old := rfl
    len := by simp [C, C2, St.cx, obs2]
    sh := fun fr x hx => ⟨hSh fr x hx, rfl⟩
    row := fun n E' sz γ fr' xs hn e => by
      have hn' : n < st.obs.length := hn
      rcases get n _ e with ⟨_, _, e'⟩ | ⟨hn2, _⟩
      · exact ⟨E', sz, γ, fr', xs, e', Nat.le_refl _, fun _ => by show hs2[n]? = hs[n]?; simp only [hs2]; rw [List.getElem?_append_left (by omega)]⟩
      · omega
    ptr := fun n o hn e => by
      have hn' : n < st.obs.length := hn
      rcases get n _ e with ⟨_, _, e'⟩ | ⟨hn2, _⟩
      · have hh : hs2[n]? = hs[n]? := by simp only [hs2]; rw [List.getElem?_append_left (by omega)]
        exact ⟨⟨o, e'⟩, fun x => ⟨fun g => by show hs2[n]? = _; rw [hh]; exact g, fun u g => ⟨u, by show hs2[n]? = _; rw [hh]; exact g⟩⟩⟩
      · omega }
  have hw := hr.wok
  have wok2 : WOK E.w0 E.ps C2 := {
    b0 := rfl, os := hw.os, tape := hw.tape, output := hw.output, size := hw.size
    len := by simp [C2, obs2, hs2, hlen]
    frame := hw.frame
    objs := fun n o k e1 e2 => by
      rcases get n o e1 with ⟨hn, hne, ho3⟩ | ⟨hn, rfl⟩
      · rcases hget n k e2 with ⟨_, hk'⟩ | ⟨hn', _⟩
        · exact (hw.objs n o k ho3 hk').le le fun _ _ => rfl
        · omega
      · rcases hget n k e2 with ⟨hn', _⟩ | ⟨_, rfl⟩
        · omega
        · exact ⟨hc, rfl, (fun x hx => by cases hx), [], (by unfold Dat.RL; rfl), by simp, .inl ⟨rfl, rfl⟩⟩
    dist := fun n n' k k' hnn ⟨o, ho2⟩ ⟨o', ho2'⟩ hk hk' x hx hx' => by
      have key : ∀ (n : Nat) (o : Ob) (k : Hd), obs2[n]? = some (some o) → hs2[n]? = some k → x ∈ k.blks → ∃ q k0, C.alive q ∧ hs[q]? = some k0 ∧ x ∈ k0.blks ∧ (q = n ∨ (q = m ∧ n = st.obs.length)) ∧ n ≠ m := by
        intro n o k e1 e2 hx
        rcases get n o e1 with ⟨hn, hne, ho3⟩ | ⟨hn, rfl⟩
        · rcases hget n k e2 with ⟨_, hk'⟩ | ⟨hn', _⟩
          · exact ⟨n, k, ⟨o, ho3⟩, hk', hx, .inl rfl, hne⟩
          · omega
        · rcases hget n k e2 with ⟨hn', _⟩ | ⟨_, rfl⟩
          · omega
          · exact ⟨m, .ptr b, am, e3, by simpa [Hd.blks, Value.ownBlock] using hx, .inr ⟨rfl, hn⟩, by omega⟩
      obtain ⟨q, k0, aq, hq, hxq, hqn, hnm⟩ := key n o k ho2 hk hx
      obtain ⟨q', k0', aq', hq', hxq', hqn', hnm'⟩ := key n' o' k' ho2' hk' hx'
      refine hw.dist q q' k0 k0' ?_ aq aq' hq hq' x hxq hxq'
      rcases hqn with rfl | ⟨rfl, e1⟩ <;> rcases hqn' with rfl | ⟨rfl, e2⟩
      · exact hnn
      · exact hnm
      · exact Ne.symm hnm'
      · omega
    new := fun n k ⟨o, ho2⟩ hk x hx => by
      rcases get n o ho2 with ⟨hn, hne, ho3⟩ | ⟨hn, rfl⟩
      · rcases hget n k hk with ⟨_, hk'⟩ | ⟨hn', _⟩
        · exact hw.new n k ⟨o, ho3⟩ hk' x hx
        · omega
      · rcases hget n k hk with ⟨hn', _⟩ | ⟨_, rfl⟩
        · omega
        · rcases hw.new m _ am e3 x (by simpa [Hd.blks, Value.ownBlock] using hx) with h4 | ⟨h4, _⟩
          · exact .inl h4
          · omega
    plen := by have := hw.plen; show E.ps.length ≤ hs2.length; have h5 : E.ps.length ≤ hs.length := this; simp [hs2]; omega
    parP := fun i x e => by
      have h4 := hw.parP i x e
      have h5 : hs[i]? = some (.ptr x) := h4
      show hs2[i]? = _
      simp only [hs2]
      rw [List.getElem?_append_left (List.getElem?_eq_some_iff.1 h5).1]
      exact h5
    parB := fun i x u e => by
      obtain ⟨u', h4⟩ := hw.parB i x u e
      have h5 : hs[i]? = some (.buf x u') := h4
      refine ⟨u', ?_⟩
      show hs2[i]? = _
      simp only [hs2]
      rw [List.getElem?_append_left (List.getElem?_eq_some_iff.1 h5).1]
      exact h5
    parR := fun i x E' sz fr' xs e e2 => by
      rcases get i _ e2 with ⟨hn, hne, ho3⟩ | ⟨hn, e4⟩
      · have h5 : hs[i]? = some (.row x) := hw.parR i x E' sz fr' xs e ho3
        show hs2[i]? = _
        simp only [hs2]
        rw [List.getElem?_append_left (List.getElem?_eq_some_iff.1 h5).1]
        exact h5
      · cases e4 }
  refine h a w hs2 ⟨wok2, hr.df, hr.size, fun q => ?_⟩
  simp only [look]
  split
  · rename_i eq
    subst eq
    have hv2 := hr.env q
    rw [hl] at hv2
    unfold AV.VR at hv2 ⊢
    refine ⟨by simp [St.cx], fun o _ => ?_⟩
    obtain ⟨b', hb', e⟩ := hv2.2 _ ho
    have : b' = b := by
      have e0 : (st.cx E w hs).hs = hs := rfl
      rw [e0, e3] at hb'
      rcases hb' with hb' | ⟨y, hb'⟩ <;> simp at hb'
      exact hb'.symm
    subst this
    refine ⟨b', .inr ⟨.slice none 0 0, ?_⟩, e⟩
    show hs2[st.obs.length]? = _
    simp only [hs2, hlen]
    rw [List.getElem?_append_right (Nat.le_refl _), Nat.sub_self]
    rfl
  · exact AV.VR.le (C := C) le _ _ (hr.env q)
end Go.AM

/- AM, part 27: lists of pairs, of spans. -/
namespace Go.AM
open Go Go.RowKit

/-- A pair of seg: a code, a glyph. -/
def pr (p : Int × Int) : Dat := .agg [.v (.int .i32 p.1), .v (.int .u16 p.2)]
def unpr : Dat → Int × Int
  | .agg [.v (.int _ a), .v (.int _ b)] => (a, b)
  | _ => (0, 0)
def prs (l : List (Int × Int)) : List Dat := l.map pr
def toPrs (xs : List Dat) : List (Int × Int) := xs.map unpr
theorem toPrs_prs {l : List (Int × Int)} : toPrs (prs l) = l := by
  induction l with
  | nil => rfl
  | cons a l ih => simp only [toPrs, prs, List.map_cons, List.cons.injEq] at ih ⊢; exact ⟨rfl, ih⟩
theorem prs_length {l : List (Int × Int)} : (prs l).length = l.length := by simp [prs]
theorem prs_append {l m : List (Int × Int)} : prs l ++ prs m = prs (l ++ m) := by simp [prs]
theorem prs_getD {l : List (Int × Int)} {n : Nat} : (prs l).getD n (.agg [.v (.int .i32 0), .v (.int .u16 0)]) = .agg [.v (.int .i32 (l.getD n (0, 0)).1), .v (.int .u16 (l.getD n (0, 0)).2)] := by
  simp only [prs, List.getD_eq_getElem?_getD, List.getElem?_map]
  cases l[n]? <;> rfl
theorem prs_flat {l : List (Int × Int)} : (prs l).all Dat.flat = true := by simp [prs, pr, Dat.flat, Dat.isV]
theorem prs_one {a b : Int} : [Dat.agg [.v (.int .i32 a), .v (.int .u16 b)]] = prs [(a, b)] := rfl
theorem prs_take {l : List (Int × Int)} {n : Nat} : (prs l).take n = prs (l.take n) := by simp [prs, List.map_take]
theorem prs_drop {l : List (Int × Int)} {n : Nat} : (prs l).drop n = prs (l.drop n) := by simp [prs, List.map_drop]

/-- A pair of the references: a code, a glyph, both int. -/
def pr9 (p : Int × Int) : Dat := .agg [.v (.int .i64 p.1), .v (.int .i64 p.2)]
def prs9 (l : List (Int × Int)) : List Dat := l.map pr9
theorem toPrs_prs9 {l : List (Int × Int)} : toPrs (prs9 l) = l := by
  induction l with
  | nil => rfl
  | cons a l ih => simp only [toPrs, prs9, List.map_cons, List.cons.injEq] at ih ⊢; exact ⟨rfl, ih⟩
theorem prs9_length {l : List (Int × Int)} : (prs9 l).length = l.length := by simp [prs9]
theorem prs9_append {l m : List (Int × Int)} : prs9 l ++ prs9 m = prs9 (l ++ m) := by simp [prs9]
theorem prs9_getD {l : List (Int × Int)} {n : Nat} : (prs9 l).getD n (.agg [.v (.int .i64 0), .v (.int .i64 0)]) = .agg [.v (.int .i64 (l.getD n (0, 0)).1), .v (.int .i64 (l.getD n (0, 0)).2)] := by
  simp only [prs9, List.getD_eq_getElem?_getD, List.getElem?_map]
  cases l[n]? <;> rfl
theorem prs9_flat {l : List (Int × Int)} : (prs9 l).all Dat.flat = true := by simp [prs9, pr9, Dat.flat, Dat.isV]
theorem prs9_one {a b : Int} : [Dat.agg [.v (.int .i64 a), .v (.int .i64 b)]] = prs9 [(a, b)] := rfl

/-- A span of group: first code, last code, the first one's glyph. -/
def sp (s : Int × Int × Int) : Dat := .agg [.v (.int .u32 s.1), .v (.int .u32 s.2.1), .v (.int .u32 s.2.2)]
def unsp : Dat → Int × Int × Int
  | .agg [.v (.int _ a), .v (.int _ b), .v (.int _ c)] => (a, b, c)
  | _ => (0, 0, 0)
def sps (l : List (Int × Int × Int)) : List Dat := l.map sp
def toSps (xs : List Dat) : List (Int × Int × Int) := xs.map unsp
theorem toSps_sps {l : List (Int × Int × Int)} : toSps (sps l) = l := by
  induction l with
  | nil => rfl
  | cons a l ih => simp only [toSps, sps, List.map_cons, List.cons.injEq] at ih ⊢; exact ⟨rfl, ih⟩
theorem sps_length {l : List (Int × Int × Int)} : (sps l).length = l.length := by simp [sps]
theorem sps_append {l m : List (Int × Int × Int)} : sps l ++ sps m = sps (l ++ m) := by simp [sps]
theorem sps_getD {l : List (Int × Int × Int)} {n : Nat} : (sps l).getD n (.agg [.v (.int .u32 0), .v (.int .u32 0), .v (.int .u32 0)]) = .agg [.v (.int .u32 (l.getD n (0, 0, 0)).1), .v (.int .u32 (l.getD n (0, 0, 0)).2.1), .v (.int .u32 (l.getD n (0, 0, 0)).2.2)] := by
  simp only [sps, List.getD_eq_getElem?_getD, List.getElem?_map]
  cases l[n]? <;> rfl
theorem sps_flat {l : List (Int × Int × Int)} : (sps l).all Dat.flat = true := by simp [sps, sp, Dat.flat, Dat.isV]
theorem sps_one {a b c : Int} : [Dat.agg [.v (.int .u32 a), .v (.int .u32 b), .v (.int .u32 c)]] = sps [(a, b, c)] := rfl
theorem sps_set {l : List (Int × Int × Int)} {n : Nat} {a b c : Int} : (sps l).set n (.agg [.v (.int .u32 a), .v (.int .u32 b), .v (.int .u32 c)]) = sps (l.set n (a, b, c)) := by simp [sps, List.map_set, sp]

theorem evP : type_of% (And.intro (And.intro (And.intro @prs_length @prs_append) (And.intro @prs_getD (And.intro @prs_flat @prs_one))) (And.intro (And.intro (And.intro @prs9_length @prs9_append) (And.intro @prs9_getD (And.intro @prs9_flat @prs9_one))) (And.intro (And.intro @sps_length (And.intro @sps_append @sps_getD)) (And.intro @sps_flat (And.intro @sps_one @sps_set))))) :=
  And.intro (And.intro (And.intro @prs_length @prs_append) (And.intro @prs_getD (And.intro @prs_flat @prs_one))) (And.intro (And.intro (And.intro @prs9_length @prs9_append) (And.intro @prs9_getD (And.intro @prs9_flat @prs9_one))) (And.intro (And.intro @sps_length (And.intro @sps_append @sps_getD)) (And.intro @sps_flat (And.intro @sps_one @sps_set))))
end Go.AM

/- AM, part 28: a cell's value told less sharply. -/
namespace Go.AM
open Go Go.RowKit

theorem AWP.tellC {P : Program} {E : En} {Q : Exit → St → Prop} {st : St} {c : Code} (m j : Nat) {Et : Nat} {cs : List AV} {a b : AV} (ho : st.obs[m]? = some (some (.cells Et cs))) (hj : cs[j]? = some a) (hs : AV.Sub1 a b)
    (h : AWP P E c Q ⟨st.env, st.obs.set m (some (.cells Et (cs.set j b)))⟩) : AWP P E c Q st := fun ac w hs' hr => by
  obtain ⟨hd, e3, h3⟩ := hr.obj ho
  obtain ⟨bl, rfl, vs, hc, hv, h1⟩ := OR.cells_val h3
  obtain ⟨vj, hvj, hvr⟩ := VL.get hv hj
  have e3 : hs'[m]? = some (.ptr bl) := e3
  have hw : Wrote w w (Hd.ptr bl).blks := ⟨rfl, rfl, rfl, Nat.le_refl _, fun _ _ _ => rfl⟩
  have hf : (Ob.cells Et cs).follows (.ptr bl) (.cells Et (cs.set j b)) (.ptr bl) :=
    ⟨fun E2 sz2 γ2 fr2 xs2 e => (by cases e), fun b e => e, fun b q e => (by cases e)⟩
  have le2 := Cx.Le.setO (C := st.cx E w hs') (o' := .cells Et (cs.set j b)) hr.wok.len ho e3 hw (fun b hb => .inl hb) hf
  have wok2 := hr.wok.setO ho e3 hw (fun b hb => .inl hb) hf (o' := .cells Et (cs.set j b)) (by
    exact ⟨vs, hc, VL.setv (AV.VL.le le2 _ _ hv) hvj (AV.VR.le le2 _ _ (hs.vr hvr)), h1⟩)
  exact h ac w _ (hr.le le2 wok2)
end Go.AM

/- AM, part 33: a box becomes plain data. -/
namespace Go.AM
open Go Go.RowKit
/-- A box that nobody writes any more. -/
theorem AWP.frzC {P : Program} {E : En} {Q : Exit → St → Prop} {st : St} {c : Code} (t m : Nat) {Ec : Nat} {cs : List AV} {fr : Bool} {xs : List Dat} (hm : E.ps.length ≤ m) (hl : look t st.env = .ptr m 0)
    (ho : st.obs[m]? = some (some (.cells Ec cs))) (hc : datas cs = some (fr, xs)) (h : AWP P E c Q ⟨(t, .sel fr xs) :: st.env, st.obs.set m none⟩) : AWP P E c Q st := fun a w hs hr => by
  have hs1 := Sub.kill (obs := st.obs) m
  have h1 : Rel E ⟨st.env, st.obs.set m none⟩ a w hs := hr.le (Cx.Le.sub (C := st.cx E w hs) hs1) (hr.wok.sub hs1)
  have le := Cx.Le.sub (C := st.cx E w hs) hs1
  obtain ⟨hd', e3, h3⟩ := hr.obj ho
  obtain ⟨b, rfl, vs, h4, h5, h6⟩ := OR.cells_val h3
  have hv := hr.env t
  rw [hl] at hv
  unfold AV.VR at hv
  obtain ⟨b', hb, ev⟩ := hv.2 _ ho
  have eb : b' = b := by
    have e5 : (st.cx E w hs).hs = hs := rfl
    rcases hb with hb | ⟨q, hb⟩ <;> rw [e5, e3] at hb
    · simpa using hb.symm
    · simp at hb
  subst eb
  have hlt : b' < w.heap.size := (Array.getElem?_eq_some_iff.1 h4).1
  have hsel : (AV.sel fr xs).VR ((st.cx E w hs).sub (st.obs.set m none)) (a.tmps.getD t undef) := by
    unfold AV.VR
    refine ⟨b', 0, vs, ev, ?_, (RF.of_VL hc h5).stable (le.sh fr), fun j u hu => ?_⟩
    · refine ⟨hlt, fun n k hal hk hbk => ?_, ?_⟩
      · obtain ⟨o', ho'⟩ := hal
        have hne : n ≠ m := by
          rintro rfl
          have : (st.obs.set n none)[n]? = some (some o') := ho'
          rw [List.getElem?_set] at this
          split at this
          · split at this <;> simp at this
          · contradiction
        have ho2 : st.obs[n]? = some (some o') := (Sub.kill (obs := st.obs) m).2 n o' ho'
        exact hr.wok.dist n m k _ hne ⟨o', ho2⟩ ⟨_, ho⟩ hk e3 b' hbk (by simp [Hd.blks])
      · rcases hr.wok.new m _ ⟨_, ho⟩ e3 b' (by simp [Hd.blks]) with h8 | ⟨h8, _⟩
        · exact .inl h8
        · omega
    · have : ((st.cx E w hs).sub (st.obs.set m none)).w = w := rfl
      rw [this]
      have h4' : w.heap[b']? = some (.cells vs.toArray Ec (0, 0)) := h4
      simp only [World.cell?, h4', Nat.zero_add]
      simpa using hu
  refine h a w hs ⟨h1.wok, h1.df, h1.size, fun q => ?_⟩
  simp only [look]
  split
  · rename_i eq
    subst eq
    exact hsel
  · exact h1.env q
end Go.AM
