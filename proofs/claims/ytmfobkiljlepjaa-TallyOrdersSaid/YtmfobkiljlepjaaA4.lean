/- AM, part 4: types, query trees, what an operation comes to. -/
import Derived.Test.YtmfobkiljlepjaaA3
set_option linter.unusedVariables false
set_option linter.unusedSimpArgs false
namespace Go.AM
open Go Go.RowKit

/-! ### Types -/
inductive KD where
  | int (k : IntKind)
  | bool
  | str
  | slice (e : Nat)
  | ptr (e : Nat)
  | struct (fs : List (Nat × Nat))
  | arr (n e : Nat)
  | other

structure TI where
  desc : KD
  size : Nat
  bytes : Nat
  zero : List Value

def TI.none : TI := ⟨.other, 0, 0, []⟩

def KD.agg : KD → Bool
  | .struct _ => true
  | .arr _ _ => true
  | _ => false

def KD.ok (P : Program) (t : Nat) : KD → Prop
  | .int k => P.underlying t = some (.int k)
  | .bool => P.underlying t = some .bool
  | .str => P.underlying t = some .string
  | .slice e => P.underlying t = some (.slice e)
  | .ptr e => P.underlying t = some (.pointer e)
  | .struct fs => ∃ fields, P.underlying t = some (.struct fields) ∧ (fields.toList.map fun f => (f.offset, f.type)) = fs
  | .arr n e => P.underlying t = some (.array n e)
  | .other => False

def TI.ok (P : Program) (t : Nat) (i : TI) : Prop :=
  i.desc.ok P t ∧ (∃ info, P.info? t = some info ∧ info.size = i.size ∧ info.bytes = i.bytes ∧ ∃ z, info.zero = some z ∧ z.cells.toList = i.zero) ∧ (∀ u ∈ i.zero, u.oneCell' = true)

def TabOK (P : Program) (T : Nat → TI) : Prop := ∀ t, (T t).desc ≠ .other → (T t).ok P t

/-! ### Query trees -/
def SpecEqT := FuncId → List AV → AV → Prop

inductive Q where
  | slot (t : Nat) (k : AV → Q)
  | slotW (t : Nat) (k : AV → Q)
  | obj (n : Nat) (k : Ob → Q)
  | fresh (k : Nat → Q)
  | side (p : Prop) (k : Q)
  | call (f : FuncId) (args : List AV) (k : AV → Q)
  | fin (v : AV) (ups : List (Nat × Ob)) (news : List Ob)
  | bad

def Knows (st : St) (t : Nat) (a : AV) : Prop := look t st.env = a ∨ ∃ c, look t st.env = .when c a ∧ c = true

/-- What a tree comes to. -/
def Q.Runs (S : SpecEqT) : Q → St → AV → List (Nat × Ob) → List Ob → Prop
  | .slot t k, st, v, u, n => ∃ a, Knows st t a ∧ (k a).Runs S st v u n
  | .slotW t k, st, v, u, n => (k (look t st.env)).Runs S st v u n
  | .obj m k, st, v, u, n => ∃ o, st.obs[m]? = some (some o) ∧ (k o).Runs S st v u n
  | .fresh k, st, v, u, n => (k st.obs.length).Runs S st v u n
  | .side p k, st, v, u, n => p ∧ k.Runs S st v u n
  | .call f args k, st, v, u, n => ∃ r, S f args r ∧ (k r).Runs S st v u n
  | .fin v' u' n', st, v, u, n => v = v' ∧ u = u' ∧ n = n'
  | .bad, _, _, _, _ => False

/-- The same for evaluation: c: the guard. -/
def Q.run (S : SpecEqT) (c : Bool) : Q → St → (AV → List (Nat × Ob) → List Ob → Prop) → Prop
  | .slot t k, st, K => match look t st.env with
    | .when c' a => (c = true → c' = true) ∧ (k a).run S c st K
    | a => (k a).run S c st K
  | .slotW t k, st, K => (k (look t st.env)).run S c st K
  | .obj m k, st, K => match st.obs.getD m none with
    | some o => (k o).run S c st K
    | none => False
  | .fresh k, st, K => (k st.obs.length).run S c st K
  | .side p k, st, K => (c = true → p) ∧ k.run S c st K
  | .call f args k, st, K => ∃ r, (c = true → S f args r) ∧ (k r).run S c st K
  | .fin v u n, st, K => K v u n
  | .bad, _, _ => False

theorem Q.run_runs {S : SpecEqT} {c : Bool} (hc : c = true) : ∀ {q : Q} {st : St} {K : AV → List (Nat × Ob) → List Ob → Prop}, q.run S c st K → ∃ v u n, q.Runs S st v u n ∧ K v u n
  | .slot t k, st, K, h => by
    unfold Q.run at h
    split at h
    · rename_i c' a e
      obtain ⟨v, u, n, h1, h2⟩ := Q.run_runs hc h.2
      exact ⟨v, u, n, by unfold Q.Runs; exact ⟨a, .inr ⟨c', e, h.1 hc⟩, h1⟩, h2⟩
    · obtain ⟨v, u, n, h1, h2⟩ := Q.run_runs hc h
      exact ⟨v, u, n, by unfold Q.Runs; exact ⟨_, .inl rfl, h1⟩, h2⟩
  | .slotW t k, st, K, h => by
    unfold Q.run at h
    obtain ⟨v, u, n, h1, h2⟩ := Q.run_runs hc h
    exact ⟨v, u, n, by unfold Q.Runs; exact h1, h2⟩
  | .obj m k, st, K, h => by
    unfold Q.run at h
    split at h
    · rename_i o e
      obtain ⟨v, u, n, h1, h2⟩ := Q.run_runs hc h
      refine ⟨v, u, n, ?_, h2⟩
      unfold Q.Runs
      refine ⟨o, ?_, h1⟩
      rw [List.getD_eq_getElem?_getD] at e
      cases hq : st.obs[m]? with
      | none => simp [hq] at e
      | some x => simp [hq] at e; rw [e]
    · exact h.elim
  | .fresh k, st, K, h => by
    unfold Q.run at h
    obtain ⟨v, u, n, h1, h2⟩ := Q.run_runs hc h
    exact ⟨v, u, n, by unfold Q.Runs; exact h1, h2⟩
  | .side p k, st, K, h => by
    unfold Q.run at h
    obtain ⟨v, u, n, h1, h2⟩ := Q.run_runs hc h.2
    exact ⟨v, u, n, by unfold Q.Runs; exact ⟨h.1 hc, h1⟩, h2⟩
  | .call f args k, st, K, h => by
    unfold Q.run at h
    obtain ⟨r, hr, h⟩ := h
    obtain ⟨v, u, n, h1, h2⟩ := Q.run_runs hc h
    exact ⟨v, u, n, by unfold Q.Runs; exact ⟨r, hr hc, h1⟩, h2⟩
  | .fin v u n, st, K, h => ⟨v, u, n, by unfold Q.Runs; exact ⟨rfl, rfl, rfl⟩, by unfold Q.run at h; exact h⟩
  | .bad, _, _, h => by unfold Q.run at h; exact h.elim

theorem Knows.vr {E : En} {st : St} {a : Act} {w : World} {hs : List Hd} (h : Rel E st a w hs) {t : Nat} {av : AV} (hk : Knows st t av) : av.VR (st.cx E w hs) (a.tmps.getD t undef) := by
  rcases hk with rfl | ⟨c, e, hc⟩
  · exact h.env t
  · have := h.env t
    rw [e] at this
    unfold AV.VR at this
    exact this.1 hc

def Q.opnd (x : Operand) (k : AV → Q) : Q :=
  match x with
  | .tmp t => .slot t k
  | .const c => if c.oneCell' then k (.d true (.v c)) else .bad
  | .func f => k (.fn f [])
  | .global _ => .bad

theorem opnd_sound {S : SpecEqT} {E : En} {st : St} {a : Act} {w : World} {hs : List Hd} (h : Rel E st a w hs) {x : Operand} {k : AV → Q} {v : AV} {u : List (Nat × Ob)} {n : List Ob}
    (hr : (Q.opnd x k).Runs S st v u n) : ∃ av : AV, av.VR (st.cx E w hs) (a.eval x) ∧ (k av).Runs S st v u n := by
  cases x with
  | tmp t =>
    unfold Q.opnd Q.Runs at hr
    obtain ⟨av, h1, h2⟩ := hr
    exact ⟨av, Knows.vr h h1, h2⟩
  | const c =>
    simp only [Q.opnd] at hr
    split at hr
    · rename_i hc
      exact ⟨_, by unfold AV.VR; exact DV.v_iff.2 ⟨rfl, hc⟩, hr⟩
    · unfold Q.Runs at hr; exact hr.elim
  | func f =>
    simp only [Q.opnd] at hr
    exact ⟨_, by unfold AV.VR; exact ⟨#[], rfl, by simp [AV.VL]⟩, hr⟩
  | global g => simp only [Q.opnd] at hr; unfold Q.Runs at hr; exact hr.elim

/-- The state that an operation leaves. -/
def St.upd (st : St) (d : Option Nat) (v : AV) (u : List (Nat × Ob)) (n : List Ob) : St :=
  ⟨(st.put d v).env, (u.foldl (fun os p => os.set p.1 (some p.2)) st.obs) ++ n.map some⟩

theorem St.upd_nil (st : St) (d : Option Nat) (v : AV) : st.upd d v [] [] = st.put d v := by
  cases d <;> simp [St.upd, St.put]

/-- An operation goes well: it leaves the state that is told. -/
def OpOK (P : Program) (E : En) (o : Oper) (st : St) (a : Act) (w : World) (hs : List Hd) (v : AV) (u : List (Nat × Ob)) (n : List Ob) : Prop :=
  ∀ (Kp : Act → World → Prop) (Q : Exit → Act → World → Prop), (∀ a' w' hs', Rel E (st.upd o.dst v u n) a' w' hs' → Kp a' w') → o.wp P a w Kp Q

/-- A value, the world as it was. -/
theorem OpOK.pure {P : Program} {E : En} {o : Oper} {st : St} {a : Act} {w : World} {hs : List Hd} (h : Rel E st a w hs) (hd : ∀ t, o.dst = some t → t < E.N) {v : Value} {av : AV}
    (hv : av.VR (st.cx E w hs) v) (hrun : (execOp a.eval o).run P w = .ok (.value v) w) : OpOK P E o st a w hs av [] [] := by
  intro Kp Q hK
  unfold Oper.wp
  rw [hrun, Oper.upon_value]
  exact hK _ _ hs (by rw [St.upd_nil]; exact h.put hv o.dst hd)

/-! ### Operations on whole numbers -/
def Q.ret (x : Value) : Q := .fin (.d true (.v x)) [] []

def bits (op : BinOp) (k : IntKind) (a b : Int) : Int :=
  let x := BitVec.ofInt k.bits a
  let y := BitVec.ofInt k.bits b
  k.wrap (match op with
    | .and => (x &&& y).toNat
    | .or => (x ||| y).toNat
    | .xor => (x ^^^ y).toNat
    | _ => (x &&& ~~~y).toNat)

def binI (op : BinOp) (k : IntKind) (a : Int) (k' : IntKind) (b : Int) : Q :=
  match op with
  | .shl => .side (0 ≤ b) (Q.ret (.int k (k.wrap (a * 2 ^ min b.toNat k.bits))))
  | .shr => .side (0 ≤ b) (Q.ret (.int k (a.fdiv (2 ^ min b.toNat k.bits))))
  | _ => if k = k' then (match op with
    | .add => Q.ret (.int k (k.wrap (a + b)))
    | .sub => Q.ret (.int k (k.wrap (a - b)))
    | .mul => Q.ret (.int k (k.wrap (a * b)))
    | .quo => .side (b ≠ 0) (Q.ret (.int k (k.wrap (a.tdiv b))))
    | .rem => .side (b ≠ 0) (Q.ret (.int k (a.tmod b)))
    | .and => Q.ret (.int k (bits .and k a b))
    | .or => Q.ret (.int k (bits .or k a b))
    | .xor => Q.ret (.int k (bits .xor k a b))
    | .andNot => Q.ret (.int k (bits .andNot k a b))
    | .eql => Q.ret (.bool (a == b))
    | .neq => Q.ret (.bool (a != b))
    | .lss => Q.ret (.bool (decide (a < b)))
    | .leq => Q.ret (.bool (decide (a ≤ b)))
    | .gtr => Q.ret (.bool (decide (a > b)))
    | .geq => Q.ret (.bool (decide (a ≥ b)))
    | _ => .bad) else .bad

theorem run_eqGuard_int {P : Program} (op : BinOp) (t : TypeId) (x y : Operand) (k k' : IntKind) (a b : Int) (w : World) :
    (eqGuard op t x y (.int k a) (.int k' b)).run P w = .ok () w := by
  unfold eqGuard
  cases op <;> simp

theorem ret_runs {S : SpecEqT} {st : St} {x : Value} {v : AV} {u : List (Nat × Ob)} {n : List Ob} (h : (Q.ret x).Runs S st v u n) : v = .d true (.v x) ∧ u = [] ∧ n = [] := by
  unfold Q.ret Q.Runs at h
  exact h

theorem binI_sound {P : Program} {S : SpecEqT} {st : St} {op : BinOp} {k k' : IntKind} {a b : Int} {v : AV} {u : List (Nat × Ob)} {n : List Ob} (h : (binI op k a k' b).Runs S st v u n) (t : TypeId) (w : World) :
    ∃ x : Value, x.oneCell' = true ∧ v = .d true (.v x) ∧ u = [] ∧ n = [] ∧ (binOp op t (.int k a) (.int k' b)).run P w = .ok x w := by
  unfold binI at h
  split at h
  · unfold Q.Runs at h
    obtain ⟨h0, h⟩ := h
    obtain ⟨rfl, rfl, rfl⟩ := ret_runs h
    exact ⟨_, rfl, rfl, rfl, rfl, by simp [binOp, Op.shift, Int.not_lt.2 h0]⟩
  · unfold Q.Runs at h
    obtain ⟨h0, h⟩ := h
    obtain ⟨rfl, rfl, rfl⟩ := ret_runs h
    exact ⟨_, rfl, rfl, rfl, rfl, by simp [binOp, Op.shift, Int.not_lt.2 h0]⟩
  · split at h
    · rename_i hk
      subst hk
      split at h <;> first
        | (obtain ⟨rfl, rfl, rfl⟩ := ret_runs h; exact ⟨_, rfl, rfl, rfl, rfl, by simp [binOp, Op.intArith, Op.intBits, Op.intCmp, bits]⟩)
        | (unfold Q.Runs at h
           obtain ⟨h0, h⟩ := h
           obtain ⟨rfl, rfl, rfl⟩ := ret_runs h
           exact ⟨_, rfl, rfl, rfl, rfl, by simp [binOp, Op.intDiv, h0]⟩)
        | (unfold Q.Runs at h; exact h.elim)
    · unfold Q.Runs at h; exact h.elim

end Go.AM
