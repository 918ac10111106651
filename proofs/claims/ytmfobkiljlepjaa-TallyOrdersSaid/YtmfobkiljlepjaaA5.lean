/- AM, part 5: operations without memory. -/
import Derived.Test.YtmfobkiljlepjaaA4
set_option linter.unusedVariables false
set_option linter.unusedSimpArgs false
namespace Go.AM
open Go Go.RowKit

section
variable {P : Program} {S : SpecEqT} {E : En} {st : St} {a : Act} {w : World} {hs : List Hd} {o : Oper} {v : AV} {u : List (Nat × Ob)} {n : List Ob} {T : Nat → TI}

/-! ### move, assign -/
def opMove (x : Operand) : Q := Q.opnd x fun v => .fin v [] []

theorem opMove_sound (h : Rel E st a w hs) (hd : ∀ t, o.dst = some t → t < E.N) {x : Operand} (ho : o.op = .move x ∨ o.op = .assign x) (hr : (opMove x).Runs S st v u n) : OpOK P E o st a w hs v u n := by
  replace hr := opnd_sound h hr; obtain ⟨av, hv, hr⟩ := hr
  unfold Q.Runs at hr
  obtain ⟨rfl, rfl, rfl⟩ := hr
  exact OpOK.pure h hd hv (by rcases ho with ho | ho <;> simp [execOp, ho])

/-! ### pick -/
def boolOf : AV → Option (Bool × Bool)
  | .d _ (.v (.bool b)) => some (true, b)
  | .when c (.d _ (.v (.bool b))) => some (c, b)
  | _ => none

def selB (c x y : Bool) : Bool := if c then x else y
theorem selB_and (c x : Bool) : selB c x false = (c && x) := by cases c <;> rfl
theorem selB_or (c y : Bool) : selB c true y = (c || y) := by cases c <;> rfl

def Q.opndW (x : Operand) (k : AV → Q) : Q :=
  match x with
  | .tmp t => .slotW t k
  | .const c => if c.oneCell' then k (.d true (.v c)) else .bad
  | _ => .bad

def pickV (c : Bool) (av bv : AV) : Q :=
  match boolOf av with
  | some (ca, x) => match boolOf bv with
    | some (cb, y) => .side (c = true → ca = true) (.side (c = false → cb = true) (Q.ret (.bool (selB c x y))))
    | none => .bad
  | none => .bad

def opPick (c x y : Operand) : Q := Q.opnd c fun cv => match cv with
  | .d _ (.v (.bool c)) => Q.opndW x fun av => Q.opndW y fun bv => pickV c av bv
  | _ => .bad

theorem opndW_sound (h : Rel E st a w hs) {x : Operand} {k : AV → Q} (hr : (Q.opndW x k).Runs S st v u n) : ∃ av : AV, av.VR (st.cx E w hs) (a.eval x) ∧ (k av).Runs S st v u n := by
  cases x with
  | tmp t =>
    unfold Q.opndW Q.Runs at hr
    exact ⟨_, h.env t, hr⟩
  | const c =>
    simp only [Q.opndW] at hr
    split at hr
    · rename_i hc
      exact ⟨_, by unfold AV.VR; exact DV.v_iff.2 ⟨rfl, hc⟩, hr⟩
    · unfold Q.Runs at hr; exact hr.elim
  | func f => simp only [Q.opndW] at hr; unfold Q.Runs at hr; exact hr.elim
  | global g => simp only [Q.opndW] at hr; unfold Q.Runs at hr; exact hr.elim

theorem boolOf_sound {C : Cx} {av : AV} {x : Value} {c b : Bool} (h : av.VR C x) (e : boolOf av = some (c, b)) (hc : c = true) : x = .bool b := by
  unfold boolOf at e
  split at e
  · simp only [Option.some.injEq, Prod.mk.injEq] at e
    unfold AV.VR at h
    rw [← e.2]
    exact (DV.v_iff.1 h).1
  · simp only [Option.some.injEq, Prod.mk.injEq] at e
    unfold AV.VR at h
    have := h.1 (e.1.trans hc)
    unfold AV.VR at this
    rw [← e.2]
    exact (DV.v_iff.1 this).1
  · simp at e

theorem vr_int {C : Cx} {fr : Bool} {x y : Value} (h : (AV.d fr (.v y)).VR C x) : x = y := by unfold AV.VR at h; exact (DV.v_iff.1 h).1
theorem vr_v {C : Cx} {y : Value} (h : y.oneCell' = true) : (AV.d true (.v y)).VR C y := by unfold AV.VR; exact DV.v_iff.2 ⟨rfl, h⟩

theorem opPick_sound (h : Rel E st a w hs) (hd : ∀ t, o.dst = some t → t < E.N) {c x y : Operand} (ho : o.op = .pick c x y) (hr : (opPick c x y).Runs S st v u n) : OpOK P E o st a w hs v u n := by
  replace hr := opnd_sound h hr; obtain ⟨cv, hc, hr⟩ := hr
  split at hr
  · rename_i fr cb
    replace hr := opndW_sound h hr; obtain ⟨av, hav, hr⟩ := hr
    replace hr := opndW_sound h hr; obtain ⟨bv, hbv, hr⟩ := hr
    unfold pickV at hr
    split at hr
    · rename_i ca x' e1
      split at hr
      · rename_i cb' y' e2
        unfold Q.Runs at hr
        obtain ⟨h1, hr⟩ := hr
        unfold Q.Runs at hr
        obtain ⟨h2, hr⟩ := hr
        obtain ⟨rfl, rfl, rfl⟩ := ret_runs hr
        have ec := vr_int hc
        refine OpOK.pure h hd (vr_v rfl) ?_
        simp only [execOp, ho, ec, asBool, Sem.run_bind, Sem.run_pure, Result.andThen_ok]
        cases cb with
        | true => simp [boolOf_sound hav e1 (h1 rfl), selB]
        | false => simp [boolOf_sound hbv e2 (h2 rfl), selB]
      · unfold Q.Runs at hr; exact hr.elim
    · unfold Q.Runs at hr; exact hr.elim
  · unfold Q.Runs at hr; exact hr.elim

/-! ### binOp -/
def binS (op : BinOp) (s t : ByteArray) : Q :=
  match op with
  | .add => .side (((s.size + t.size : Nat) : Int) ≤ IntKind.i64.max) (Q.ret (.string (s ++ t)))
  | .eql => Q.ret (.bool (s.toList == t.toList))
  | .neq => Q.ret (.bool (!(s.toList == t.toList)))
  | .lss => Q.ret (.bool (Op.bytesLess s.toList t.toList))
  | .leq => Q.ret (.bool (Op.bytesLess s.toList t.toList || s.toList == t.toList))
  | .gtr => Q.ret (.bool (!(Op.bytesLess s.toList t.toList || s.toList == t.toList)))
  | .geq => Q.ret (.bool (!Op.bytesLess s.toList t.toList))
  | _ => .bad

theorem binS_sound {op : BinOp} {s t : ByteArray} (h : (binS op s t).Runs S st v u n) (ty : TypeId) (w : World) :
    ∃ x : Value, x.oneCell' = true ∧ v = .d true (.v x) ∧ u = [] ∧ n = [] ∧ (binOp op ty (.string s) (.string t)).run P w = .ok x w := by
  unfold binS at h
  split at h <;> first
    | (obtain ⟨rfl, rfl, rfl⟩ := ret_runs h; exact ⟨_, rfl, rfl, rfl, rfl, by simp [binOp, Op.stringOp]⟩)
    | (unfold Q.Runs at h
       obtain ⟨h0, h⟩ := h
       obtain ⟨rfl, rfl, rfl⟩ := ret_runs h
       exact ⟨_, rfl, rfl, rfl, rfl, by simp only [binOp, Op.stringOp]; rw [if_neg (by omega)]; rfl⟩)
    | (unfold Q.Runs at h; exact h.elim)

def binV (T : Nat → TI) (op : BinOp) (t : Nat) (x y : AV) : Q :=
  match x with
  | .d _ (.v (.int k a)) => (match y with
    | .d _ (.v (.int k' b)) => binI op k a k' b
    | _ => .bad)
  | .d _ (.v (.string s)) => (match y with
    | .d _ (.v (.string s')) => binS op s s'
    | _ => .bad)
  | .d _ (.v (.bool p)) => (match y, (T t).desc, op with
    | .d _ (.v (.bool q)), .bool, .eql => Q.ret (.bool (p == q))
    | .d _ (.v (.bool q)), .bool, .neq => Q.ret (.bool (p != q))
    | _, _, _ => .bad)
  | .ptr m _ => (match y, (T t).desc, op with
    | .d _ (.v (.pointer none)), .ptr _, .eql => .obj m fun _ => Q.ret (.bool false)
    | .d _ (.v (.pointer none)), .ptr _, .neq => .obj m fun _ => Q.ret (.bool true)
    | _, _, _ => .bad)
  | _ => .bad

def opBin (T : Nat → TI) (op : BinOp) (t : Nat) (x y : Operand) : Q := Q.opnd x fun a => Q.opnd y fun b => binV T op t a b

theorem pointee_of {t e : TypeId} (h : P.underlying t = some (.pointer e)) : P.underlying t = some (.pointer (P.pointee t)) := by
  have : P.pointee t = e := by simp [Program.pointee, h]
  rw [this]; exact h

theorem opBin_sound (hT : TabOK P T) (h : Rel E st a w hs) (hd : ∀ t, o.dst = some t → t < E.N) {op : BinOp} {t t' : TypeId} {x y : Operand} (ho : o.op = .binOp op t x y t') (hr : (opBin T op t x y).Runs S st v u n) : OpOK P E o st a w hs v u n := by
  replace hr := opnd_sound h hr; obtain ⟨av, hav, hr⟩ := hr
  replace hr := opnd_sound h hr; obtain ⟨bv, hbv, hr⟩ := hr
  unfold binV at hr
  split at hr
  · split at hr
    · rename_i k p _ k' q
      obtain ⟨z, h1, rfl, rfl, rfl, h5⟩ := binI_sound (P := P) hr t w
      refine OpOK.pure h hd (vr_v h1) ?_
      simp only [execOp, ho, vr_int hav, vr_int hbv, Sem.run_bind, run_eqGuard_int, Result.andThen_ok, h5, Sem.run_pure]
    · unfold Q.Runs at hr; exact hr.elim
  · split at hr
    · rename_i s _ _ s'
      obtain ⟨z, h1, rfl, rfl, rfl, h5⟩ := binS_sound (P := P) hr t w
      refine OpOK.pure h hd (vr_v h1) ?_
      have hg : (eqGuard op t x y (.string s) (.string s')).run P w = .ok () w := by unfold eqGuard; cases op <;> simp
      simp only [execOp, ho, vr_int hav, vr_int hbv, Sem.run_bind, hg, Result.andThen_ok, h5, Sem.run_pure]
    · unfold Q.Runs at hr; exact hr.elim
  · rename_i p
    have ea := vr_int hav
    split at hr
    · rename_i q e1
      obtain ⟨rfl, rfl, rfl⟩ := ret_runs hr
      refine OpOK.pure h hd (vr_v rfl) ?_
      obtain ⟨h1, _⟩ := hT t (by rw [e1]; simp)
      rw [e1] at h1
      have hg : (eqGuard .eql t x y (.bool p) (.bool q)).run P w = .ok () w := by unfold eqGuard; simp
      simp only [execOp, ho, ea, vr_int hbv, Sem.run_bind, hg, Result.andThen_ok, Sem.run_pure, run_eql_bool w t p q h1]
    · rename_i q e1
      obtain ⟨rfl, rfl, rfl⟩ := ret_runs hr
      refine OpOK.pure h hd (vr_v rfl) ?_
      obtain ⟨h1, _⟩ := hT t (by rw [e1]; simp)
      rw [e1] at h1
      have hg : (eqGuard .neq t x y (.bool p) (.bool q)).run P w = .ok () w := by unfold eqGuard; simp
      simp only [execOp, ho, ea, vr_int hbv, Sem.run_bind, hg, Result.andThen_ok, Sem.run_pure, run_neq_bool w t p q h1]
      rfl
    · unfold Q.Runs at hr; exact hr.elim
  · rename_i m off
    have ea := hav
    unfold AV.VR at ea
    split at hr
    · rename_i e e1
      unfold Q.Runs at hr
      obtain ⟨ob, hob, hr⟩ := hr
      obtain ⟨rfl, rfl, rfl⟩ := ret_runs hr
      refine OpOK.pure h hd (vr_v rfl) ?_
      obtain ⟨b, _, eb⟩ := ea.2 ob hob
      obtain ⟨h1, _⟩ := hT t (by rw [e1]; simp)
      rw [e1] at h1
      have hg : (eqGuard .eql t x y (.pointer (some ⟨b, off, none⟩)) (.pointer none)).run P w = .ok () w := by unfold eqGuard; simp
      simp only [execOp, ho, eb, vr_int hbv, Sem.run_bind, hg, Result.andThen_ok, Sem.run_pure, run_eql_pointer_nil w t _ (pointee_of h1)]
      rfl
    · rename_i e e1
      unfold Q.Runs at hr
      obtain ⟨ob, hob, hr⟩ := hr
      obtain ⟨rfl, rfl, rfl⟩ := ret_runs hr
      refine OpOK.pure h hd (vr_v rfl) ?_
      obtain ⟨b, _, eb⟩ := ea.2 ob hob
      obtain ⟨h1, _⟩ := hT t (by rw [e1]; simp)
      rw [e1] at h1
      have hg : (eqGuard .neq t x y (.pointer (some ⟨b, off, none⟩)) (.pointer none)).run P w = .ok () w := by unfold eqGuard; simp
      simp only [execOp, ho, eb, vr_int hbv, Sem.run_bind, hg, Result.andThen_ok, Sem.run_pure, run_neq_pointer_nil w t _ (pointee_of h1)]
      rfl
    · unfold Q.Runs at hr; exact hr.elim
  · unfold Q.Runs at hr; exact hr.elim

/-! ### unOp -/
def opUn (op : UnOp) (x : Operand) : Q := Q.opnd x fun a => match op, a with
  | .not, .d _ (.v (.bool b)) => Q.ret (.bool (!b))
  | .neg, .d _ (.v (.int k m)) => Q.ret (.int k (k.wrap (0 - m)))
  | _, _ => .bad

theorem opUn_sound (h : Rel E st a w hs) (hd : ∀ t, o.dst = some t → t < E.N) {op : UnOp} {t : TypeId} {x : Operand} (ho : o.op = .unOp op t x) (hr : (opUn op x).Runs S st v u n) : OpOK P E o st a w hs v u n := by
  replace hr := opnd_sound h hr; obtain ⟨av, hav, hr⟩ := hr
  split at hr
  · obtain ⟨rfl, rfl, rfl⟩ := ret_runs hr
    exact OpOK.pure h hd (vr_v rfl) (by simp only [execOp, ho, vr_int hav, Op.unary, Sem.run_bind, Sem.run_pure, Result.andThen_ok])
  · obtain ⟨rfl, rfl, rfl⟩ := ret_runs hr
    exact OpOK.pure h hd (vr_v rfl) (by simp only [execOp, ho, vr_int hav, Op.unary, Op.intArith, Sem.run_bind, Sem.run_pure, Result.andThen_ok])
  · unfold Q.Runs at hr; exact hr.elim

/-! ### extract -/
def opExtract (x : Operand) (i : Nat) : Q := Q.opnd x fun a => match a with
  | .tup vs => (match vs[i]? with
    | some v => .fin v [] []
    | none => .bad)
  | _ => .bad

theorem VL.get {C : Cx} : ∀ {as : List AV} {vs : List Value} {i : Nat} {x : AV}, AV.VL C as vs → as[i]? = some x → ∃ y, vs[i]? = some y ∧ x.VR C y
  | [], _, _, _, _, e => by simp at e
  | a :: as, vs, i, x, h, e => by
    unfold AV.VL at h
    obtain ⟨v, rest, rfl, h1, h2⟩ := h
    cases i with
    | zero => simp at e; subst e; exact ⟨v, by simp, h1⟩
    | succ i => simpa using VL.get h2 (by simpa using e)

theorem VL.len {C : Cx} : ∀ {as : List AV} {vs : List Value}, AV.VL C as vs → vs.length = as.length
  | [], _, h => by unfold AV.VL at h; simp [h]
  | a :: as, vs, h => by
    unfold AV.VL at h
    obtain ⟨v, rest, rfl, h1, h2⟩ := h
    simp [VL.len h2]

theorem opExtract_sound (h : Rel E st a w hs) (hd : ∀ t, o.dst = some t → t < E.N) {x : Operand} {i : Nat} (ho : o.op = .extract x i) (hr : (opExtract x i).Runs S st v u n) : OpOK P E o st a w hs v u n := by
  replace hr := opnd_sound h hr; obtain ⟨av, hav, hr⟩ := hr
  split at hr
  · split at hr
    · rename_i vs y e
      unfold Q.Runs at hr
      obtain ⟨rfl, rfl, rfl⟩ := hr
      unfold AV.VR at hav
      obtain ⟨cs, e2, hl⟩ := hav
      obtain ⟨z, ez, hz⟩ := VL.get hl e
      refine OpOK.pure h hd hz ?_
      have ez' : cs[i]? = some z := by simpa using ez
      simp only [execOp, ho, e2, Instr.extract, ez', Sem.run_bind, Sem.run_pure, Result.andThen_ok]
    · unfold Q.Runs at hr; exact hr.elim
  · unfold Q.Runs at hr; exact hr.elim

/-! ### nilCheck -/
def opNil (x : Operand) : Q := Q.opnd x fun a => match a with
  | .ptr m off => .obj m fun _ => .fin (.ptr m off) [] []
  | .sel fr cs => .fin (.sel fr cs) [] []
  | _ => .bad

theorem opNil_sound (h : Rel E st a w hs) (hd : ∀ t, o.dst = some t → t < E.N) {x : Operand} (ho : o.op = .nilCheck x) (hr : (opNil x).Runs S st v u n) : OpOK P E o st a w hs v u n := by
  replace hr := opnd_sound h hr; obtain ⟨av, hav, hr⟩ := hr
  split at hr
  · unfold Q.Runs at hr
    obtain ⟨ob, hob, hr⟩ := hr
    unfold Q.Runs at hr
    obtain ⟨rfl, rfl, rfl⟩ := hr
    have h' := hav
    unfold AV.VR at h'
    obtain ⟨b, _, eb⟩ := h'.2 ob hob
    exact OpOK.pure h hd hav (by simp only [execOp, ho, eb, Sem.run_pure])
  · unfold Q.Runs at hr
    obtain ⟨rfl, rfl, rfl⟩ := hr
    have h' := hav
    unfold AV.VR at h'
    obtain ⟨b, off, vs, eb, _⟩ := h'
    exact OpOK.pure h hd hav (by simp only [execOp, ho, eb, Sem.run_pure])
  · unfold Q.Runs at hr; exact hr.elim

/-! ### convert between whole numbers; min, max -/
def opConv (T : Nat → TI) (src dst : Nat) (x : Operand) : Q := Q.opnd x fun a => match (T dst).desc, a, (T src).desc with
  | .int k, .d _ (.v (.int _ m)), .int _ => Q.ret (.int k (k.wrap m))
  | _, _, _ => .bad

theorem opConv_sound (hT : TabOK P T) (h : Rel E st a w hs) (hd : ∀ t, o.dst = some t → t < E.N) {src dst : TypeId} {x : Operand} (ho : o.op = .convert src dst x) (hr : (opConv T src dst x).Runs S st v u n) : OpOK P E o st a w hs v u n := by
  replace hr := opnd_sound h hr; obtain ⟨av, hav, hr⟩ := hr
  split at hr
  · rename_i k fr k0 m k1 e1 e2
    obtain ⟨rfl, rfl, rfl⟩ := ret_runs hr
    obtain ⟨h1, _⟩ := hT dst (by rw [e1]; simp)
    obtain ⟨h2, _⟩ := hT src (by rw [e2]; simp)
    rw [e1] at h1
    rw [e2] at h2
    refine OpOK.pure h hd (vr_v rfl) ?_
    simp only [execOp, ho, vr_int hav, Sem.run_bind, convert, run_underlying h1, run_underlying h2, Result.andThen_ok, Conv.intToInt, Sem.run_pure]
  · unfold Q.Runs at hr; exact hr.elim

end
end Go.AM
