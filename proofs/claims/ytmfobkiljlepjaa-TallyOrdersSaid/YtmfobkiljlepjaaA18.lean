/- AM, part 18: rules for evaluation by simp. -/
import Derived.Test.YtmfobkiljlepjaaA17
set_option linter.unusedVariables false
set_option linter.unusedSimpArgs false
namespace Go.AM
open Go Go.RowKit

section
variable {P : Program} {G : Cfg} {E : En} {st : St} {a : Act} {w : World} {hs : List Hd} {all os : List Oper} {K : St → Prop} {own : List Nat} {i : Nat} {Q : Exit → St → Prop}
  {d : Option Nat} {p q : Prop} {v : AV} {u : List (Nat × Ob)} {n : List Ob} {c : Bool} {o : Oper} {rr oo ts : List Nat} {fr : Bool} {log : List LE} {t : Nat}

theorem AWP.rs (hG : G.OK P) (own ks : List Nat) {id : Nat} {ops : List Oper} {y : Code} (hd : dstOK E.N ops = true)
    (h : ∀ K : St → Prop, (∀ st, AWP P E y Q (st.keep ks) → K st) → evalL G own ops K ops 0 st) : AWP P E (.seq (.region id ops.toArray false) y) Q st :=
  AWP.seq (AWP.region hG own hd fun K hK => h K fun st hst => hK st (AWP.keep ks hst))
theorem AWP.rd (hG : G.OK P) (own ks : List Nat) (hm : P.follows .mixedOrders = true) {id : Nat} {ops : List Oper} {y : Code} (hd : dstOK E.N ops = true)
    (h : ∀ K : St → Prop, (∀ st, AWP P E y Q (st.keep ks) → K st) → evalD G own ops K ops 0 st []) : AWP P E (.seq (.region id ops.toArray true) y) Q st :=
  AWP.seq (AWP.draw hG own hm hd fun K hK => h K fun st hst => hK st (AWP.keep ks hst))
theorem AWP.nest {x y z : Code} (h : AWP P E (.seq x y) (thenS (AWP P E z Q) Q) st) : AWP P E (.seq (.seq x y) z) Q st := AWP.seq h
/-- A region at a body's end. -/
theorem AWP.rn (hG : G.OK P) (own ks : List Nat) {id : Nat} {ops : List Oper} (hd : dstOK E.N ops = true)
    (h : ∀ K : St → Prop, (∀ st, Q .normal (st.keep ks) → K st) → evalL G own ops K ops 0 st) : AWP P E (.region id ops.toArray false) Q st := fun a w hs hr => by
  have h1 := AWP.region hG own hd (Q := fun e st => match e with | .normal => Q .normal (st.keep ks) | e => Q e st) (id := id) (fun K hK => h K fun st hst => hK st hst) a w hs hr
  refine Code.wp_mono (fun e a w ⟨st, hs, hr, hq⟩ => ?_) h1
  cases e with
  | normal => exact ⟨_, hs, hr.weak (Weak.keep ks st), hq⟩
  | _ => exact ⟨st, hs, hr, hq⟩

/-- A slice is not longer than memory. -/
theorem AWP.len {c : Code} {fr : Bool} {sz : Nat} {xs : List Dat} (t : Nat) (hl : look t st.env = .d fr (.sl sz xs)) (h : xs.length ≤ 9223372036854775807 → AWP P E c Q st) : AWP P E c Q st := fun a w hs hr => by
  have hv := hr.env t
  rw [hl] at hv
  unfold AV.VR at hv
  obtain ⟨A, cc, _, h1, h2, _⟩ := hv.slice
  exact h (by simp only [maxLen] at h2; omega) a w hs hr
theorem AWP.lenO {c : Code} {fr : Bool} {e sz γ : Nat} {xs : List Dat} (m : Nat) (hl : st.obs[m]? = some (some (.row e sz γ fr xs))) (h : xs.length ≤ 9223372036854775807 → AWP P E c Q st) : AWP P E c Q st := fun a w hs hr => by
  obtain ⟨hd, _, h3⟩ := hr.obj hl
  obtain ⟨vv, rfl, _, hz, fl, hfl, h4⟩ := OR.row_val h3
  obtain ⟨A, cc, _, h1, h2, _⟩ := owns_slice h4
  exact h (by simp only [maxLen] at h2; omega) a w hs hr

/-- A row's name, lifted. -/
theorem AWP.bump {c : Code} (t : Nat) {m γ e sz : Nat} {fr : Bool} {xs : List Dat} (k : Nat) (hl : look t st.env = .own m γ) (ho : st.obs[m]? = some (some (.row e sz γ fr xs)))
    (h : AWP P E c Q ⟨(t, .own m (γ + k)) :: st.env, st.obs.set m (some (.row e sz (γ + k) fr xs))⟩) : AWP P E c Q st := fun a w hs hr => by
  obtain ⟨hd, e3, h3⟩ := hr.obj ho
  have hv := hr.env t
  rw [hl] at hv
  unfold AV.VR at hv
  have hk := (hv.2 _ _ _ _ _ ho).2 rfl
  have hk : hs[m]? = some (.row (a.tmps.getD t undef)) := hk
  rw [hk] at e3
  cases e3
  have hw : Wrote w w (Hd.row (a.tmps.getD t undef)).blks := ⟨rfl, rfl, rfl, Nat.le_refl _, fun _ _ _ => rfl⟩
  have hf : (Ob.row e sz γ fr xs).follows (.row (a.tmps.getD t undef)) (.row e sz (γ + k) fr xs) (.row (a.tmps.getD t undef)) :=
    ⟨fun E2 sz2 γ2 fr2 xs2 e => by
      simp only [Ob.row.injEq] at e
      obtain ⟨_, _, rfl, _, _⟩ := e
      exact ⟨_, _, γ, _, _, rfl, Nat.le_add_right _ _, fun _ => rfl⟩, fun b e => by simp at e, fun b q e => by simp at e⟩
  have le := Cx.Le.setO (C := st.cx E w hs) (o' := .row e sz (γ + k) fr xs) hr.wok.len ho hk hw (fun b hb => .inl hb) hf
  have wok := hr.wok.setO ho hk hw (fun b hb => .inl hb) hf (o' := .row e sz (γ + k) fr xs) (by
    obtain ⟨h0, h1, fl, h2, h4⟩ := h3
    exact ⟨h0, h1, fl, Dat.RL.stable (le.sh fr) _ _ h2, h4⟩)
  have hr2 : Rel E ⟨st.env, st.obs.set m (some (.row e sz (γ + k) fr xs))⟩ a w (hs.set m (.row (a.tmps.getD t undef))) := hr.le le wok
  refine h a w _ ⟨hr2.wok, hr2.df, hr2.size, fun q => ?_⟩
  simp only [look]
  split
  · rename_i eq
    subst eq
    have hlt : m < hs.length := (List.getElem?_eq_some_iff.1 hk).1
    have hlt' : m < st.obs.length := (List.getElem?_eq_some_iff.1 ho).1
    unfold AV.VR
    refine ⟨by simpa [St.cx] using hlt', fun E2 sz2 γ0 fr2 xs2 he => ?_⟩
    have : γ0 = γ + k := by
      simp [St.cx, List.getElem?_set, hlt'] at he
      exact he.2.2.1.symm
    subst this
    exact ⟨Nat.le_refl _, fun _ => by simp [St.cx, List.getElem?_set, hlt]⟩
  · exact hr2.env q

/-- A slice held against nil. -/
theorem AWP.nilcmp {T : Nat → TI} (hT : TabOK P T) {id : Nat} {y : Code} {t0 t1 t2 ty e : Nat} {ty1 ty2 ty3 : TypeId} {p1 p2 : String} {a1 a2 : Array Edge} {fr : Bool} {sz : Nat} {xs : List Dat}
    (hl : look t0 st.env = .d fr (.sl sz xs)) (hty : (T ty).desc = .slice e) (h1 : t1 < E.N) (h2 : t2 < E.N)
    (h : ∀ b : Bool, (b = true → xs = []) → AWP P E y Q ⟨(t2, .d true (.v (.bool b))) :: (t1, .d fr (.sl sz xs)) :: st.env, st.obs⟩) :
    AWP P E (.seq (.region id [⟨some t1, .move (.tmp t0), ty1, p1, a1, none⟩, ⟨some t2, .binOp .eql ty (.tmp t1) (.const (.slice none 0 0)) ty3, ty2, p2, a2, none⟩].toArray false) y) Q st := fun a w hs hr => by
  refine wp_seq (wp_region_list ?_)
  obtain ⟨gty, _⟩ := hT ty (by rw [hty]; simp)
  rw [hty] at gty
  have hv := hr.env t0
  rw [hl] at hv
  unfold AV.VR at hv
  obtain ⟨A, c, ev, _, _, _, hA⟩ := hv.slice
  refine wpList_plain rfl fun K1 hK1 => ?_
  show Oper.wp P _ a w K1 _
  unfold Oper.wp
  have r1 : (execOp a.eval ⟨some t1, .move (.tmp t0), ty1, p1, a1, none⟩).run P w = .ok (.value (a.tmps.getD t0 undef)) w := by simp only [execOp, Sem.run_pure]; rfl
  rw [r1, Oper.upon_value]
  refine hK1 _ _ (wpList_plain rfl fun K2 hK2 => ?_)
  have hr1 : Rel E (st.put (some t1) (.d fr (.sl sz xs))) (a.put (some t1) (a.tmps.getD t0 undef)) w hs := hr.put (by unfold AV.VR; exact hv) (some t1) (fun t e => by cases e; exact h1)
  unfold Oper.wp
  have e1 : (a.put (some t1) (a.tmps.getD t0 undef)).eval (.tmp t1) = .slice A xs.length c := by
    have h3 : t1 < a.tmps.size := by rw [hr.size]; exact h1
    simp only [Act.eval, Act.put]
    rw [← ev]
    simp [h3]
  have r2 : (execOp (a.put (some t1) (a.tmps.getD t0 undef)).eval ⟨some t2, .binOp .eql ty (.tmp t1) (.const (.slice none 0 0)) ty3, ty2, p2, a2, none⟩).run P w = .ok (.value (.bool A.isNone)) w := by
    have h4 := run_equal_slice_nil (P := P) w ty e A xs.length c gty
    simp only [execOp, e1, Sem.run_bind]
    have h5 : (eqGuard .eql ty (.tmp t1) (.const (.slice none 0 0)) (.slice A xs.length c) ((a.put (some t1) (a.tmps.getD t0 undef)).eval (.const (.slice none 0 0)))).run P w = .ok () w := by
      unfold eqGuard
      rfl
    rw [h5, Result.andThen_ok]
    have h6 : (binOp .eql ty (.slice A xs.length c) ((a.put (some t1) (a.tmps.getD t0 undef)).eval (.const (.slice none 0 0)))).run P w = .ok (.bool A.isNone) w := by
      show (binOp .eql ty (.slice A xs.length c) (.slice none 0 0)).run P w = _
      simp only [binOp, Sem.run_bind, h4, Result.andThen_ok, Sem.run_pure]
    rw [h6]
    rfl
  rw [r2, Oper.upon_value]
  refine hK2 _ _ (wpList_nil ?_)
  show Exit.then _ _ _ _ _
  unfold Exit.then
  dsimp only
  have hr2 := hr1.put (av := .d true (.v (.bool A.isNone))) (v := .bool A.isNone) (vr_v rfl) (some t2) (fun t e => by cases e; exact h2)
  refine h A.isNone (fun hb => ?_) _ _ hs hr2
  rcases hA with hA | ⟨b, off, fl, rfl, _⟩
  · exact hA
  · cases hb

theorem stepL_ok : stepL G own all K os i d (.ok p v u n) st = (p ∧ evalL G own all K os (i + 1) (st.upd d v u n)) := rfl
theorem stepG_ok : stepG G own all K os i d c (.ok p v u n) st = ((c = true → p) ∧ u = [] ∧ n = [] ∧ evalL G own all K os (i + 1) (st.put d (.when c v))) := rfl
theorem guardL_some : guardL G own all K os i o st (some c) = if Oper.ef G o = true then (c = true → stepL G own all K os i o.dst ((opQ G (!own.contains i) o).eval true st) st) ∧ (c = false → evalL G own all K os (i + 1) (st.put o.dst (.when false .junk)))
        else stepG G own all K os i o.dst c ((opQ G true o).eval c st) st := rfl
theorem stepD_ok : stepD G own all K os i d ts log (.ok p v u n rr oo fr) st = (p ∧ Stp.wf ⟨⟨ts ++ rr, oo, d, wrs st u n, fr⟩, v, u, n⟩ st = true ∧ evalD G own all K os (i + 1) (st.upd d v u n) (⟨ts ++ rr, oo, d, wrs st u n, fr⟩ :: log)) := rfl
theorem stepD_pure : stepD G own all K os i d ts log (.ok p v [] [] rr oo fr) st = (p ∧ evalD G own all K os (i + 1) (st.upd d v [] []) (⟨ts ++ rr, oo, d, [], fr⟩ :: log)) := by
  have h : Stp.wf ⟨⟨ts ++ rr, oo, d, [], fr⟩, v, [], []⟩ st = true := wf_empty st rfl
  simp only [stepD, wrs, List.map_nil, List.length_nil, List.range_zero, List.append_nil, h, true_and]
theorem stepDG_ok : stepDG G own all K os i d t c log (.ok p v u n rr oo fr) st = ((c = true → p) ∧ u = [] ∧ n = [] ∧ evalD G own all K os (i + 1) (st.put d (.when c v)) (⟨t :: rr, oo, d, [], fr⟩ :: log)) := rfl
theorem guardD_some : guardD G own all K os i o log st (some t) (some c) = if Oper.ef G o = true then (match c with
      | true => stepD G own all K os i o.dst [t] log ((opQ G (!own.contains i) o).evalR true st) st
      | false => evalD G own all K os (i + 1) (st.put o.dst (.when false .junk)) (⟨[t], [], o.dst, [], false⟩ :: log))
    else stepDG G own all K os i o.dst t c log ((opQ G true o).evalR c st) st := rfl

theorem out_and : (Out.ok p v u n).and q = .ok (q ∧ p) v u n := rfl
theorem outR_and : (OutR.ok p v u n rr oo fr).and q = .ok (q ∧ p) v u n rr oo fr := rfl
theorem outR_rd : (OutR.ok p v u n rr oo fr).rd t = .ok p v u n (t :: rr) oo fr := rfl
theorem outR_ob : (OutR.ok p v u n rr oo fr).ob t = .ok p v u n rr (t :: oo) fr := rfl
theorem outR_new : (OutR.ok p v u n rr oo fr).new = .ok p v u n rr oo true := rfl

theorem binV_int {T : Nat → TI} {op : BinOp} {fr fr' : Bool} {k k' : IntKind} {a b : Int} : binV T op t (.d fr (.v (.int k a))) (.d fr' (.v (.int k' b))) = binI op k a k' b := rfl
theorem binV_str {T : Nat → TI} {op : BinOp} {fr fr' : Bool} {a b : ByteArray} : binV T op t (.d fr (.v (.string a))) (.d fr' (.v (.string b))) = binS op a b := rfl

theorem binV_ptr_eq {T : Nat → TI} {m off : Nat} {fr : Bool} : binV T .eql t (.ptr m off) (.d fr (.v (.pointer none))) = match (T t).desc with | .ptr _ => AM.Q.obj m fun _ => AM.Q.ret (.bool false) | _ => AM.Q.bad := by
  unfold binV; cases (T t).desc <;> rfl
theorem binV_ptr_ne {T : Nat → TI} {m off : Nat} {fr : Bool} : binV T .neq t (.ptr m off) (.d fr (.v (.pointer none))) = match (T t).desc with | .ptr _ => AM.Q.obj m fun _ => AM.Q.ret (.bool true) | _ => AM.Q.bad := by
  unfold binV; cases (T t).desc <;> rfl
theorem binV_bool_eq {T : Nat → TI} {p q : Bool} {fr fr' : Bool} : binV T .eql t (.d fr (.v (.bool p))) (.d fr' (.v (.bool q))) = match (T t).desc with | .bool => AM.Q.ret (.bool (p == q)) | _ => AM.Q.bad := by
  unfold binV; cases (T t).desc <;> rfl
theorem binV_bool_ne {T : Nat → TI} {p q : Bool} {fr fr' : Bool} : binV T .neq t (.d fr (.v (.bool p))) (.d fr' (.v (.bool q))) = match (T t).desc with | .bool => AM.Q.ret (.bool (p != q)) | _ => AM.Q.bad := by
  unfold binV; cases (T t).desc <;> rfl

theorem upd_plain {env : List (Nat × AV)} {obs : List (Option Ob)} {d : Nat} : St.upd ⟨env, obs⟩ (some d) v [] [] = ⟨(d, v) :: env, obs⟩ := by simp [St.upd, St.put]
theorem upd_none {env : List (Nat × AV)} {obs : List (Option Ob)} : St.upd ⟨env, obs⟩ none v [] [] = ⟨env, obs⟩ := by simp [St.upd, St.put]
theorem upd_set {env : List (Nat × AV)} {obs : List (Option Ob)} {d : Nat} {m : Nat} {ob : Ob} : St.upd ⟨env, obs⟩ (some d) v [(m, ob)] [] = ⟨(d, v) :: env, obs.set m (some ob)⟩ := by simp [St.upd, St.put]
theorem upd_none_set {env : List (Nat × AV)} {obs : List (Option Ob)} {m : Nat} {ob : Ob} : St.upd ⟨env, obs⟩ none v [(m, ob)] [] = ⟨env, obs.set m (some ob)⟩ := by simp [St.upd, St.put]
theorem upd_new {env : List (Nat × AV)} {obs : List (Option Ob)} {d : Nat} {ob : Ob} : St.upd ⟨env, obs⟩ (some d) v [] [ob] = ⟨(d, v) :: env, obs ++ [some ob]⟩ := by simp [St.upd, St.put]
theorem put_some {env : List (Nat × AV)} {obs : List (Option Ob)} {d : Nat} : St.put ⟨env, obs⟩ (some d) v = ⟨(d, v) :: env, obs⟩ := rfl
theorem put_none {env : List (Nat × AV)} {obs : List (Option Ob)} : St.put ⟨env, obs⟩ none v = ⟨env, obs⟩ := rfl

/-! ### one operation after the other -/
theorem evalL_next {op : Op} {ty : TypeId} {ps : String} {af : Array Edge} (e : (opQ G (!own.contains i) ⟨d, op, ty, ps, af, none⟩).eval true st = .ok p v u n) (hp : p) (h : evalL G own all K os (i + 1) (st.upd d v u n)) :
    evalL G own all K (⟨d, op, ty, ps, af, none⟩ :: os) i st := by
  rw [evalL_plain, e]
  exact ⟨hp, h⟩
theorem gcond_of {j : Nat} {want : Bool} {c1 b : Bool} (ht : gslot all j = some t) (hb : boolOf (look t st.env) = some (c1, b)) (hc : (c1 && (if want then b else !b)) = c) : gcond all st j want = some c := by
  unfold gcond
  unfold gslot at ht
  rw [ht]
  dsimp only
  rw [hb, ← hc]
  rfl
theorem evalL_nextG {op : Op} {ty : TypeId} {ps : String} {af : Array Edge} {j : Nat} {want : Bool} {c1 b : Bool} (ht : gslot all j = some t) (hef : Oper.ef G ⟨d, op, ty, ps, af, some (j, want)⟩ = false) (hb : boolOf (look t st.env) = some (c1, b)) (hc : (c1 && (if want then b else !b)) = c)
    (e : (opQ G true ⟨d, op, ty, ps, af, some (j, want)⟩).eval c st = .ok p v [] []) (hp : c = true → p) (h : evalL G own all K os (i + 1) (st.put d (.when c v))) :
    evalL G own all K (⟨d, op, ty, ps, af, some (j, want)⟩ :: os) i st := by
  rw [evalL_guard, gcond_of ht hb hc, guardL_some, hef, e]
  exact ⟨hp, rfl, rfl, h⟩
theorem evalL_nextS {op : Op} {ty : TypeId} {ps : String} {af : Array Edge} {j : Nat} {want : Bool} {c1 b : Bool} (ht : gslot all j = some t) (hef : Oper.ef G ⟨d, op, ty, ps, af, some (j, want)⟩ = true) (hb : boolOf (look t st.env) = some (c1, b)) (hc : (c1 && (if want then b else !b)) = c)
    (h1 : c = true → ∃ p v u n, (opQ G (!own.contains i) ⟨d, op, ty, ps, af, some (j, want)⟩).eval true st = .ok p v u n ∧ p ∧ evalL G own all K os (i + 1) (st.upd d v u n))
    (h2 : c = false → evalL G own all K os (i + 1) (st.put d (.when false .junk))) :
    evalL G own all K (⟨d, op, ty, ps, af, some (j, want)⟩ :: os) i st := by
  rw [evalL_guard, gcond_of ht hb hc, guardL_some, hef]
  refine ⟨fun hc => ?_, h2⟩
  obtain ⟨p, v, u, n, e, hp, h⟩ := h1 hc
  show stepL _ _ _ _ _ _ _ _ _
  rw [e]
  exact ⟨hp, h⟩
theorem evalD_next {op : Op} {ty : TypeId} {ps : String} {af : Array Edge} (e : (opQ G (!own.contains i) ⟨d, op, ty, ps, af, none⟩).evalR true st = .ok p v [] [] rr oo fr) (hp : p) (h : evalD G own all K os (i + 1) (st.upd d v [] []) (⟨rr, oo, d, [], fr⟩ :: log)) :
    evalD G own all K (⟨d, op, ty, ps, af, none⟩ :: os) i st log := by
  rw [evalD_plain, e, stepD_pure]
  exact ⟨hp, h⟩
theorem evalD_nextU {op : Op} {ty : TypeId} {ps : String} {af : Array Edge} {wo : List Nat} (e : (opQ G (!own.contains i) ⟨d, op, ty, ps, af, none⟩).evalR true st = .ok p v u n rr oo fr) (hp : p)
    (hw : wrs st u n = wo) (hwf : Stp.wf ⟨⟨rr, oo, d, wo, fr⟩, v, u, n⟩ st = true) (h : evalD G own all K os (i + 1) (st.upd d v u n) (⟨rr, oo, d, wo, fr⟩ :: log)) :
    evalD G own all K (⟨d, op, ty, ps, af, none⟩ :: os) i st log := by
  rw [evalD_plain, e, stepD_ok, hw]
  exact ⟨hp, hwf, h⟩
theorem evalD_nextG {op : Op} {ty : TypeId} {ps : String} {af : Array Edge} {j : Nat} {want : Bool} {c1 b : Bool} (ht : gslot all j = some t) (hef : Oper.ef G ⟨d, op, ty, ps, af, some (j, want)⟩ = false) (hb : boolOf (look t st.env) = some (c1, b)) (hc : (c1 && (if want then b else !b)) = c)
    (e : (opQ G true ⟨d, op, ty, ps, af, some (j, want)⟩).evalR c st = .ok p v [] [] rr oo fr) (hp : c = true → p) (h : evalD G own all K os (i + 1) (st.put d (.when c v)) (⟨t :: rr, oo, d, [], fr⟩ :: log)) :
    evalD G own all K (⟨d, op, ty, ps, af, some (j, want)⟩ :: os) i st log := by
  rw [evalD_guard, gcond_of ht hb hc, ht, guardD_some, hef, e]
  exact ⟨hp, rfl, rfl, h⟩
theorem evalD_done (ho : ordOK all log = true) (h : K st) : evalD G own all K [] i st log := ⟨ho, h⟩
end

end Go.AM
