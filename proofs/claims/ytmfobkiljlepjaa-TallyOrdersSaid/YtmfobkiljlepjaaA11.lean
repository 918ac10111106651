/- AM, part 11: append, store. -/
import Derived.Test.YtmfobkiljlepjaaA10
import Derived.Maps.AppendAt
set_option linter.unusedVariables false
set_option linter.unusedSimpArgs false
namespace Go.AM
open Go Go.RowKit
section
variable {P : Program} {S : SpecEqT} {E : En} {st : St} {a : Act} {w : World} {hs : List Hd} {o : Oper} {v : AV} {u : List (Nat × Ob)} {n : List Ob} {T : Nat → TI}

/-- A source of elements. -/
structure SrcOK (C : Cx) (g : Bool) (sz : Nat) (ys : List Dat) (x : Value) : Prop where
  wds : ∀ y ∈ ys, y.wd = sz
  val : ∃ A c fl, x = .slice A ys.length c ∧ Dat.RL C.w (C.Sh g) ys fl ∧ (ys = [] ∨ ∃ ad, A = some ad ∧ ∀ j q, fl[j]? = some q → C.w.cell? (ad.add j) = some q)

def Q.src (a : AV) (not : Nat) (sz : Nat) (k : Bool → List Dat → Q) : Q := match a with
  | .d g (.sl sz' ys) => if sz' = sz then k (g || ys.all Dat.flat) ys else .bad
  | .d _ (.v (.slice _ 0 _)) => k true []
  | .own m γ => if m = not then .bad else .obj m fun ob => (match ob with
    | .row _ sz' γ' g ys => if γ = γ' ∧ sz' = sz then k (g || ys.all Dat.flat) ys else .bad
    | _ => .bad)
  | _ => .bad

theorem SrcOK.flat {C : Cx} {g : Bool} {sz : Nat} {ys : List Dat} {x : Value} (h : SrcOK C g sz ys x) : SrcOK C (g || ys.all Dat.flat) sz ys x := by
  refine ⟨h.wds, ?_⟩
  obtain ⟨A, c, fl, e, hl, hc⟩ := h.val
  refine ⟨A, c, fl, e, ?_, hc⟩
  cases hf : ys.all Dat.flat with
  | true => exact RL_allflat hf hl
  | false => rw [Bool.or_false]; exact hl

theorem src_sound (h : Rel E st a w hs) {av : AV} {x : Value} (hx : av.VR (st.cx E w hs) x) {not sz : Nat} {k : Bool → List Dat → Q} (hr : (Q.src av not sz k).Runs S st v u n) :
    ∃ g ys, (k g ys).Runs S st v u n ∧ SrcOK (st.cx E w hs) g sz ys x := by
  unfold Q.src at hr
  split at hr
  · rename_i g sz' ys
    split at hr
    · rename_i e
      subst e
      refine ⟨_, ys, hr, SrcOK.flat (g := g) ?_⟩
      unfold AV.VR at hx
      obtain ⟨A, c, e2, h2, h3, h4, h5⟩ := hx.slice
      refine ⟨h4, ?_⟩
      rcases h5 with rfl | ⟨b, off, fl, rfl, hb, hl, hc⟩
      · exact ⟨A, c, [], e2, by unfold Dat.RL; rfl, .inl rfl⟩
      · exact ⟨_, c, fl, e2, hl, .inr ⟨_, rfl, fun j q hq => by rw [Addr.add_mid]; exact hc j q hq⟩⟩
    · unfold Q.Runs at hr; exact hr.elim
  · refine ⟨true, [], hr, ⟨by simp, ?_⟩⟩
    exact ⟨_, _, [], vr_int hx, by unfold Dat.RL; rfl, .inl rfl⟩
  · rename_i m γ
    split at hr
    · unfold Q.Runs at hr; exact hr.elim
    · unfold Q.Runs at hr
      obtain ⟨ob, hob, hr⟩ := hr
      dsimp only at hr
      split at hr
      · split at hr
        · rename_i E' sz' γ' g ys ec
          obtain ⟨rfl, rfl⟩ := ec
          refine ⟨_, ys, hr, SrcOK.flat (g := g) ?_⟩
          unfold AV.VR at hx
          have h2 := (hx.2 _ _ _ _ _ hob).2 rfl
          obtain ⟨hd', e3, h3⟩ := h.obj hob
          obtain ⟨vv, rfl, _, hz, fl, hl, h4⟩ := OR.row_val h3
          have e4 : vv = x := by
            have : (st.cx E w hs).hs = hs := rfl
            rw [this, e3] at h2
            simpa using h2
          subst e4
          refine ⟨hz, ?_⟩
          obtain ⟨A, c, e5, _, _, h6⟩ := owns_slice h4
          rcases h6 with h6 | ⟨b, rfl⟩
          · have : ys = [] := List.length_eq_zero_iff.1 h6
            subst this
            exact ⟨A, c, [], e5, by unfold Dat.RL; rfl, .inl rfl⟩
          · exact ⟨_, c, fl, e5, hl, .inr ⟨_, rfl, h4.cells (g := b) (by rw [e5]; rfl)⟩⟩
        · unfold Q.Runs at hr; exact hr.elim
      · unfold Q.Runs at hr; exact hr.elim
  · unfold Q.Runs at hr; exact hr.elim

/-- append onto an own row (nil let in). -/
theorem run_append_src (hT : TabOK P T) {t e : Nat} (ty : TypeId) (e1 : (T t).desc = .slice e) (hk : (T e).desc.known = true) (h0 : 0 < (T e).size) (hzs : (T e).zero.length = (T e).size) {C : Cx} {g : Bool} {ys : List Dat} {x : Value}
    (hx : SrcOK C g (T e).size ys x) {vv : Value} {m : Nat} {fl : List Value} (ho : C.w.ownsRow 0 e (T e).size vv m fl) (h63 : m + ys.length ≤ maxLen) (hbytes : (m + ys.length) * (T e).bytes ≤ 140737488355328) :
    ∃ v' w' fl', (Builtin.append_ #[t, t] ty #[vv, x]).run P C.w = .ok v' w' ∧ w'.ownsRow 0 e (T e).size v' (m + ys.length) (fl ++ fl') ∧ Dat.RL C.w (C.Sh g) ys fl' ∧ C.w.grownBy w' vv.ownBlock ∧
      (v'.ownBlock = vv.ownBlock ∨ v'.ownBlock = some C.w.heap.size) := by
  obtain ⟨g1, _⟩ := hT t (by rw [e1]; simp)
  rw [e1] at g1
  obtain ⟨_, ⟨info, i1, i2, i3, z, i4, i5⟩, i6⟩ := hT e (KD.known_ne hk)
  obtain ⟨A, c, fl', rfl, hl, hA⟩ := hx.val
  have hzc : z.cells.size = (T e).size := by rw [← hzs, ← i5]; simp
  cases A with
  | some ad =>
    have hnews : ∀ j q, fl'[j]? = some q → C.w.cell? (ad.add j) = some q := by
      rcases hA with rfl | ⟨ad', e2, hc⟩
      · unfold Dat.RL at hl; subst hl; simp
      · cases e2; exact hc
    obtain ⟨v', w', hr, hown, hg, _, hat⟩ := run_append_own_at (P := P) C.w 0 t ty e info z (T e).size (T e).bytes g1 i1 i4 i2 i3 hzc h0 vv m fl ho ad ys.length c fl' (Dat.RL.len hl hx.wds) hnews (Dat.RL.one _ _ hl) h63 hbytes (Nat.zero_le _)
    exact ⟨v', w', fl', hr, hown, hl, hg, hat⟩
  | none =>
    have hys : ys = [] := by
      rcases hA with rfl | ⟨ad', e2, _⟩
      · rfl
      · cases e2
    subst hys
    have hfl : fl' = [] := by unfold Dat.RL at hl; exact hl
    subst hfl
    obtain ⟨A', c', rfl, hmc, _, _⟩ := owns_slice ho
    refine ⟨_, C.w, [], ?_, by simpa using ho, hl, ⟨rfl, rfl, rfl, Nat.le_refl _, fun _ _ _ => rfl⟩, .inl rfl⟩
    cases A' <;> simp [Builtin.append_, run_underlying g1, sizeOf, typeInfo, i1, Builtin.lenOf, hmc, Builtin.firstCells, storeCells]

/-- An object written. -/
theorem OpOK.set (h : Rel E st a w hs) (hd : ∀ t, o.dst = some t → t < E.N) {w' : World} {nx : Next} {val : Value} {av : AV} {m : Nat} {ob ob' : Ob} {k k' : Hd} (hrun : (execOp a.eval o).run P w = .ok nx w')
    (hnx : nx = .value val ∨ (nx = .skip ∧ val = undef)) (ho : st.obs[m]? = some (some ob)) (hh : hs[m]? = some k) (hw : Wrote w w' k.blks) (hn : ∀ b ∈ k'.blks, b ∈ k.blks ∨ w.heap.size ≤ b) (hf : ob.follows k ob' k')
    (hor : ob'.OR ((st.cx E w hs).setO w' m (some ob') k') k') (hv : av.VR ((st.cx E w hs).setO w' m (some ob') k') val) : OpOK P E o st a w hs av [(m, ob')] [] := by
  intro Kp Q hK
  have le := Cx.Le.setO (C := st.cx E w hs) (o' := ob') h.wok.len ho hh hw hn hf
  have wok := h.wok.setO ho hh hw hn hf hor
  have hr : Rel E ⟨st.env, st.obs.set m (some ob')⟩ a w' (hs.set m k') := h.le le wok
  have := hr.put (av := av) (v := val) hv o.dst hd
  have hfin : Kp (a.put o.dst val) w' := by
    refine hK _ _ (hs.set m k') ?_
    cases hdst : o.dst <;> simpa [St.upd, St.put, hdst] using this
  unfold Oper.wp
  rw [hrun]
  rcases hnx with rfl | ⟨rfl, rfl⟩
  · rw [Oper.upon_value]; exact hfin
  · rw [Oper.upon_skip]; exact hfin

def opAppend (T : Nat → TI) (t : Nat) (x y : Operand) : Q := match (T t).desc with
  | .slice e => if (T e).desc.known = true ∧ 0 < (T e).size ∧ (T e).zero.length = (T e).size then Q.opnd x fun a => Q.opnd y fun b => (match a with
    | .own m γ => .obj m fun ob => (match ob with
      | .row E' sz γ' fr xs => if γ = γ' ∧ E' = e ∧ sz = (T e).size then Q.src b m sz fun g ys => .side ((xs.length + ys.length) * (T e).bytes ≤ 140737488355328 ∧ xs.length + ys.length ≤ 9223372036854775807)
          (.fin (.own m (γ + 1)) [(m, .row e sz (γ + 1) (fr && g) (xs ++ ys))] []) else .bad
      | _ => .bad)
    | .d _ (.v (.slice none 0 0)) => .fresh fun m => Q.src b m (T e).size fun g ys => .side (ys.length * (T e).bytes ≤ 140737488355328 ∧ ys.length ≤ 9223372036854775807)
        (.fin (.own m 0) [] [.row e (T e).size 0 g ys])
    | _ => .bad) else .bad
  | _ => .bad

theorem execOp_append {x y : Operand} {t : TypeId} (ho : o.op = .call { callee := .builtin .append, args := #[x, y], argTypes := #[t, t] }) {r : Value} {w' : World}
    (h : (Builtin.append_ #[t, t] o.type #[a.eval x, a.eval y]).run P w = .ok r w') : (execOp a.eval o).run P w = .ok (.value r) w' := by
  simp only [execOp, ho, resolve, invoke, builtin, Sem.run_bind, Sem.run_pure, Result.andThen_ok, List.map_toArray, List.map_cons, List.map_nil, h]

theorem opAppend_sound (hT : TabOK P T) (h : Rel E st a w hs) (hd : ∀ t, o.dst = some t → t < E.N) {t : Nat} {x y : Operand} (ho : o.op = .call { callee := .builtin .append, args := #[x, y], argTypes := #[t, t] })
    (hr : (opAppend T t x y).Runs S st v u n) : OpOK P E o st a w hs v u n := by
  unfold opAppend at hr
  split at hr
  · rename_i e e1
    split at hr
    · rename_i hc
      obtain ⟨hk, h0, hzs⟩ := hc
      replace hr := opnd_sound h hr; obtain ⟨av, hav, hr⟩ := hr
      replace hr := opnd_sound h hr; obtain ⟨bv, hbv, hr⟩ := hr
      split at hr
      · rename_i m γ
        unfold Q.Runs at hr
        obtain ⟨ob, hob, hr⟩ := hr
        dsimp only at hr
        split at hr
        · split at hr
          · rename_i E' sz γ' fr xs ec
            obtain ⟨rfl, rfl, rfl⟩ := ec
            obtain ⟨g, ys, hr, hsrc⟩ := src_sound h hbv hr
            unfold Q.Runs at hr
            obtain ⟨⟨hb1, hb2⟩, hr⟩ := hr
            unfold Q.Runs at hr
            obtain ⟨rfl, rfl, rfl⟩ := hr
            unfold AV.VR at hav
            have h2 := (hav.2 _ _ _ _ _ hob).2 rfl
            obtain ⟨hd', e3, h3⟩ := h.obj hob
            obtain ⟨vv, rfl, _, hz, fl, hl, h4⟩ := OR.row_val h3
            have e4 : vv = a.eval x := by
              have : (st.cx E w hs).hs = hs := rfl
              rw [this, e3] at h2
              simpa using h2
            obtain ⟨v', w', fl', hrun, hown, hl', hg, hat⟩ := run_append_src (P := P) hT o.type e1 hk h0 hzs hsrc h4 (by simp only [maxLen]; omega) hb1
            have hwr : Wrote w w' (Hd.row vv).blks := ⟨hg.os, hg.tape, hg.output, hg.size, fun b hb hnb => hg.block b hb (fun e => hnb (by simp [Hd.blks, ← e]))⟩
            have hnew : ∀ b ∈ (Hd.row v').blks, b ∈ (Hd.row vv).blks ∨ w.heap.size ≤ b := by
              intro b hb
              simp only [Hd.blks, Option.mem_toList] at hb ⊢
              rcases hat with hat | hat
              · rw [hat] at hb; exact .inl hb
              · rw [hat] at hb; right; simp at hb; rw [← hb]; exact Nat.le_refl _
            have hfol : (Ob.row E' (T E').size γ fr xs).follows (.row vv) (.row E' (T E').size (γ + 1) (fr && g) (xs ++ ys)) (.row v') := by
              refine ⟨fun E2 sz2 γ2 fr2 xs2 e => ?_, fun b e => by simp at e, fun b q e => by simp at e⟩
              simp only [Ob.row.injEq] at e
              obtain ⟨_, _, rfl, _, _⟩ := e
              exact ⟨_, _, γ, _, _, rfl, Nat.le_succ _, fun e => by omega⟩
            have le := Cx.Le.setO (C := st.cx E w hs) (o' := .row E' (T E').size (γ + 1) (fr && g) (xs ++ ys)) h.wok.len hob e3 hwr hnew hfol
            refine OpOK.set h hd (nx := .value v') (val := v') (execOp_append ho (by rw [← e4]; exact hrun)) (.inl rfl) hob e3 hwr hnew hfol ?_ ?_
            · refine ⟨h0, fun q hq => ?_, fl ++ fl', ?_, by rw [List.length_append]; exact hown⟩
              · rcases List.mem_append.1 hq with hq | hq
                · exact hz q hq
                · exact hsrc.wds q hq
              · exact Dat.RL.append.2 ⟨fl, fl', rfl, Dat.RL.weak (Dat.RL.stable (le.sh fr) _ _ hl), Dat.RL.weak' (Dat.RL.stable (le.sh g) _ _ hl')⟩
            · unfold AV.VR
              have hlt : m < hs.length := (List.getElem?_eq_some_iff.1 e3).1
              have hlt' : m < st.obs.length := (List.getElem?_eq_some_iff.1 hob).1
              refine ⟨by simpa [Cx.setO, St.cx] using hlt', fun E2 sz2 γ0 fr2 xs2 he => ?_⟩
              have : γ0 = γ + 1 := by
                simp [Cx.setO, St.cx, List.getElem?_set, hlt'] at he
                exact he.2.2.1.symm
              subst this
              exact ⟨Nat.le_refl _, fun _ => by simp [Cx.setO, St.cx, List.getElem?_set, hlt]⟩
          · unfold Q.Runs at hr; exact hr.elim
        · unfold Q.Runs at hr; exact hr.elim
      · unfold Q.Runs at hr
        obtain ⟨g, ys, hr, hsrc⟩ := src_sound h hbv hr
        unfold Q.Runs at hr
        obtain ⟨⟨hb1, hb2⟩, hr⟩ := hr
        unfold Q.Runs at hr
        obtain ⟨rfl, rfl, rfl⟩ := hr
        have ex := vr_int hav
        obtain ⟨v', w', fl', hrun, hown, hl', hg, hat⟩ := run_append_src (P := P) hT o.type e1 hk h0 hzs hsrc (vv := .slice none 0 0) (m := 0) (fl := []) (World.ownsRow_nil _ _ _ _) (by simp only [maxLen]; omega) (by simpa using hb1)
        have hb : Below w.heap.size w w' := grown_below hg
        have le := Cx.Le.add (C := st.cx E w hs) (o := .row e (T e).size 0 g ys) (h := .row v') h.wok.len hb (fun b hb => by
          simp only [Hd.blks, Option.mem_toList] at hb
          rcases hat with hat | hat
          · rw [hat] at hb; simp [Value.ownBlock] at hb
          · rw [hat] at hb; simp at hb; rw [← hb]; exact Nat.le_refl _)
        refine OpOK.add h hd (k := .row v') (execOp_append ho (by rw [ex]; exact hrun)) hb (fun b hb => ?_) ?_ ?_
        · simp only [Hd.blks, Option.mem_toList] at hb
          rcases hat with hat | hat
          · rw [hat] at hb; simp [Value.ownBlock] at hb
          · rw [hat] at hb; simp at hb; rw [← hb]; exact Nat.le_refl _
        · exact ⟨h0, hsrc.wds, fl', Dat.RL.stable (le.sh g) _ _ hl', by have q := hown; simp only [Nat.zero_add, List.nil_append] at q; exact q⟩
        · unfold AV.VR
          refine ⟨by simp [Cx.add, St.cx], fun E' sz' γ0 fr' xs' he => ⟨Nat.zero_le _, fun _ => ?_⟩⟩
          have : st.obs.length = hs.length := h.wok.len
          simp [Cx.add, St.cx, this]
      · unfold Q.Runs at hr; exact hr.elim
    · unfold Q.Runs at hr; exact hr.elim
  · unfold Q.Runs at hr; exact hr.elim

/-! ### store -/
theorem setAll_left {α : Type} : ∀ (gs a b : List α) (off : Nat), off + gs.length ≤ a.length → setAll (a ++ b) off gs = setAll a off gs ++ b
  | [], a, b, off, _ => rfl
  | g :: gs, a, b, off, h => by
    simp only [List.length_cons] at h
    simp only [setAll]
    rw [List.set_append_left _ _ (by omega), setAll_left gs _ b (off + 1) (by simp; omega)]

theorem setAll_right {α : Type} : ∀ (gs a b : List α) (off : Nat), setAll (a ++ b) (a.length + off) gs = a ++ setAll b off gs
  | [], a, b, off => rfl
  | g :: gs, a, b, off => by
    simp only [setAll]
    rw [List.set_append_right _ _ (by omega), Nat.add_sub_cancel_left, Nat.add_assoc, setAll_right gs a _ (off + 1)]

theorem setAll_eq {α : Type} : ∀ (gs a : List α) (off : Nat), off + gs.length ≤ a.length → setAll a off gs = a.take off ++ gs ++ a.drop (off + gs.length)
  | [], a, off, _ => by simp [setAll]
  | g :: gs, a, off, h => by
    simp only [List.length_cons] at h
    simp only [setAll]
    rw [setAll_eq gs (a.set off g) (off + 1) (by simp; omega)]
    have e1 : (a.set off g).take (off + 1) = a.take off ++ [g] := by
      rw [List.take_add_one, List.take_set_of_le (Nat.le_refl _)]
      simp [List.getElem?_set, show off < a.length by omega]
    have e2 : (a.set off g).drop (off + 1 + gs.length) = a.drop (off + (g :: gs).length) := by
      rw [List.drop_set_of_lt (by omega)]
      simp only [List.length_cons]
      congr 1
      omega
    rw [e1, e2]
    simp

theorem flat_set {sz off : Nat} {gs : List Dat} {new : Dat} : ∀ (xs : List Dat) (i : Nat), (∀ x ∈ xs, x.wd = sz) → i < xs.length → off + gs.length ≤ sz → (∀ x, xs[i]? = some x → new.cells = setAll x.cells off gs) →
    (xs.set i new).flatMap Dat.cells = setAll (xs.flatMap Dat.cells) (i * sz + off) gs
  | [], i, _, h, _, _ => by simp at h
  | x :: xs, 0, hs, h, ho, hn => by
    have hx : x.wd = sz := hs x (by simp)
    simp only [List.set_cons_zero, List.flatMap_cons, Nat.zero_mul, Nat.zero_add]
    rw [setAll_left gs x.cells _ off (by unfold Dat.wd at hx; omega), hn x (by simp)]
  | x :: xs, i + 1, hs, h, ho, hn => by
    have hx : x.cells.length = sz := hs x (by simp)
    simp only [List.set_cons_succ, List.flatMap_cons]
    have e : (i + 1) * sz + off = x.cells.length + (i * sz + off) := by rw [hx, Nat.add_mul]; omega
    rw [e, setAll_right, flat_set xs i (fun y hy => hs y (by simp [hy])) (by simpa using h) ho (fun y hy => hn y (by simpa using hy))]

theorem RF.setAll {w : World} {B : Nat → Prop} : ∀ {gs : List Dat} {ys : List Value} {fs : List Dat} {cs : List Value} {off : Nat}, Dat.RF w B fs cs → Dat.RF w B gs ys → Dat.RF w B (AM.setAll fs off gs) (AM.setAll cs off ys)
  | [], ys, fs, cs, off, h, hg => by unfold Dat.RF at hg; subst hg; exact h
  | g :: gs, ys, fs, cs, off, h, hg => by
    unfold Dat.RF at hg
    obtain ⟨y, rest, rfl, h0, h1, h2⟩ := hg
    simp only [AM.setAll]
    exact RF.setAll (h.set h0 h1) h2

theorem run_storeAt_row (hT : TabOK P T) {t : Nat} (hk : (T t).desc.known = true) {b off e : Nat} {cur : Array Value} {x : Value} (hb : w.heap[b]? = some (.cells cur e (0, 0))) (hx : x.cells.size = (T t).size) (hfit : off + x.cells.size ≤ cur.size) (h1 : ∀ q ∈ x.cells.toList, q.oneCell' = true) :
    (Instr.storeAt t (.pointer (some ⟨b, off, none⟩)) x).run P w = .ok () (w.setRow b (setAll cur.toList off x.cells.toList).toArray) := by
  obtain ⟨_, ⟨info, i1, i2, _⟩, _⟩ := hT t (KD.known_ne hk)
  have := run_storeCells_at P b off e x.cells.toList 0 cur w hb (by simpa using hfit) h1
  simp only [Nat.add_zero] at this
  have hs : x.cells.size = info.size := by rw [hx, i2]
  rw [setAll_eq _ _ _ (by simpa using hfit)]
  simp only [Instr.storeAt, Instr.sureAddr, Sem.run_bind, Sem.run_pure, Result.andThen_ok, storeVar, sizeOf, typeInfo, run_program, i1]
  simp [hs, this]

theorem wrote_setRow (w : World) (b : Nat) (cs : Array Value) : Wrote w (w.setRow b cs) [b] :=
  ⟨rfl, rfl, rfl, by simp, fun k _ hk => setRow_other w b k cs (by simpa using hk)⟩

def ofCells (ag : Bool) (cs : List Dat) : Dat := match ag, cs with
  | true, cs => .agg cs
  | false, [c] => c
  | false, cs => .agg cs

def opStore (T : Nat → TI) (t : Nat) (p x : Operand) : Q := if (T t).desc.known = true then Q.opnd p fun pa => Q.opnd x fun xa => (match pa with
  | .ptr m off => .obj m fun ob => (match ob with
    | .cells E' cs => Q.cells xa fun fs => if fs.length = (T t).size ∧ off + fs.length ≤ cs.length then .fin .junk [(m, .cells E' (setAll cs off fs))] [] else .bad
    | _ => .bad)
  | .elt m γ sz i off => .obj m fun ob => (match ob with
    | .row E' sz' γ' fr xs => (match xa with
      | .d g y => if γ = γ' ∧ sz = sz' then .side (i < xs.length ∧ y.cells.length = (T t).size ∧ off + y.cells.length ≤ sz ∧ (ofCells (T E').desc.agg (setAll (xs.getD i (TI.z T E')).cells off y.cells)).cells = setAll (xs.getD i (TI.z T E')).cells off y.cells)
          (.fin .junk [(m, .row E' sz γ (fr && g) (xs.set i (ofCells (T E').desc.agg (setAll (xs.getD i (TI.z T E')).cells off y.cells))))] []) else .bad
      | _ => .bad)
    | _ => .bad)
  | _ => .bad) else .bad

theorem opStore_sound (hT : TabOK P T) (h : Rel E st a w hs) (hd : ∀ t, o.dst = some t → t < E.N) {t : Nat} {p x : Operand} (ho : o.op = .store t p x) (hr : (opStore T t p x).Runs S st v u n) : OpOK P E o st a w hs v u n := by
  have hx : ∀ {w' : World}, (Instr.storeAt t (a.eval p) (a.eval x)).run P w = .ok () w' → (execOp a.eval o).run P w = .ok .skip w' := by
    intro w' hy
    simp only [execOp, ho, Sem.run_bind, hy, Result.andThen_ok, Sem.run_pure]
  unfold opStore at hr
  split at hr
  · rename_i hk
    replace hr := opnd_sound h hr; obtain ⟨pa, hpa, hr⟩ := hr
    replace hr := opnd_sound h hr; obtain ⟨xa, hxa, hr⟩ := hr
    split at hr
    · rename_i m off
      unfold Q.Runs at hr
      obtain ⟨ob, hob, hr⟩ := hr
      dsimp only at hr
      split at hr
      · rename_i E' cs
        obtain ⟨fs, hr, hc1, hc2⟩ := Qcells_sound h hxa hr
        split at hr
        · rename_i hsz
          unfold Q.Runs at hr
          obtain ⟨rfl, rfl, rfl⟩ := hr
          unfold AV.VR at hpa
          obtain ⟨b, hb, ep⟩ := hpa.2 _ hob
          obtain ⟨hd', e3, h3⟩ := h.obj hob
          obtain ⟨b', rfl, vs, h4, h5, h6⟩ := OR.cells_val h3
          have e4 : b' = b := by
            have e5 : (st.cx E w hs).hs = hs := rfl
            rcases hb with hb | ⟨q, hb⟩ <;> rw [e5, e3] at hb
            · simpa using hb
            · simp at hb
          subst e4
          have l1 := VL.len hc1
          have l2 := VL.len h5
          have hl1 : (a.eval x).cells.size = (T t).size := by rw [← hsz.1, ← l1]; simp
          have hrun := run_storeAt_row (P := P) (w := w) (off := off) hT hk h4 hl1 (by rw [hl1, ← hsz.1]; simp; omega) hc2
          rw [← ep] at hrun
          have hwr := wrote_setRow w b' (setAll vs off (a.eval x).cells.toList).toArray
          have hfol : (Ob.cells E' cs).follows (.ptr b') (.cells E' (setAll cs off fs)) (.ptr b') :=
            ⟨fun E2 sz2 γ2 fr2 xs2 e => by simp at e, fun b e => e, fun b q e => by simp at e⟩
          have le := Cx.Le.setO (C := st.cx E w hs) (o' := .cells E' (setAll cs off fs)) (h' := .ptr b') h.wok.len hob e3 hwr (fun b hb => .inl hb) hfol
          refine OpOK.set h hd (val := undef) (hx hrun) (.inr ⟨rfl, rfl⟩) hob e3 hwr (fun b hb => .inl hb) hfol ?_ (by unfold AV.VR; trivial)
          refine ⟨setAll vs off (a.eval x).cells.toList, setRow_heap w b' _ _ _ _ h4, AV.VL.le le _ _ (VL.setAll h5 hc1), fun q hq => ?_⟩
          rcases mem_setAll hq with hq | hq
          · exact h6 q hq
          · exact hc2 q hq
        · unfold Q.Runs at hr; exact hr.elim
      · unfold Q.Runs at hr; exact hr.elim
    · rename_i m γ sz i off
      unfold Q.Runs at hr
      obtain ⟨ob, hob, hr⟩ := hr
      dsimp only at hr
      split at hr
      · rename_i E' sz' γ' fr xs
        split at hr
        · rename_i g y
          split at hr
          · rename_i ec
            obtain ⟨rfl, rfl⟩ := ec
            unfold Q.Runs at hr
            obtain ⟨⟨hi, hyl, hoff, hcells⟩, hr⟩ := hr
            unfold Q.Runs at hr
            obtain ⟨rfl, rfl, rfl⟩ := hr
            unfold AV.VR at hpa
            obtain ⟨b, len, cap, hb, ep⟩ := (hpa.2 _ _ _ _ _ hob).2 rfl
            obtain ⟨hd', e3, h3⟩ := h.obj hob
            obtain ⟨vv, rfl, hz0, hz, fl, hl, h4⟩ := OR.row_val h3
            have e4 : vv = .slice (some ⟨b, 0, none⟩) len cap := by
              have e5 : (st.cx E w hs).hs = hs := rfl
              rw [e5, e3] at hb
              simpa using hb
            subst e4
            unfold AV.VR at hxa
            have hyc := Dat.RF.cells.2 hxa.cells
            have hly := Dat.RF.len _ _ hyc
            obtain ⟨q1, q2 | ⟨b', cap', cur, q2, q3, q4, q5, q6, q7, q8⟩⟩ := h4
            · simp at q2
            · simp only [Value.slice.injEq, Option.some.injEq, Addr.mk.injEq, and_true] at q2
              obtain ⟨rfl, rfl, rfl⟩ := q2
              have hl1 : (a.eval x).cells.size = (T t).size := by rw [← hyl, ← hly]; simp
              have hlen := Dat.RL.len hl hz
              have hin : i * sz + off + y.cells.length ≤ xs.length * sz := by
                have := Nat.mul_le_mul_right sz (show i + 1 ≤ xs.length by omega)
                rw [Nat.add_mul] at this
                omega
              have hcs : xs.length * sz ≤ cur.size := by rw [q7]; exact Nat.mul_le_mul_right _ q5
              have hrun := run_storeAt_row (P := P) (w := w) (off := i * sz + off) hT hk q4 hl1 (by rw [hl1, ← hyl]; omega) (Dat.RF.one _ _ hyc)
              rw [← ep] at hrun
              have hwr : Wrote w (w.setRow b (setAll cur.toList (i * sz + off) (a.eval x).cells.toList).toArray) (Hd.row (.slice (some ⟨b, 0, none⟩) xs.length cap)).blks := wrote_setRow w b _
              generalize hnew : ofCells (T E').desc.agg (setAll (xs.getD i (TI.z T E')).cells off y.cells) = new at *
              have hfol : (Ob.row E' sz γ fr xs).follows (.row (.slice (some ⟨b, 0, none⟩) xs.length cap)) (.row E' sz γ (fr && g) (xs.set i new)) (.row (.slice (some ⟨b, 0, none⟩) xs.length cap)) := by
                refine ⟨fun E2 sz2 γ2 fr2 xs2 e => ?_, fun b e => by simp at e, fun b q e => by simp at e⟩
                simp only [Ob.row.injEq] at e
                obtain ⟨_, _, rfl, _, _⟩ := e
                exact ⟨_, _, γ, _, _, rfl, Nat.le_refl _, fun _ => rfl⟩
              have le := Cx.Le.setO (C := st.cx E w hs) (o' := .row E' sz γ (fr && g) (xs.set i new)) h.wok.len hob e3 hwr (fun b hb => .inl hb) hfol
              refine OpOK.set h hd (val := undef) (hx hrun) (.inr ⟨rfl, rfl⟩) hob e3 hwr (fun b hb => .inl hb) hfol ?_ (by unfold AV.VR; trivial)
              have hxi : ∀ z, xs[i]? = some z → new.cells = setAll z.cells off y.cells := by
                intro z hz'
                rw [hcells, List.getD_eq_getElem?_getD, hz']
                rfl
              have hflat := flat_set (new := new) (gs := y.cells) (off := off) xs i hz hi (by omega) hxi
              refine ⟨hz0, fun q hq => ?_, setAll fl (i * sz + off) (a.eval x).cells.toList, ?_, ?_⟩
              · rcases List.mem_or_eq_of_mem_set hq with hq | rfl
                · exact hz q hq
                · unfold Dat.wd
                  have hzi : xs[i]? = some xs[i] := by simp [hi]
                  rw [hxi _ hzi, setAll_len]
                  exact hz xs[i] (by simp)
              · rw [Dat.RL.flat, hflat]
                exact RF.setAll (Dat.RF.weak (Dat.RF.stable (le.sh fr) _ _ (Dat.RL.flat.1 hl))) (Dat.RF.weak' (Dat.RF.stable (le.sh g) _ _ hyc))
              · refine ⟨by rw [setAll_len]; simpa using hlen, .inr ⟨b, cap, _, by simp, Nat.zero_le _, setRow_heap w b cur _ _ _ q4, by simpa using q5, q6, by simp [setAll_len, q7], ?_⟩⟩
                have hfl : fl.length = xs.length * sz := hlen
                have e7 : cur.toList = fl ++ cur.toList.drop (xs.length * sz) := by
                  conv => lhs; rw [← List.take_append_drop (xs.length * sz) cur.toList]
                  rw [q8]
                simp only [List.length_set]
                rw [e7, setAll_left _ fl _ _ (by rw [hfl]; simp at hly ⊢; omega)]
                rw [List.take_left' (by rw [setAll_len]; exact hfl)]
          · unfold Q.Runs at hr; exact hr.elim
        · unfold Q.Runs at hr; exact hr.elim
      · unfold Q.Runs at hr; exact hr.elim
    · unfold Q.Runs at hr; exact hr.elim
  · unfold Q.Runs at hr; exact hr.elim

end
end Go.AM
