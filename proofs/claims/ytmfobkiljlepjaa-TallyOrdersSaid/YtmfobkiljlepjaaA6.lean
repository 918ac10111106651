/- AM, part 6: operations that read memory. -/
import Derived.Test.YtmfobkiljlepjaaA5
import Derived.Deep.MidRow
set_option linter.unusedVariables false
set_option linter.unusedSimpArgs false
namespace Go.AM
open Go Go.RowKit

section
variable {P : Program} {S : SpecEqT} {E : En} {st : St} {a : Act} {w : World} {hs : List Hd} {o : Oper} {v : AV} {u : List (Nat × Ob)} {n : List Ob} {T : Nat → TI}

theorem Rel.obj (h : Rel E st a w hs) {m : Nat} {ob : Ob} (e : st.obs[m]? = some (some ob)) : ∃ hd, hs[m]? = some hd ∧ ob.OR (st.cx E w hs) hd := by
  obtain ⟨hd, e1⟩ := h.wok.hd (n := m) (alive_lt (C := st.cx E w hs) ⟨ob, e⟩)
  exact ⟨hd, e1, h.wok.objs m ob hd e e1⟩

theorem OR.row_val {C : Cx} {E sz γ : Nat} {fr : Bool} {xs : List Dat} {hd : Hd} (h : (Ob.row E sz γ fr xs).OR C hd) : ∃ v, hd = .row v ∧ 0 < sz ∧ (∀ x ∈ xs, x.wd = sz) ∧ ∃ fl, Dat.RL C.w (C.Sh fr) xs fl ∧ C.w.ownsRow 0 E sz v xs.length fl := by
  cases hd with
  | row v => exact ⟨v, rfl, h⟩
  | _ => exact h.elim

theorem OR.cells_val {C : Cx} {E : Nat} {cs : List AV} {hd : Hd} (h : (Ob.cells E cs).OR C hd) : ∃ b, hd = .ptr b ∧ ∃ vs, C.w.heap[b]? = some (.cells vs.toArray E (0, 0)) ∧ AV.VL C cs vs ∧ ∀ u ∈ vs, u.oneCell' = true := by
  cases hd with
  | ptr b => exact ⟨b, rfl, h⟩
  | _ => exact h.elim

theorem owns_slice {w : World} {base e size : Nat} {v : Value} {n : Nat} {xs : List Value} (h : w.ownsRow base e size v n xs) : ∃ A c, v = .slice A n c ∧ n ≤ c ∧ c ≤ maxLen ∧ (n = 0 ∨ ∃ g, A = some ⟨g, 0, none⟩) := by
  rcases h.2 with ⟨rfl, rfl⟩ | ⟨g, cap, cur, rfl, _, _, h1, h2, _⟩
  · exact ⟨none, 0, rfl, Nat.le_refl _, by simp [maxLen], .inl rfl⟩
  · exact ⟨_, cap, rfl, h1, h2, .inr ⟨g, rfl⟩⟩

/-! ### len -/
def opLen (T : Nat → TI) (t : Nat) (x : Operand) : Q := Q.opnd x fun a => match a with
  | .d _ (.sl _ xs) => (match (T t).desc with | .slice _ => Q.ret (.int .i64 (xs.length : Int)) | _ => .bad)
  | .d _ (.v (.slice _ m _)) => (match (T t).desc with | .slice _ => Q.ret (.int .i64 (m : Int)) | _ => .bad)
  | .d _ (.v (.string s)) => (match (T t).desc with | .str => Q.ret (.int .i64 (s.size : Int)) | _ => .bad)
  | .own m γ => (match (T t).desc with
    | .slice _ => .obj m fun ob => (match ob with
      | .row _ _ γ' _ xs => if γ = γ' then Q.ret (.int .i64 (xs.length : Int)) else .bad
      | _ => .bad)
    | _ => .bad)
  | _ => .bad

theorem execOp_len {a : Act} {x : Operand} {t ty : TypeId} (ho : o.op = .call { callee := .builtin .len, args := #[x], argTypes := #[t] }) {r : Value} {w' : World}
    (h : (Builtin.len_ #[t] o.type #[a.eval x]).run P w = .ok r w') : (execOp a.eval o).run P w = .ok (.value r) w' := by
  simp only [execOp, ho, resolve, invoke, builtin, Sem.run_bind, Sem.run_pure, Result.andThen_ok, List.map_toArray, List.map_cons, List.map_nil, h]

theorem run_len_slice {t e : TypeId} (ty : TypeId) (A : Option Addr) (m c : Nat) (h : P.underlying t = some (.slice e)) : (Builtin.len_ #[t] ty #[.slice A m c]).run P w = .ok (.int .i64 (m : Int)) w := by
  simp [Builtin.len_, run_underlying h, goInt]

theorem run_len_str {t : TypeId} (ty : TypeId) (s : ByteArray) (h : P.underlying t = some .string) : (Builtin.len_ #[t] ty #[.string s]).run P w = .ok (.int .i64 (s.size : Int)) w := by
  simp [Builtin.len_, run_underlying h, goInt]

theorem DV.slice {w : World} {B : Nat → Prop} {sz : Nat} {xs : List Dat} {v : Value} (h : DV w B (.sl sz xs) v) : ∃ A c, v = .slice A xs.length c ∧ xs.length ≤ c ∧ c ≤ maxLen ∧ (∀ x ∈ xs, x.wd = sz) ∧
    (xs = [] ∨ ∃ b o fl, A = some ⟨b, o, none⟩ ∧ B b ∧ Dat.RL w B xs fl ∧ ∀ j u, fl[j]? = some u → w.cell? ⟨b, o + j, none⟩ = some u) := by
  have h' : Dat.R w B (.sl sz xs) [v] := h
  unfold Dat.R at h'
  obtain ⟨A, c, e, h2, h3, h4, h5⟩ := h'
  exact ⟨A, c, by simpa using e, h2, h3, h4, h5⟩

theorem opLen_sound (hT : TabOK P T) (h : Rel E st a w hs) (hd : ∀ t, o.dst = some t → t < E.N) {t : TypeId} {x : Operand} (ho : o.op = .call { callee := .builtin .len, args := #[x], argTypes := #[t] })
    (hr : (opLen T t x).Runs S st v u n) : OpOK P E o st a w hs v u n := by
  replace hr := opnd_sound h hr; obtain ⟨av, hav, hr⟩ := hr
  split at hr
  · split at hr
    · rename_i e1
      obtain ⟨rfl, rfl, rfl⟩ := ret_runs hr
      obtain ⟨h1, _⟩ := hT t (by rw [e1]; simp)
      rw [e1] at h1
      unfold AV.VR at hav
      obtain ⟨A, c, e2, _⟩ := hav.slice
      exact OpOK.pure h hd (vr_v rfl) (execOp_len (ty := 0) ho (by rw [e2]; exact run_len_slice _ _ _ _ h1))
    · unfold Q.Runs at hr; exact hr.elim
  · split at hr
    · rename_i e1
      obtain ⟨rfl, rfl, rfl⟩ := ret_runs hr
      obtain ⟨h1, _⟩ := hT t (by rw [e1]; simp)
      rw [e1] at h1
      exact OpOK.pure h hd (vr_v rfl) (execOp_len (ty := 0) ho (by rw [vr_int hav]; exact run_len_slice _ _ _ _ h1))
    · unfold Q.Runs at hr; exact hr.elim
  · split at hr
    · rename_i e1
      obtain ⟨rfl, rfl, rfl⟩ := ret_runs hr
      obtain ⟨h1, _⟩ := hT t (by rw [e1]; simp)
      rw [e1] at h1
      exact OpOK.pure h hd (vr_v rfl) (execOp_len (ty := 0) ho (by rw [vr_int hav]; exact run_len_str _ _ h1))
    · unfold Q.Runs at hr; exact hr.elim
  · split at hr
    · rename_i e1
      unfold Q.Runs at hr
      obtain ⟨ob, hob, hr⟩ := hr
      dsimp only at hr
      split at hr
      · split at hr
        · rename_i eγ
          subst eγ
          obtain ⟨rfl, rfl, rfl⟩ := ret_runs hr
          obtain ⟨h1, _⟩ := hT t (by rw [e1]; simp)
          rw [e1] at h1
          unfold AV.VR at hav
          have h2 := (hav.2 _ _ _ _ _ hob).2 rfl
          obtain ⟨hd', e3, h3⟩ := h.obj hob
          obtain ⟨vv, rfl, _, _, fl, _, h4⟩ := OR.row_val h3
          have e4 : vv = a.eval x := by
            have : (st.cx E w hs).hs = hs := rfl
            rw [this, e3] at h2
            simpa using h2
          obtain ⟨A, c, e5, _⟩ := owns_slice h4
          exact OpOK.pure h hd (vr_v rfl) (execOp_len (ty := 0) ho (by rw [← e4, e5]; exact run_len_slice _ _ _ _ h1))
        · unfold Q.Runs at hr; exact hr.elim
      · unfold Q.Runs at hr; exact hr.elim
    · unfold Q.Runs at hr; exact hr.elim
  · unfold Q.Runs at hr; exact hr.elim

/-! ### fieldAddr -/
def opFieldAddr (T : Nat → TI) (s : Nat) (x : Operand) (f : Nat) : Q := Q.opnd x fun a => match (T s).desc with
  | .struct fs => (match fs[f]? with
    | some (off, ft) => if (T ft).size = 0 then .bad else (match (T ft).desc with
      | .other => .bad
      | _ => (match a with
        | .ptr m k => .obj m fun _ => .fin (.ptr m (k + off)) [] []
        | .elt m γ sz i k => .obj m fun ob => (match ob with
          | .row _ _ γ' _ xs => if γ = γ' then .side (i < xs.length) (.fin (.elt m γ sz i (k + off)) [] []) else .bad
          | _ => .bad)
        | .sel fr cs => .fin (.sel fr (cs.drop off)) [] []
        | _ => .bad))
    | none => .bad)
  | _ => .bad

theorem run_fieldAt {s ft off f : Nat} {fs : List (Nat × Nat)} (hT : TabOK P T) (e1 : (T s).desc = .struct fs) (e2 : fs[f]? = some (off, ft)) (h0 : (T ft).size ≠ 0) (h1 : (T ft).desc ≠ .other) (b k : Nat) :
    (Instr.fieldAt s (.pointer (some ⟨b, k, none⟩)) f).run P w = .ok (.pointer (some ⟨b, k + off, none⟩)) w := by
  obtain ⟨g1, _⟩ := hT s (by rw [e1]; simp)
  rw [e1] at g1
  obtain ⟨fields, g2, g3⟩ := g1
  obtain ⟨_, ⟨info, i1, i2, _⟩, _⟩ := hT ft h1
  have g4 : ∃ fd, fields[f]? = some fd ∧ fd.offset = off ∧ fd.type = ft := by
    rw [← g3, List.getElem?_map] at e2
    obtain ⟨fd, q1, q2⟩ := Option.map_eq_some_iff.1 e2
    simp only [Prod.mk.injEq] at q2
    exact ⟨fd, by simpa using q1, q2.1, q2.2⟩
  obtain ⟨fd, q1, q2, q3⟩ := g4
  have hs : info.size ≠ 0 := by rw [i2]; exact h0
  simp [Instr.fieldAt, run_underlying g2, q1, Instr.sureAddr, fieldPlace, sizeOf, typeInfo, q3, i1, hs, q2, Addr.add_mid]

theorem opFieldAddr_sound (hT : TabOK P T) (h : Rel E st a w hs) (hd : ∀ t, o.dst = some t → t < E.N) {s f : Nat} {x : Operand} (ho : o.op = .fieldAddr s x f) (hr : (opFieldAddr T s x f).Runs S st v u n) : OpOK P E o st a w hs v u n := by
  replace hr := opnd_sound h hr; obtain ⟨av, hav, hr⟩ := hr
  split at hr
  · rename_i fs e1
    split at hr
    · rename_i off ft e2
      split at hr
      · unfold Q.Runs at hr; exact hr.elim
      · rename_i h0
        have hx : ∀ (b k : Nat), (T ft).desc ≠ .other → a.eval x = .pointer (some ⟨b, k, none⟩) → (execOp a.eval o).run P w = .ok (.value (.pointer (some ⟨b, k + off, none⟩))) w := by
          intro b k h1 e
          simp only [execOp, ho, e, Sem.run_bind, run_fieldAt hT e1 e2 h0 h1, Result.andThen_ok, Sem.run_pure]
        split at hr
        · unfold Q.Runs at hr; exact hr.elim
        · rename_i hne
          have h1 : (T ft).desc ≠ .other := fun e => hne e
          split at hr
          · rename_i m k
            unfold Q.Runs at hr
            obtain ⟨ob, hob, hr⟩ := hr
            unfold Q.Runs at hr
            obtain ⟨rfl, rfl, rfl⟩ := hr
            unfold AV.VR at hav
            obtain ⟨b, hb, eb⟩ := hav.2 ob hob
            refine OpOK.pure h hd (v := .pointer (some ⟨b, k + off, none⟩)) ?_ (hx b k h1 eb)
            unfold AV.VR
            refine ⟨hav.1, fun ob' hob' => ⟨b, hb, rfl⟩⟩
          · rename_i m γ sz i k
            unfold Q.Runs at hr
            obtain ⟨ob, hob, hr⟩ := hr
            dsimp only at hr
            split at hr
            · split at hr
              · rename_i eγ
                subst eγ
                unfold Q.Runs at hr
                obtain ⟨hi, hr⟩ := hr
                unfold Q.Runs at hr
                obtain ⟨rfl, rfl, rfl⟩ := hr
                unfold AV.VR at hav
                obtain ⟨b, len, cap, hb, eb⟩ := (hav.2 _ _ _ _ _ hob).2 rfl
                refine OpOK.pure h hd (v := .pointer (some ⟨b, i * sz + k + off, none⟩)) ?_ (hx b _ h1 eb)
                unfold AV.VR
                refine ⟨hav.1, fun E' sz' γ0 fr xs hob' => ⟨(hav.2 _ _ _ _ _ hob').1, fun e => ?_⟩⟩
                obtain ⟨b2, len2, cap2, hb2, eb2⟩ := (hav.2 _ _ _ _ _ hob').2 e
                refine ⟨b2, len2, cap2, hb2, ?_⟩
                rw [hb] at hb2
                simp only [Option.some.injEq, Hd.row.injEq, Value.slice.injEq, Addr.mk.injEq] at hb2
                rw [← hb2.1.1, Nat.add_assoc]
              · unfold Q.Runs at hr; exact hr.elim
            · unfold Q.Runs at hr; exact hr.elim
          · rename_i fr cs
            unfold Q.Runs at hr
            obtain ⟨rfl, rfl, rfl⟩ := hr
            unfold AV.VR at hav
            obtain ⟨b, k, vs, eb, hb, hv, hc⟩ := hav
            refine OpOK.pure h hd (v := .pointer (some ⟨b, k + off, none⟩)) ?_ (hx b k h1 eb)
            unfold AV.VR
            refine ⟨b, k + off, vs.drop off, rfl, hb, hv.drop off, fun j q hq => ?_⟩
            rw [List.getElem?_drop] at hq
            rw [Nat.add_assoc]
            exact hc _ q hq
          · unfold Q.Runs at hr; exact hr.elim
    · unfold Q.Runs at hr; exact hr.elim
  · unfold Q.Runs at hr; exact hr.elim

end
end Go.AM
