/- AM, part 8: cuts, strings' bytes, min and max. -/
import Derived.Test.YtmfobkiljlepjaaA7
set_option linter.unusedVariables false
set_option linter.unusedSimpArgs false
namespace Go.AM
open Go Go.RowKit
section
variable {P : Program} {S : SpecEqT} {E : En} {st : St} {a : Act} {w : World} {hs : List Hd} {o : Oper} {v : AV} {u : List (Nat × Ob)} {n : List Ob} {T : Nat → TI}

/-! ### x[lo:hi], x[lo:hi:max] of shared data; of strings -/
def intOf? : AV → Option Int
  | .d _ (.v (.int _ k)) => some k
  | _ => none

theorem intOf_sound {C : Cx} {av : AV} {x : Value} {k : Int} (h : av.VR C x) (e : intOf? av = some k) : ∃ kd, x = .int kd k := by
  unfold intOf? at e
  split at e
  · simp only [Option.some.injEq] at e
    subst e
    exact ⟨_, vr_int h⟩
  · simp at e

def Q.optInt (x : Option Operand) (dflt : Int) (k : Int → Q) : Q :=
  match x with
  | none => k dflt
  | some x => Q.opnd x fun a => match intOf? a with
    | some i => k i
    | none => .bad

theorem optInt_sound (h : Rel E st a w hs) {x : Option Operand} {d : Int} {k : Int → Q} (hr : (Q.optInt x d k).Runs S st v u n) :
    ∃ i, (k i).Runs S st v u n ∧ ((x = none ∧ i = d) ∨ ∃ y kd, x = some y ∧ a.eval y = .int kd i) := by
  cases x with
  | none => exact ⟨d, hr, .inl ⟨rfl, rfl⟩⟩
  | some y =>
    unfold Q.optInt at hr
    replace hr := opnd_sound h hr; obtain ⟨av, hav, hr⟩ := hr
    split at hr
    · rename_i i e
      obtain ⟨kd, e2⟩ := intOf_sound hav e
      exact ⟨i, hr, .inr ⟨y, kd, rfl, e2⟩⟩
    · unfold Q.Runs at hr; exact hr.elim

/-- The bytes from lo to hi. -/
def cutS (s : ByteArray) (lo hi : Int) : ByteArray := s.extract lo.toNat hi.toNat

def opSlice (T : Nat → TI) (t : Nat) (x : Operand) (lo hi mx : Option Operand) : Q := Q.opnd x fun a => match a with
  | .d fr (.sl sz xs) => (match (T t).desc with
    | .slice e => if sz = (T e).size ∧ (T e).desc.known = true then Q.optInt lo 0 fun l => Q.optInt hi (xs.length : Int) fun h => Q.optInt mx h fun m =>
        .side (0 ≤ l ∧ l ≤ h ∧ h ≤ m ∧ m ≤ (xs.length : Int)) (if mx.isSome = true → hi.isSome = true then .fin (.d fr (.sl sz ((xs.drop l.toNat).take (h.toNat - l.toNat)))) [] [] else .bad) else .bad
    | _ => .bad)
  | .d _ (.v (.string s)) => (match (T t).desc, mx with
    | .str, none => Q.optInt lo 0 fun l => Q.optInt hi (s.size : Int) fun h => .side (0 ≤ l ∧ l ≤ h ∧ h ≤ (s.size : Int)) (Q.ret (.string (cutS s l h)))
    | _, _ => .bad)
  | _ => .bad

theorem run_bounds (len cap : Nat) (hlc : len ≤ cap) (lo hi mx : Option Value) (l h m : Int)
    (h1 : (lo = none ∧ l = 0) ∨ ∃ kd, lo = some (.int kd l)) (h2 : (hi = none ∧ h = (len : Int)) ∨ ∃ kd, hi = some (.int kd h)) (h3 : (mx = none ∧ m = h) ∨ ∃ kd, mx = some (.int kd m))
    (h0 : 0 ≤ l) (hlh : l ≤ h) (hhm : h ≤ m) (hm : m ≤ (cap : Int)) (hmx : mx.isSome = true → hi.isSome = true) :
    ∃ m', (Instr.sliceBounds true len cap lo hi mx).run P w = .ok (l.toNat, h.toNat, m') w ∧ h.toNat ≤ m' ∧ m' ≤ cap := by
  have e1 : (h.toNat : Int) = h := Int.toNat_of_nonneg (by omega)
  have e2 : (m.toNat : Int) = m := Int.toNat_of_nonneg (by omega)
  have e3 : (0 : Int) ≤ h := by omega
  have e4 : (0 : Int) ≤ m := by omega
  have e5 : h ≤ (cap : Int) := by omega
  rcases h3 with ⟨rfl, rfl⟩ | ⟨k3, rfl⟩
  · refine ⟨cap, ?_, by omega, Nat.le_refl _⟩
    rcases h2 with ⟨rfl, rfl⟩ | ⟨k2, rfl⟩ <;> rcases h1 with ⟨rfl, rfl⟩ | ⟨k1, rfl⟩ <;>
      simp [Instr.sliceBounds, run_sliceBound, h0, hlh, e1, e3, e5]
  · refine ⟨m.toNat, ?_, by omega, by omega⟩
    rcases h2 with ⟨rfl, rfl⟩ | ⟨k2, rfl⟩
    · simp at hmx
    · rcases h1 with ⟨rfl, rfl⟩ | ⟨k1, rfl⟩ <;>
        simp [Instr.sliceBounds, run_sliceBound, h0, hlh, hhm, hm, e1, e2, e3, e4]

theorem run_bounds_str (len : Nat) (lo hi : Option Value) (l h : Int)
    (h1 : (lo = none ∧ l = 0) ∨ ∃ kd, lo = some (.int kd l)) (h2 : (hi = none ∧ h = (len : Int)) ∨ ∃ kd, hi = some (.int kd h))
    (h0 : 0 ≤ l) (hlh : l ≤ h) (hm : h ≤ (len : Int)) :
    (Instr.sliceBounds false len len lo hi none).run P w = .ok (l.toNat, h.toNat, len) w := by
  have e1 : (h.toNat : Int) = h := Int.toNat_of_nonneg (by omega)
  have e3 : (0 : Int) ≤ h := by omega
  rcases h2 with ⟨rfl, rfl⟩ | ⟨k2, rfl⟩ <;> rcases h1 with ⟨rfl, rfl⟩ | ⟨k1, rfl⟩ <;>
      simp [Instr.sliceBounds, run_sliceBound, h0, hlh, e1, e3, hm]

theorem DV.cut {w : World} {B : Nat → Prop} {sz : Nat} {xs : List Dat} {b off c : Nat} {A : Option Addr} {l k m : Nat}
    (h4 : ∀ x ∈ xs, x.wd = sz) (h5 : xs = [] ∨ ∃ b o fl, A = some ⟨b, o, none⟩ ∧ B b ∧ Dat.RL w B xs fl ∧ ∀ j u, fl[j]? = some u → w.cell? ⟨b, o + j, none⟩ = some u)
    (hlk : l ≤ k) (hk : k ≤ xs.length) (hm : k ≤ m) (hc : m ≤ maxLen) : DV w B (.sl sz ((xs.drop l).take (k - l))) (.slice (if m = l then A else A.map (·.add (l * sz))) (k - l) (m - l)) := by
  show Dat.R w B _ _
  unfold Dat.R
  have e : ((xs.drop l).take (k - l)).length = k - l := by simp; omega
  refine ⟨_, m - l, by rw [e], by rw [e]; omega, by omega, fun x hx => h4 x (List.mem_of_mem_drop (List.mem_of_mem_take hx)), ?_⟩
  rcases h5 with rfl | ⟨b, o, fl, rfl, hb, hl, hcell⟩
  · exact .inl (by simp)
  · by_cases h0 : k - l = 0
    · exact .inl (by rw [h0]; simp)
    · refine .inr ⟨b, o + l * sz, (fl.drop (l * sz)).take ((k - l) * sz), ?_, hb, hl.part h4 l (k - l) (by omega), fun j q hq => ?_⟩
      · rw [if_neg (by omega)]
        simp [Addr.add_mid]
      · rw [List.getElem?_take] at hq
        split at hq
        · rw [List.getElem?_drop] at hq
          rw [Nat.add_assoc]
          exact hcell _ q hq
        · cases hq

theorem opSlice_sound (hT : TabOK P T) (h : Rel E st a w hs) (hd : ∀ t, o.dst = some t → t < E.N) {t : Nat} {x : Operand} {lo hi mx : Option Operand} (ho : o.op = .slice t x lo hi mx) (hr : (opSlice T t x lo hi mx).Runs S st v u n) : OpOK P E o st a w hs v u n := by
  have hx : ∀ {y : Value}, (Instr.sliceAt t (a.eval x) (lo.map a.eval) (hi.map a.eval) (mx.map a.eval)).run P w = .ok y w → (execOp a.eval o).run P w = .ok (.value y) w := by
    intro y hy
    simp only [execOp, ho, Sem.run_bind, hy, Result.andThen_ok, Sem.run_pure]
  have opt : ∀ {z : Option Operand} {d i : Int}, ((z = none ∧ i = d) ∨ ∃ y kd, z = some y ∧ a.eval y = .int kd i) → ((z.map a.eval = none ∧ i = d) ∨ ∃ kd, z.map a.eval = some (.int kd i)) := by
    intro z d i hz
    rcases hz with ⟨rfl, rfl⟩ | ⟨y, kd, rfl, e⟩
    · exact .inl ⟨rfl, rfl⟩
    · exact .inr ⟨kd, by simp [e]⟩
  replace hr := opnd_sound h hr; obtain ⟨av, hav, hr⟩ := hr
  split at hr
  · rename_i fr sz xs
    split at hr
    · rename_i e e1
      obtain ⟨g1, _⟩ := hT t (by rw [e1]; simp)
      rw [e1] at g1
      split at hr
      · rename_i hsz
        obtain ⟨l, hr, q1⟩ := optInt_sound h hr
        obtain ⟨k, hr, q2⟩ := optInt_sound h hr
        obtain ⟨m, hr, q3⟩ := optInt_sound h hr
        unfold Q.Runs at hr
        obtain ⟨⟨h0, h1, h2, h3⟩, hr⟩ := hr
        split at hr
        · rename_i hmx
          unfold Q.Runs at hr
          obtain ⟨rfl, rfl, rfl⟩ := hr
          unfold AV.VR at hav
          obtain ⟨A, c, e2, g2, g3, g4, g5⟩ := hav.slice
          obtain ⟨m', hb, hb1, hb2⟩ := run_bounds (P := P) (w := w) xs.length c g2 (lo.map a.eval) (hi.map a.eval) (mx.map a.eval) l k m (opt q1) (opt q2) (opt q3) h0 h1 h2 (by omega) (by simpa using hmx)
          obtain ⟨_, ⟨info, i1, i2, _⟩, _⟩ := hT e (KD.known_ne hsz.2)
          refine OpOK.pure h hd (v := .slice (if m' = l.toNat then A else A.map (·.add (l.toNat * sz))) (k.toNat - l.toNat) (m' - l.toNat)) ?_ (hx ?_)
          · unfold AV.VR
            exact DV.cut (b := 0) (off := 0) (c := 0) g4 g5 (by omega) (by omega) hb1 (by omega)
          · rw [e2, hsz.1, ← i2]
            simp only [Instr.sliceAt, Instr.slice, Sem.run_bind, run_underlying g1, Result.andThen_ok, hb, sizeOf, typeInfo, run_program, i1, Sem.run_pure]
        · unfold Q.Runs at hr; exact hr.elim
      · unfold Q.Runs at hr; exact hr.elim
    · unfold Q.Runs at hr; exact hr.elim
  · rename_i s
    split at hr
    · rename_i e1
      obtain ⟨g1, _⟩ := hT t (by rw [e1]; simp)
      rw [e1] at g1
      obtain ⟨l, hr, q1⟩ := optInt_sound h hr
      obtain ⟨k, hr, q2⟩ := optInt_sound h hr
      unfold Q.Runs at hr
      obtain ⟨⟨h0, h1, h2⟩, hr⟩ := hr
      obtain ⟨rfl, rfl, rfl⟩ := ret_runs hr
      refine OpOK.pure h hd (vr_v rfl) (hx ?_)
      rw [vr_int hav]
      simp only [Instr.sliceAt, Instr.slice, Sem.run_bind, run_underlying g1, Result.andThen_ok, Option.map_none, Option.isSome_none, if_false, run_bounds_str s.size _ _ l k (opt q1) (opt q2) h0 h1 h2, Sem.run_pure, Bool.false_eq_true]
      rfl
    · unfold Q.Runs at hr; exact hr.elim
  · unfold Q.Runs at hr; exact hr.elim

/-! ### s[i] -/
def byteAt (s : ByteArray) (i : Int) : Int := ((s.data.toList.getD i.toNat 0).toNat : Int)

def opIndex (T : Nat → TI) (t : Nat) (x i : Operand) : Q := Q.opnd x fun a => Q.opnd i fun iv => match (T t).desc, a, intOf? iv with
  | .str, .d _ (.v (.string s)), some k => .side (0 ≤ k ∧ k < (s.size : Int)) (Q.ret (.int .u8 (byteAt s k)))
  | _, _, _ => .bad

theorem opIndex_sound (hT : TabOK P T) (h : Rel E st a w hs) (hd : ∀ t, o.dst = some t → t < E.N) {t : Nat} {x i : Operand} (ho : o.op = .index t x i) (hr : (opIndex T t x i).Runs S st v u n) : OpOK P E o st a w hs v u n := by
  replace hr := opnd_sound h hr; obtain ⟨av, hav, hr⟩ := hr
  replace hr := opnd_sound h hr; obtain ⟨iv, hiv, hr⟩ := hr
  split at hr
  · rename_i fr s k e1 e2
    obtain ⟨g1, _⟩ := hT t (by rw [e1]; simp)
    rw [e1] at g1
    unfold Q.Runs at hr
    obtain ⟨⟨h0, h1⟩, hr⟩ := hr
    obtain ⟨rfl, rfl, rfl⟩ := ret_runs hr
    obtain ⟨kd, e3⟩ := intOf_sound hiv e2
    refine OpOK.pure h hd (vr_v rfl) ?_
    have hlt : k.toNat < s.size := by omega
    have hlt' : k.toNat < s.data.toList.length := by simpa using hlt
    have e4 : s[k.toNat]? = some s[k.toNat] := by simp [hlt]
    have e5 : (s[k.toNat].toNat : Int) = byteAt s k := by
      simp only [byteAt, List.getD_eq_getElem?_getD, List.getElem?_eq_getElem hlt', Option.getD_some]
      rfl
    simp only [execOp, ho, vr_int hav, e3, Instr.index, asIntOf, Sem.run_bind, Sem.run_pure, Result.andThen_ok, run_underlying g1, h0, if_true, e4, e5]
  · unfold Q.Runs at hr; exact hr.elim

/-! ### min, max of two whole numbers -/
def minI (a b : Int) : Int := if b < a then b else a
def maxI (a b : Int) : Int := if a < b then b else a

def opMinMax (mx : Bool) (x y : Operand) : Q := Q.opnd x fun a => Q.opnd y fun b => match a, b with
  | .d _ (.v (.int k p)), .d _ (.v (.int _ q)) => Q.ret (.int k (if mx then maxI p q else minI p q))
  | _, _ => .bad

theorem opMin_sound (h : Rel E st a w hs) (hd : ∀ t, o.dst = some t → t < E.N) {x y : Operand} {ts : Array TypeId} (ho : o.op = .call { callee := .builtin .min, args := #[x, y], argTypes := ts })
    (hr : (opMinMax false x y).Runs S st v u n) : OpOK P E o st a w hs v u n := by
  replace hr := opnd_sound h hr; obtain ⟨av, hav, hr⟩ := hr
  replace hr := opnd_sound h hr; obtain ⟨bv, hbv, hr⟩ := hr
  split at hr
  · obtain ⟨rfl, rfl, rfl⟩ := ret_runs hr
    refine OpOK.pure h hd (vr_v rfl) ?_
    simp only [execOp, ho, resolve, invoke, builtin, Sem.run_bind, Sem.run_pure, Result.andThen_ok, List.map_toArray, List.map_cons, List.map_nil, vr_int hav, vr_int hbv]
    simp [Builtin.min_, Builtin.min2, minI]
  · unfold Q.Runs at hr; exact hr.elim

theorem opMax_sound (h : Rel E st a w hs) (hd : ∀ t, o.dst = some t → t < E.N) {x y : Operand} {ts : Array TypeId} (ho : o.op = .call { callee := .builtin .max, args := #[x, y], argTypes := ts })
    (hr : (opMinMax true x y).Runs S st v u n) : OpOK P E o st a w hs v u n := by
  replace hr := opnd_sound h hr; obtain ⟨av, hav, hr⟩ := hr
  replace hr := opnd_sound h hr; obtain ⟨bv, hbv, hr⟩ := hr
  split at hr
  · obtain ⟨rfl, rfl, rfl⟩ := ret_runs hr
    refine OpOK.pure h hd (vr_v rfl) ?_
    simp only [execOp, ho, resolve, invoke, builtin, Sem.run_bind, Sem.run_pure, Result.andThen_ok, List.map_toArray, List.map_cons, List.map_nil, vr_int hav, vr_int hbv]
    simp [Builtin.max_, Builtin.max2, maxI]
  · unfold Q.Runs at hr; exact hr.elim

end
end Go.AM
