/- AM, part 7: elements, loads, fields of values, cuts. -/
import Derived.Test.YtmfobkiljlepjaaA6
set_option linter.unusedVariables false
set_option linter.unusedSimpArgs false
namespace Go.AM
open Go Go.RowKit

section
variable {P : Program} {S : SpecEqT} {E : En} {st : St} {a : Act} {w : World} {hs : List Hd} {o : Oper} {v : AV} {u : List (Nat × Ob)} {n : List Ob} {T : Nat → TI}

/-- A default of a type (it is never met). -/
def TI.z (T : Nat → TI) (t : Nat) : Dat :=
  match (T t).desc with
  | .slice e => .sl (T e).size []
  | .struct _ => .agg ((T t).zero.map .v)
  | .arr _ _ => .agg ((T t).zero.map .v)
  | _ => match (T t).zero with
    | x :: _ => .v x
    | [] => .agg []

def KD.known : KD → Bool
  | .other => false
  | _ => true
theorem KD.known_ne {k : KD} (h : k.known = true) : k ≠ .other := fun e => by subst e; simp [KD.known] at h

theorem take_one {α : Type} (xs : List α) (k : Nat) (d : α) (h : k < xs.length) : (xs.drop k).take 1 = [xs.getD k d] := by
  rw [List.drop_eq_getElem_cons h]
  simp [h, List.take]

/-! ### indexAddr -/
def opIndexAddr (T : Nat → TI) (t : Nat) (x i : Operand) : Q := match (T t).desc with
  | .slice e => Q.opnd x fun a => Q.opnd i fun iv => (match iv with
    | .d _ (.v (.int _ k)) => (match a with
      | .d fr (.sl sz xs) => if sz = (T e).size ∧ (T e).desc.known = true then .side (0 ≤ k ∧ k < (xs.length : Int)) (.fin (.sel fr (xs.getD k.toNat (TI.z T e)).cells) [] []) else .bad
      | .own m γ => .obj m fun ob => (match ob with
        | .row _ sz γ' _ xs => if γ = γ' then (if sz = (T e).size ∧ (T e).desc.known = true then .side (0 ≤ k ∧ k < (xs.length : Int)) (.fin (.elt m γ sz k.toNat 0) [] []) else .bad) else .bad
        | _ => .bad)
      | _ => .bad)
    | _ => .bad)
  | _ => .bad

theorem run_indexAt {t e : Nat} {info : TypeInfo} (h1 : P.underlying t = some (.slice e)) (h2 : P.info? e = some info) (b off len cap : Nat) (k : IntKind) (i : Int) (h0 : 0 ≤ i) (hi : i < (len : Int)) :
    (Instr.indexAt t (.slice (some ⟨b, off, none⟩) len cap) (.int k i)).run P w = .ok (.pointer (some ⟨b, off + i.toNat * info.size, none⟩)) w := by
  simp [Instr.indexAt, asIntOf, run_underlying h1, h0, hi, sizeOf, typeInfo, h2, Addr.add_mid]

theorem opIndexAddr_sound (hT : TabOK P T) (h : Rel E st a w hs) (hd : ∀ t, o.dst = some t → t < E.N) {t : Nat} {x i : Operand} (ho : o.op = .indexAddr t x i) (hr : (opIndexAddr T t x i).Runs S st v u n) : OpOK P E o st a w hs v u n := by
  unfold opIndexAddr at hr
  split at hr
  · rename_i e e1
    replace hr := opnd_sound h hr; obtain ⟨av, hav, hr⟩ := hr
    replace hr := opnd_sound h hr; obtain ⟨iv, hiv, hr⟩ := hr
    obtain ⟨g1, _⟩ := hT t (by rw [e1]; simp)
    rw [e1] at g1
    split at hr
    · rename_i fi ki k
      have ei := vr_int hiv
      split at hr
      · rename_i fr sz xs
        split at hr
        · rename_i hsz
          unfold Q.Runs at hr
          obtain ⟨⟨h0, hk⟩, hr⟩ := hr
          unfold Q.Runs at hr
          obtain ⟨rfl, rfl, rfl⟩ := hr
          unfold AV.VR at hav
          obtain ⟨A, c, e2, h2, h3, h4, h5⟩ := hav.slice
          have hlt : k.toNat < xs.length := by omega
          rcases h5 with h5 | ⟨b, off, fl, rfl, hb, hl, hc⟩
          · subst h5; simp at hlt
          · obtain ⟨_, ⟨info, i1, i2, _⟩, _⟩ := hT e (KD.known_ne hsz.2)
            replace i2 := i2.trans hsz.1.symm
            refine OpOK.pure h hd (v := .pointer (some ⟨b, off + k.toNat * info.size, none⟩)) ?_ ?_
            · unfold AV.VR
              refine ⟨b, off + k.toNat * info.size, (fl.drop (k.toNat * sz)).take (1 * sz), rfl, hb, ?_, fun j q hq => ?_⟩
              · have := hl.part h4 k.toNat 1 (by omega)
                rw [take_one xs _ (TI.z T e) hlt, Dat.RL.flat] at this
                simpa using this
              · rw [List.getElem?_take] at hq
                split at hq
                · rw [List.getElem?_drop] at hq
                  rw [i2, Nat.add_assoc]
                  exact hc _ q hq
                · cases hq
            · simp only [execOp, ho, e2, ei, Sem.run_bind, run_indexAt g1 i1 b off _ c ki k h0 hk, Result.andThen_ok, Sem.run_pure]
        · unfold Q.Runs at hr; exact hr.elim
      · rename_i m γ
        unfold Q.Runs at hr
        obtain ⟨ob, hob, hr⟩ := hr
        dsimp only at hr
        split at hr
        · split at hr
          · rename_i eγ
            subst eγ
            split at hr
            · rename_i E0 sz fr xs hsz
              unfold Q.Runs at hr
              obtain ⟨⟨h0, hk⟩, hr⟩ := hr
              unfold Q.Runs at hr
              obtain ⟨rfl, rfl, rfl⟩ := hr
              have hav' := hav
              unfold AV.VR at hav'
              have h2 := (hav'.2 _ _ _ _ _ hob).2 rfl
              obtain ⟨hd', e3, h3⟩ := h.obj hob
              obtain ⟨vv, rfl, hz0, _, fl, _, h4⟩ := OR.row_val h3
              have e4 : vv = a.eval x := by
                have : (st.cx E w hs).hs = hs := rfl
                rw [this, e3] at h2
                simpa using h2
              obtain ⟨A, c, e5, _, _, h6⟩ := owns_slice h4
              rcases h6 with h6 | ⟨g, rfl⟩
              · omega
              · obtain ⟨_, ⟨info, i1, i2, _⟩, _⟩ := hT e (KD.known_ne hsz.2)
                refine OpOK.pure h hd (v := .pointer (some ⟨g, 0 + k.toNat * info.size, none⟩)) ?_ ?_
                · unfold AV.VR
                  refine ⟨hav'.1, fun E' sz' γ0 fr' xs' hob' => ⟨(hav'.2 _ _ _ _ _ hob').1, fun eg => ⟨g, xs.length, c, ?_, ?_⟩⟩⟩
                  · rw [← e5, e4]; exact h2
                  · rw [i2, hsz.1]; simp
                · simp only [execOp, ho, ← e4, e5, ei, Sem.run_bind, run_indexAt g1 i1 g 0 _ c ki k h0 hk, Result.andThen_ok, Sem.run_pure]
            · unfold Q.Runs at hr; exact hr.elim
          · unfold Q.Runs at hr; exact hr.elim
        · unfold Q.Runs at hr; exact hr.elim
      · unfold Q.Runs at hr; exact hr.elim
    · unfold Q.Runs at hr; exact hr.elim
  · unfold Q.Runs at hr; exact hr.elim

end
end Go.AM
namespace Go.AM
open Go Go.RowKit
section
variable {P : Program} {S : SpecEqT} {E : En} {st : St} {a : Act} {w : World} {hs : List Hd} {o : Oper} {v : AV} {u : List (Nat × Ob)} {n : List Ob} {T : Nat → TI}

theorem DV_or {w : World} {C : Cx} {fr : Bool} {x : Dat} {v : Value} (h : DV w (C.Sh fr) x v) : DV w (C.Sh (fr || x.flat)) x v := by
  cases hfl : x.flat with
  | true => exact DV_flat hfl h
  | false => rw [Bool.or_false]; exact h

/-! ### load -/
theorem run_load_agg (hT : TabOK P T) {t : Nat} (ha : (T t).desc.agg = true) (b k : Nat) (vs : List Value) (hl : vs.length = (T t).size) (hc : ∀ j u, vs[j]? = some u → w.cell? ⟨b, k + j, none⟩ = some u) :
    (Instr.loadAt t (.pointer (some ⟨b, k, none⟩))).run P w = .ok (.agg vs.toArray) w := by
  have hne : (T t).desc ≠ .other := fun e => by rw [e] at ha; simp [KD.agg] at ha
  obtain ⟨g1, ⟨info, i1, i2, _⟩, _⟩ := hT t hne
  cases hd : (T t).desc with
  | struct fs =>
    rw [hd] at g1
    obtain ⟨fields, g2, _⟩ := g1
    exact run_loadAt_mid w b k t vs _ hc g2 rfl (by rw [i1]; simp [i2, hl])
  | arr n e =>
    rw [hd] at g1
    exact run_loadAt_mid w b k t vs _ hc g1 rfl (by rw [i1]; simp [i2, hl])
  | _ => rw [hd] at ha; simp [KD.agg] at ha

theorem isAgg_no (hT : TabOK P T) {t : Nat} (hk : (T t).desc.known = true) (ha : (T t).desc.agg = false) (w : World) : (isAgg t).run P w = .ok false w := by
  obtain ⟨g1, _⟩ := hT t (KD.known_ne hk)
  unfold isAgg
  cases hd : (T t).desc with
  | struct fs => rw [hd] at ha; simp [KD.agg] at ha
  | arr n e => rw [hd] at ha; simp [KD.agg] at ha
  | other => rw [hd] at hk; simp [KD.known] at hk
  | _ => rw [hd] at g1; rw [Sem.run_bind, run_underlying g1 w]; rfl

theorem run_load_one (hT : TabOK P T) {t : Nat} (hk : (T t).desc.known = true) (ha : (T t).desc.agg = false) (b k : Nat) (c : Value) (hc : w.cell? ⟨b, k, none⟩ = some c) :
    (Instr.loadAt t (.pointer (some ⟨b, k, none⟩))).run P w = .ok c w := by
  simp [Instr.loadAt, Instr.sureAddr, loadVar, isAgg_no hT hk ha, hc]

def loadSel (T : Nat → TI) (t : Nat) (fr : Bool) (cs : List Dat) : Q :=
  if (T t).desc.agg = true then .side ((T t).size ≤ cs.length) (.fin (.d fr (.agg (cs.take (T t).size))) [] [])
  else if (T t).desc.known = true then (match cs with
    | c :: _ => .fin (.d (fr || c.flat) c) [] []
    | [] => .bad) else .bad

theorem loadSel_sound (hT : TabOK P T) {t : Nat} {fr : Bool} {cs : List Dat} {C : Cx} (hr : (loadSel T t fr cs).Runs S st v u n) (b k : Nat) (vs : List Value) (hv : Dat.RF C.w (C.Sh fr) cs vs)
    (hc : ∀ j u, vs[j]? = some u → C.w.cell? ⟨b, k + j, none⟩ = some u) : u = [] ∧ n = [] ∧ ∃ x, v.VR C x ∧ (Instr.loadAt t (.pointer (some ⟨b, k, none⟩))).run P C.w = .ok x C.w := by
  unfold loadSel at hr
  split at hr
  · rename_i ha
    unfold Q.Runs at hr
    obtain ⟨h1, hr⟩ := hr
    unfold Q.Runs at hr
    obtain ⟨rfl, rfl, rfl⟩ := hr
    have hl := Dat.RF.len _ _ hv
    refine ⟨rfl, rfl, .agg (vs.take (T t).size).toArray, ?_, run_load_agg hT ha b k _ (by simp; omega) fun j q hq => ?_⟩
    · unfold AV.VR
      exact ⟨_, rfl, by simpa using hv.take _⟩
    · rw [List.getElem?_take] at hq
      split at hq
      · exact hc j q hq
      · cases hq
  · rename_i ha
    split at hr
    · rename_i hk
      split at hr
      · rename_i c rest
        unfold Q.Runs at hr
        obtain ⟨rfl, rfl, rfl⟩ := hr
        unfold Dat.RF at hv
        obtain ⟨x, rs, rfl, h0, h1, _⟩ := hv
        refine ⟨rfl, rfl, x, ?_, run_load_one hT hk (by simpa using ha) b k x (by simpa using hc 0 x (by simp))⟩
        unfold AV.VR
        have h3 := DV.of_one h1 (fun fs e => by subst e; simp [Dat.nagg] at h0)
        cases hfl : c.flat with
        | true => exact DV_flat hfl h3
        | false => rw [Bool.or_false]; exact h3
      · unfold Q.Runs at hr; exact hr.elim
    · unfold Q.Runs at hr; exact hr.elim

def opLoad (T : Nat → TI) (t : Nat) (p : Operand) : Q := Q.opnd p fun a => match a with
  | .sel fr cs => loadSel T t fr cs
  | .ptr m off => .obj m fun ob => (match ob with
    | .cells _ cs => if (T t).desc.agg = true then .side (off + (T t).size ≤ cs.length) (.fin (mkAgg ((cs.drop off).take (T t).size)) [] [])
      else if (T t).desc.known = true then (match cs[off]? with
        | some y => .fin y [] []
        | none => .bad) else .bad
    | _ => .bad)
  | .elt m γ sz i off => .obj m fun ob => (match ob with
    | .row E' sz' γ' fr xs => if γ = γ' then (if sz = sz' then .side (i < xs.length) (loadSel T t fr ((xs.getD i (TI.z T E')).cells.drop off)) else .bad) else .bad
    | _ => .bad)
  | _ => .bad

theorem VL.drop {C : Cx} : ∀ {k : Nat} {as : List AV} {vs : List Value}, AV.VL C as vs → AV.VL C (as.drop k) (vs.drop k)
  | 0, _, _, h => by simpa using h
  | k + 1, [], vs, h => by unfold AV.VL at h; subst h; simp [AV.VL]
  | k + 1, a :: as, vs, h => by
    unfold AV.VL at h
    obtain ⟨x, rest, rfl, _, h2⟩ := h
    simpa using VL.drop h2
theorem VL.take {C : Cx} : ∀ {k : Nat} {as : List AV} {vs : List Value}, AV.VL C as vs → AV.VL C (as.take k) (vs.take k)
  | 0, _, _, h => by simp [AV.VL]
  | k + 1, [], vs, h => by unfold AV.VL at h; subst h; simp [AV.VL]
  | k + 1, a :: as, vs, h => by
    unfold AV.VL at h
    obtain ⟨x, rest, rfl, h1, h2⟩ := h
    simp only [List.take_succ_cons, AV.VL]
    exact ⟨x, _, rfl, h1, VL.take h2⟩

/-- The cells of element i of an own row. -/
theorem row_elem {C : Cx} {E sz : Nat} {fr : Bool} {xs : List Dat} {vv : Value} (hz : ∀ x ∈ xs, x.wd = sz) {fl : List Value} (hl : Dat.RL C.w (C.Sh fr) xs fl) (ho : C.w.ownsRow 0 E sz vv xs.length fl)
    {b len cap : Nat} (hb : vv = .slice (some ⟨b, 0, none⟩) len cap) {i : Nat} (hi : i < xs.length) (d : Dat) :
    ∃ vs, Dat.RF C.w (C.Sh fr) (xs.getD i d).cells vs ∧ ∀ j u, vs[j]? = some u → C.w.cell? ⟨b, i * sz + j, none⟩ = some u := by
  have := hl.part hz i 1 (by omega)
  rw [take_one xs _ d hi, Dat.RL.flat] at this
  refine ⟨(fl.drop (i * sz)).take (1 * sz), by simpa using this, fun j q hq => ?_⟩
  rw [List.getElem?_take] at hq
  split at hq
  · rw [List.getElem?_drop] at hq
    have := ho.cells (g := b) (by subst hb; rfl) _ q hq
    rwa [Addr.add_mid, Nat.zero_add] at this
  · cases hq

theorem execOp_load {t : Nat} {p : Operand} (ho : o.op = .load t p) {x : Value} (h : (Instr.loadAt t (a.eval p)).run P w = .ok x w) : (execOp a.eval o).run P w = .ok (.value x) w := by
  simp only [execOp, ho, Sem.run_bind, h, Result.andThen_ok, Sem.run_pure]

theorem opLoad_sound (hT : TabOK P T) (h : Rel E st a w hs) (hd : ∀ t, o.dst = some t → t < E.N) {t : Nat} {p : Operand} (ho : o.op = .load t p) (hr : (opLoad T t p).Runs S st v u n) : OpOK P E o st a w hs v u n := by
  replace hr := opnd_sound h hr; obtain ⟨av, hav, hr⟩ := hr
  split at hr
  · rename_i fr cs
    unfold AV.VR at hav
    obtain ⟨b, k, vs, e, _, hv, hc⟩ := hav
    obtain ⟨rfl, rfl, x, hx, hrun⟩ := loadSel_sound (P := P) hT hr b k vs hv hc
    exact OpOK.pure h hd hx (execOp_load ho (by rw [e]; exact hrun))
  · rename_i m off
    unfold Q.Runs at hr
    obtain ⟨ob, hob, hr⟩ := hr
    dsimp only at hr
    split at hr
    · rename_i E0 cs
      unfold AV.VR at hav
      obtain ⟨b, hb, e⟩ := hav.2 _ hob
      obtain ⟨hd', e3, h3⟩ := h.obj hob
      obtain ⟨b', rfl, vs, h4, h5, h6⟩ := OR.cells_val h3
      have e4 : b' = b := by
        have e5 : (st.cx E w hs).hs = hs := rfl
        rcases hb with hb | ⟨q, hb⟩ <;> rw [e5, e3] at hb
        · simpa using hb
        · simp at hb
      subst e4
      have hc : ∀ j, w.cell? ⟨b', j, none⟩ = vs[j]? := fun j => by
        have : w.heap[b']? = some (.cells vs.toArray E0 (0, 0)) := h4
        simp [World.cell?, this]
      split at hr
      · rename_i ha
        unfold Q.Runs at hr
        obtain ⟨h1, hr⟩ := hr
        unfold Q.Runs at hr
        obtain ⟨rfl, rfl, rfl⟩ := hr
        have hl := VL.len h5
        refine OpOK.pure h hd (VR.mkAgg (VL.take (k := (T t).size) (VL.drop (k := off) h5)) fun q hq => h6 q (List.mem_of_mem_drop (List.mem_of_mem_take hq))) (execOp_load ho ?_)
        rw [e]
        refine run_load_agg hT ha b' off _ (by simp; omega) fun j q hq => ?_
        rw [List.getElem?_take] at hq
        split at hq
        · rw [List.getElem?_drop] at hq
          rw [hc]
          exact hq
        · cases hq
      · rename_i ha
        split at hr
        · rename_i hk
          split at hr
          · rename_i y ey
            unfold Q.Runs at hr
            obtain ⟨rfl, rfl, rfl⟩ := hr
            obtain ⟨z, ez, hz⟩ := VL.get h5 ey
            exact OpOK.pure h hd hz (execOp_load ho (by rw [e]; exact run_load_one hT hk (by simpa using ha) b' off z (by rw [hc]; exact ez)))
          · unfold Q.Runs at hr; exact hr.elim
        · unfold Q.Runs at hr; exact hr.elim
    · unfold Q.Runs at hr; exact hr.elim
  · rename_i m γ sz i off
    unfold Q.Runs at hr
    obtain ⟨ob, hob, hr⟩ := hr
    dsimp only at hr
    split at hr
    · split at hr
      · rename_i eγ
        subst eγ
        split at hr
        · rename_i E' sz' fr xs esz
          subst esz
          unfold Q.Runs at hr
          obtain ⟨hi, hr⟩ := hr
          unfold AV.VR at hav
          obtain ⟨b, len, cap, hb, e⟩ := (hav.2 _ _ _ _ _ hob).2 rfl
          obtain ⟨hd', e3, h3⟩ := h.obj hob
          obtain ⟨vv, rfl, hz0, hz, fl, hl, h4⟩ := OR.row_val h3
          have e4 : vv = .slice (some ⟨b, 0, none⟩) len cap := by
            have e5 : (st.cx E w hs).hs = hs := rfl
            rw [e5, e3] at hb
            simpa using hb
          obtain ⟨vs, hv, hc⟩ := row_elem hz hl h4 e4 hi (TI.z T E')
          obtain ⟨rfl, rfl, x, hx, hrun⟩ := loadSel_sound (P := P) (C := st.cx E w hs) hT hr b (i * sz + off) (vs.drop off) (hv.drop off) fun j q hq => by
            rw [List.getElem?_drop] at hq
            rw [Nat.add_assoc]
            exact hc _ q hq
          exact OpOK.pure h hd hx (execOp_load ho (by rw [e]; exact hrun))
        · unfold Q.Runs at hr; exact hr.elim
      · unfold Q.Runs at hr; exact hr.elim
    · unfold Q.Runs at hr; exact hr.elim
  · unfold Q.Runs at hr; exact hr.elim

/-! ### field of a value -/
def opField (T : Nat → TI) (s : Nat) (x : Operand) (f : Nat) : Q := Q.opnd x fun a => match (T s).desc with
  | .struct fs => (match fs[f]? with
    | some (off, ft) => (match a with
      | .d fr (.agg cs) => loadSel T ft fr (cs.drop off)
      | .agg cs => if (T ft).desc.agg = true then .side (off + (T ft).size ≤ cs.length) (.fin (mkAgg ((cs.drop off).take (T ft).size)) [] [])
        else if (T ft).desc.known = true then (match cs[off]? with
          | some y => .fin y [] []
          | none => .bad) else .bad
      | _ => .bad)
    | none => .bad)
  | _ => .bad

theorem isAgg_yes (hT : TabOK P T) {t : Nat} (ha : (T t).desc.agg = true) (w : World) : (isAgg t).run P w = .ok true w := by
  have hne : (T t).desc ≠ .other := fun e => by rw [e] at ha; simp [KD.agg] at ha
  obtain ⟨g1, _⟩ := hT t hne
  unfold isAgg
  cases hd : (T t).desc with
  | struct fs => rw [hd] at g1; obtain ⟨fields, g2, _⟩ := g1; rw [Sem.run_bind, run_underlying g2 w]; rfl
  | arr n e => rw [hd] at g1; rw [Sem.run_bind, run_underlying g1 w]; rfl
  | _ => rw [hd] at ha; simp [KD.agg] at ha

theorem run_part_agg (hT : TabOK P T) {t : Nat} (ha : (T t).desc.agg = true) (cs : Array Value) (off : Nat) :
    (part t cs off).run P w = .ok (.agg ((cs.toList.drop off).take (T t).size).toArray) w := by
  have hne : (T t).desc ≠ .other := fun e => by rw [e] at ha; simp [KD.agg] at ha
  obtain ⟨_, ⟨info, i1, i2, _⟩, _⟩ := hT t hne
  have : cs.extract off (off + info.size) = ((cs.toList.drop off).take (T t).size).toArray := by
    apply Array.ext'
    rw [← i2]
    simp [Array.toList_extract]
  simp [part, isAgg_yes hT ha, sizeOf, typeInfo, i1, this]

theorem run_part_one (hT : TabOK P T) {t : Nat} (hk : (T t).desc.known = true) (ha : (T t).desc.agg = false) (cs : Array Value) (off : Nat) (c : Value) (hc : cs[off]? = some c) :
    (part t cs off).run P w = .ok c w := by
  simp [part, isAgg_no hT hk ha, hc]

theorem run_field {s f off ft : Nat} {fs : List (Nat × Nat)} (hT : TabOK P T) (e1 : (T s).desc = .struct fs) (e2 : fs[f]? = some (off, ft)) (cs : Array Value) {x : Value} (h : (part ft cs off).run P w = .ok x w) :
    (Instr.field s (.agg cs) f).run P w = .ok x w := by
  obtain ⟨g1, _⟩ := hT s (by rw [e1]; simp)
  rw [e1] at g1
  obtain ⟨fields, g2, g3⟩ := g1
  have g4 : ∃ fd, fields[f]? = some fd ∧ fd.offset = off ∧ fd.type = ft := by
    rw [← g3, List.getElem?_map] at e2
    obtain ⟨fd, q1, q2⟩ := Option.map_eq_some_iff.1 e2
    simp only [Prod.mk.injEq] at q2
    exact ⟨fd, by simpa using q1, q2.1, q2.2⟩
  obtain ⟨fd, q1, q2, q3⟩ := g4
  simp [Instr.field, run_underlying g2, q1, asAgg, q2, q3, h]

theorem opField_sound (hT : TabOK P T) (h : Rel E st a w hs) (hd : ∀ t, o.dst = some t → t < E.N) {s f : Nat} {x : Operand} (ho : o.op = .field s x f) (hr : (opField T s x f).Runs S st v u n) : OpOK P E o st a w hs v u n := by
  replace hr := opnd_sound h hr; obtain ⟨av, hav, hr⟩ := hr
  have hx : ∀ {y : Value}, (Instr.field s (a.eval x) f).run P w = .ok y w → (execOp a.eval o).run P w = .ok (.value y) w := by
    intro y hy
    simp only [execOp, ho, Sem.run_bind, hy, Result.andThen_ok, Sem.run_pure]
  split at hr
  · rename_i fs e1
    split at hr
    · rename_i off ft e2
      split at hr
      · rename_i fr cs
        unfold AV.VR at hav
        obtain ⟨vs, e, hv⟩ := hav
        unfold loadSel at hr
        split at hr
        · rename_i ha
          unfold Q.Runs at hr
          obtain ⟨h1, hr⟩ := hr
          unfold Q.Runs at hr
          obtain ⟨rfl, rfl, rfl⟩ := hr
          refine OpOK.pure h hd ?_ (hx (by rw [e]; exact run_field hT e1 e2 vs (run_part_agg hT ha vs off)))
          unfold AV.VR
          exact ⟨_, rfl, by simpa using (hv.drop off).take _⟩
        · rename_i ha
          split at hr
          · rename_i hk
            split at hr
            · rename_i c rest ec
              unfold Q.Runs at hr
              obtain ⟨rfl, rfl, rfl⟩ := hr
              have h2 := hv.drop off
              rw [ec] at h2
              unfold Dat.RF at h2
              obtain ⟨y, rs, e3, h0, h1, _⟩ := h2
              have hy : vs[off]? = some y := by
                have : (vs.toList.drop off)[0]? = some y := by rw [e3]; rfl
                rw [List.getElem?_drop] at this
                simpa using this
              refine OpOK.pure h hd ?_ (hx (by rw [e]; exact run_field hT e1 e2 vs (run_part_one hT hk (by simpa using ha) vs off y hy)))
              unfold AV.VR
              exact DV_or (DV.of_one h1 (fun fs e => by subst e; simp [Dat.nagg] at h0))
            · unfold Q.Runs at hr; exact hr.elim
          · unfold Q.Runs at hr; exact hr.elim
      · rename_i cs
        unfold AV.VR at hav
        obtain ⟨vs, e, hv, h6⟩ := hav
        split at hr
        · rename_i ha
          unfold Q.Runs at hr
          obtain ⟨h1, hr⟩ := hr
          unfold Q.Runs at hr
          obtain ⟨rfl, rfl, rfl⟩ := hr
          exact OpOK.pure h hd (VR.mkAgg (VL.take (k := (T ft).size) (VL.drop (k := off) hv)) fun q hq => h6 q (List.mem_of_mem_drop (List.mem_of_mem_take hq)))
            (hx (by rw [e]; exact run_field hT e1 e2 vs (run_part_agg hT ha vs off)))
        · rename_i ha
          split at hr
          · rename_i hk
            split at hr
            · rename_i y ey
              unfold Q.Runs at hr
              obtain ⟨rfl, rfl, rfl⟩ := hr
              obtain ⟨z, ez, hz⟩ := VL.get hv ey
              exact OpOK.pure h hd hz (hx (by rw [e]; exact run_field hT e1 e2 vs (run_part_one hT hk (by simpa using ha) vs off z (by simpa using ez))))
            · unfold Q.Runs at hr; exact hr.elim
          · unfold Q.Runs at hr; exact hr.elim
      · unfold Q.Runs at hr; exact hr.elim
    · unfold Q.Runs at hr; exact hr.elim
  · unfold Q.Runs at hr; exact hr.elim

end
end Go.AM
