/- AM: regions whose guards are known (the K6 part of C48; C48 has the same declarations still: make it import this text). -/
import Derived.Test.YtmfobkiljlepjaaK5
set_option maxRecDepth 100000
set_option maxHeartbeats 8000000
set_option linter.unusedSimpArgs false
set_option linter.unusedVariables false
namespace Go.AM
open Go Go.RowKit

/-- The evaluation of a region whose guards are known. -/
def evalM (G : Cfg) (own : List Nat) (all : List Oper) (K : St → Prop) : List Oper → Nat → St → Prop
  | [], _, st => K st
  | o :: os, i, st => match o.guard with
    | none => ∃ p v u n, (opQ G (!own.contains i) o).eval true st = .ok p v u n ∧ p ∧ evalM G own all K os (i + 1) (st.upd o.dst v u n)
    | some (j, want) => (gcond all st j want = some true ∧ ∃ p v u n, (opQ G (!own.contains i) o).eval true st = .ok p v u n ∧ p ∧ evalM G own all K os (i + 1) (st.upd o.dst v u n)) ∨
        (gcond all st j want = some false ∧ ∃ av, evalM G own all K os (i + 1) (st.put o.dst (.when false av)))

section
variable {P : Program} {G : Cfg} {E : En} {st st' : St} {a : Act} {w : World} {hs : List Hd} {all : List Oper} {K : St → Prop} {own : List Nat} {i : Nat}

theorem evalM_sound (hG : G.OK P) {ops : Array Oper} {Q : Exit → Act → World → Prop} (hK : ∀ st a w hs, Rel E st a w hs → K st → Q .normal a w) :
    ∀ {os : List Oper} {i : Nat} {st : St} {a : Act} {w : World} {hs : List Hd}, Rel E st a w hs → (∀ o ∈ os, ∀ t, o.dst = some t → t < E.N) → (∀ o ∈ ops.toList, ∀ t, o.dst = some t → t < E.N) → evalM G own ops.toList K os i st → wpList P ops Q os a w
  | [], i, st, a, w, hs, h, _, _, he => by unfold evalM at he; exact wpList_nil (hK _ _ _ _ h he)
  | o :: os, i, st, a, w, hs, h, hd, hd2, he => by
    have hdo : ∀ t, o.dst = some t → t < E.N := hd o (by simp)
    have hdos : ∀ o ∈ os, ∀ t, o.dst = some t → t < E.N := fun o' ho' => hd o' (by simp [ho'])
    have main : ∀ {v : AV} {u : List (Nat × Ob)} {n : List Ob} {g : Bool} {p : Prop} {c : Bool}, c = true → (opQ G g o).eval c st = .ok p v u n → p → evalM G own ops.toList K os (i + 1) (st.upd o.dst v u n) →
        ∀ K' : Act → World → Prop, (∀ a w, wpList P ops Q os a w → K' a w) → o.wp P a w K' Q := by
      intro v u n g p c hc e hp hrest K' hK'
      have hr : (opQ G g o).Runs (fun _ _ _ => False) st v u n := eval_runs hc e hp
      exact opQ_sound hG h hdo hr K' Q fun a' w' hs' hrel => hK' _ _ (evalM_sound hG hK hrel hdos hd2 hrest)
    have skip : ∀ v : AV, evalM G own ops.toList K os (i + 1) (st.put o.dst v) → v.VR (st.cx E w hs) undef → wpList P ops Q os (a.put o.dst undef) w := fun v hrest hv => evalM_sound hG hK (h.put hv o.dst hdo) hdos hd2 hrest
    refine wpList_step fun K' hK' => ?_
    unfold evalM at he
    split at he
    · rename_i hg
      rw [if_pos (by simp [Region.wanted, hg])]
      obtain ⟨p, v, u, n, e, h1, h2⟩ := he
      exact main rfl e h1 h2 K' hK'
    · rename_i j want hg
      have hcc : ∀ c, gcond ops.toList st j want = some c → Region.wanted o (yielded ops a.tmps) = c := by
        intro c e
        simp only [Region.wanted, hg, yielded]
        unfold gcond at e
        have hl : ops.toList[j]? = ops[j]? := by simp
        rw [hl] at e
        split at e
        · rename_i t ht
          obtain ⟨⟨c1, b⟩, e1, rfl⟩ := Option.map_eq_some_iff.1 e
          rw [ht]
          have hv := h.env t
          have htN : t < a.tmps.size := by
            rw [h.size]
            obtain ⟨o', ho', h3⟩ := Option.bind_eq_some_iff.1 ht
            exact hd2 o' (by rw [← hl] at ho'; exact List.mem_of_getElem? ho') t h3
          have hget : a.tmps[t]? = some (a.tmps.getD t undef) := by simp [htN]
          simp only [Option.bind_some, hget]
          cases c1 with
          | true =>
            rw [boolOf_sound hv e1 rfl]
            cases want <;> cases b <;> rfl
          | false =>
            have : a.tmps.getD t undef = undef := by
              unfold boolOf at e1
              split at e1
              · cases e1
              · rename_i e5
                rw [e5] at hv
                unfold AV.VR at hv
                simp only [Option.some.injEq, Prod.mk.injEq] at e1
                exact hv.2 e1.1
              · cases e1
            rw [this]
            cases want <;> rfl
        · cases e
      rcases he with ⟨hc, p, v, u, n, e, h1, h2⟩ | ⟨hc, av, h1⟩
      · rw [hcc _ hc]
        simp only [if_true]
        exact main rfl e h1 h2 K' hK'
      · rw [hcc _ hc]
        simp only [Bool.false_eq_true, if_false]
        exact hK' _ _ (skip _ h1 (by unfold AV.VR; exact ⟨by simp, fun _ => rfl⟩))

theorem evalM_nil : evalM G own all K [] i st = K st := rfl
theorem mN {d : Option Nat} {os : List Oper} {p : Prop} {v : AV} {u : List (Nat × Ob)} {n : List Ob} {op : Op} {ty : TypeId} {ps : String} {af : Array Edge} (h : evalM G own all K os (i + 1) st')
    (e : (opQ G (!own.contains i) ⟨d, op, ty, ps, af, none⟩).eval true st = .ok p v u n := by (simp (maxSteps := 2000000) only [evB, evG, evGR, Q.evalR, boolOf, opQ, opMove, opPick, opBinK, opBin, opMakeMap, opLookup, opMapUpdate, keyA, keyI, keyEq, opUn, opConvS, convSB, convBS, lazy_app, lazyO_app, opConv, opExtract, opNil, opAlloc, opBox, opBuild, opBuildSlice, opMakeSlice, opLoad, opStore, opSlice, opFieldAddr, opField, opIndexAddr, opIndex, opLen, opMinMax, opAppend, opAppendZ, opCall, opCallF, callK_none, callK_some, opCallS, callS_none, opCopy, opMakeFunc, Q.opnd, Q.opndW, Q.eval, Q.ret, Q.elems, Q.cells, Q.parts, Q.args, Q.src, Q.optInt, intOf?, placeOf, fillA, setAll, mkAgg, datas, loadSel, ofCells, pickV, binI, binS, look, Value.oneCell', normD, smallNil, KD.known, KD.agg, T, TI.z, Dat.wd, Dat.cells, Dat.nagg, AV.ren, renL, AV.renT, AV.hi, AV.hi1, Ob.isRow, Ob.inn, Ob.out, Ob.gam, Ob.data, Ob.alike, loL, Gf, Mu, KE, Dat.flat, Dat.isV, List.contains, List.elem, Option.isSome, Nat.reduceAdd, Nat.reduceSub, Nat.reduceMul, Nat.reduceEqDiff, Nat.reduceLeDiff, Nat.reduceBEq, reduceIte, reduceCtorEq, Int.reduceLT, Int.reduceLE, Int.reduceNeg, Int.reduceEq, Int.reduceToNat, Int.reducePow, Nat.reducePow, Nat.reduceLT, IntKind.bits, Int.reduceToNat, Int.reduceDiv, Int.reduceMod, Nat.sub_zero, hfs, hxs]; (try simp (disch := omega) only [evA]); exact rfl)) (s : st.upd d v u n = st' := by ((try simp only [evU]); exact rfl)) (hp : p := by first | exact True.intro | ((and_intros <;> first | exact True.intro | omega | assumption | (intro hq; first | omega | (rw [hq]; rfl) | (simp; done) | (simp [hq]; done) | (intro hq2; first | (rw [hq, hq2]; rfl) | (simp [hq, hq2]; done) | (simp_all; done))) | (simp; done) | (simp_all; done))) | (intro hg; (and_intros <;> first | exact True.intro | omega | assumption | (intro hq; first | omega | (rw [hq]; rfl) | (simp; done) | (simp [hq]; done) | (intro hq2; first | (rw [hq, hq2]; rfl) | (simp [hq, hq2]; done) | (simp_all; done))) | (simp; done) | (simp_all; done))) | (intro hg; simp at hg; (and_intros <;> first | exact True.intro | omega | assumption | (intro hq; first | omega | (rw [hq]; rfl) | (simp; done) | (simp [hq]; done) | (intro hq2; first | (rw [hq, hq2]; rfl) | (simp [hq, hq2]; done) | (simp_all; done))) | (simp; done) | (simp_all; done)))) :
    evalM G own all K (⟨d, op, ty, ps, af, none⟩ :: os) i st := by
  unfold evalM
  exact ⟨p, v, u, n, e, hp, s ▸ h⟩
theorem mT {d : Option Nat} {os : List Oper} {t : Nat} {p : Prop} {v : AV} {u : List (Nat × Ob)} {n : List Ob} {op : Op} {ty : TypeId} {ps : String} {af : Array Edge} {j : Nat} {want c1 b : Bool} (h : evalM G own all K os (i + 1) st')
    (ht : gslot all j = some t := by exact rfl) (hb : boolOf (look t st.env) = some (c1, b) := by exact rfl) (hc : (c1 && (if want then b else !b)) = true := by exact rfl)
    (e : (opQ G (!own.contains i) ⟨d, op, ty, ps, af, some (j, want)⟩).eval true st = .ok p v u n := by (simp (maxSteps := 2000000) only [evB, evG, evGR, Q.evalR, boolOf, opQ, opMove, opPick, opBinK, opBin, opMakeMap, opLookup, opMapUpdate, keyA, keyI, keyEq, opUn, opConvS, convSB, convBS, lazy_app, lazyO_app, opConv, opExtract, opNil, opAlloc, opBox, opBuild, opBuildSlice, opMakeSlice, opLoad, opStore, opSlice, opFieldAddr, opField, opIndexAddr, opIndex, opLen, opMinMax, opAppend, opAppendZ, opCall, opCallF, callK_none, callK_some, opCallS, callS_none, opCopy, opMakeFunc, Q.opnd, Q.opndW, Q.eval, Q.ret, Q.elems, Q.cells, Q.parts, Q.args, Q.src, Q.optInt, intOf?, placeOf, fillA, setAll, mkAgg, datas, loadSel, ofCells, pickV, binI, binS, look, Value.oneCell', normD, smallNil, KD.known, KD.agg, T, TI.z, Dat.wd, Dat.cells, Dat.nagg, AV.ren, renL, AV.renT, AV.hi, AV.hi1, Ob.isRow, Ob.inn, Ob.out, Ob.gam, Ob.data, Ob.alike, loL, Gf, Mu, KE, Dat.flat, Dat.isV, List.contains, List.elem, Option.isSome, Nat.reduceAdd, Nat.reduceSub, Nat.reduceMul, Nat.reduceEqDiff, Nat.reduceLeDiff, Nat.reduceBEq, reduceIte, reduceCtorEq, Int.reduceLT, Int.reduceLE, Int.reduceNeg, Int.reduceEq, Int.reduceToNat, Int.reducePow, Nat.reducePow, Nat.reduceLT, IntKind.bits, Int.reduceToNat, Int.reduceDiv, Int.reduceMod, Nat.sub_zero, hfs, hxs]; (try simp (disch := omega) only [evA]); exact rfl)) (s : st.upd d v u n = st' := by ((try simp only [evU]); exact rfl)) (hp : p := by first | exact True.intro | ((and_intros <;> first | exact True.intro | omega | assumption | (intro hq; first | omega | (rw [hq]; rfl) | (simp; done) | (simp [hq]; done) | (intro hq2; first | (rw [hq, hq2]; rfl) | (simp [hq, hq2]; done) | (simp_all; done))) | (simp; done) | (simp_all; done))) | (intro hg; (and_intros <;> first | exact True.intro | omega | assumption | (intro hq; first | omega | (rw [hq]; rfl) | (simp; done) | (simp [hq]; done) | (intro hq2; first | (rw [hq, hq2]; rfl) | (simp [hq, hq2]; done) | (simp_all; done))) | (simp; done) | (simp_all; done))) | (intro hg; simp at hg; (and_intros <;> first | exact True.intro | omega | assumption | (intro hq; first | omega | (rw [hq]; rfl) | (simp; done) | (simp [hq]; done) | (intro hq2; first | (rw [hq, hq2]; rfl) | (simp [hq, hq2]; done) | (simp_all; done))) | (simp; done) | (simp_all; done)))) :
    evalM G own all K (⟨d, op, ty, ps, af, some (j, want)⟩ :: os) i st := by
  unfold evalM
  exact .inl ⟨gcond_of ht hb hc, p, v, u, n, e, hp, s ▸ h⟩
theorem mF {d : Option Nat} {os : List Oper} {t : Nat} {op : Op} {ty : TypeId} {ps : String} {af : Array Edge} {j : Nat} {want c1 b : Bool} (h : evalM G own all K os (i + 1) st')
    (ht : gslot all j = some t := by exact rfl) (hb : boolOf (look t st.env) = some (c1, b) := by exact rfl) (hc : (c1 && (if want then b else !b)) = false := by exact rfl)
    (s : st.put d (.when false (.d true (.v (.bool false)))) = st' := by ((try simp only [evU]); exact rfl)) :
    evalM G own all K (⟨d, op, ty, ps, af, some (j, want)⟩ :: os) i st := by
  unfold evalM
  exact .inr ⟨gcond_of ht hb hc, _, s ▸ h⟩
theorem mhN {d : Option Nat} {os : List Oper} {op : Op} {ty : TypeId} {ps : String} {af : Array Edge} (h : evalM G own all K (⟨d, op, ty, ps, af, none⟩ :: os) i st) : evalM G own all K (⟨d, op, ty, ps, af, none⟩ :: os) i st := h
theorem mhG {d : Option Nat} {os : List Oper} {op : Op} {ty : TypeId} {ps : String} {af : Array Edge} {j : Nat} {want : Bool} (h : evalM G own all K (⟨d, op, ty, ps, af, some (j, want)⟩ :: os) i st) : evalM G own all K (⟨d, op, ty, ps, af, some (j, want)⟩ :: os) i st := h
theorem dT {d : Option Nat} {os : List Oper} {i t : Nat} {p : Prop} {v : AV} {u : List (Nat × Ob)} {n : List Ob} {rr oo : List Nat} {fr : Bool} {log : List LE} {op : Op} {ty : TypeId} {ps : String} {af : Array Edge} {wo : List Nat} {j : Nat} {want c1 b : Bool} (h : evalD G own all K os (i + 1) st' (⟨t :: rr, oo, d, wo, fr⟩ :: log))
    (ht : gslot all j = some t := by exact rfl) (hef : (Oper.ef G ⟨d, op, ty, ps, af, some (j, want)⟩ || own.contains 9999) = true := by exact rfl) (hb : boolOf (look t st.env) = some (c1, b) := by exact rfl) (hc : (c1 && (if want then b else !b)) = true := by exact rfl)
    (e : (opQ G (!own.contains i) ⟨d, op, ty, ps, af, some (j, want)⟩).evalR true st = .ok p v u n rr oo fr := by (simp (maxSteps := 2000000) only [evB, evG, evGR, Q.evalR, boolOf, opQ, opMove, opPick, opBinK, opBin, opMakeMap, opLookup, opMapUpdate, keyA, keyI, keyEq, opUn, opConvS, convSB, convBS, lazy_app, lazyO_app, opConv, opExtract, opNil, opAlloc, opBox, opBuild, opBuildSlice, opMakeSlice, opLoad, opStore, opSlice, opFieldAddr, opField, opIndexAddr, opIndex, opLen, opMinMax, opAppend, opAppendZ, opCall, opCallF, callK_none, callK_some, opCallS, callS_none, opCopy, opMakeFunc, Q.opnd, Q.opndW, Q.eval, Q.ret, Q.elems, Q.cells, Q.parts, Q.args, Q.src, Q.optInt, intOf?, placeOf, fillA, setAll, mkAgg, datas, loadSel, ofCells, pickV, binI, binS, look, Value.oneCell', normD, smallNil, KD.known, KD.agg, T, TI.z, Dat.wd, Dat.cells, Dat.nagg, AV.ren, renL, AV.renT, AV.hi, AV.hi1, Ob.isRow, Ob.inn, Ob.out, Ob.gam, Ob.data, Ob.alike, loL, Gf, Mu, KE, Dat.flat, Dat.isV, List.contains, List.elem, Option.isSome, Nat.reduceAdd, Nat.reduceSub, Nat.reduceMul, Nat.reduceEqDiff, Nat.reduceLeDiff, Nat.reduceBEq, reduceIte, reduceCtorEq, Int.reduceLT, Int.reduceLE, Int.reduceNeg, Int.reduceEq, Int.reduceToNat, Int.reducePow, Nat.reducePow, Nat.reduceLT, IntKind.bits, Int.reduceToNat, Int.reduceDiv, Int.reduceMod, Nat.sub_zero, hfs, hxs]; (try simp (disch := omega) only [evA]); exact rfl)) (s : st.upd d v u n = st' := by ((try simp only [evU]); exact rfl)) (hw : wrs st u n = wo := by first | exact wrs_nil | exact rfl) (hf : Stp.wf ⟨⟨t :: rr, oo, d, wo, fr⟩, v, u, n⟩ st = true := by exact rfl) (hp : p := by first | exact True.intro | ((and_intros <;> first | exact True.intro | omega | assumption | (intro hq; first | omega | (rw [hq]; rfl) | (simp; done) | (simp [hq]; done) | (intro hq2; first | (rw [hq, hq2]; rfl) | (simp [hq, hq2]; done) | (simp_all; done))) | (simp; done) | (simp_all; done))) | (intro hg; (and_intros <;> first | exact True.intro | omega | assumption | (intro hq; first | omega | (rw [hq]; rfl) | (simp; done) | (simp [hq]; done) | (intro hq2; first | (rw [hq, hq2]; rfl) | (simp [hq, hq2]; done) | (simp_all; done))) | (simp; done) | (simp_all; done))) | (intro hg; simp at hg; (and_intros <;> first | exact True.intro | omega | assumption | (intro hq; first | omega | (rw [hq]; rfl) | (simp; done) | (simp [hq]; done) | (intro hq2; first | (rw [hq, hq2]; rfl) | (simp [hq, hq2]; done) | (simp_all; done))) | (simp; done) | (simp_all; done)))) :
    evalD G own all K (⟨d, op, ty, ps, af, some (j, want)⟩ :: os) i st log := evalD_nextT ht hef hb hc e hp hw hf (s ▸ h)
theorem dF {d : Option Nat} {os : List Oper} {i t : Nat} {log : List LE} {op : Op} {ty : TypeId} {ps : String} {af : Array Edge} {j : Nat} {want c1 b : Bool} (h : evalD G own all K os (i + 1) st' (⟨[t], [], d, [], false⟩ :: log))
    (ht : gslot all j = some t := by exact rfl) (hef : (Oper.ef G ⟨d, op, ty, ps, af, some (j, want)⟩ || own.contains 9999) = true := by exact rfl) (hb : boolOf (look t st.env) = some (c1, b) := by exact rfl) (hc : (c1 && (if want then b else !b)) = false := by exact rfl)
    (s : st.put d (.when false (.d true (.v (.bool false)))) = st' := by ((try simp only [evU]); exact rfl)) :
    evalD G own all K (⟨d, op, ty, ps, af, some (j, want)⟩ :: os) i st log := evalD_nextF ht hef hb hc _ (s ▸ h)
variable {Q : Exit → St → Prop}
theorem AWP.regionM (hG : G.OK P) (own : List Nat) {id : Nat} {ops : List Oper} (hd : dstOK E.N ops = true) (h : ∀ K : St → Prop, (∀ st, Q .normal st → K st) → evalM G own ops K ops 0 st) : AWP P E (.region id ops.toArray false) Q st := fun a w hs hr =>
  wp_region_list (evalM_sound (ops := ops.toArray) hG (K := Q .normal) (fun st a w hs h1 h2 => ⟨st, hs, h1, h2⟩) hr (by simpa using dstOK_spec hd) (by simpa using dstOK_spec hd) (by simpa using h _ fun _ h => h))
theorem rsm (hG : G.OK P) (own ks : List Nat) {id : Nat} {ops : List Oper} {y : Code} (h : ∀ K : St → Prop, (∀ st, AWP P E y Q (st.keep ks) → K st) → evalM G own ops K ops 0 st) (hd : dstOK E.N ops = true := by rw [hN]; decide) : AWP P E (.seq (.region id ops.toArray false) y) Q st :=
  AWP.seq (AWP.regionM hG own hd fun K hK => h K fun st hst => hK st (AWP.keep ks hst))
theorem rnm (hG : G.OK P) (own ks : List Nat) {id : Nat} {ops : List Oper} (h : ∀ K : St → Prop, (∀ st, Q .normal (st.keep ks) → K st) → evalM G own ops K ops 0 st) (hd : dstOK E.N ops = true := by rw [hN]; decide) : AWP P E (.region id ops.toArray false) Q st := fun a w hs hr => by
  have h1 := AWP.regionM hG own hd (Q := fun e st => match e with | .normal => Q .normal (st.keep ks) | e => Q e st) (id := id) (fun K hK => h K fun st hst => hK st hst) a w hs hr
  refine Code.wp_mono (fun e a w ⟨st, hs, hr, hq⟩ => ?_) h1
  cases e with
  | normal => exact ⟨_, hs, hr.weak (Weak.keep ks st), hq⟩
  | _ => exact ⟨st, hs, hr, hq⟩
end
end Go.AM

