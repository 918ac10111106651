/- AM, part 24: evaluation in short: one lemma a step, the rewriting rules in bundles. -/
import Derived.Test.YtmfobkiljlepjaaA22
set_option linter.unusedVariables false
set_option linter.unusedSimpArgs false
namespace Go.AM
open Go Go.RowKit

section
variable {P : Program} {G : Cfg} {E : En} {st st' : St} {all os : List Oper} {K : St → Prop} {own : List Nat} {i : Nat} {d : Option Nat} {p : Prop} {v : AV} {u : List (Nat × Ob)} {n : List Ob} {c : Bool} {rr oo : List Nat} {fr : Bool} {log : List LE} {t : Nat}

theorem eL {op : Op} {ty : TypeId} {ps : String} {af : Array Edge} (e : (opQ G (!own.contains i) ⟨d, op, ty, ps, af, none⟩).eval true st = .ok p v u n) (s : st.upd d v u n = st') (hp : p) (h : evalL G own all K os (i + 1) st') :
    evalL G own all K (⟨d, op, ty, ps, af, none⟩ :: os) i st := evalL_next e hp (s ▸ h)

/-- The guard, and the operation under it. -/
def evG (q : Q) (st : St) (want : Bool) : Option (Bool × Bool) → Option (Bool × Out)
  | some (c1, b) => some (c1 && (if want then b else !b), q.eval (c1 && (if want then b else !b)) st)
  | none => none
def evGR (q : Q) (st : St) (want : Bool) : Option (Bool × Bool) → Option (Bool × OutR)
  | some (c1, b) => some (c1 && (if want then b else !b), q.evalR (c1 && (if want then b else !b)) st)
  | none => none

theorem eG {op : Op} {ty : TypeId} {ps : String} {af : Array Edge} {j : Nat} {want : Bool} (ht : gslot all j = some t) (hef : Oper.ef G ⟨d, op, ty, ps, af, some (j, want)⟩ = false)
    (e : evG (opQ G true ⟨d, op, ty, ps, af, some (j, want)⟩) st want (boolOf (look t st.env)) = some (c, .ok p v [] [])) (s : st.put d (.when c v) = st') (hp : c = true → p) (h : evalL G own all K os (i + 1) st') :
    evalL G own all K (⟨d, op, ty, ps, af, some (j, want)⟩ :: os) i st := by
  cases hb : boolOf (look t st.env) with
  | none => rw [hb] at e; cases e
  | some q =>
    obtain ⟨c1, b⟩ := q
    rw [hb] at e
    simp only [evG, Option.some.injEq, Prod.mk.injEq] at e
    obtain ⟨rfl, e⟩ := e
    exact evalL_nextG ht hef hb rfl e hp (s ▸ h)

theorem eD {op : Op} {ty : TypeId} {ps : String} {af : Array Edge} {wo : List Nat} (e : (opQ G (!own.contains i) ⟨d, op, ty, ps, af, none⟩).evalR true st = .ok p v u n rr oo fr) (s : st.upd d v u n = st')
    (hw : wrs st u n = wo) (hf : Stp.wf ⟨⟨rr, oo, d, wo, fr⟩, v, u, n⟩ st = true) (hp : p) (h : evalD G own all K os (i + 1) st' (⟨rr, oo, d, wo, fr⟩ :: log)) :
    evalD G own all K (⟨d, op, ty, ps, af, none⟩ :: os) i st log := evalD_nextU e hp hw hf (s ▸ h)

theorem eDG {op : Op} {ty : TypeId} {ps : String} {af : Array Edge} {j : Nat} {want : Bool} (ht : gslot all j = some t) (hef : Oper.ef G ⟨d, op, ty, ps, af, some (j, want)⟩ = false)
    (e : evGR (opQ G true ⟨d, op, ty, ps, af, some (j, want)⟩) st want (boolOf (look t st.env)) = some (c, .ok p v [] [] rr oo fr)) (s : st.put d (.when c v) = st') (hp : c = true → p) (h : evalD G own all K os (i + 1) st' (⟨t :: rr, oo, d, [], fr⟩ :: log)) :
    evalD G own all K (⟨d, op, ty, ps, af, some (j, want)⟩ :: os) i st log := by
  cases hb : boolOf (look t st.env) with
  | none => rw [hb] at e; cases e
  | some q =>
    obtain ⟨c1, b⟩ := q
    rw [hb] at e
    simp only [evGR, Option.some.injEq, Prod.mk.injEq] at e
    obtain ⟨rfl, e⟩ := e
    exact evalD_nextG ht hef hb rfl e hp (s ▸ h)
end

theorem evB : type_of% (And.intro (And.intro (And.intro (And.intro (And.intro (And.intro @outR_and (And.intro @outR_rd @outR_ob)) (And.intro (And.intro @outR_new @selB_and) (And.intro @selB_or @binV_int))) (And.intro (And.intro (And.intro @binV_str @binV_ptr_eq) (And.intro @binV_ptr_ne @binV_bool_eq)) (And.intro (And.intro @binV_bool_ne @out_and) (And.intro @upd_plain @upd_none)))) (And.intro (And.intro (And.intro @upd_set (And.intro @upd_none_set @upd_new)) (And.intro (And.intro @put_some @put_none) (And.intro @ints_length @ints_append))) (And.intro (And.intro (And.intro @ints_drop @ints_take) (And.intro @ints_getD @ints_set)) (And.intro (And.intro @sl_v @slc_cons) (And.intro @slc_nil @ints_cons))))) (And.intro (And.intro (And.intro (And.intro @toInts_ints (And.intro @isB_ints @isB_nil)) (And.intro (And.intro @ints_replicate @ints_flat) (And.intro @toRows_nil @toRows_cons))) (And.intro (And.intro (And.intro @toRows_cons_nil @toRows_rows) (And.intro @isBB_nil @isBB_cons)) (And.intro (And.intro @isBB_cons_nil @isBB_rows) (And.intro @rows_length @rows_append)))) (And.intro (And.intro (And.intro (And.intro @rows_getD @byt_nil) (And.intro @byt_cons @byt_append)) (And.intro (And.intro @List.flatten_cons.{0} @List.flatten_nil.{0}) (And.intro @Bool.or_self @Bool.true_or))) (And.intro (And.intro (And.intro @List.all_cons.{0} @List.all_nil.{0}) (And.intro @List.any_cons.{0} @List.any_nil.{0})) (And.intro (And.intro @List.map_cons.{0,0} @List.map_nil.{0,0}) (And.intro @List.length_cons.{0} @List.length_nil.{0})))))) (And.intro (And.intro (And.intro (And.intro (And.intro @List.length_append.{0} (And.intro @List.zip_cons_cons.{0,0} @List.zip_nil_left.{0,0})) (And.intro (And.intro @List.zip_nil_right.{0,0} @List.nil_append.{0}) (And.intro @List.cons_append.{0} @List.append_nil.{0}))) (And.intro (And.intro (And.intro @List.set_cons_zero.{0} @List.set_cons_succ.{0}) (And.intro @List.getD_cons_zero.{0} @List.getD_cons_succ.{0})) (And.intro (And.intro @List.getD_nil.{0} @List.getElem?_cons_zero.{0}) (And.intro @List.getElem?_cons_succ.{0} @List.getElem?_nil.{0})))) (And.intro (And.intro (And.intro (And.intro @List.drop_zero.{0} @List.drop_succ_cons.{0}) (And.intro @List.take_succ_cons.{0} @List.take_zero.{0})) (And.intro (And.intro @List.foldl_cons.{0,0} @List.foldl_nil.{0,0}) (And.intro @List.size_toArray.{0} @Option.map_some.{0,0}))) (And.intro (And.intro (And.intro @Option.map_none.{0,0} @Option.bind_some.{0,0}) (And.intro @Option.bind_none.{0,0} @Nat.zero_add)) (And.intro (And.intro @Nat.add_zero @Nat.mul_one) (And.intro @beq_self_eq_true.{0} @Bool.and_true))))) (And.intro (And.intro (And.intro (And.intro @Bool.true_and (And.intro @Bool.and_self @Bool.and_false)) (And.intro (And.intro @Bool.false_and @Bool.or_false) (And.intro @Bool.or_true @Bool.false_or))) (And.intro (And.intro (And.intro @Bool.not_true @Bool.not_false) (And.intro @Bool.false_eq_true @if_true.{0})) (And.intro (And.intro @if_false.{0} @and_true) (And.intro @true_and @true_implies)))) (And.intro (And.intro (And.intro (And.intro @implies_true.{0} @forall_const.{0}) (And.intro @decide_true @decide_false)) (And.intro (And.intro @Int.toNat_natCast @Nat.min_def) (And.intro @ne_eq.{0} @not_false_eq_true))) (And.intro (And.intro (And.intro @not_true_eq_false @eq_self.{0}) (And.intro @or_true @true_or)) (And.intro (And.intro @or_self @or_false) (And.intro @false_or @Nat.lt_irrefl))))))) :=
  (And.intro (And.intro (And.intro (And.intro (And.intro (And.intro @outR_and (And.intro @outR_rd @outR_ob)) (And.intro (And.intro @outR_new @selB_and) (And.intro @selB_or @binV_int))) (And.intro (And.intro (And.intro @binV_str @binV_ptr_eq) (And.intro @binV_ptr_ne @binV_bool_eq)) (And.intro (And.intro @binV_bool_ne @out_and) (And.intro @upd_plain @upd_none)))) (And.intro (And.intro (And.intro @upd_set (And.intro @upd_none_set @upd_new)) (And.intro (And.intro @put_some @put_none) (And.intro @ints_length @ints_append))) (And.intro (And.intro (And.intro @ints_drop @ints_take) (And.intro @ints_getD @ints_set)) (And.intro (And.intro @sl_v @slc_cons) (And.intro @slc_nil @ints_cons))))) (And.intro (And.intro (And.intro (And.intro @toInts_ints (And.intro @isB_ints @isB_nil)) (And.intro (And.intro @ints_replicate @ints_flat) (And.intro @toRows_nil @toRows_cons))) (And.intro (And.intro (And.intro @toRows_cons_nil @toRows_rows) (And.intro @isBB_nil @isBB_cons)) (And.intro (And.intro @isBB_cons_nil @isBB_rows) (And.intro @rows_length @rows_append)))) (And.intro (And.intro (And.intro (And.intro @rows_getD @byt_nil) (And.intro @byt_cons @byt_append)) (And.intro (And.intro @List.flatten_cons.{0} @List.flatten_nil.{0}) (And.intro @Bool.or_self @Bool.true_or))) (And.intro (And.intro (And.intro @List.all_cons.{0} @List.all_nil.{0}) (And.intro @List.any_cons.{0} @List.any_nil.{0})) (And.intro (And.intro @List.map_cons.{0,0} @List.map_nil.{0,0}) (And.intro @List.length_cons.{0} @List.length_nil.{0})))))) (And.intro (And.intro (And.intro (And.intro (And.intro @List.length_append.{0} (And.intro @List.zip_cons_cons.{0,0} @List.zip_nil_left.{0,0})) (And.intro (And.intro @List.zip_nil_right.{0,0} @List.nil_append.{0}) (And.intro @List.cons_append.{0} @List.append_nil.{0}))) (And.intro (And.intro (And.intro @List.set_cons_zero.{0} @List.set_cons_succ.{0}) (And.intro @List.getD_cons_zero.{0} @List.getD_cons_succ.{0})) (And.intro (And.intro @List.getD_nil.{0} @List.getElem?_cons_zero.{0}) (And.intro @List.getElem?_cons_succ.{0} @List.getElem?_nil.{0})))) (And.intro (And.intro (And.intro (And.intro @List.drop_zero.{0} @List.drop_succ_cons.{0}) (And.intro @List.take_succ_cons.{0} @List.take_zero.{0})) (And.intro (And.intro @List.foldl_cons.{0,0} @List.foldl_nil.{0,0}) (And.intro @List.size_toArray.{0} @Option.map_some.{0,0}))) (And.intro (And.intro (And.intro @Option.map_none.{0,0} @Option.bind_some.{0,0}) (And.intro @Option.bind_none.{0,0} @Nat.zero_add)) (And.intro (And.intro @Nat.add_zero @Nat.mul_one) (And.intro @beq_self_eq_true.{0} @Bool.and_true))))) (And.intro (And.intro (And.intro (And.intro @Bool.true_and (And.intro @Bool.and_self @Bool.and_false)) (And.intro (And.intro @Bool.false_and @Bool.or_false) (And.intro @Bool.or_true @Bool.false_or))) (And.intro (And.intro (And.intro @Bool.not_true @Bool.not_false) (And.intro @Bool.false_eq_true @if_true.{0})) (And.intro (And.intro @if_false.{0} @and_true) (And.intro @true_and @true_implies)))) (And.intro (And.intro (And.intro (And.intro @implies_true.{0} @forall_const.{0}) (And.intro @decide_true @decide_false)) (And.intro (And.intro @Int.toNat_natCast @Nat.min_def) (And.intro @ne_eq.{0} @not_false_eq_true))) (And.intro (And.intro (And.intro @not_true_eq_false @eq_self.{0}) (And.intro @or_true @true_or)) (And.intro (And.intro @or_self @or_false) (And.intro @false_or @Nat.lt_irrefl)))))))
theorem evU : type_of% (And.intro (And.intro (And.intro @upd_plain (And.intro @upd_none @upd_set)) (And.intro (And.intro @upd_none_set @upd_new) (And.intro @put_some @put_none))) (And.intro (And.intro @List.foldl_nil.{0,0} (And.intro @List.map_nil.{0,0} @List.append_nil.{0})) (And.intro (And.intro @List.set_cons_zero.{0} @List.set_cons_succ.{0}) (And.intro @List.nil_append.{0} @List.cons_append.{0})))) :=
  (And.intro (And.intro (And.intro @upd_plain (And.intro @upd_none @upd_set)) (And.intro (And.intro @upd_none_set @upd_new) (And.intro @put_some @put_none))) (And.intro (And.intro @List.foldl_nil.{0,0} (And.intro @List.map_nil.{0,0} @List.append_nil.{0})) (And.intro (And.intro @List.set_cons_zero.{0} @List.set_cons_succ.{0}) (And.intro @List.nil_append.{0} @List.cons_append.{0}))))
end Go.AM
