/- AM, part 22: a region in a round of a range over a function. -/
import Derived.Test.YtmfobkiljlepjaaA19
import Derived.RangeFuncCalls
import Derived.OrdersIn
import Derived.TacticsIn
set_option linter.unusedVariables false
set_option linter.unusedSimpArgs false
namespace Go.AM
open Go Go.RowKit

theorem rowsIn_wide {n : Nat} {P : Program} {row : String} {args : Array Value} {w : World} {R : Value → World → Prop} (h : Rows P row args w R) : RowsIn Fence.wide n P row args w R :=
  fun c cs _ => let ⟨v, w', r, s⟩ := h c cs; ⟨v, w', r, stepsIn_wide.2 s⟩

theorem oper_wpIn {l n : Nat} {P : Program} {o : Oper} {a : Act} {w : World} {K : Act → World → Prop} {Q : Exit → Act → World → Prop} (hd : ∀ c, o.op ≠ .defer c) (h : o.wp P a w K Q) : o.wpIn (Fence.wide.inRound l) n P a w K Q := by
  refine ⟨fun f _ => trivial, ?_⟩
  have hs : Oper.semAt (Fence.wide.inRound l).round a.eval o = execOp a.eval o := Oper.semAt_some l a.eval o hd
  rw [hs]
  unfold Oper.wp at h
  generalize (execOp a.eval o).run P w = r at *
  cases r with
  | ok nx w' =>
    cases nx <;> simp only [Oper.upon, Oper.uponIn] at h ⊢ <;> first
      | exact h
      | exact h.elim
      | exact ⟨fun e => (by cases e), CallsIn.inRound l (callsIn_wide.2 h)⟩
      | exact ⟨fun e => (by cases e), rowsIn_wide h⟩
  | halt x w' => cases x <;> simp only [Oper.upon, Oper.uponIn] at h ⊢ <;> exact h

theorem opIn {l n : Nat} {P : Program} {ops : Array Oper} {Q : Exit → Act → World → Prop} (hd : ∀ o ∈ ops.toList, ∀ c, o.op ≠ .defer c) (hQ : ¬ LetsOut Q) {i : Nat} {K K' : Act → World → Prop} {a : Act} {w : World}
    (hK : ∀ a w, K a w → K' a w) (h : wpOp P ops Q i K a w) : wpOpIn (Fence.wide.inRound l) n P ops Q i K' a w := by
  unfold wpOp at h
  unfold wpOpIn
  split
  · rename_i ho; simp only [ho] at h; exact hK _ _ h
  · rename_i o ho
    simp only [ho] at h
    have hmem : o ∈ ops.toList := by
      have : ops.toList[i]? = some o := by simpa using ho
      exact List.mem_of_getElem? this
    split
    · rename_i hw
      simp only [hw, if_true] at h
      rcases h with h | h
      · exact Oper.wpIn_mono hK (oper_wpIn (hd o hmem) h)
      · exact absurd h.2 hQ
    · rename_i hw
      simp only [hw] at h
      exact ⟨fun f _ => trivial, hK _ _ h⟩

theorem anyIn {l n : Nat} {P : Program} {md : Region.Mode} {ops : Array Oper} {Q : Exit → Act → World → Prop} (hd : ∀ o ∈ ops.toList, ∀ c, o.op ≠ .defer c) (hQ : ¬ LetsOut Q) :
    ∀ (fuel : Nat) (listed : Array Bool) (a : Act) (w : World), wpAny P md ops Q fuel listed a w → wpAnyIn (Fence.wide.inRound l) n P md ops Q fuel listed a w
  | 0, listed, a, w, h => h
  | fuel + 1, listed, a, w, h => ⟨h.1, fun i hi => opIn hd hQ (fun a w => anyIn hd hQ fuel _ a w) (h.2 i hi)⟩

def noDefer (ops : List Oper) : Bool := ops.all fun o => match o.op with
  | .defer _ => false
  | _ => true

/-- A region that draws its order, in a round. -/
theorem round_draw {P : Program} {G : Cfg} {E : En} {st : St} {Q : Exit → St → Prop} (hG : G.OK P) (own : List Nat) (hm : P.follows .mixedOrders = true) {l n id : Nat} {ops : List Oper} (hd : dstOK E.N ops = true) (hnd : noDefer ops = true)
    (hout : ∀ st, ¬ Q .outgrown st) (h : ∀ K : St → Prop, (∀ st, Q .normal st → K st) → evalD G own ops K ops 0 st []) {a : Act} {w : World} {hs : List Hd} (hr : Rel E st a w hs) :
    (Code.region id ops.toArray true).wpIn (Fence.wide.inRound l) n P (Lift E Q) a w :=
  wpIn_region_any hm (anyIn (fun o ho c e => by
    have ho' : o ∈ ops := by simpa using ho
    have := List.all_eq_true.1 hnd o ho'
    rw [e] at this
    cases this) (by
    intro hl
    obtain ⟨a, w, st, hs, _, hq⟩ := hl
    exact hout st hq) _ _ _ _ (draw_any hG own hd h hr))

end Go.AM
