/- What the rows ask of a call: its first world, and that it stays below. -/
import Derived.Test.YtmfobkiljlepjaaK2
import Derived.Below
set_option linter.unusedVariables false
set_option linter.unusedSimpArgs false
namespace Go.AM
open Go Go.RowKit
theorem WOK.none1 (w : World) (old : Nat → Prop) : WOK w [] (entryCx w old none []) :=
  ⟨rfl, rfl, rfl, rfl, Nat.le_refl _, rfl, fun _ _ _ => rfl, fun n o h e => by simp [entryCx] at e, fun n m h k _ ⟨o, e⟩ => by simp [entryCx] at e, fun n h ⟨o, e⟩ => by simp [entryCx] at e, Nat.le_refl _, fun i b e => by simp at e, fun i b u e => by simp at e, fun i v E sz fr xs e => by simp at e⟩
theorem WOK.below {w w' : World} {b0 : Nat} {old : Nat → Prop} {obs : List (Option Ob)} {hs : List Hd} (h : WOK w [] ⟨w', b0, old, obs, hs⟩) : Below w.heap.size w w' :=
  ⟨h.os, h.tape, h.output, h.size, fun k hk => h.frame k hk (by simp)⟩

end Go.AM
