/- AM: merging what is sorted: the contract. -/
import Derived.Test.YtmfobkiljlepjaaC91
set_option maxRecDepth 100000
set_option maxHeartbeats 8000000
set_option linter.unusedSimpArgs false
set_option linter.unusedVariables false
namespace Go.AM
open Go Go.Proofs

theorem half_i (x y : Nat) (hx : x ≤ 1000000) (hy : y ≤ 1000000) : IntKind.i64.wrap ((((x : Int) + (y : Int)) % 18446744073709551616).fdiv 2) = (((x + y) / 2 : Nat) : Int) := by
  rw [Int.fdiv_eq_ediv_of_nonneg _ (by decide), w_i64 (by omega) (by omega)]
  omega
def e131 (k : Nat) : List AV → Option Ob → Option Res := fun args i => match args, i with
  | [.own 0 0, .d true (.v (.int .i64 a)), .d true (.v (.int .i64 m)), .d true (.v (.int .i64 b)), .fn 112 []], some (.row 106 2 0 false xs) => some ⟨xs = tbs (toTbs xs) ∧ Asc ltT tb0 (toTbs xs) 0 (toTbs xs).length ∧ (toTbs xs).length ≤ 1000000 ∧ 0 ≤ a ∧ a < m ∧ m < b ∧ b ≤ (toTbs xs).length ∧ b - a ≤ k, .tup [], some (.row 106 2 0 false (tbs (toTbs xs)))⟩
  | _, _ => none
def FK (k : Nat) : FT := F125.upd 131 (e131 k)
def e131x : List AV → Option Ob → Option Res := e131 1000000
def F126 : FT := F125.upd 131 e131x
end Go.AM

