/- Lists of segments, as data: start, end, delta, where the glyphs stand. -/
import Derived.Test.YtmfobkiljlepjaaK2
set_option linter.unusedVariables false
namespace Go.AM
open Go

def sg (s : Int × Int × Int × Int) : Dat := .agg [.v (.int .u16 s.1), .v (.int .u16 s.2.1), .v (.int .u16 s.2.2.1), .v (.int .i64 s.2.2.2)]
def unsg : Dat → Int × Int × Int × Int
  | .agg [.v (.int _ a), .v (.int _ b), .v (.int _ c), .v (.int _ d)] => (a, b, c, d)
  | _ => (0, 0, 0, 0)
def sgs (l : List (Int × Int × Int × Int)) : List Dat := l.map sg
def toSgs (xs : List Dat) : List (Int × Int × Int × Int) := xs.map unsg
theorem toSgs_sgs {l : List (Int × Int × Int × Int)} : toSgs (sgs l) = l := by
  induction l with
  | nil => rfl
  | cons a l ih => simp only [toSgs, sgs, List.map_cons, List.cons.injEq] at ih ⊢; exact ⟨rfl, ih⟩
theorem sgs_length {l : List (Int × Int × Int × Int)} : (sgs l).length = l.length := by simp [sgs]
theorem sgs_append {l m : List (Int × Int × Int × Int)} : sgs l ++ sgs m = sgs (l ++ m) := by simp [sgs]
theorem sgs_getD {l : List (Int × Int × Int × Int)} {n : Nat} : (sgs l).getD n (.agg [.v (.int .u16 0), .v (.int .u16 0), .v (.int .u16 0), .v (.int .i64 0)]) = .agg [.v (.int .u16 (l.getD n (0, 0, 0, 0)).1), .v (.int .u16 (l.getD n (0, 0, 0, 0)).2.1), .v (.int .u16 (l.getD n (0, 0, 0, 0)).2.2.1), .v (.int .i64 (l.getD n (0, 0, 0, 0)).2.2.2)] := by
  simp only [sgs, List.getD_eq_getElem?_getD, List.getElem?_map]
  cases l[n]? <;> rfl
theorem sgs_flat {l : List (Int × Int × Int × Int)} : (sgs l).all Dat.flat = true := by simp [sgs, sg, Dat.flat, Dat.isV]
theorem sgs_one {a b c d : Int} : [Dat.agg [.v (.int .u16 a), .v (.int .u16 b), .v (.int .u16 c), .v (.int .i64 d)]] = sgs [(a, b, c, d)] := rfl
theorem sgs_set {l : List (Int × Int × Int × Int)} {n : Nat} {a b c d : Int} : (sgs l).set n (.agg [.v (.int .u16 a), .v (.int .u16 b), .v (.int .u16 c), .v (.int .i64 d)]) = sgs (l.set n (a, b, c, d)) := by simp [sgs, List.map_set, sg]
theorem evS : type_of% (And.intro (And.intro @sgs_length @sgs_append) (And.intro (And.intro @sgs_getD @sgs_flat) (And.intro @sgs_one @sgs_set))) :=
  And.intro (And.intro @sgs_length @sgs_append) (And.intro (And.intro @sgs_getD @sgs_flat) (And.intro @sgs_one @sgs_set))
end Go.AM
