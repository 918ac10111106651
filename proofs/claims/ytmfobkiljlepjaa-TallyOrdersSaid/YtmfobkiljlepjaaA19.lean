/- AM, part 19: whole numbers, lists of them, tables of functions. -/
import Derived.Test.YtmfobkiljlepjaaA18
import Derived.Test.YtmfobkiljlepjaaA21
import Derived.Laws.BitsLemmas
set_option linter.unusedVariables false
set_option linter.unusedSimpArgs false
namespace Go.AM
open Go Go.RowKit

/-! ### whole numbers -/
theorem w_i64 {x : Int} (h : -9223372036854775808 ≤ x) (h' : x ≤ 9223372036854775807) : IntKind.wrap .i64 x = x := by rw [IntKind.wrap_i64]; omega
theorem w_i32 {x : Int} (h : -2147483648 ≤ x) (h' : x ≤ 2147483647) : IntKind.wrap .i32 x = x := by rw [IntKind.wrap_i32]; omega
theorem w_u8 {x : Int} : IntKind.wrap .u8 x = x % 256 := by simp [IntKind.wrap, IntKind.bits, IntKind.signed]
theorem w_u16 {x : Int} : IntKind.wrap .u16 x = x % 65536 := by simp [IntKind.wrap, IntKind.bits, IntKind.signed]
theorem w_u32 {x : Int} : IntKind.wrap .u32 x = x % 4294967296 := by simp [IntKind.wrap, IntKind.bits, IntKind.signed]
theorem w_u64 {x : Int} : IntKind.wrap .u64 x = x % 18446744073709551616 := by simp [IntKind.wrap, IntKind.bits, IntKind.signed]
theorem tdiv_nn {a b : Int} (h : 0 ≤ a) : a.tdiv b = a / b := Int.tdiv_eq_ediv_of_nonneg h
theorem tmod_nn {a b : Int} (h : 0 ≤ a) : a.tmod b = a % b := Int.tmod_eq_emod_of_nonneg h

/-! ### lists of whole numbers -/
def ints (k : IntKind) (l : List Int) : List Dat := l.map fun n => .v (.int k n)
def datInt : Dat → Int
  | .v (.int _ n) => n
  | _ => 0
def toInts (xs : List Dat) : List Int := xs.map datInt
theorem toInts_ints {k : IntKind} {l : List Int} : toInts (ints k l) = l := by
  induction l with
  | nil => rfl
  | cons a l ih => simp only [toInts, ints, List.map_cons, List.cons.injEq] at ih ⊢; exact ⟨rfl, ih⟩
theorem ints_length {k : IntKind} {l : List Int} : (ints k l).length = l.length := by simp [ints]
theorem ints_append {k : IntKind} {l m : List Int} : ints k l ++ ints k m = ints k (l ++ m) := by simp [ints]
theorem ints_drop {k : IntKind} {l : List Int} {n : Nat} : (ints k l).drop n = ints k (l.drop n) := by simp [ints, List.map_drop]
theorem ints_take {k : IntKind} {l : List Int} {n : Nat} : (ints k l).take n = ints k (l.take n) := by simp [ints, List.map_take]
theorem ints_getD {k : IntKind} {l : List Int} {n : Nat} : (ints k l).getD n (.v (.int k 0)) = .v (.int k (l.getD n 0)) := by
  simp only [ints, List.getD_eq_getElem?_getD, List.getElem?_map]
  cases l[n]? <;> rfl
theorem ints_set {k : IntKind} {l : List Int} {n : Nat} {x : Int} : (ints k l).set n (.v (.int k x)) = ints k (l.set n x) := by simp [ints, List.map_set]
theorem ints_replicate {k : IntKind} {n : Nat} {x : Int} : List.replicate n (.v (.int k x)) = ints k (List.replicate n x) := by simp [ints, List.map_replicate]
theorem ints_one {k : IntKind} {x : Int} : [Dat.v (.int k x)] = ints k [x] := rfl
theorem ints_cons {k : IntKind} {x : Int} {l : List Int} : Dat.v (.int k x) :: ints k l = ints k (x :: l) := rfl
theorem ints_nil {k : IntKind} : ints k [] = [] := rfl

theorem ints_flat {k : IntKind} {l : List Int} : (ints k l).all Dat.flat = true := by simp [ints, Dat.flat]
/-- A slice's elements, gathered. -/
def slc (sz : Nat) (k : IntKind) (l : List Int) (xs : List Dat) : Dat := .sl sz (ints k l ++ xs)
theorem sl_v {sz : Nat} {k : IntKind} {x : Int} {xs : List Dat} : Dat.sl sz (.v (.int k x) :: xs) = slc sz k [x] xs := rfl
theorem slc_cons {sz : Nat} {k : IntKind} {l : List Int} {x : Int} {xs : List Dat} : slc sz k l (.v (.int k x) :: xs) = slc sz k (l ++ [x]) xs := by simp [slc, ints]
theorem slc_nil {sz : Nat} {k : IntKind} {l : List Int} : slc sz k l [] = .sl sz (ints k l) := by simp [slc]
/-- Bytes. -/
def Byt (l : List Int) : Prop := ∀ b ∈ l, 0 ≤ b ∧ b < 256
def IsB (xs : List Dat) : Prop := xs = ints .u8 (toInts xs) ∧ Byt (toInts xs)
theorem isB_ints {l : List Int} : IsB (ints .u8 l) = Byt l := by simp [IsB, toInts_ints]
theorem IsB.elim {xs : List Dat} (h : IsB xs) : ∃ l, xs = ints .u8 l ∧ Byt l := ⟨_, h⟩
theorem isB_nil : IsB [] = True := by simp [IsB, toInts, ints, Byt]
theorem Byt.append {l m : List Int} (h : Byt l) (h' : Byt m) : Byt (l ++ m) := fun b hb => (List.mem_append.1 hb).elim (h b) (h' b)
theorem Byt.take {l : List Int} (h : Byt l) (n : Nat) : Byt (l.take n) := fun b hb => h b (List.mem_of_mem_take hb)
theorem Byt.drop {l : List Int} (h : Byt l) (n : Nat) : Byt (l.drop n) := fun b hb => h b (List.mem_of_mem_drop hb)
theorem Byt.nil : Byt [] := fun b hb => by cases hb
theorem Byt.cons {b : Int} {l : List Int} (h0 : 0 ≤ b) (h1 : b < 256) (h : Byt l) : Byt (b :: l) := fun c hc => by
  rcases List.mem_cons.1 hc with rfl | hc
  · exact ⟨h0, h1⟩
  · exact h c hc
theorem Byt.replicate {b : Int} (n : Nat) (h0 : 0 ≤ b) (h1 : b < 256) : Byt (List.replicate n b) := fun c hc => by
  rw [(List.mem_replicate.1 hc).2]; exact ⟨h0, h1⟩
theorem Byt.getD {l : List Int} (h : Byt l) (n : Nat) : 0 ≤ l.getD n 0 ∧ l.getD n 0 < 256 := by
  rw [List.getD_eq_getElem?_getD]
  cases e : l[n]? with
  | none => simp
  | some x => exact h x (List.mem_of_getElem? e)

theorem byt_nil : Byt [] = True := by simp [Byt]
theorem byt_cons {b : Int} {l : List Int} : Byt (b :: l) = ((0 ≤ b ∧ b < 256) ∧ Byt l) := by simp [Byt]
theorem byt_append {l m : List Int} : Byt (l ++ m) = (Byt l ∧ Byt m) := by
  apply propext
  constructor
  · intro h; exact ⟨fun b hb => h b (by simp [hb]), fun b hb => h b (by simp [hb])⟩
  · intro h; exact h.1.append h.2
theorem sub1_of {a b : AV} (h : a = b) : AV.Sub1 a b := h ▸ .refl a
theorem sub1_lo {x y : Dat} (h : x = y) : AV.Sub1 (.d true x) (.d false y) := h ▸ .lo x
/-- Lists of bytes. -/
def rows (ls : List (List Int)) : List Dat := ls.map fun l => .sl 1 (ints .u8 l)
def datRow : Dat → List Int
  | .sl _ ys => toInts ys
  | _ => []
def toRows (xs : List Dat) : List (List Int) := xs.map datRow
theorem toRows_nil : toRows [] = [] := rfl
theorem toRows_cons {l : List Int} {xs : List Dat} : toRows (.sl 1 (ints .u8 l) :: xs) = l :: toRows xs := by simp [toRows, datRow, toInts_ints]
theorem toRows_cons_nil {xs : List Dat} : toRows (.sl 1 [] :: xs) = [] :: toRows xs := rfl
theorem toRows_rows {ls : List (List Int)} : toRows (rows ls) = ls := by
  induction ls with
  | nil => rfl
  | cons a l ih => simp only [toRows, rows, List.map_cons, datRow, toInts_ints, List.cons.injEq, true_and] at ih ⊢; exact ih
def IsBB (xs : List Dat) : Prop := xs = rows (toRows xs) ∧ ∀ l ∈ toRows xs, Byt l
theorem IsBB.elim {xs : List Dat} (h : IsBB xs) : ∃ l, xs = rows l ∧ ∀ b ∈ l, Byt b := ⟨_, h⟩
theorem isBB_nil : IsBB [] = True := by simp [IsBB, toRows, rows]
theorem isBB_cons {l : List Int} {xs : List Dat} : IsBB (.sl 1 (ints .u8 l) :: xs) = (Byt l ∧ IsBB xs) := by
  simp only [IsBB, toRows_cons, rows, List.map_cons, List.cons.injEq, true_and, List.mem_cons, forall_eq_or_imp]
  apply propext
  constructor
  · rintro ⟨h1, h2, h3⟩; exact ⟨h2, h1, h3⟩
  · rintro ⟨h1, h2, h3⟩; exact ⟨h2, h1, h3⟩
theorem isBB_cons_nil {xs : List Dat} : IsBB (.sl 1 [] :: xs) = IsBB xs := by
  have := isBB_cons (l := []) (xs := xs)
  rw [ints_nil] at this
  rw [this]
  simp [Byt.nil]
theorem isBB_rows {ls : List (List Int)} : IsBB (rows ls) = ∀ l ∈ ls, Byt l := by simp [IsBB, toRows_rows]
theorem rows_length {ls : List (List Int)} : (rows ls).length = ls.length := by simp [rows]
theorem rows_append {l m : List (List Int)} : rows l ++ rows m = rows (l ++ m) := by simp [rows]
theorem rows_getD {ls : List (List Int)} {n : Nat} : (rows ls).getD n (.sl 1 []) = .sl 1 (ints .u8 (ls.getD n [])) := by
  simp only [rows, List.getD_eq_getElem?_getD, List.getElem?_map]
  cases ls[n]? <;> rfl

/-! ### tables of functions -/
def FT.upd (F : FT) (f : FuncId) (s : List AV → Option Ob → Option Res) : FT := fun g => if g = f then s else F g
theorem Spec.pre {P : Program} {f : FuncId} {args : List AV} {i : Option Ob} {p : Prop} {r : AV} {o : Option Ob} (h : p → Spec P f args i ⟨True, r, o⟩) : Spec P f args i ⟨p, r, o⟩ :=
  fun w old hs vals h1 h2 h3 => h h3 w old hs vals h1 h2 trivial
theorem FOK.upd {P : Program} {F : FT} (h : FOK P F) {f : FuncId} {s : List AV → Option Ob → Option Res} {fn : Func} (hf : P.funcs[f]? = some fn) (hn : (fn.name == "runtime.NumGoroutine") = false) (hb : fn.body.isNone = false)
    (hs : ∀ args i R, s args i = some R → Spec P f args i R) : FOK P (F.upd f s) := by
  intro g args i R e
  unfold FT.upd at e
  split at e
  · rename_i eg
    subst eg
    exact ⟨⟨fn, hf, hn, hb⟩, hs args i R e⟩
  · exact h g args i R e
theorem FOK.none {P : Program} : FOK P (fun _ _ _ => Option.none) := fun _ _ _ _ h => by cases h

end Go.AM
