/- The iterator of slices.Chunk: its contract. -/
import Derived.RangeFuncKeeps
import Derived.RangeFuncLeaves
import Derived.RangeFuncFrom
import Derived.Shelf.Abstract
import Derived.WalkKit
import Derived.OwnWalkIn
import Derived.TacticsInMore
import Derived.LoopNIn
import Derived.LoopIn
import Derived.BigQuiet
import Derived.Test.YtmfobkiljlepjaaC2
set_option linter.unusedVariables false
set_option linter.unusedSimpArgs false
namespace Go.AM
open Go Go.RowKit Go.Proofs

attribute [local go_sem] Oper.semAt_some

/-- A chunk. -/
def chV (b off k : Nat) : Value := .slice (some ⟨b, off + 4 * k, none⟩) 4 4

/-- Two blocks lie as they lay. -/
def Kp2 (B1 B2 : Nat) (W W' : World) : Prop := W'.heap[B1]? = W.heap[B1]? ∧ W'.heap[B2]? = W.heap[B2]?
theorem Kp2.trans {B1 B2 : Nat} {A B C : World} (h : Kp2 B1 B2 A B) (k : Kp2 B1 B2 B C) : Kp2 B1 B2 A C := ⟨k.1.trans h.1, k.2.trans h.2⟩

set_option maxRecDepth 100000 in
set_option maxHeartbeats 4000000 in
theorem chunk1_in (n : Nat) (hn : 1 ≤ n) (l B1 B2 : Nat) (A : Option Addr) (b off m cap : Nat) (hA : m = 0 ∨ A = some ⟨b, off, none⟩) (hcap : 4 * m ≤ cap) (hm : m ≤ 1000000000000) (J Jx : List Nat → World → Prop)
    (hJd : ∀ s W q, J s W → J s (W.drewN q))
    (hY : ∀ pre x W, J pre W → pre.length < m → x < m → YieldAt Fence.wide (n - 1) Try.prog l #[chV b off x] W fun e W' =>
      (e = .returned (.bool true) ∧ J (pre ++ [x]) W' ∧ Kp2 B1 B2 W W') ∨ (e = .returned (.bool false) ∧ Jx (pre ++ [x]) W'))
    (W : World) (h1 : W.cell? ⟨B1, 0, none⟩ = some (.slice A (4 * m) cap)) (h2 : W.cell? ⟨B2, 0, none⟩ = some (.int .i64 4)) (h0 : J [] W) :
    CallsIn Fence.wide n Try.prog 123 #[.func (.yield l) #[] #[], .pointer (some ⟨B1, 0, none⟩), .pointer (some ⟨B2, 0, none⟩)] W fun e W' => (∃ v, e = .returned v) ∧
      ((∃ ys, ys = List.range m ∧ J ys W') ∨ (∃ pre, pre <+: List.range m ∧ Jx pre W')) := by
  refine callsIn_of_wp Try.func123 rfl trivial ?_ rfl
  simp only [Try.ntmps123, List.size_toArray, List.length_cons, List.length_nil, Nat.reduceAdd, Nat.reduceSub, Array.replicate_succ, Array.replicate_zero, List.push_toArray, List.append_toArray, List.nil_append, List.cons_append]
  gi_wp2
  gi_loopw [4] (fun p wr => ∃ k, k ≤ m ∧ p = .int .i64 ((4 * k : Nat) : Int) ∧ wr.cell? ⟨B1, 0, none⟩ = some (.slice A (4 * m) cap) ∧ wr.cell? ⟨B2, 0, none⟩ = some (.int .i64 4) ∧ J (List.range k) wr)
    (fun p wr => 4 * m - (intOf p).toNat)
  case atStart =>
    exact ⟨0, Nat.zero_le _, rfl, h1, h2, h0⟩
  case round =>
    obtain ⟨k, hk, rfl, c1, c2, hJ⟩ := hrel
    gi_wp2
    · -- a chunk is left
      rename_i hkm K1 hK1 K2 hK2
      obtain ⟨b', rfl⟩ : ∃ q, A = some q := by
        rcases hA with h | h
        · omega
        · exact ⟨_, h⟩
      obtain rfl : b' = ⟨b, off, none⟩ := by
        rcases hA with h | h
        · omega
        · simpa using h
      rw [wpIn_wide]
      go_quiet (fail)
      refine hK2 _ _ ?_
      have c1' : (wr.drewN nq).cell? ⟨B1, 0, none⟩ = some (.slice (some ⟨b, off, none⟩) (4 * m) cap) := c1
      have c2' : (wr.drewN nq).cell? ⟨B2, 0, none⟩ = some (.int .i64 4) := c2
      have hJ' : J (List.range k) (wr.drewN nq) := hJd _ _ _ hJ
      generalize wr.drewN nq = w2 at c1' c2' hJ' ⊢
      obtain ⟨fn, tmps, assign, body, hy, hR⟩ := hY (List.range k) k w2 hJ' (by simpa using hkm) hkm
      simp only [chV] at hy
      gi_wp2
      refine hR.mono ?_
      rintro e W3 (⟨rfl, hJ3, hk3⟩ | ⟨rfl, hJx3⟩)
      · have c1'' : W3.cell? ⟨B1, 0, none⟩ = some (.slice (some ⟨b, off, none⟩) (4 * m) cap) := (World.cell?_of_block hk3.1).trans c1'
        have c2'' : W3.cell? ⟨B2, 0, none⟩ = some (.int .i64 4) := (World.cell?_of_block hk3.2).trans c2'
        gi_wp2
        go_roundw
        case rel => exact ⟨k + 1, hkm, by simp; omega, c1'', c2'', by rw [List.range_succ]; exact hJ3⟩
        case measure => simp [intOf]; omega
      · gi_wp2
        refine bodyPost_ret (results_none rfl _ _ _) rfl ?_
        exact ⟨⟨_, rfl⟩, .inr ⟨List.range k ++ [k], by rw [← List.range_succ]; have hp := List.take_prefix (k + 1) (List.range m); rw [List.take_range, Nat.min_eq_left (by omega)] at hp; exact hp, hJx3⟩⟩
    · obtain rfl : k = m := by omega
      go_end0
      exact ⟨⟨_, rfl⟩, .inl ⟨_, rfl, hJ⟩⟩

theorem grown_drewN' (w : World) (n : Nat) (row : Option Nat) : w.grownBy (w.drewN n) row := ⟨rfl, rfl, rfl, Nat.le_refl _, fun _ _ _ => rfl⟩

theorem chunk_stops (n : Nat) (hn : 1 ≤ n) (B1 B2 : Nat) (A : Option Addr) (b off m cap : Nat) (hA : m = 0 ∨ A = some ⟨b, off, none⟩) (hcap : 4 * m ≤ cap) (hm : m ≤ 1000000000000) (w : World) (hB1 : B1 < w.heap.size) (hB2 : B2 < w.heap.size)
    (h1 : w.cell? ⟨B1, 0, none⟩ = some (.slice A (4 * m) cap)) (h2 : w.cell? ⟨B2, 0, none⟩ = some (.int .i64 4)) :
    SeqStopsK Fence.wide n Try.prog 123 #[.pointer (some ⟨B1, 0, none⟩), .pointer (some ⟨B2, 0, none⟩)] (fun x : Fin m => #[chV b off x]) (Kp2 B1 B2) (fun ys => ys.map Fin.val = List.range m) (fun pre => pre.map Fin.val <+: List.range m) m w := fun l J Jx W hW hJ _ hY h0 => by
  refine (chunk1_in n hn l B1 B2 A b off m cap hA hcap hm (fun s W => ∃ fs : List (Fin m), fs.map Fin.val = s ∧ J fs W) (fun s W => ∃ fs : List (Fin m), fs.map Fin.val = s ∧ Jx fs W)
    (fun s W1 q ⟨fs, e, hs⟩ => ⟨fs, e, hJ fs W1 _ none hs (grown_drewN' _ _ _) (fun r e => by cases e)⟩) ?_ W ((hW.cell (p := ⟨B1, 0, none⟩) hB1).trans h1) ((hW.cell (p := ⟨B2, 0, none⟩) hB2).trans h2) ⟨[], rfl, h0⟩).mono ?_
  · rintro pre x W1 ⟨fs, rfl, hs⟩ hlen hx
    obtain ⟨fn, tmps, assign, body, hy, hR⟩ := hY fs ⟨x, hx⟩ W1 hs (by simpa using hlen)
    refine ⟨fn, tmps, assign, body, hy, hR.mono ?_⟩
    rintro e W' (⟨h1, h2, h3⟩ | ⟨h1, h2⟩)
    · exact .inl ⟨h1, ⟨fs ++ [⟨x, hx⟩], by simp, h2⟩, h3⟩
    · exact .inr ⟨h1, ⟨fs ++ [⟨x, hx⟩], by simp, h2⟩⟩
  · rintro e W' ⟨hv, (⟨ys, rfl, fs, e1, h⟩ | ⟨pre, hp, fs, e1, h⟩)⟩
    · exact ⟨hv, .inl ⟨fs, e1, h⟩⟩
    · exact ⟨hv, .inr ⟨fs, by subst e1; exact hp, h⟩⟩

set_option maxHeartbeats 1000000 in
theorem chunk_calls (A : Option Addr) (m cap : Nat) (w : World) :
    Calls Try.prog 86 #[.slice A m cap, .int .i64 4] w fun e w' => e = .returned (.func (.func 123) #[] #[.pointer (some ⟨w.heap.size, 0, none⟩), .pointer (some ⟨w.heap.size + 1, 0, none⟩)]) ∧
      w' = (w.alloc (.cells #[.slice A m cap] 24)).alloc (.cells #[.int .i64 4] 3) := by
  go_enter Try.func86, Try.ntmps86
  go_wp2
  go_ret
  exact ⟨rfl, rfl⟩
end Go.AM
