/- AM: the record that is a map's key. -/
import Derived.Test.YtmfobkiljlepjaaProg
import Derived.Test.YtmfobkiljlepjaaK2
import Derived.KernelRfl
set_option linter.unusedVariables false
set_option maxRecDepth 100000
namespace Go.AM
open Go Go.Proofs

theorem kl155 : WideMaps.KeyLaw Try.prog 155 := deep_law (m := 2) (by decide) (by kernel_rfl) (by kernel_rfl) (by rw [Try.underlying155])
theorem fits2 {k : IntKind} {xs : List Int} (h : KeyFits [k, k] xs) : ∃ a b, xs = [a, b] ∧ k.min ≤ a ∧ a ≤ k.max ∧ k.min ≤ b ∧ b ≤ k.max := by
  obtain ⟨h1, h2⟩ := h
  match xs, h1, h2 with
  | [a, b], _, h2 =>
    have h3 := h2 (k, a) (by simp)
    have h4 := h2 (k, b) (by simp)
    exact ⟨a, b, rfl, h3.1, h3.2, h4.1, h4.2⟩
theorem kk155 (xs : List Int) (h : KeyFits [.u16, .u16] xs) : ∃ l, keyOf Try.prog 155 (keyV [.u16, .u16] xs) = some l := by
  obtain ⟨a, b, rfl, h1, h2, h3, h4⟩ := fits2 h
  have e1 : Try.prog.keyType 155 = true := by kernel_rfl
  have e2 : Try.prog.cellsOf 155 = 2 := by kernel_rfl
  have e3 : Try.prog.cellsOf 53 = 1 := by kernel_rfl
  obtain ⟨n, e4⟩ : ∃ n, Try.prog.types.size = n + 1 := ⟨Try.prog.types.size - 1, by
    have : (Try.prog.types.size == 0) = false := by kernel_rfl
    have := beq_eq_false_iff_ne.1 this
    omega⟩
  have w1 : (Lit.int .u16 a).wf = true := by simp [Lit.wf, h1, h2]
  have w2 : (Lit.int .u16 b).wf = true := by simp [Lit.wf, h3, h4]
  unfold keyOf
  rw [Try.underlying155, e1, e4]
  simp [keyV, Value.formed, Try.underlying155, e2, e3, Value.cells, Program.keyLits, Try.underlying53, w1, w2]
theorem eq155 : EqLaw Try.prog 155 [.u16, .u16] := by
  intro x y w xs ys hx hy
  obtain ⟨lx, h1⟩ := kk155 xs hx
  obtain ⟨ly, h2⟩ := kk155 ys hy
  obtain ⟨r, h3, h4⟩ := run_equal_deep (P := Try.prog) w (m := 2) (by decide) (k := 155) (by kernel_rfl) (by rw [Try.underlying155]) h1 h2
  have hg : Try.prog.eqGuardType Try.prog.depth 155 = false := by kernel_rfl
  have hr : r = decide (xs = ys) := by
    by_cases e : xs = ys
    · subst e
      rw [h1] at h2
      simp [h4.2 (Option.some.inj h2)]
    · have : r = false := by
        cases r with
        | false => rfl
        | true =>
          have := h4.1 rfl
          subst this
          exact absurd (keyV_inj hx.1 hy.1 (kl155.inj h1 h2)) e
      simp [this, e]
  subst hr
  constructor
  · simp [eqGuard, keyV, hg, program, Sem.run]
  · unfold keyV at h3 ⊢
    simp only [binOp, Sem.run_bind, h3, Result.andThen_ok, Sem.run_pure]
def KE : Nat → Option (List IntKind) := fun t => if t = 155 then some [.u16, .u16] else none
theorem KE_ok (t : Nat) (ks : List IntKind) (h : KE t = some ks) : EqLaw Try.prog t ks := by
  unfold KE at h
  split at h
  · rename_i e
    subst e
    cases h
    exact eq155
  · cases h
theorem map156 : KD.ok Try.prog 156 (.map [.u16, .u16] .u32) := ⟨155, 25, Try.underlying156, kl155, kk155, fun w => by
  have h : (Option.map (fun i => i.zero) (Try.prog.info? 25)) = some (some (.int .u32 0)) := by kernel_rfl
  cases hi : Try.prog.info? 25 with
  | none => rw [hi] at h; cases h
  | some i =>
    rw [hi] at h
    simp only [Option.map_some, Option.some.injEq] at h
    simp [zeroValue, typeInfo, hi, h]⟩
end Go.AM
