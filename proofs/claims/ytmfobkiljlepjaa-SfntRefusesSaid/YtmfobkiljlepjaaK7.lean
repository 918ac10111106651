/- AM: an own row, told in other words. -/
import Derived.Test.YtmfobkiljlepjaaK6
set_option linter.unusedSimpArgs false
set_option linter.unusedVariables false
namespace Go.AM
open Go Go.RowKit

theorem AWP.rowto {P : Program} {E : En} {Q : Exit → St → Prop} {st : St} {c : Code} (m : Nat) (fr' : Bool) (xs' : List Dat) {e sz γ : Nat} {fr : Bool} {xs : List Dat} (ho : st.obs[m]? = some (some (.row e sz γ fr xs))) (hl : xs'.length = xs.length) (hw' : ∀ x ∈ xs', x.wd = sz)
    (hc : ∀ (C : Cx) (fl : List Value), Dat.RL C.w (C.Sh fr) xs fl → Dat.RL C.w (C.Sh fr') xs' fl) (h : AWP P E c Q ⟨st.env, st.obs.set m (some (.row e sz γ fr' xs'))⟩) : AWP P E c Q st := fun a w hs hr => by
  obtain ⟨hd, e3, h3⟩ := hr.obj ho
  obtain ⟨vv, rfl, h0, hz, fl, hfl, h4⟩ := OR.row_val h3
  have hw : Wrote w w (Hd.row vv).blks := ⟨rfl, rfl, rfl, Nat.le_refl _, fun _ _ _ => rfl⟩
  have hf : (Ob.row e sz γ fr xs).follows (.row vv) (.row e sz γ fr' xs') (.row vv) :=
    ⟨fun E2 sz2 γ2 fr2 xs2 e => by
      simp only [Ob.row.injEq] at e
      obtain ⟨_, _, rfl, _, _⟩ := e
      exact ⟨_, _, γ, _, _, rfl, Nat.le_refl _, fun _ => rfl⟩, fun b e => by simp at e, fun b q e => by simp at e⟩
  have le := Cx.Le.setO (C := st.cx E w hs) (o' := .row e sz γ fr' xs') hr.wok.len ho e3 hw (fun b hb => .inl hb) hf
  have wok := hr.wok.setO ho e3 hw (fun b hb => .inl hb) hf (o' := .row e sz γ fr' xs') ⟨h0, hw', fl, Dat.RL.stable (le.sh fr') _ _ (hc _ _ hfl), by rw [hl]; exact h4⟩
  have hr2 : Rel E ⟨st.env, st.obs.set m (some (.row e sz γ fr' xs'))⟩ a w (hs.set m (.row vv)) := hr.le le wok
  exact h a w _ hr2
end Go.AM

