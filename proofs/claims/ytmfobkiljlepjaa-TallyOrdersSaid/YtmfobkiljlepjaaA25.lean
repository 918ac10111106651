/- AM, part 25: a slot's value told less sharply. -/
import Derived.Test.YtmfobkiljlepjaaA24
set_option linter.unusedVariables false
set_option linter.unusedSimpArgs false
namespace Go.AM
open Go Go.RowKit

theorem wrs_nil {st : St} : wrs st [] [] = [] := rfl
theorem AWP.tell {P : Program} {E : En} {Q : Exit → St → Prop} {st : St} {c : Code} (t : Nat) {a b : AV} (hl : look t st.env = a) (hs : AV.Sub1 a b) (h : AWP P E c Q ⟨(t, b) :: st.env, st.obs⟩) : AWP P E c Q st := fun ac w hs' hr => by
  refine h ac w hs' ⟨hr.wok, hr.df, hr.size, fun q => ?_⟩
  simp only [look]
  split
  · rename_i e
    subst e
    have := hr.env q
    rw [hl] at this
    exact hs.vr this
  · exact hr.env q
/-- nil as a list without elements. -/
theorem AWP.nilD {P : Program} {E : En} {Q : Exit → St → Prop} {st : St} {c : Code} (t : Nat) (fr : Bool) (sz : Nat) {g : Bool} (hl : look t st.env = .d g (.v (.slice none 0 0))) (h : AWP P E c Q ⟨(t, .d fr (.sl sz [])) :: st.env, st.obs⟩) : AWP P E c Q st :=
  AWP.tell t hl (.nil g fr sz) h
end Go.AM
