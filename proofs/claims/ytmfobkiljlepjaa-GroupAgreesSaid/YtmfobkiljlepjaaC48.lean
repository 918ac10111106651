/- AM: group and seg, both in one table. -/
import Derived.Test.YtmfobkiljlepjaaC22
import Derived.Test.YtmfobkiljlepjaaC36
set_option maxRecDepth 100000
set_option maxHeartbeats 8000000
set_option linter.unusedSimpArgs false
set_option linter.unusedVariables false
namespace Go.AM
open Go Go.Proofs

/-! ### the table: seg's, and of group what was proved on its own branch -/
def F70 : FT := F64.upd 43 e43
theorem F70_ok : FOK Try.prog F70 := FOK.upd F64_ok Try.func43 (by kernel_rfl) rfl fun args i R h => (F35_ok 43 args i R h).2
def F71 : FT := F70.upd 42 e42
theorem F71_ok : FOK Try.prog F71 := FOK.upd F70_ok Try.func42 (by kernel_rfl) rfl fun args i R h => (F36_ok 42 args i R h).2
def F72 : FT := F71.upd 46 e46
theorem F72_ok : FOK Try.prog F72 := FOK.upd F71_ok Try.func46 (by kernel_rfl) rfl fun args i R h => (F29_ok 46 args i R h).2
def F73 : FT := F72.upd 41 e41
theorem F73_ok : FOK Try.prog F73 := FOK.upd F72_ok Try.func41 (by kernel_rfl) rfl fun args i R h => (F38_ok 41 args i R h).2
def F74 : FT := F73.upd 40 e40
theorem F74_ok : FOK Try.prog F74 := FOK.upd F73_ok Try.func40 (by kernel_rfl) rfl fun args i R h => (F37_ok 40 args i R h).2
def F75 : FT := F74.upd 47 e47
theorem F75_ok : FOK Try.prog F75 := FOK.upd F74_ok Try.func47 (by kernel_rfl) rfl fun args i R h => (F31_ok 47 args i R h).2
def F76 : FT := F75.upd 48 e48
theorem F76_ok : FOK Try.prog F76 := FOK.upd F75_ok Try.func48 (by kernel_rfl) rfl fun args i R h => (F32_ok 48 args i R h).2
def F77 : FT := F76.upd 44 e44
theorem F77_ok : FOK Try.prog F77 := FOK.upd F76_ok Try.func44 (by kernel_rfl) rfl fun args i R h => (F39_ok 44 args i R h).2
end Go.AM

