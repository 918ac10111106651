/- AM: the types of the laws' parameters. -/
import Derived.Test.YtmfobkiljlepjaaB1
import Derived.Test.YtmfobkiljlepjaaK2
namespace Go.AM
open Go Go.Proofs
theorem at24 : (AT.sl 5 (.int .u8)).ok Try.prog 24 := ⟨Try.underlying24, by kernel_rfl, Try.underlying5⟩
theorem at22 : (AT.sl 24 (.sl 5 (.int .u8))).ok Try.prog 22 := ⟨Try.underlying22, by kernel_rfl, at24⟩
theorem at31 : (AT.sl 25 (.int .u32)).ok Try.prog 31 := ⟨Try.underlying31, by kernel_rfl, Try.underlying25⟩
theorem at39 : (AT.sl 53 (.int .u16)).ok Try.prog 39 := ⟨Try.underlying39, by kernel_rfl, Try.underlying53⟩
theorem at58 : (AT.sl 21 (.int .i32)).ok Try.prog 58 := ⟨Try.underlying58, by kernel_rfl, Try.underlying21⟩
theorem at3 : (AT.int .i64).ok Try.prog 3 := Try.underlying3
theorem at4 : AT.bool.ok Try.prog 4 := Try.underlying4
theorem at5 : (AT.int .u8).ok Try.prog 5 := Try.underlying5
theorem at21 : (AT.int .i32).ok Try.prog 21 := Try.underlying21
theorem at25 : (AT.int .u32).ok Try.prog 25 := Try.underlying25
theorem at53 : (AT.int .u16).ok Try.prog 53 := Try.underlying53
end Go.AM
