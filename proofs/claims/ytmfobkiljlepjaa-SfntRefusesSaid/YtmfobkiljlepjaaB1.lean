/- AM: the table of types. Printed by wip/tools/gen_types.py. -/
import Derived.Test.YtmfobkiljlepjaaProg
import Derived.Test.YtmfobkiljlepjaaK2
import Derived.Test.YtmfobkiljlepjaaB0
set_option linter.unusedVariables false
set_option maxRecDepth 100000
namespace Go.AM
open Go Go.Proofs
def T : Nat → TI
  | 2 => ⟨.int .i64, 1, 8, [.int .i64 0]⟩
  | 3 => ⟨.int .i64, 1, 8, [.int .i64 0]⟩
  | 4 => ⟨.bool, 1, 1, [.bool false]⟩
  | 5 => ⟨.int .u8, 1, 1, [.int .u8 0]⟩
  | 6 => ⟨.int .u8, 1, 1, [.int .u8 0]⟩
  | 9 => ⟨.str, 1, 16, [.string ⟨#[]⟩]⟩
  | 10 => ⟨.str, 1, 16, [.string ⟨#[]⟩]⟩
  | 11 => ⟨.str, 1, 16, [.string ⟨#[]⟩]⟩
  | 12 => ⟨.int .u64, 1, 8, [.int .u64 0]⟩
  | 15 => ⟨.ptr 184, 1, 8, [.pointer none]⟩
  | 16 => ⟨.ptr 187, 1, 8, [.pointer none]⟩
  | 17 => ⟨.ptr 195, 1, 8, [.pointer none]⟩
  | 21 => ⟨.int .i32, 1, 4, [.int .i32 0]⟩
  | 22 => ⟨.slice 24, 1, 24, [.slice none 0 0]⟩
  | 24 => ⟨.slice 5, 1, 24, [.slice none 0 0]⟩
  | 25 => ⟨.int .u32, 1, 4, [.int .u32 0]⟩
  | 31 => ⟨.slice 25, 1, 24, [.slice none 0 0]⟩
  | 39 => ⟨.slice 53, 1, 24, [.slice none 0 0]⟩
  | 40 => ⟨.slice 55, 1, 24, [.slice none 0 0]⟩
  | 41 => ⟨.slice 96, 1, 24, [.slice none 0 0]⟩
  | 45 => ⟨.slice 132, 1, 24, [.slice none 0 0]⟩
  | 46 => ⟨.struct [(0, 45)], 1, 24, [.slice none 0 0]⟩
  | 47 => ⟨.struct [(0, 45)], 1, 24, [.slice none 0 0]⟩
  | 48 => ⟨.int .i64, 1, 8, [.int .i64 0]⟩
  | 53 => ⟨.int .u16, 1, 2, [.int .u16 0]⟩
  | 54 => ⟨.struct [(0, 21), (1, 53)], 2, 8, [.int .i32 0, .int .u16 0]⟩
  | 55 => ⟨.struct [(0, 21), (1, 53)], 2, 8, [.int .i32 0, .int .u16 0]⟩
  | 58 => ⟨.slice 21, 1, 24, [.slice none 0 0]⟩
  | 67 => ⟨.slice 145, 1, 24, [.slice none 0 0]⟩
  | 68 => ⟨.struct [(0, 67), (1, 24)], 2, 48, [.slice none 0 0, .slice none 0 0]⟩
  | 69 => ⟨.struct [(0, 67), (1, 24)], 2, 48, [.slice none 0 0, .slice none 0 0]⟩
  | 86 => ⟨.struct [(0, 4), (1, 47), (2, 69)], 4, 80, [.bool false, .slice none 0 0, .slice none 0 0, .slice none 0 0]⟩
  | 87 => ⟨.struct [(0, 4), (1, 47), (2, 69)], 4, 80, [.bool false, .slice none 0 0, .slice none 0 0, .slice none 0 0]⟩
  | 95 => ⟨.struct [(0, 3), (1, 3)], 2, 16, [.int .i64 0, .int .i64 0]⟩
  | 96 => ⟨.struct [(0, 3), (1, 3)], 2, 16, [.int .i64 0, .int .i64 0]⟩
  | 100 => ⟨.slice 106, 1, 24, [.slice none 0 0]⟩
  | 101 => ⟨.slice 110, 1, 24, [.slice none 0 0]⟩
  | 105 => ⟨.struct [(0, 9), (1, 24)], 2, 40, [.string ⟨#[]⟩, .slice none 0 0]⟩
  | 106 => ⟨.struct [(0, 9), (1, 24)], 2, 40, [.string ⟨#[]⟩, .slice none 0 0]⟩
  | 110 => ⟨.struct [(0, 9), (1, 24)], 2, 40, [.string ⟨#[]⟩, .slice none 0 0]⟩
  | 126 => ⟨.ptr 174, 1, 8, [.pointer none]⟩
  | 129 => ⟨.int .u64, 1, 8, [.int .u64 0]⟩
  | 130 => ⟨.slice 129, 1, 24, [.slice none 0 0]⟩
  | 131 => ⟨.struct [(0, 25), (1, 25), (2, 25)], 3, 12, [.int .u32 0, .int .u32 0, .int .u32 0]⟩
  | 132 => ⟨.struct [(0, 25), (1, 25), (2, 25)], 3, 12, [.int .u32 0, .int .u32 0, .int .u32 0]⟩
  | 133 => ⟨.struct [(0, 24)], 1, 24, [.slice none 0 0]⟩
  | 134 => ⟨.struct [(0, 24)], 1, 24, [.slice none 0 0]⟩
  | 135 => ⟨.ptr 134, 1, 8, [.pointer none]⟩
  | 144 => ⟨.struct [(0, 53), (1, 53), (2, 53), (3, 3)], 4, 16, [.int .u16 0, .int .u16 0, .int .u16 0, .int .i64 0]⟩
  | 145 => ⟨.struct [(0, 53), (1, 53), (2, 53), (3, 3)], 4, 16, [.int .u16 0, .int .u16 0, .int .u16 0, .int .i64 0]⟩
  | 147 => ⟨.int .u64, 1, 8, [.int .u64 0]⟩
  | 149 => ⟨.slice 150, 1, 24, [.slice none 0 0]⟩
  | 150 => ⟨.arr 3 3, 3, 24, [.int .i64 0, .int .i64 0, .int .i64 0]⟩
  | 151 => ⟨.slice 3, 1, 24, [.slice none 0 0]⟩
  | 154 => ⟨.struct [(0, 53), (1, 53)], 2, 4, [.int .u16 0, .int .u16 0]⟩
  | 155 => ⟨.struct [(0, 53), (1, 53)], 2, 4, [.int .u16 0, .int .u16 0]⟩
  | 156 => ⟨.map [.u16, .u16] .u32, 1, 8, [.map none]⟩
  | 159 => ⟨.slice 155, 1, 24, [.slice none 0 0]⟩
  | 173 => ⟨.struct [(0, 24), (1, 3), (2, 4)], 3, 40, [.slice none 0 0, .int .i64 0, .bool false]⟩
  | 174 => ⟨.struct [(0, 24), (1, 3), (2, 4)], 3, 40, [.slice none 0 0, .int .i64 0, .bool false]⟩
  | 185 => ⟨.arr 0 16, 0, 0, []⟩
  | 188 => ⟨.int .u8, 1, 1, [.int .u8 0]⟩
  | 189 => ⟨.int .u8, 1, 1, [.int .u8 0]⟩
  | 191 => ⟨.ptr 5, 1, 8, [.pointer none]⟩
  | 192 => ⟨.int .i32, 1, 4, [.int .i32 0]⟩
  | 193 => ⟨.int .i32, 1, 4, [.int .i32 0]⟩
  | _ => .none

theorem T_ok2 : (T 2).ok Try.prog 2 := ⟨Try.underlying2, ⟨_, Try.type2, rfl, rfl, _, rfl, rfl⟩, by decide⟩
theorem T_ok3 : (T 3).ok Try.prog 3 := ⟨Try.underlying3, ⟨_, Try.type3, rfl, rfl, _, rfl, rfl⟩, by decide⟩
theorem T_ok4 : (T 4).ok Try.prog 4 := ⟨Try.underlying4, ⟨_, Try.type4, rfl, rfl, _, rfl, rfl⟩, by decide⟩
theorem T_ok5 : (T 5).ok Try.prog 5 := ⟨Try.underlying5, ⟨_, Try.type5, rfl, rfl, _, rfl, rfl⟩, by decide⟩
theorem T_ok6 : (T 6).ok Try.prog 6 := ⟨Try.underlying6, ⟨_, Try.type6, rfl, rfl, _, rfl, rfl⟩, by decide⟩
theorem T_ok9 : (T 9).ok Try.prog 9 := ⟨Try.underlying9, ⟨_, Try.type9, rfl, rfl, _, rfl, rfl⟩, by decide⟩
theorem T_ok10 : (T 10).ok Try.prog 10 := ⟨Try.underlying10, ⟨_, Try.type10, rfl, rfl, _, rfl, rfl⟩, by decide⟩
theorem T_ok11 : (T 11).ok Try.prog 11 := ⟨Try.underlying11, ⟨_, Try.type11, rfl, rfl, _, rfl, rfl⟩, by decide⟩
theorem T_ok12 : (T 12).ok Try.prog 12 := ⟨Try.underlying12, ⟨_, Try.type12, rfl, rfl, _, rfl, rfl⟩, by decide⟩
theorem T_ok15 : (T 15).ok Try.prog 15 := ⟨Try.underlying15, ⟨_, Try.type15, rfl, rfl, _, rfl, rfl⟩, by decide⟩
theorem T_ok16 : (T 16).ok Try.prog 16 := ⟨Try.underlying16, ⟨_, Try.type16, rfl, rfl, _, rfl, rfl⟩, by decide⟩
theorem T_ok17 : (T 17).ok Try.prog 17 := ⟨Try.underlying17, ⟨_, Try.type17, rfl, rfl, _, rfl, rfl⟩, by decide⟩
theorem T_ok21 : (T 21).ok Try.prog 21 := ⟨Try.underlying21, ⟨_, Try.type21, rfl, rfl, _, rfl, rfl⟩, by decide⟩
theorem T_ok22 : (T 22).ok Try.prog 22 := ⟨Try.underlying22, ⟨_, Try.type22, rfl, rfl, _, rfl, rfl⟩, by decide⟩
theorem T_ok24 : (T 24).ok Try.prog 24 := ⟨Try.underlying24, ⟨_, Try.type24, rfl, rfl, _, rfl, rfl⟩, by decide⟩
theorem T_ok25 : (T 25).ok Try.prog 25 := ⟨Try.underlying25, ⟨_, Try.type25, rfl, rfl, _, rfl, rfl⟩, by decide⟩
theorem T_ok31 : (T 31).ok Try.prog 31 := ⟨Try.underlying31, ⟨_, Try.type31, rfl, rfl, _, rfl, rfl⟩, by decide⟩
theorem T_ok39 : (T 39).ok Try.prog 39 := ⟨Try.underlying39, ⟨_, Try.type39, rfl, rfl, _, rfl, rfl⟩, by decide⟩
theorem T_ok40 : (T 40).ok Try.prog 40 := ⟨Try.underlying40, ⟨_, Try.type40, rfl, rfl, _, rfl, rfl⟩, by decide⟩
theorem T_ok41 : (T 41).ok Try.prog 41 := ⟨Try.underlying41, ⟨_, Try.type41, rfl, rfl, _, rfl, rfl⟩, by decide⟩
theorem T_ok45 : (T 45).ok Try.prog 45 := ⟨Try.underlying45, ⟨_, Try.type45, rfl, rfl, _, rfl, rfl⟩, by decide⟩
theorem T_ok46 : (T 46).ok Try.prog 46 := ⟨⟨_, Try.underlying46, rfl⟩, ⟨_, Try.type46, rfl, rfl, _, rfl, rfl⟩, by decide⟩
theorem T_ok47 : (T 47).ok Try.prog 47 := ⟨⟨_, Try.underlying47, rfl⟩, ⟨_, Try.type47, rfl, rfl, _, rfl, rfl⟩, by decide⟩
theorem T_ok48 : (T 48).ok Try.prog 48 := ⟨Try.underlying48, ⟨_, Try.type48, rfl, rfl, _, rfl, rfl⟩, by decide⟩
theorem T_ok53 : (T 53).ok Try.prog 53 := ⟨Try.underlying53, ⟨_, Try.type53, rfl, rfl, _, rfl, rfl⟩, by decide⟩
theorem T_ok54 : (T 54).ok Try.prog 54 := ⟨⟨_, Try.underlying54, rfl⟩, ⟨_, Try.type54, rfl, rfl, _, rfl, rfl⟩, by decide⟩
theorem T_ok55 : (T 55).ok Try.prog 55 := ⟨⟨_, Try.underlying55, rfl⟩, ⟨_, Try.type55, rfl, rfl, _, rfl, rfl⟩, by decide⟩
theorem T_ok58 : (T 58).ok Try.prog 58 := ⟨Try.underlying58, ⟨_, Try.type58, rfl, rfl, _, rfl, rfl⟩, by decide⟩
theorem T_ok67 : (T 67).ok Try.prog 67 := ⟨Try.underlying67, ⟨_, Try.type67, rfl, rfl, _, rfl, rfl⟩, by decide⟩
theorem T_ok68 : (T 68).ok Try.prog 68 := ⟨⟨_, Try.underlying68, rfl⟩, ⟨_, Try.type68, rfl, rfl, _, rfl, rfl⟩, by decide⟩
theorem T_ok69 : (T 69).ok Try.prog 69 := ⟨⟨_, Try.underlying69, rfl⟩, ⟨_, Try.type69, rfl, rfl, _, rfl, rfl⟩, by decide⟩
theorem T_ok86 : (T 86).ok Try.prog 86 := ⟨⟨_, Try.underlying86, rfl⟩, ⟨_, Try.type86, rfl, rfl, _, rfl, rfl⟩, by decide⟩
theorem T_ok87 : (T 87).ok Try.prog 87 := ⟨⟨_, Try.underlying87, rfl⟩, ⟨_, Try.type87, rfl, rfl, _, rfl, rfl⟩, by decide⟩
theorem T_ok95 : (T 95).ok Try.prog 95 := ⟨⟨_, Try.underlying95, rfl⟩, ⟨_, Try.type95, rfl, rfl, _, rfl, rfl⟩, by decide⟩
theorem T_ok96 : (T 96).ok Try.prog 96 := ⟨⟨_, Try.underlying96, rfl⟩, ⟨_, Try.type96, rfl, rfl, _, rfl, rfl⟩, by decide⟩
theorem T_ok100 : (T 100).ok Try.prog 100 := ⟨Try.underlying100, ⟨_, Try.type100, rfl, rfl, _, rfl, rfl⟩, by decide⟩
theorem T_ok101 : (T 101).ok Try.prog 101 := ⟨Try.underlying101, ⟨_, Try.type101, rfl, rfl, _, rfl, rfl⟩, by decide⟩
theorem T_ok105 : (T 105).ok Try.prog 105 := ⟨⟨_, Try.underlying105, rfl⟩, ⟨_, Try.type105, rfl, rfl, _, rfl, rfl⟩, by decide⟩
theorem T_ok106 : (T 106).ok Try.prog 106 := ⟨⟨_, Try.underlying106, rfl⟩, ⟨_, Try.type106, rfl, rfl, _, rfl, rfl⟩, by decide⟩
theorem T_ok110 : (T 110).ok Try.prog 110 := ⟨⟨_, Try.underlying110, rfl⟩, ⟨_, Try.type110, rfl, rfl, _, rfl, rfl⟩, by decide⟩
theorem T_ok126 : (T 126).ok Try.prog 126 := ⟨Try.underlying126, ⟨_, Try.type126, rfl, rfl, _, rfl, rfl⟩, by decide⟩
theorem T_ok129 : (T 129).ok Try.prog 129 := ⟨Try.underlying129, ⟨_, Try.type129, rfl, rfl, _, rfl, rfl⟩, by decide⟩
theorem T_ok130 : (T 130).ok Try.prog 130 := ⟨Try.underlying130, ⟨_, Try.type130, rfl, rfl, _, rfl, rfl⟩, by decide⟩
theorem T_ok131 : (T 131).ok Try.prog 131 := ⟨⟨_, Try.underlying131, rfl⟩, ⟨_, Try.type131, rfl, rfl, _, rfl, rfl⟩, by decide⟩
theorem T_ok132 : (T 132).ok Try.prog 132 := ⟨⟨_, Try.underlying132, rfl⟩, ⟨_, Try.type132, rfl, rfl, _, rfl, rfl⟩, by decide⟩
theorem T_ok133 : (T 133).ok Try.prog 133 := ⟨⟨_, Try.underlying133, rfl⟩, ⟨_, Try.type133, rfl, rfl, _, rfl, rfl⟩, by decide⟩
theorem T_ok134 : (T 134).ok Try.prog 134 := ⟨⟨_, Try.underlying134, rfl⟩, ⟨_, Try.type134, rfl, rfl, _, rfl, rfl⟩, by decide⟩
theorem T_ok135 : (T 135).ok Try.prog 135 := ⟨Try.underlying135, ⟨_, Try.type135, rfl, rfl, _, rfl, rfl⟩, by decide⟩
theorem T_ok144 : (T 144).ok Try.prog 144 := ⟨⟨_, Try.underlying144, rfl⟩, ⟨_, Try.type144, rfl, rfl, _, rfl, rfl⟩, by decide⟩
theorem T_ok145 : (T 145).ok Try.prog 145 := ⟨⟨_, Try.underlying145, rfl⟩, ⟨_, Try.type145, rfl, rfl, _, rfl, rfl⟩, by decide⟩
theorem T_ok147 : (T 147).ok Try.prog 147 := ⟨Try.underlying147, ⟨_, Try.type147, rfl, rfl, _, rfl, rfl⟩, by decide⟩
theorem T_ok149 : (T 149).ok Try.prog 149 := ⟨Try.underlying149, ⟨_, Try.type149, rfl, rfl, _, rfl, rfl⟩, by decide⟩
theorem T_ok150 : (T 150).ok Try.prog 150 := ⟨Try.underlying150, ⟨_, Try.type150, rfl, rfl, _, rfl, rfl⟩, by decide⟩
theorem T_ok151 : (T 151).ok Try.prog 151 := ⟨Try.underlying151, ⟨_, Try.type151, rfl, rfl, _, rfl, rfl⟩, by decide⟩
theorem T_ok154 : (T 154).ok Try.prog 154 := ⟨⟨_, Try.underlying154, rfl⟩, ⟨_, Try.type154, rfl, rfl, _, rfl, rfl⟩, by decide⟩
theorem T_ok155 : (T 155).ok Try.prog 155 := ⟨⟨_, Try.underlying155, rfl⟩, ⟨_, Try.type155, rfl, rfl, _, rfl, rfl⟩, by decide⟩
theorem T_ok156 : (T 156).ok Try.prog 156 := ⟨map156, ⟨_, Try.type156, rfl, rfl, _, rfl, rfl⟩, by decide⟩
theorem T_ok159 : (T 159).ok Try.prog 159 := ⟨Try.underlying159, ⟨_, Try.type159, rfl, rfl, _, rfl, rfl⟩, by decide⟩
theorem T_ok173 : (T 173).ok Try.prog 173 := ⟨⟨_, Try.underlying173, rfl⟩, ⟨_, Try.type173, rfl, rfl, _, rfl, rfl⟩, by decide⟩
theorem T_ok174 : (T 174).ok Try.prog 174 := ⟨⟨_, Try.underlying174, rfl⟩, ⟨_, Try.type174, rfl, rfl, _, rfl, rfl⟩, by decide⟩
theorem T_ok185 : (T 185).ok Try.prog 185 := ⟨Try.underlying185, ⟨_, Try.type185, rfl, rfl, _, rfl, rfl⟩, by decide⟩
theorem T_ok188 : (T 188).ok Try.prog 188 := ⟨Try.underlying188, ⟨_, Try.type188, rfl, rfl, _, rfl, rfl⟩, by decide⟩
theorem T_ok189 : (T 189).ok Try.prog 189 := ⟨Try.underlying189, ⟨_, Try.type189, rfl, rfl, _, rfl, rfl⟩, by decide⟩
theorem T_ok191 : (T 191).ok Try.prog 191 := ⟨Try.underlying191, ⟨_, Try.type191, rfl, rfl, _, rfl, rfl⟩, by decide⟩
theorem T_ok192 : (T 192).ok Try.prog 192 := ⟨Try.underlying192, ⟨_, Try.type192, rfl, rfl, _, rfl, rfl⟩, by decide⟩
theorem T_ok193 : (T 193).ok Try.prog 193 := ⟨Try.underlying193, ⟨_, Try.type193, rfl, rfl, _, rfl, rfl⟩, by decide⟩
theorem T_ok : TabOK Try.prog T := by
  intro t ht
  revert ht
  unfold T
  split <;> intro ht
  · exact T_ok2
  · exact T_ok3
  · exact T_ok4
  · exact T_ok5
  · exact T_ok6
  · exact T_ok9
  · exact T_ok10
  · exact T_ok11
  · exact T_ok12
  · exact T_ok15
  · exact T_ok16
  · exact T_ok17
  · exact T_ok21
  · exact T_ok22
  · exact T_ok24
  · exact T_ok25
  · exact T_ok31
  · exact T_ok39
  · exact T_ok40
  · exact T_ok41
  · exact T_ok45
  · exact T_ok46
  · exact T_ok47
  · exact T_ok48
  · exact T_ok53
  · exact T_ok54
  · exact T_ok55
  · exact T_ok58
  · exact T_ok67
  · exact T_ok68
  · exact T_ok69
  · exact T_ok86
  · exact T_ok87
  · exact T_ok95
  · exact T_ok96
  · exact T_ok100
  · exact T_ok101
  · exact T_ok105
  · exact T_ok106
  · exact T_ok110
  · exact T_ok126
  · exact T_ok129
  · exact T_ok130
  · exact T_ok131
  · exact T_ok132
  · exact T_ok133
  · exact T_ok134
  · exact T_ok135
  · exact T_ok144
  · exact T_ok145
  · exact T_ok147
  · exact T_ok149
  · exact T_ok150
  · exact T_ok151
  · exact T_ok154
  · exact T_ok155
  · exact T_ok156
  · exact T_ok159
  · exact T_ok173
  · exact T_ok174
  · exact T_ok185
  · exact T_ok188
  · exact T_ok189
  · exact T_ok191
  · exact T_ok192
  · exact T_ok193
  · exact absurd rfl ht
end Go.AM
