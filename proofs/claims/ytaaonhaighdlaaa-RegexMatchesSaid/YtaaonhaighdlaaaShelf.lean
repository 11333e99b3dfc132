/- The library's contracts that this proof uses (strings.Contains and strings.Count at a text of one byte), laid at this program: written by the kit's shelf tool. -/
import Derived.Shelf.Strings.Search3
import Derived.Shelf.Strings.Count
import Derived.Test.YtaaonhaighdlaaaProg
namespace Go.Proofs.Ytaaonhaighdlaaa
open Go.Shelf Go.RowKit Go.Lib
def shelf144_ren : Go.Shelf.Ren := ⟨fun | 144 => 13 | 143 => 23 | 219 => 30 | 217 => 37 | 225 => 38 | 224 => 39 | 267 => 40 | 266 => 43 | 314 => 44 | n => n, fun | 9 => 9 | 4 => 4 | 3 => 3 | 5 => 5 | 46 => 72 | 146 => 78 | 51 => 77 | n => n, fun | 1 => 0 | n => n⟩
theorem shelf144 : Go.Proofs.Lays.n144 Go.Proofs.Try.prog shelf144_ren := {
  mixed := by kernel_rfl
  f143 := Go.Proofs.Try.func23.trans (congrArg some (by kernel_rfl))
  f144 := Go.Proofs.Try.func13.trans (congrArg some (by kernel_rfl))
  f217 := Go.Proofs.Try.func37.trans (congrArg some (by kernel_rfl))
  f219 := Go.Proofs.Try.func30.trans (congrArg some (by kernel_rfl))
  f224 := Go.Proofs.Try.func39.trans (congrArg some (by kernel_rfl))
  f225 := Go.Proofs.Try.func38.trans (congrArg some (by kernel_rfl))
  f266 := Go.Proofs.Try.func43.trans (congrArg some (by kernel_rfl))
  f267 := Go.Proofs.Try.func40.trans (congrArg some (by kernel_rfl))
  f314 := Go.Proofs.Try.func44.trans (congrArg some (by kernel_rfl))
  t3 := Go.Proofs.Try.underlying3
  a3 := Go.Proofs.Try.isAgg3
  z3 := Go.Proofs.Try.sizeOf3
  v3 := Go.Proofs.Try.zeroValue3
  t4 := Go.Proofs.Try.underlying4
  a4 := Go.Proofs.Try.isAgg4
  z4 := Go.Proofs.Try.sizeOf4
  v4 := Go.Proofs.Try.zeroValue4
  t5 := Go.Proofs.Try.underlying5
  a5 := Go.Proofs.Try.isAgg5
  z5 := Go.Proofs.Try.sizeOf5
  v5 := Go.Proofs.Try.zeroValue5
  t9 := Go.Proofs.Try.underlying9
  a9 := Go.Proofs.Try.isAgg9
  z9 := Go.Proofs.Try.sizeOf9
  v9 := Go.Proofs.Try.zeroValue9
  t46 := Go.Proofs.Try.underlying72
  a46 := Go.Proofs.Try.isAgg72
  z46 := Go.Proofs.Try.sizeOf72
  v46 := Go.Proofs.Try.zeroValue72
  t51 := Go.Proofs.Try.underlying77
  a51 := Go.Proofs.Try.isAgg77
  z51 := Go.Proofs.Try.sizeOf77
  v51 := Go.Proofs.Try.zeroValue77
  t146 := Go.Proofs.Try.underlying78
  a146 := Go.Proofs.Try.isAgg78
  z146 := Go.Proofs.Try.sizeOf78
  v146 := Go.Proofs.Try.zeroValue78
  g1 := by kernel_rfl }
theorem strings_Contains_one (s : ByteArray) (c : UInt8) (w : World) :
    Calls Go.Proofs.Try.prog 13 #[.string s, .string ⟨#[c]⟩] w fun e w' => e = .returned (.bool (decide (0 ≤ Lib.indexByte s.data.toList c))) ∧ w' = w := Any.strings_Contains_one shelf144 s c w
def shelf138_ren : Go.Shelf.Ren := ⟨fun | 138 => 26 | 195 => 33 | 218 => 34 | 143 => 23 | 219 => 30 | 217 => 37 | 225 => 38 | 224 => 39 | 267 => 40 | 266 => 43 | 314 => 44 | n => n, fun | 9 => 9 | 3 => 3 | 4 => 4 | 5 => 5 | 0 => 0 | 46 => 72 | 146 => 78 | 51 => 77 | n => n, fun | 1 => 0 | n => n⟩
theorem shelf138 : Go.Proofs.Lays.n138 Go.Proofs.Try.prog shelf138_ren := {
  mixed := by kernel_rfl
  f138 := Go.Proofs.Try.func26.trans (congrArg some (by kernel_rfl))
  f143 := Go.Proofs.Try.func23.trans (congrArg some (by kernel_rfl))
  f195 := Go.Proofs.Try.func33.trans (congrArg some (by kernel_rfl))
  f217 := Go.Proofs.Try.func37.trans (congrArg some (by kernel_rfl))
  f218 := Go.Proofs.Try.func34.trans (congrArg some (by kernel_rfl))
  f219 := Go.Proofs.Try.func30.trans (congrArg some (by kernel_rfl))
  f224 := Go.Proofs.Try.func39.trans (congrArg some (by kernel_rfl))
  f225 := Go.Proofs.Try.func38.trans (congrArg some (by kernel_rfl))
  f266 := Go.Proofs.Try.func43.trans (congrArg some (by kernel_rfl))
  f267 := Go.Proofs.Try.func40.trans (congrArg some (by kernel_rfl))
  f314 := Go.Proofs.Try.func44.trans (congrArg some (by kernel_rfl))
  t0 := Go.Proofs.Try.underlying0
  a0 := Go.Proofs.Try.isAgg0
  z0 := Go.Proofs.Try.sizeOf0
  v0 := Go.Proofs.Try.zeroValue0
  t3 := Go.Proofs.Try.underlying3
  a3 := Go.Proofs.Try.isAgg3
  z3 := Go.Proofs.Try.sizeOf3
  v3 := Go.Proofs.Try.zeroValue3
  t4 := Go.Proofs.Try.underlying4
  a4 := Go.Proofs.Try.isAgg4
  z4 := Go.Proofs.Try.sizeOf4
  v4 := Go.Proofs.Try.zeroValue4
  t5 := Go.Proofs.Try.underlying5
  a5 := Go.Proofs.Try.isAgg5
  z5 := Go.Proofs.Try.sizeOf5
  v5 := Go.Proofs.Try.zeroValue5
  t9 := Go.Proofs.Try.underlying9
  a9 := Go.Proofs.Try.isAgg9
  z9 := Go.Proofs.Try.sizeOf9
  v9 := Go.Proofs.Try.zeroValue9
  t46 := Go.Proofs.Try.underlying72
  a46 := Go.Proofs.Try.isAgg72
  z46 := Go.Proofs.Try.sizeOf72
  v46 := Go.Proofs.Try.zeroValue72
  t51 := Go.Proofs.Try.underlying77
  a51 := Go.Proofs.Try.isAgg77
  z51 := Go.Proofs.Try.sizeOf77
  v51 := Go.Proofs.Try.zeroValue77
  t146 := Go.Proofs.Try.underlying78
  a146 := Go.Proofs.Try.isAgg78
  z146 := Go.Proofs.Try.sizeOf78
  v146 := Go.Proofs.Try.zeroValue78
  g1 := by kernel_rfl }
theorem strings_Count_one (s : ByteArray) (c : UInt8) (w : World) :
    Calls Go.Proofs.Try.prog 26 #[.string s, .string ⟨#[c]⟩] w fun e w' => e = .returned (.int .i64 (Lib.countByte s.data.toList c)) ∧ w' = w := Any.strings_Count_one shelf138 s c w
end Go.Proofs.Ytaaonhaighdlaaa
