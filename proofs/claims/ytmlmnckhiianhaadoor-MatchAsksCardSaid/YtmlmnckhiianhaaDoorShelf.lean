/- The library's contracts that this proof uses (strings.CutPrefix, strings.HasPrefix, strings.IndexAny, strings.Join), laid at this program: written by the kit's shelf tool. -/
import Derived.Shelf.Strings.Builder1
import Derived.Shelf.Strings.Builder2
import Derived.Shelf.Strings.OnBuilder
import Derived.Shelf.Small.Utf8
import Derived.Shelf.Small.Strs
import Derived.Shelf.Small.Wraps
import Derived.Shelf.Strings.Search1
import Derived.Shelf.Strings.Prefix
import Derived.Shelf.Strings.Runes
import Derived.Shelf.Strings.IndexAny
import Derived.Shelf.Strings.AsciiSet
import Derived.Shelf.Strings.IndexAnyAll
import Derived.Test.YtmlmnckhiianhaaDoorProg
namespace Go.Proofs.YtmlmnckhiianhaaDoor
open Go.Shelf Go.RowKit Go.Lib
def shelf156_ren : Go.Shelf.Ren := ⟨fun | 156 => 31 | 165 => 49 | 166 => 47 | 169 => 48 | 240 => 62 | 241 => 63 | 276 => 70 | 277 => 71 | n => n, fun | 31 => 68 | 9 => 9 | 3 => 3 | 4 => 4 | 0 => 0 | 20 => 20 | 72 => 99 | 76 => 103 | 70 => 96 | 37 => 97 | 75 => 101 | 127 => 120 | 164 => 126 | 5 => 5 | 80 => 46 | n => n, fun | n => n⟩
theorem shelf156 : Go.Proofs.Lays.n156 Go.Proofs.Tryd.prog shelf156_ren := {
  mixed := by kernel_rfl
  f156 := Go.Proofs.Tryd.func31.trans (congrArg some (by kernel_rfl))
  f165 := Go.Proofs.Tryd.func49.trans (congrArg some (by kernel_rfl))
  f166 := Go.Proofs.Tryd.func47.trans (congrArg some (by kernel_rfl))
  f169 := Go.Proofs.Tryd.func48.trans (congrArg some (by kernel_rfl))
  f240 := Go.Proofs.Tryd.func62.trans (congrArg some (by kernel_rfl))
  f241 := Go.Proofs.Tryd.func63.trans (congrArg some (by kernel_rfl))
  f276 := Go.Proofs.Tryd.func70.trans (congrArg some (by kernel_rfl))
  f277 := Go.Proofs.Tryd.func71.trans (congrArg some (by kernel_rfl))
  t0 := Go.Proofs.Tryd.underlying0
  a0 := Go.Proofs.Tryd.isAgg0
  z0 := Go.Proofs.Tryd.sizeOf0
  v0 := Go.Proofs.Tryd.zeroValue0
  t3 := Go.Proofs.Tryd.underlying3
  a3 := Go.Proofs.Tryd.isAgg3
  z3 := Go.Proofs.Tryd.sizeOf3
  v3 := Go.Proofs.Tryd.zeroValue3
  t4 := Go.Proofs.Tryd.underlying4
  a4 := Go.Proofs.Tryd.isAgg4
  z4 := Go.Proofs.Tryd.sizeOf4
  v4 := Go.Proofs.Tryd.zeroValue4
  t9 := Go.Proofs.Tryd.underlying9
  a9 := Go.Proofs.Tryd.isAgg9
  z9 := Go.Proofs.Tryd.sizeOf9
  v9 := Go.Proofs.Tryd.zeroValue9
  t20 := Go.Proofs.Tryd.underlying20
  a20 := Go.Proofs.Tryd.isAgg20
  z20 := Go.Proofs.Tryd.sizeOf20
  v20 := Go.Proofs.Tryd.zeroValue20
  t31 := Go.Proofs.Tryd.underlying68
  a31 := Go.Proofs.Tryd.isAgg68
  z31 := Go.Proofs.Tryd.sizeOf68
  v31 := Go.Proofs.Tryd.zeroValue68
  t37 := Go.Proofs.Tryd.underlying97
  a37 := Go.Proofs.Tryd.isAgg97
  z37 := Go.Proofs.Tryd.sizeOf97
  v37 := Go.Proofs.Tryd.zeroValue97
  t70 := Go.Proofs.Tryd.underlying96
  a70 := Go.Proofs.Tryd.isAgg96
  z70 := Go.Proofs.Tryd.sizeOf96
  v70 := Go.Proofs.Tryd.zeroValue96
  t72 := Go.Proofs.Tryd.underlying99
  a72 := Go.Proofs.Tryd.isAgg99
  z72 := Go.Proofs.Tryd.sizeOf99
  v72 := Go.Proofs.Tryd.zeroValue99
  t75 := Go.Proofs.Tryd.underlying101
  a75 := Go.Proofs.Tryd.isAgg101
  z75 := Go.Proofs.Tryd.sizeOf101
  v75 := Go.Proofs.Tryd.zeroValue101
  t76 := Go.Proofs.Tryd.underlying103
  a76 := Go.Proofs.Tryd.isAgg103
  z76 := Go.Proofs.Tryd.sizeOf103
  v76 := Go.Proofs.Tryd.zeroValue103
  t127 := Go.Proofs.Tryd.underlying120
  a127 := Go.Proofs.Tryd.isAgg120
  z127 := Go.Proofs.Tryd.sizeOf120
  v127 := Go.Proofs.Tryd.zeroValue120
  t164 := Go.Proofs.Tryd.underlying126
  a164 := Go.Proofs.Tryd.isAgg126
  z164 := Go.Proofs.Tryd.sizeOf126
  v164 := Go.Proofs.Tryd.zeroValue126 }
theorem Builder_Extra_156 : Builder.Extra Go.Proofs.Tryd.prog shelf156_ren := {
  sizeBuilder := by kernel_rfl
  liesBuilder := by kernel_rfl
  t5 := Go.Proofs.Tryd.underlying5
  a5 := Go.Proofs.Tryd.isAgg5
  z5 := Go.Proofs.Tryd.sizeOf5
  v5 := Go.Proofs.Tryd.zeroValue5
  infoByte := by kernel_rfl
  cellsByte := by kernel_rfl
  sizeByte := by kernel_rfl
  neB5 := by decide }
theorem strings_Join_none (a : Option Addr) (c : Nat) (sep : ByteArray) (w : World) :
    Calls Go.Proofs.Tryd.prog 31 #[.slice a 0 c, .string sep] w fun e w' => e = .returned (.string ⟨#[]⟩) ∧ w' = w := Any.strings_Join_none shelf156 Builder_Extra_156 a c sep w
theorem strings_Join (bk o c : Nat) (xs : List ByteArray) (sep : ByteArray) (w : World) (hcells : ∀ (j : Nat) x, xs[j]? = some x → w.cell? ⟨bk, o + j, none⟩ = some (.string x)) (hbk : bk < w.heap.size) (hN : xs.length ≤ 140737488355328) (hcap : xs.length ≤ c) (hlen : (Lib.join (xs.map (·.data.toList)) sep.data.toList).length ≤ 140737488355328) :
    Calls Go.Proofs.Tryd.prog 31 #[.slice (some ⟨bk, o, none⟩) xs.length c, .string sep] w fun e w' => e = .returned (.string ⟨(Lib.join (xs.map (·.data.toList)) sep.data.toList).toArray⟩) ∧ Below w.heap.size w w' := Any.strings_Join shelf156 Builder_Extra_156 bk o c xs sep w hcells hbk hN hcap hlen
def shelf103_ren : Go.Shelf.Ren := ⟨fun | 103 => 26 | 210 => 41 | 206 => 56 | n => n, fun | 9 => 9 | 4 => 4 | 24 => 64 | 3 => 3 | n => n, fun | n => n⟩
theorem shelf103 : Go.Proofs.Lays.n103 Go.Proofs.Tryd.prog shelf103_ren := {
  mixed := by kernel_rfl
  f103 := Go.Proofs.Tryd.func26.trans (congrArg some (by kernel_rfl))
  f206 := Go.Proofs.Tryd.func56.trans (congrArg some (by kernel_rfl))
  f210 := Go.Proofs.Tryd.func41.trans (congrArg some (by kernel_rfl))
  t3 := Go.Proofs.Tryd.underlying3
  a3 := Go.Proofs.Tryd.isAgg3
  z3 := Go.Proofs.Tryd.sizeOf3
  v3 := Go.Proofs.Tryd.zeroValue3
  t4 := Go.Proofs.Tryd.underlying4
  a4 := Go.Proofs.Tryd.isAgg4
  z4 := Go.Proofs.Tryd.sizeOf4
  v4 := Go.Proofs.Tryd.zeroValue4
  t9 := Go.Proofs.Tryd.underlying9
  a9 := Go.Proofs.Tryd.isAgg9
  z9 := Go.Proofs.Tryd.sizeOf9
  v9 := Go.Proofs.Tryd.zeroValue9
  t24 := Go.Proofs.Tryd.underlying64
  a24 := Go.Proofs.Tryd.isAgg64
  z24 := Go.Proofs.Tryd.sizeOf64
  v24 := Go.Proofs.Tryd.zeroValue64 }
theorem strings_CutPrefix (s p : ByteArray) (w : World) :
    Calls Go.Proofs.Tryd.prog 26 #[.string s, .string p] w fun e w' => e = .returned (.tuple #[.string ⟨(Lib.trimPrefix s.data.toList p.data.toList).toArray⟩, .bool (Lib.hasPrefix s.data.toList p.data.toList)]) ∧ w' = w := Any.strings_CutPrefix shelf103 s p w
def shelf99_ren : Go.Shelf.Ren := ⟨fun | 99 => 43 | 206 => 56 | n => n, fun | 9 => 9 | 4 => 4 | 3 => 3 | n => n, fun | n => n⟩
theorem shelf99 : Go.Proofs.Lays.n99 Go.Proofs.Tryd.prog shelf99_ren := {
  mixed := by kernel_rfl
  f99 := Go.Proofs.Tryd.func43.trans (congrArg some (by kernel_rfl))
  f206 := Go.Proofs.Tryd.func56.trans (congrArg some (by kernel_rfl))
  t3 := Go.Proofs.Tryd.underlying3
  a3 := Go.Proofs.Tryd.isAgg3
  z3 := Go.Proofs.Tryd.sizeOf3
  v3 := Go.Proofs.Tryd.zeroValue3
  t4 := Go.Proofs.Tryd.underlying4
  a4 := Go.Proofs.Tryd.isAgg4
  z4 := Go.Proofs.Tryd.sizeOf4
  v4 := Go.Proofs.Tryd.zeroValue4
  t9 := Go.Proofs.Tryd.underlying9
  a9 := Go.Proofs.Tryd.isAgg9
  z9 := Go.Proofs.Tryd.sizeOf9
  v9 := Go.Proofs.Tryd.zeroValue9 }
theorem strings_HasPrefix (s p : ByteArray) (w : World) :
    Calls Go.Proofs.Tryd.prog 43 #[.string s, .string p] w fun e w' => e = .returned (.bool (Lib.hasPrefix s.data.toList p.data.toList)) ∧ w' = w := Any.strings_HasPrefix shelf99 s p w
def shelf153_ren : Go.Shelf.Ren := ⟨fun | 153 => 42 | 152 => 57 | 226 => 58 | 227 => 59 | 228 => 60 | 137 => 66 | 119 => 67 | 224 => 68 | 225 => 69 | 217 => 75 | 266 => 80 | n => n, fun | 9 => 9 | 3 => 3 | 4 => 4 | 5 => 5 | 21 => 21 | 117 => 117 | 116 => 116 | 0 => 0 | 46 => 121 | 124 => 125 | n => n, fun | n => n⟩
theorem shelf153 : Go.Proofs.Lays.n153 Go.Proofs.Tryd.prog shelf153_ren := {
  mixed := by kernel_rfl
  f119 := Go.Proofs.Tryd.func67.trans (congrArg some (by kernel_rfl))
  f137 := Go.Proofs.Tryd.func66.trans (congrArg some (by kernel_rfl))
  f152 := Go.Proofs.Tryd.func57.trans (congrArg some (by kernel_rfl))
  f153 := Go.Proofs.Tryd.func42.trans (congrArg some (by kernel_rfl))
  f217 := Go.Proofs.Tryd.func75.trans (congrArg some (by kernel_rfl))
  f224 := Go.Proofs.Tryd.func68.trans (congrArg some (by kernel_rfl))
  f225 := Go.Proofs.Tryd.func69.trans (congrArg some (by kernel_rfl))
  f226 := Go.Proofs.Tryd.func58.trans (congrArg some (by kernel_rfl))
  f227 := Go.Proofs.Tryd.func59.trans (congrArg some (by kernel_rfl))
  f228 := Go.Proofs.Tryd.func60.trans (congrArg some (by kernel_rfl))
  f266 := Go.Proofs.Tryd.func80.trans (congrArg some (by kernel_rfl))
  t0 := Go.Proofs.Tryd.underlying0
  a0 := Go.Proofs.Tryd.isAgg0
  z0 := Go.Proofs.Tryd.sizeOf0
  v0 := Go.Proofs.Tryd.zeroValue0
  t3 := Go.Proofs.Tryd.underlying3
  a3 := Go.Proofs.Tryd.isAgg3
  z3 := Go.Proofs.Tryd.sizeOf3
  v3 := Go.Proofs.Tryd.zeroValue3
  t4 := Go.Proofs.Tryd.underlying4
  a4 := Go.Proofs.Tryd.isAgg4
  z4 := Go.Proofs.Tryd.sizeOf4
  v4 := Go.Proofs.Tryd.zeroValue4
  t5 := Go.Proofs.Tryd.underlying5
  a5 := Go.Proofs.Tryd.isAgg5
  z5 := Go.Proofs.Tryd.sizeOf5
  v5 := Go.Proofs.Tryd.zeroValue5
  t9 := Go.Proofs.Tryd.underlying9
  a9 := Go.Proofs.Tryd.isAgg9
  z9 := Go.Proofs.Tryd.sizeOf9
  v9 := Go.Proofs.Tryd.zeroValue9
  t21 := Go.Proofs.Tryd.underlying21
  a21 := Go.Proofs.Tryd.isAgg21
  z21 := Go.Proofs.Tryd.sizeOf21
  v21 := Go.Proofs.Tryd.zeroValue21
  t46 := Go.Proofs.Tryd.underlying121
  a46 := Go.Proofs.Tryd.isAgg121
  z46 := Go.Proofs.Tryd.sizeOf121
  v46 := Go.Proofs.Tryd.zeroValue121
  t116 := Go.Proofs.Tryd.underlying116
  a116 := Go.Proofs.Tryd.isAgg116
  z116 := Go.Proofs.Tryd.sizeOf116
  t117 := Go.Proofs.Tryd.underlying117
  a117 := Go.Proofs.Tryd.isAgg117
  z117 := Go.Proofs.Tryd.sizeOf117
  v117 := Go.Proofs.Tryd.zeroValue117
  t124 := Go.Proofs.Tryd.underlying125
  a124 := Go.Proofs.Tryd.isAgg125
  z124 := Go.Proofs.Tryd.sizeOf125
  v124 := Go.Proofs.Tryd.zeroValue125 }
theorem strings_IndexAny_short (s chars : ByteArray) (w : World) (h2 : 2 ≤ chars.size) (h8 : s.size ≤ 8) (hascii : ∀ (j : Nat) b, s.data.toList[j]? = some b → b.toNat < 128) :
    Calls Go.Proofs.Tryd.prog 42 #[.string s, .string chars] w fun e w' => e = .returned (.int .i64 (Lib.indexAny s.data.toList chars.data.toList)) ∧ ∃ pos, w' = w.iter s pos := Any.strings_IndexAny_short shelf153 s chars w h2 h8 hascii
theorem strings_IndexAny_long (hv116 : ∀ w, (zeroValue 116).run Go.Proofs.Tryd.prog w = .ok (.agg (Array.replicate 256 (.bool false))) w) (s chars : ByteArray) (w : World) (h2 : 2 ≤ chars.size) (h8 : 8 < s.size) (hs : s.size < 4294967281) (hcs : chars.size < 4294967281) (hascii : ∀ (j : Nat) b, chars.data.toList[j]? = some b → b.toNat < 128) :
    Calls Go.Proofs.Tryd.prog 42 #[.string s, .string chars] w fun e w' => e = .returned (.int .i64 (Lib.indexAny s.data.toList chars.data.toList)) ∧ w' = ((w.alloc (.cells (Lib.setCells chars.data.toList) 116)).alloc (.cells (Lib.setCells chars.data.toList) 116)) := Any.strings_IndexAny_long shelf153 hv116 (by kernel_rfl) s chars w h2 h8 hs hcs hascii
theorem strings_IndexAny_laid (s chars : ByteArray) (w : World) (hs : s.size < 4294967281) (hcs : chars.size < 4294967281) (has : ∀ (j : Nat) b, s.data.toList[j]? = some b → b.toNat < 128) (hac : ∀ (j : Nat) b, chars.data.toList[j]? = some b → b.toNat < 128) :
    Calls Go.Proofs.Tryd.prog 42 #[.string s, .string chars] w fun e w' => e = .returned (.int .i64 (Lib.indexAny s.data.toList chars.data.toList)) ∧ Below w.heap.size w w' := Any.strings_IndexAny_laid shelf153 (by kernel_rfl) s chars w hs hcs has hac
end Go.Proofs.YtmlmnckhiianhaaDoor
