/- The contracts of library functions at this seat's translation, laid by the kit's own tool. -/
import Derived.Shelf.Strings.SlTrimAscii
import Derived.Shelf.Strings.Trim
import Derived.Shelf.Small.Utf8
import Derived.Shelf.Small.Strs
import Derived.Shelf.Strconv.Atoi
import Derived.Shelf.Strconv.Itoa0
import Derived.Shelf.Strconv.Itoa1
import Derived.Shelf.Strconv.Itoa2
import Derived.Shelf.Strconv.Itoa3
import Derived.Shelf.Strings.Search1
import Derived.Shelf.Strings.Search2
import Derived.Shelf.Strings.Prefix
import Derived.Shelf.Strings.AsciiSet
import Derived.Test.YtgdjlmpfjmakkaaGreatDoorProg
namespace Go.Proofs
open Go.Shelf
def Tryz.lays160_ren : Go.Shelf.Ren := ⟨fun | 160 => 57 | 232 => 64 | 231 => 63 | 227 => 65 | 234 => 67 | 233 => 66 | 236 => 69 | 235 => 68 | 228 => 75 | 271 => 78 | 151 => 77 | 197 => 76 | 120 => 91 | 152 => 90 | 260 => 89 | 137 => 96 | 119 => 99 | 224 => 87 | 225 => 86 | 217 => 85 | 266 => 97 | n => n, fun | 9 => 9 | 4 => 4 | 3 => 3 | 5 => 5 | 117 => 87 | 116 => 86 | 0 => 0 | 124 => 90 | 21 => 21 | 105 => 94 | 46 => 104 | 119 => 115 | 139 => 118 | 138 => 117 | n => n, fun | 3 => 3 | 4 => 4 | n => n⟩
theorem Tryz.lays160 : Go.Proofs.Lays.n160 Tryz.prog Tryz.lays160_ren := {
  mixed := by kernel_rfl
  f119 := Tryz.func99.trans (congrArg some (by kernel_rfl))
  f120 := Tryz.func91.trans (congrArg some (by kernel_rfl))
  f137 := Tryz.func96.trans (congrArg some (by kernel_rfl))
  f151 := Tryz.func77.trans (congrArg some (by kernel_rfl))
  f152 := Tryz.func90.trans (congrArg some (by kernel_rfl))
  f160 := Tryz.func57.trans (congrArg some (by kernel_rfl))
  f197 := Tryz.func76.trans (congrArg some (by kernel_rfl))
  f217 := Tryz.func85.trans (congrArg some (by kernel_rfl))
  f224 := Tryz.func87.trans (congrArg some (by kernel_rfl))
  f225 := Tryz.func86.trans (congrArg some (by kernel_rfl))
  f227 := Tryz.func65.trans (congrArg some (by kernel_rfl))
  f228 := Tryz.func75.trans (congrArg some (by kernel_rfl))
  f231 := Tryz.func63.trans (congrArg some (by kernel_rfl))
  f232 := Tryz.func64.trans (congrArg some (by kernel_rfl))
  f233 := Tryz.func66.trans (congrArg some (by kernel_rfl))
  f234 := Tryz.func67.trans (congrArg some (by kernel_rfl))
  f235 := Tryz.func68.trans (congrArg some (by kernel_rfl))
  f236 := Tryz.func69.trans (congrArg some (by kernel_rfl))
  f260 := Tryz.func89.trans (congrArg some (by kernel_rfl))
  f266 := Tryz.func97.trans (congrArg some (by kernel_rfl))
  f271 := Tryz.func78.trans (congrArg some (by kernel_rfl))
  t0 := Tryz.underlying0
  a0 := Tryz.isAgg0
  z0 := Tryz.sizeOf0
  v0 := Tryz.zeroValue0
  t3 := Tryz.underlying3
  a3 := Tryz.isAgg3
  z3 := Tryz.sizeOf3
  v3 := Tryz.zeroValue3
  t4 := Tryz.underlying4
  a4 := Tryz.isAgg4
  z4 := Tryz.sizeOf4
  v4 := Tryz.zeroValue4
  t5 := Tryz.underlying5
  a5 := Tryz.isAgg5
  z5 := Tryz.sizeOf5
  v5 := Tryz.zeroValue5
  t9 := Tryz.underlying9
  a9 := Tryz.isAgg9
  z9 := Tryz.sizeOf9
  v9 := Tryz.zeroValue9
  t21 := Tryz.underlying21
  a21 := Tryz.isAgg21
  z21 := Tryz.sizeOf21
  v21 := Tryz.zeroValue21
  t46 := Tryz.underlying104
  a46 := Tryz.isAgg104
  z46 := Tryz.sizeOf104
  v46 := Tryz.zeroValue104
  t105 := Tryz.underlying94
  a105 := Tryz.isAgg94
  z105 := Tryz.sizeOf94
  v105 := Tryz.zeroValue94
  t116 := Tryz.underlying86
  a116 := Tryz.isAgg86
  z116 := Tryz.sizeOf86
  t117 := Tryz.underlying87
  a117 := Tryz.isAgg87
  z117 := Tryz.sizeOf87
  v117 := Tryz.zeroValue87
  t119 := Tryz.underlying115
  a119 := Tryz.isAgg115
  z119 := Tryz.sizeOf115
  t124 := Tryz.underlying90
  a124 := Tryz.isAgg90
  z124 := Tryz.sizeOf90
  v124 := Tryz.zeroValue90
  t138 := Tryz.underlying117
  a138 := Tryz.isAgg117
  z138 := Tryz.sizeOf117
  v138 := Tryz.zeroValue117
  t139 := Tryz.underlying118
  a139 := Tryz.isAgg118
  z139 := Tryz.sizeOf118
  v139 := Tryz.zeroValue118
  g3 := by kernel_rfl
  g4 := by kernel_rfl }
def Tryz.lays137_ren : Go.Shelf.Ren := ⟨fun | 137 => 96 | 217 => 85 | 266 => 97 | n => n, fun | 9 => 9 | 5 => 5 | 3 => 3 | n => n, fun | n => n⟩
theorem Tryz.lays137 : Go.Proofs.Lays.n137 Tryz.prog Tryz.lays137_ren := {
  mixed := by kernel_rfl
  f137 := Tryz.func96.trans (congrArg some (by kernel_rfl))
  f217 := Tryz.func85.trans (congrArg some (by kernel_rfl))
  f266 := Tryz.func97.trans (congrArg some (by kernel_rfl))
  t3 := Tryz.underlying3
  a3 := Tryz.isAgg3
  z3 := Tryz.sizeOf3
  v3 := Tryz.zeroValue3
  t5 := Tryz.underlying5
  a5 := Tryz.isAgg5
  z5 := Tryz.sizeOf5
  v5 := Tryz.zeroValue5
  t9 := Tryz.underlying9
  a9 := Tryz.isAgg9
  z9 := Tryz.sizeOf9
  v9 := Tryz.zeroValue9 }
open Go.RowKit in
theorem Tryz.strings_IndexByte (s : ByteArray) (c : Int) (w : World) :
    Calls Tryz.prog 96 #[.string s, .int .u8 c] w fun e w' => e = .returned (.int .i64 (Lib.indexByte s.data.toList c.toNat.toUInt8)) ∧ w' = w := Any.strings_IndexByte Tryz.lays137 s c w
def Tryz.lays171_ren : Go.Shelf.Ren := ⟨fun | 171 => 95 | 243 => 102 | 246 => 103 | 283 => 104 | 284 => 105 | 285 => 106 | 286 => 107 | 129 => 109 | 317 => 108 | 318 => 110 | 319 => 111 | 320 => 112 | 337 => 113 | 338 => 114 | n => n, fun | 3 => 3 | 9 => 9 | 2 => 2 | 4 => 4 | 171 => 125 | 0 => 0 | 53 => 106 | 37 => 68 | 5 => 5 | 173 => 128 | 212 => 131 | 51 => 112 | 20 => 20 | 213 => 132 | 46 => 104 | 232 => 136 | 233 => 137 | n => n, fun | 17 => 5 | 18 => 6 | 19 => 7 | n => n⟩
theorem Tryz.lays171 : Go.Proofs.Lays.n171 Tryz.prog Tryz.lays171_ren := {
  mixed := by kernel_rfl
  f129 := Tryz.func109.trans (congrArg some (by kernel_rfl))
  f171 := Tryz.func95.trans (congrArg some (by kernel_rfl))
  f243 := Tryz.func102.trans (congrArg some (by kernel_rfl))
  f246 := Tryz.func103.trans (congrArg some (by kernel_rfl))
  f283 := Tryz.func104.trans (congrArg some (by kernel_rfl))
  f284 := Tryz.func105.trans (congrArg some (by kernel_rfl))
  f285 := Tryz.func106.trans (congrArg some (by kernel_rfl))
  f286 := Tryz.func107.trans (congrArg some (by kernel_rfl))
  f317 := Tryz.func108.trans (congrArg some (by kernel_rfl))
  f318 := Tryz.func110.trans (congrArg some (by kernel_rfl))
  f319 := Tryz.func111.trans (congrArg some (by kernel_rfl))
  f320 := Tryz.func112.trans (congrArg some (by kernel_rfl))
  f337 := Tryz.func113.trans (congrArg some (by kernel_rfl))
  f338 := Tryz.func114.trans (congrArg some (by kernel_rfl))
  t0 := Tryz.underlying0
  a0 := Tryz.isAgg0
  z0 := Tryz.sizeOf0
  v0 := Tryz.zeroValue0
  t2 := Tryz.underlying2
  a2 := Tryz.isAgg2
  z2 := Tryz.sizeOf2
  v2 := Tryz.zeroValue2
  t3 := Tryz.underlying3
  a3 := Tryz.isAgg3
  z3 := Tryz.sizeOf3
  v3 := Tryz.zeroValue3
  t4 := Tryz.underlying4
  a4 := Tryz.isAgg4
  z4 := Tryz.sizeOf4
  v4 := Tryz.zeroValue4
  t5 := Tryz.underlying5
  a5 := Tryz.isAgg5
  z5 := Tryz.sizeOf5
  v5 := Tryz.zeroValue5
  t9 := Tryz.underlying9
  a9 := Tryz.isAgg9
  z9 := Tryz.sizeOf9
  v9 := Tryz.zeroValue9
  t20 := Tryz.underlying20
  a20 := Tryz.isAgg20
  z20 := Tryz.sizeOf20
  v20 := Tryz.zeroValue20
  t37 := Tryz.underlying68
  a37 := Tryz.isAgg68
  z37 := Tryz.sizeOf68
  v37 := Tryz.zeroValue68
  t46 := Tryz.underlying104
  a46 := Tryz.isAgg104
  z46 := Tryz.sizeOf104
  v46 := Tryz.zeroValue104
  t51 := Tryz.underlying112
  a51 := Tryz.isAgg112
  z51 := Tryz.sizeOf112
  v51 := Tryz.zeroValue112
  t53 := Tryz.underlying106
  a53 := Tryz.isAgg106
  z53 := Tryz.sizeOf106
  v53 := Tryz.zeroValue106
  t171 := Tryz.underlying125
  a171 := Tryz.isAgg125
  z171 := Tryz.sizeOf125
  v171 := Tryz.zeroValue125
  t173 := Tryz.underlying128
  a173 := Tryz.isAgg128
  z173 := Tryz.sizeOf128
  v173 := Tryz.zeroValue128
  t212 := Tryz.underlying131
  a212 := Tryz.isAgg131
  z212 := Tryz.sizeOf131
  v212 := Tryz.zeroValue131
  t213 := Tryz.underlying132
  a213 := Tryz.isAgg132
  z213 := Tryz.sizeOf132
  t232 := Tryz.underlying136
  a232 := Tryz.isAgg136
  z232 := Tryz.sizeOf136
  v232 := Tryz.zeroValue136
  t233 := Tryz.underlying137
  a233 := Tryz.isAgg137
  z233 := Tryz.sizeOf137
  v233 := Tryz.zeroValue137
  g17 := by kernel_rfl
  g18 := by kernel_rfl
  g19 := by kernel_rfl }
open Go.RowKit Go.Sort Go.Lib in
theorem Tryz.strconv_Itoa_small (i : Nat) (hi : i < 100) (w : World) :
    Calls Tryz.prog 95 #[.int .i64 i] w fun e w' => e = .returned (.string ⟨(Lib.decDigits i).toArray⟩) ∧ w' = w := Any.strconv_Itoa_small Tryz.lays171 i hi w
def Tryz.lays219_ren : Go.Shelf.Ren := ⟨fun | 219 => 74 | 217 => 85 | 225 => 86 | 224 => 87 | 267 => 88 | 266 => 97 | 314 => 98 | n => n, fun | 9 => 9 | 3 => 3 | 4 => 4 | 5 => 5 | 46 => 104 | 146 => 113 | 51 => 112 | n => n, fun | 1 => 0 | n => n⟩
theorem Tryz.lays219 : Go.Proofs.Lays.n219 Tryz.prog Tryz.lays219_ren := {
  mixed := by kernel_rfl
  f217 := Tryz.func85.trans (congrArg some (by kernel_rfl))
  f219 := Tryz.func74.trans (congrArg some (by kernel_rfl))
  f224 := Tryz.func87.trans (congrArg some (by kernel_rfl))
  f225 := Tryz.func86.trans (congrArg some (by kernel_rfl))
  f266 := Tryz.func97.trans (congrArg some (by kernel_rfl))
  f267 := Tryz.func88.trans (congrArg some (by kernel_rfl))
  f314 := Tryz.func98.trans (congrArg some (by kernel_rfl))
  t3 := Tryz.underlying3
  a3 := Tryz.isAgg3
  z3 := Tryz.sizeOf3
  v3 := Tryz.zeroValue3
  t4 := Tryz.underlying4
  a4 := Tryz.isAgg4
  z4 := Tryz.sizeOf4
  v4 := Tryz.zeroValue4
  t5 := Tryz.underlying5
  a5 := Tryz.isAgg5
  z5 := Tryz.sizeOf5
  v5 := Tryz.zeroValue5
  t9 := Tryz.underlying9
  a9 := Tryz.isAgg9
  z9 := Tryz.sizeOf9
  v9 := Tryz.zeroValue9
  t46 := Tryz.underlying104
  a46 := Tryz.isAgg104
  z46 := Tryz.sizeOf104
  v46 := Tryz.zeroValue104
  t51 := Tryz.underlying112
  a51 := Tryz.isAgg112
  z51 := Tryz.sizeOf112
  v51 := Tryz.zeroValue112
  t146 := Tryz.underlying113
  a146 := Tryz.isAgg113
  z146 := Tryz.sizeOf113
  v146 := Tryz.zeroValue113
  g1 := by kernel_rfl }
open Go.RowKit Go.Lib in
theorem Tryz.stringslite_Index_one (s : ByteArray) (c : UInt8) (w : World) :
    Calls Tryz.prog 74 #[.string s, .string ⟨#[c]⟩] w fun e w' => e = .returned (.int .i64 (Lib.indexByte s.data.toList c)) ∧ w' = w := Any.stringslite_Index_one Tryz.lays219 s c w
def Tryz.lays99_ren : Go.Shelf.Ren := ⟨fun | 99 => 55 | 206 => 61 | n => n, fun | 9 => 9 | 4 => 4 | 3 => 3 | n => n, fun | n => n⟩
theorem Tryz.lays99 : Go.Proofs.Lays.n99 Tryz.prog Tryz.lays99_ren := {
  mixed := by kernel_rfl
  f99 := Tryz.func55.trans (congrArg some (by kernel_rfl))
  f206 := Tryz.func61.trans (congrArg some (by kernel_rfl))
  t3 := Tryz.underlying3
  a3 := Tryz.isAgg3
  z3 := Tryz.sizeOf3
  v3 := Tryz.zeroValue3
  t4 := Tryz.underlying4
  a4 := Tryz.isAgg4
  z4 := Tryz.sizeOf4
  v4 := Tryz.zeroValue4
  t9 := Tryz.underlying9
  a9 := Tryz.isAgg9
  z9 := Tryz.sizeOf9
  v9 := Tryz.zeroValue9 }
open Go.RowKit Go.Lib in
theorem Tryz.strings_HasPrefix (s p : ByteArray) (w : World) :
    Calls Tryz.prog 55 #[.string s, .string p] w fun e w' => e = .returned (.bool (Lib.hasPrefix s.data.toList p.data.toList)) ∧ w' = w := Any.strings_HasPrefix Tryz.lays99 s p w
def Tryz.lays100_ren : Go.Shelf.Ren := ⟨fun | 100 => 54 | 207 => 60 | n => n, fun | 9 => 9 | 4 => 4 | 3 => 3 | n => n, fun | n => n⟩
theorem Tryz.lays100 : Go.Proofs.Lays.n100 Tryz.prog Tryz.lays100_ren := {
  mixed := by kernel_rfl
  f100 := Tryz.func54.trans (congrArg some (by kernel_rfl))
  f207 := Tryz.func60.trans (congrArg some (by kernel_rfl))
  t3 := Tryz.underlying3
  a3 := Tryz.isAgg3
  z3 := Tryz.sizeOf3
  v3 := Tryz.zeroValue3
  t4 := Tryz.underlying4
  a4 := Tryz.isAgg4
  z4 := Tryz.sizeOf4
  v4 := Tryz.zeroValue4
  t9 := Tryz.underlying9
  a9 := Tryz.isAgg9
  z9 := Tryz.sizeOf9
  v9 := Tryz.zeroValue9 }
open Go.RowKit Go.Lib in
theorem Tryz.strings_HasSuffix (s p : ByteArray) (w : World) (hs : s.size ≤ 9223372036854775807) :
    Calls Tryz.prog 54 #[.string s, .string p] w fun e w' => e = .returned (.bool (Lib.hasSuffix s.data.toList p.data.toList)) ∧ w' = w := Any.strings_HasSuffix Tryz.lays100 s p w hs
open Go.RowKit in
theorem Tryz.strings_Trim_ascii (s cutset : ByteArray) (w : World) (hs : s.size ≤ 9223372036854775807) (hcs : cutset.size < 4294967281) (ha : ∀ (j : Nat) (b : UInt8), cutset.data.toList[j]? = some b → b.toNat < 128) :
    Calls Tryz.prog 57 #[.string s, .string cutset] w fun e w' => e = .returned (.string ⟨(Lib.trimS s.data.toList cutset.data.toList).toArray⟩) ∧ Below w.heap.size w w' := Any.strings_Trim_laid Tryz.lays160 (by kernel_rfl) s cutset w hs hcs ha
end Go.Proofs
