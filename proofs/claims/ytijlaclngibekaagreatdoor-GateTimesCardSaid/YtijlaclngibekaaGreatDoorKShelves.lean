/- The contracts of library functions at this seat's translation, laid by the kit's own tool. -/
import Derived.Shelf.Strings.SlTrimAscii
import Derived.Shelf.Strings.Trim
import Derived.Shelf.Small.Utf8
import Derived.Shelf.Small.Strs
import Derived.Shelf.Small.Wraps
import Derived.Shelf.Strconv.Atoi
import Derived.Shelf.Strconv.Itoa0
import Derived.Shelf.Strconv.Itoa1
import Derived.Shelf.Strconv.Itoa2
import Derived.Shelf.Strconv.Itoa3
import Derived.Shelf.Strconv.Itoa4
import Derived.Shelf.Bytes.Len
import Derived.Shelf.Bytes.TryGrow
import Derived.Shelf.Bytes.GrowSliceCatch
import Derived.Shelf.Bytes.GrowSlice
import Derived.Shelf.Bytes.Bytes
import Derived.Shelf.Strings.Search1
import Derived.Shelf.Bytes.GrowRow0Kept
import Derived.Shelf.Strings.Search2
import Derived.Shelf.Bytes.GrowRowKept
import Derived.Shelf.Strings.Search3
import Derived.Shelf.Bytes.GrowNilKept
import Derived.Shelf.Bytes.GrowKept
import Derived.Shelf.Strings.Count
import Derived.Shelf.Bytes.WriteStringKept
import Derived.Shelf.Bytes.ResetKept
import Derived.Shelf.Bytes.WriteKept
import Derived.Shelf.Bytes.BufferK
import Derived.Shelf.Strings.Prefix
import Derived.Shelf.Strings.Split
import Derived.Shelf.Strings.AsciiSet
import Derived.Shelf.Bytes.SlIndexSmall
import Derived.Shelf.Bytes.SlIndexAt
import Derived.Shelf.Bytes.SlSearch0
import Derived.Shelf.Bytes.SlSearch1
import Derived.Shelf.Bytes.SlSearch2
import Derived.Shelf.Bytes.SlIndexWhole
import Derived.Shelf.Bytes.Small
import Derived.Shelf.Bytes.IndexByte
import Derived.Test.YtijlaclngibekaaGreatDoorProg
namespace Go.Proofs
open Go.Shelf
def Tryz.lays160_ren : Go.Shelf.Ren := ⟨fun | 160 => 171 | 232 => 217 | 231 => 216 | 227 => 218 | 234 => 220 | 233 => 219 | 236 => 222 | 235 => 221 | 228 => 260 | 271 => 263 | 151 => 262 | 197 => 261 | 120 => 288 | 152 => 287 | 260 => 286 | 137 => 175 | 119 => 303 | 224 => 179 | 225 => 289 | 217 => 224 | 266 => 264 | n => n, fun | 9 => 9 | 4 => 4 | 3 => 3 | 5 => 5 | 117 => 241 | 116 => 240 | 0 => 0 | 124 => 244 | 21 => 21 | 105 => 284 | 46 => 168 | 119 => 334 | 139 => 337 | 138 => 336 | n => n, fun | 3 => 7 | 4 => 8 | n => n⟩
theorem Tryz.lays160 : Go.Proofs.Lays.n160 Tryz.prog Tryz.lays160_ren := {
  mixed := by kernel_rfl
  f119 := Tryz.func303.trans (congrArg some (by kernel_rfl))
  f120 := Tryz.func288.trans (congrArg some (by kernel_rfl))
  f137 := Tryz.func175.trans (congrArg some (by kernel_rfl))
  f151 := Tryz.func262.trans (congrArg some (by kernel_rfl))
  f152 := Tryz.func287.trans (congrArg some (by kernel_rfl))
  f160 := Tryz.func171.trans (congrArg some (by kernel_rfl))
  f197 := Tryz.func261.trans (congrArg some (by kernel_rfl))
  f217 := Tryz.func224.trans (congrArg some (by kernel_rfl))
  f224 := Tryz.func179.trans (congrArg some (by kernel_rfl))
  f225 := Tryz.func289.trans (congrArg some (by kernel_rfl))
  f227 := Tryz.func218.trans (congrArg some (by kernel_rfl))
  f228 := Tryz.func260.trans (congrArg some (by kernel_rfl))
  f231 := Tryz.func216.trans (congrArg some (by kernel_rfl))
  f232 := Tryz.func217.trans (congrArg some (by kernel_rfl))
  f233 := Tryz.func219.trans (congrArg some (by kernel_rfl))
  f234 := Tryz.func220.trans (congrArg some (by kernel_rfl))
  f235 := Tryz.func221.trans (congrArg some (by kernel_rfl))
  f236 := Tryz.func222.trans (congrArg some (by kernel_rfl))
  f260 := Tryz.func286.trans (congrArg some (by kernel_rfl))
  f266 := Tryz.func264.trans (congrArg some (by kernel_rfl))
  f271 := Tryz.func263.trans (congrArg some (by kernel_rfl))
  t0 := Tryz.underlying0
  a0 := Tryz.isAgg0
  z0 := Tryz.sizeOf0
  v0 := Tryz.zeroValue0
  t3 := Tryz.underlying3
  a3 := Tryz.isAgg3
  z3 := Tryz.sizeOf3
  v3 := Tryz.zeroValue3
  t4 := Tryz.underlying4
  a4 := Tryz.isAgg4
  z4 := Tryz.sizeOf4
  v4 := Tryz.zeroValue4
  t5 := Tryz.underlying5
  a5 := Tryz.isAgg5
  z5 := Tryz.sizeOf5
  v5 := Tryz.zeroValue5
  t9 := Tryz.underlying9
  a9 := Tryz.isAgg9
  z9 := Tryz.sizeOf9
  v9 := Tryz.zeroValue9
  t21 := Tryz.underlying21
  a21 := Tryz.isAgg21
  z21 := Tryz.sizeOf21
  v21 := Tryz.zeroValue21
  t46 := Tryz.underlying168
  a46 := Tryz.isAgg168
  z46 := Tryz.sizeOf168
  v46 := Tryz.zeroValue168
  t105 := Tryz.underlying284
  a105 := Tryz.isAgg284
  z105 := Tryz.sizeOf284
  v105 := Tryz.zeroValue284
  t116 := Tryz.underlying240
  a116 := Tryz.isAgg240
  z116 := Tryz.sizeOf240
  t117 := Tryz.underlying241
  a117 := Tryz.isAgg241
  z117 := Tryz.sizeOf241
  v117 := Tryz.zeroValue241
  t119 := Tryz.underlying334
  a119 := Tryz.isAgg334
  z119 := Tryz.sizeOf334
  t124 := Tryz.underlying244
  a124 := Tryz.isAgg244
  z124 := Tryz.sizeOf244
  v124 := Tryz.zeroValue244
  t138 := Tryz.underlying336
  a138 := Tryz.isAgg336
  z138 := Tryz.sizeOf336
  v138 := Tryz.zeroValue336
  t139 := Tryz.underlying337
  a139 := Tryz.isAgg337
  z139 := Tryz.sizeOf337
  v139 := Tryz.zeroValue337
  g3 := by kernel_rfl
  g4 := by kernel_rfl }
def Tryz.lays137_ren : Go.Shelf.Ren := ⟨fun | 137 => 175 | 217 => 224 | 266 => 264 | n => n, fun | 9 => 9 | 5 => 5 | 3 => 3 | n => n, fun | n => n⟩
theorem Tryz.lays137 : Go.Proofs.Lays.n137 Tryz.prog Tryz.lays137_ren := {
  mixed := by kernel_rfl
  f137 := Tryz.func175.trans (congrArg some (by kernel_rfl))
  f217 := Tryz.func224.trans (congrArg some (by kernel_rfl))
  f266 := Tryz.func264.trans (congrArg some (by kernel_rfl))
  t3 := Tryz.underlying3
  a3 := Tryz.isAgg3
  z3 := Tryz.sizeOf3
  v3 := Tryz.zeroValue3
  t5 := Tryz.underlying5
  a5 := Tryz.isAgg5
  z5 := Tryz.sizeOf5
  v5 := Tryz.zeroValue5
  t9 := Tryz.underlying9
  a9 := Tryz.isAgg9
  z9 := Tryz.sizeOf9
  v9 := Tryz.zeroValue9 }
open Go.RowKit in
theorem Tryz.strings_IndexByte (s : ByteArray) (c : Int) (w : World) :
    Calls Tryz.prog 175 #[.string s, .int .u8 c] w fun e w' => e = .returned (.int .i64 (Lib.indexByte s.data.toList c.toNat.toUInt8)) ∧ w' = w := Any.strings_IndexByte Tryz.lays137 s c w
def Tryz.lays219_ren : Go.Shelf.Ren := ⟨fun | 219 => 269 | 217 => 224 | 225 => 289 | 224 => 179 | 267 => 290 | 266 => 264 | 314 => 304 | n => n, fun | 9 => 9 | 3 => 3 | 4 => 4 | 5 => 5 | 46 => 168 | 146 => 245 | 51 => 116 | n => n, fun | 1 => 1 | n => n⟩
theorem Tryz.lays219 : Go.Proofs.Lays.n219 Tryz.prog Tryz.lays219_ren := {
  mixed := by kernel_rfl
  f217 := Tryz.func224.trans (congrArg some (by kernel_rfl))
  f219 := Tryz.func269.trans (congrArg some (by kernel_rfl))
  f224 := Tryz.func179.trans (congrArg some (by kernel_rfl))
  f225 := Tryz.func289.trans (congrArg some (by kernel_rfl))
  f266 := Tryz.func264.trans (congrArg some (by kernel_rfl))
  f267 := Tryz.func290.trans (congrArg some (by kernel_rfl))
  f314 := Tryz.func304.trans (congrArg some (by kernel_rfl))
  t3 := Tryz.underlying3
  a3 := Tryz.isAgg3
  z3 := Tryz.sizeOf3
  v3 := Tryz.zeroValue3
  t4 := Tryz.underlying4
  a4 := Tryz.isAgg4
  z4 := Tryz.sizeOf4
  v4 := Tryz.zeroValue4
  t5 := Tryz.underlying5
  a5 := Tryz.isAgg5
  z5 := Tryz.sizeOf5
  v5 := Tryz.zeroValue5
  t9 := Tryz.underlying9
  a9 := Tryz.isAgg9
  z9 := Tryz.sizeOf9
  v9 := Tryz.zeroValue9
  t46 := Tryz.underlying168
  a46 := Tryz.isAgg168
  z46 := Tryz.sizeOf168
  v46 := Tryz.zeroValue168
  t51 := Tryz.underlying116
  a51 := Tryz.isAgg116
  z51 := Tryz.sizeOf116
  v51 := Tryz.zeroValue116
  t146 := Tryz.underlying245
  a146 := Tryz.isAgg245
  z146 := Tryz.sizeOf245
  v146 := Tryz.zeroValue245
  g1 := by kernel_rfl }
open Go.RowKit Go.Lib in
theorem Tryz.stringslite_Index_one (s : ByteArray) (c : UInt8) (w : World) :
    Calls Tryz.prog 269 #[.string s, .string ⟨#[c]⟩] w fun e w' => e = .returned (.int .i64 (Lib.indexByte s.data.toList c)) ∧ w' = w := Any.stringslite_Index_one Tryz.lays219 s c w
def Tryz.lays99_ren : Go.Shelf.Ren := ⟨fun | 99 => 145 | 206 => 188 | n => n, fun | 9 => 9 | 4 => 4 | 3 => 3 | n => n, fun | n => n⟩
theorem Tryz.lays99 : Go.Proofs.Lays.n99 Tryz.prog Tryz.lays99_ren := {
  mixed := by kernel_rfl
  f99 := Tryz.func145.trans (congrArg some (by kernel_rfl))
  f206 := Tryz.func188.trans (congrArg some (by kernel_rfl))
  t3 := Tryz.underlying3
  a3 := Tryz.isAgg3
  z3 := Tryz.sizeOf3
  v3 := Tryz.zeroValue3
  t4 := Tryz.underlying4
  a4 := Tryz.isAgg4
  z4 := Tryz.sizeOf4
  v4 := Tryz.zeroValue4
  t9 := Tryz.underlying9
  a9 := Tryz.isAgg9
  z9 := Tryz.sizeOf9
  v9 := Tryz.zeroValue9 }
open Go.RowKit Go.Lib in
theorem Tryz.strings_HasPrefix (s p : ByteArray) (w : World) :
    Calls Tryz.prog 145 #[.string s, .string p] w fun e w' => e = .returned (.bool (Lib.hasPrefix s.data.toList p.data.toList)) ∧ w' = w := Any.strings_HasPrefix Tryz.lays99 s p w
def Tryz.lays187_ren : Go.Shelf.Ren := ⟨fun | 187 => 176 | 255 => 225 | n => n, fun | 37 => 35 | 5 => 5 | 3 => 3 | n => n, fun | n => n⟩
theorem Tryz.lays187 : Go.Proofs.Lays.n187 Tryz.prog Tryz.lays187_ren := {
  mixed := by kernel_rfl
  f187 := Tryz.func176.trans (congrArg some (by kernel_rfl))
  f255 := Tryz.func225.trans (congrArg some (by kernel_rfl))
  t3 := Tryz.underlying3
  a3 := Tryz.isAgg3
  z3 := Tryz.sizeOf3
  v3 := Tryz.zeroValue3
  t5 := Tryz.underlying5
  a5 := Tryz.isAgg5
  z5 := Tryz.sizeOf5
  v5 := Tryz.zeroValue5
  t37 := Tryz.underlying35
  a37 := Tryz.isAgg35
  z37 := Tryz.sizeOf35
  v37 := Tryz.zeroValue35 }
theorem Tryz.bytes_IndexByte (b o n c : Nat) (xs : List Int) (cv : Int) (w : World) (hx : xs.length = n) (hc : ∀ i, i < n → w.cell? ⟨b, o + i, none⟩ = some (.int .u8 (xs.getD i 0))) :
    Calls Tryz.prog 176 #[.slice (some ⟨b, o, none⟩) n c, .int .u8 cv] w fun e w' => e = .returned (.int .i64 (Lib.indexByte (Lib.bytesOf xs) cv.toNat.toUInt8)) ∧ w' = w := Any.bytes_IndexByte Tryz.lays187 b o n c xs cv w hx hc
open Go.RowKit in
theorem Tryz.strings_Trim_ascii (s cutset : ByteArray) (w : World) (hs : s.size ≤ 9223372036854775807) (hcs : cutset.size < 4294967281) (ha : ∀ (j : Nat) (b : UInt8), cutset.data.toList[j]? = some b → b.toNat < 128) :
    Calls Tryz.prog 171 #[.string s, .string cutset] w fun e w' => e = .returned (.string ⟨(Lib.trimS s.data.toList cutset.data.toList).toArray⟩) ∧ Below w.heap.size w w' := Any.strings_Trim_laid Tryz.lays160 (by kernel_rfl) s cutset w hs hcs ha
end Go.Proofs
/- The contracts of library functions at this seat's translation, laid by the kit's own tool. -/
namespace Go.Proofs
open Go.Shelf
def Tryz.lays217_ren : Go.Shelf.Ren := ⟨fun | 217 => 224 | 266 => 264 | n => n, fun | 9 => 9 | 5 => 5 | 3 => 3 | n => n, fun | n => n⟩
theorem Tryz.lays217 : Go.Proofs.Lays.n217 Tryz.prog Tryz.lays217_ren := {
  mixed := by kernel_rfl
  f217 := Tryz.func224.trans (congrArg some (by kernel_rfl))
  f266 := Tryz.func264.trans (congrArg some (by kernel_rfl))
  t3 := Tryz.underlying3
  a3 := Tryz.isAgg3
  z3 := Tryz.sizeOf3
  v3 := Tryz.zeroValue3
  t5 := Tryz.underlying5
  a5 := Tryz.isAgg5
  z5 := Tryz.sizeOf5
  v5 := Tryz.zeroValue5
  t9 := Tryz.underlying9
  a9 := Tryz.isAgg9
  z9 := Tryz.sizeOf9
  v9 := Tryz.zeroValue9 }
open Go.RowKit Go.Lib in
theorem Tryz.stringslite_IndexByte (s : ByteArray) (c : Int) (w : World) :
    Calls Tryz.prog 224 #[.string s, .int .u8 c] w fun e w' => e = .returned (.int .i64 (Lib.indexByte s.data.toList c.toNat.toUInt8)) ∧ w' = w := Any.stringslite_IndexByte Tryz.lays217 s c w
end Go.Proofs
/- The contracts of library functions at this seat's translation, laid by the kit's own tool. -/
namespace Go.Proofs
open Go.Shelf
def Tryz.lays103_ren : Go.Shelf.Ren := ⟨fun | 103 => 184 | 210 => 232 | 206 => 188 | n => n, fun | 9 => 9 | 4 => 4 | 24 => 216 | 3 => 3 | n => n, fun | n => n⟩
theorem Tryz.lays103 : Go.Proofs.Lays.n103 Tryz.prog Tryz.lays103_ren := {
  mixed := by kernel_rfl
  f103 := Tryz.func184.trans (congrArg some (by kernel_rfl))
  f206 := Tryz.func188.trans (congrArg some (by kernel_rfl))
  f210 := Tryz.func232.trans (congrArg some (by kernel_rfl))
  t3 := Tryz.underlying3
  a3 := Tryz.isAgg3
  z3 := Tryz.sizeOf3
  v3 := Tryz.zeroValue3
  t4 := Tryz.underlying4
  a4 := Tryz.isAgg4
  z4 := Tryz.sizeOf4
  v4 := Tryz.zeroValue4
  t9 := Tryz.underlying9
  a9 := Tryz.isAgg9
  z9 := Tryz.sizeOf9
  v9 := Tryz.zeroValue9
  t24 := Tryz.underlying216
  a24 := Tryz.isAgg216
  z24 := Tryz.sizeOf216
  v24 := Tryz.zeroValue216 }
open Go.RowKit in
theorem Tryz.strings_CutPrefix (s p : ByteArray) (w : World) :
    Calls Tryz.prog 184 #[.string s, .string p] w fun e w' => e = .returned (.tuple #[.string ⟨(Lib.trimPrefix s.data.toList p.data.toList).toArray⟩, .bool (Lib.hasPrefix s.data.toList p.data.toList)]) ∧ w' = w := Any.strings_CutPrefix Tryz.lays103 s p w
def Tryz.lays104_ren : Go.Shelf.Ren := ⟨fun | 104 => 181 | 211 => 227 | 207 => 265 | n => n, fun | 9 => 9 | 4 => 4 | 24 => 216 | 3 => 3 | n => n, fun | n => n⟩
theorem Tryz.lays104 : Go.Proofs.Lays.n104 Tryz.prog Tryz.lays104_ren := {
  mixed := by kernel_rfl
  f104 := Tryz.func181.trans (congrArg some (by kernel_rfl))
  f207 := Tryz.func265.trans (congrArg some (by kernel_rfl))
  f211 := Tryz.func227.trans (congrArg some (by kernel_rfl))
  t3 := Tryz.underlying3
  a3 := Tryz.isAgg3
  z3 := Tryz.sizeOf3
  v3 := Tryz.zeroValue3
  t4 := Tryz.underlying4
  a4 := Tryz.isAgg4
  z4 := Tryz.sizeOf4
  v4 := Tryz.zeroValue4
  t9 := Tryz.underlying9
  a9 := Tryz.isAgg9
  z9 := Tryz.sizeOf9
  v9 := Tryz.zeroValue9
  t24 := Tryz.underlying216
  a24 := Tryz.isAgg216
  z24 := Tryz.sizeOf216
  v24 := Tryz.zeroValue216 }
open Go.RowKit in
theorem Tryz.strings_CutSuffix (s p : ByteArray) (w : World) (hs : s.size ≤ 9223372036854775807) :
    Calls Tryz.prog 181 #[.string s, .string p] w fun e w' => e = .returned (.tuple #[.string ⟨(Lib.trimSuffix s.data.toList p.data.toList).toArray⟩, .bool (Lib.hasSuffix s.data.toList p.data.toList)]) ∧ w' = w := Any.strings_CutSuffix Tryz.lays104 s p w hs
def Tryz.lays146_ren : Go.Shelf.Ren := ⟨fun | 146 => 136 | 221 => 183 | 268 => 229 | 138 => 230 | 143 => 231 | 195 => 267 | 197 => 261 | 218 => 268 | 219 => 269 | 260 => 286 | 217 => 224 | 225 => 289 | 224 => 179 | 267 => 290 | 266 => 264 | 314 => 304 | n => n, fun | 9 => 9 | 31 => 23 | 3 => 3 | 4 => 4 | 0 => 0 | 105 => 284 | 21 => 21 | 5 => 5 | 46 => 168 | 119 => 334 | 139 => 337 | 138 => 336 | 146 => 245 | 51 => 116 | n => n, fun | 1 => 1 | 3 => 7 | 4 => 8 | n => n⟩
theorem Tryz.lays146 : Go.Proofs.Lays.n146 Tryz.prog Tryz.lays146_ren := {
  mixed := by kernel_rfl
  f138 := Tryz.func230.trans (congrArg some (by kernel_rfl))
  f143 := Tryz.func231.trans (congrArg some (by kernel_rfl))
  f146 := Tryz.func136.trans (congrArg some (by kernel_rfl))
  f195 := Tryz.func267.trans (congrArg some (by kernel_rfl))
  f197 := Tryz.func261.trans (congrArg some (by kernel_rfl))
  f217 := Tryz.func224.trans (congrArg some (by kernel_rfl))
  f218 := Tryz.func268.trans (congrArg some (by kernel_rfl))
  f219 := Tryz.func269.trans (congrArg some (by kernel_rfl))
  f221 := Tryz.func183.trans (congrArg some (by kernel_rfl))
  f224 := Tryz.func179.trans (congrArg some (by kernel_rfl))
  f225 := Tryz.func289.trans (congrArg some (by kernel_rfl))
  f260 := Tryz.func286.trans (congrArg some (by kernel_rfl))
  f266 := Tryz.func264.trans (congrArg some (by kernel_rfl))
  f267 := Tryz.func290.trans (congrArg some (by kernel_rfl))
  f268 := Tryz.func229.trans (congrArg some (by kernel_rfl))
  f314 := Tryz.func304.trans (congrArg some (by kernel_rfl))
  t0 := Tryz.underlying0
  a0 := Tryz.isAgg0
  z0 := Tryz.sizeOf0
  v0 := Tryz.zeroValue0
  t3 := Tryz.underlying3
  a3 := Tryz.isAgg3
  z3 := Tryz.sizeOf3
  v3 := Tryz.zeroValue3
  t4 := Tryz.underlying4
  a4 := Tryz.isAgg4
  z4 := Tryz.sizeOf4
  v4 := Tryz.zeroValue4
  t5 := Tryz.underlying5
  a5 := Tryz.isAgg5
  z5 := Tryz.sizeOf5
  v5 := Tryz.zeroValue5
  t9 := Tryz.underlying9
  a9 := Tryz.isAgg9
  z9 := Tryz.sizeOf9
  v9 := Tryz.zeroValue9
  t21 := Tryz.underlying21
  a21 := Tryz.isAgg21
  z21 := Tryz.sizeOf21
  v21 := Tryz.zeroValue21
  t31 := Tryz.underlying23
  a31 := Tryz.isAgg23
  z31 := Tryz.sizeOf23
  v31 := Tryz.zeroValue23
  t46 := Tryz.underlying168
  a46 := Tryz.isAgg168
  z46 := Tryz.sizeOf168
  v46 := Tryz.zeroValue168
  t51 := Tryz.underlying116
  a51 := Tryz.isAgg116
  z51 := Tryz.sizeOf116
  v51 := Tryz.zeroValue116
  t105 := Tryz.underlying284
  a105 := Tryz.isAgg284
  z105 := Tryz.sizeOf284
  v105 := Tryz.zeroValue284
  t119 := Tryz.underlying334
  a119 := Tryz.isAgg334
  z119 := Tryz.sizeOf334
  t138 := Tryz.underlying336
  a138 := Tryz.isAgg336
  z138 := Tryz.sizeOf336
  v138 := Tryz.zeroValue336
  t139 := Tryz.underlying337
  a139 := Tryz.isAgg337
  z139 := Tryz.sizeOf337
  v139 := Tryz.zeroValue337
  t146 := Tryz.underlying245
  a146 := Tryz.isAgg245
  z146 := Tryz.sizeOf245
  v146 := Tryz.zeroValue245
  g1 := by kernel_rfl
  g3 := by kernel_rfl
  g4 := by kernel_rfl }
open Go.RowKit Go.Lib in
theorem Tryz.strings_Split (s sep : ByteArray) (m : Int) (w : World) (hs : s.size < 4294967281) (hm : w.cell? ⟨1, 0, none⟩ = some (.int .i64 m)) (h1 : 1 ≤ sep.size) :
    Calls Tryz.prog 136 #[.string s, .string sep] w fun e w' =>
      e = .returned (.slice (some ⟨w.heap.size, 0, none⟩) (Lib.countB s sep + 1) (Lib.countB s sep + 1)) ∧ w' = w.alloc (.cells ((Lib.splitB sep 0 (Lib.countB s sep) s).map Value.string).toArray 9) := Any.strings_Split Tryz.lays146 (by kernel_rfl) s sep m w hs hm h1
def Tryz.lays185_ren : Go.Shelf.Ren := ⟨fun | 185 => 134 | 187 => 176 | 115 => 177 | 253 => 178 | 224 => 179 | 254 => 180 | 255 => 225 | 291 => 226 | n => n, fun | 37 => 35 | 3 => 3 | 4 => 4 | 0 => 0 | 5 => 5 | 46 => 168 | 9 => 9 | 146 => 245 | 51 => 116 | n => n, fun | 1 => 1 | n => n⟩
theorem Tryz.lays185 : Go.Proofs.Lays.n185 Tryz.prog Tryz.lays185_ren := {
  mixed := by kernel_rfl
  f115 := Tryz.func177.trans (congrArg some (by kernel_rfl))
  f185 := Tryz.func134.trans (congrArg some (by kernel_rfl))
  f187 := Tryz.func176.trans (congrArg some (by kernel_rfl))
  f224 := Tryz.func179.trans (congrArg some (by kernel_rfl))
  f253 := Tryz.func178.trans (congrArg some (by kernel_rfl))
  f254 := Tryz.func180.trans (congrArg some (by kernel_rfl))
  f255 := Tryz.func225.trans (congrArg some (by kernel_rfl))
  f291 := Tryz.func226.trans (congrArg some (by kernel_rfl))
  t0 := Tryz.underlying0
  a0 := Tryz.isAgg0
  z0 := Tryz.sizeOf0
  v0 := Tryz.zeroValue0
  t3 := Tryz.underlying3
  a3 := Tryz.isAgg3
  z3 := Tryz.sizeOf3
  v3 := Tryz.zeroValue3
  t4 := Tryz.underlying4
  a4 := Tryz.isAgg4
  z4 := Tryz.sizeOf4
  v4 := Tryz.zeroValue4
  t5 := Tryz.underlying5
  a5 := Tryz.isAgg5
  z5 := Tryz.sizeOf5
  v5 := Tryz.zeroValue5
  t9 := Tryz.underlying9
  a9 := Tryz.isAgg9
  z9 := Tryz.sizeOf9
  v9 := Tryz.zeroValue9
  t37 := Tryz.underlying35
  a37 := Tryz.isAgg35
  z37 := Tryz.sizeOf35
  v37 := Tryz.zeroValue35
  t46 := Tryz.underlying168
  a46 := Tryz.isAgg168
  z46 := Tryz.sizeOf168
  v46 := Tryz.zeroValue168
  t51 := Tryz.underlying116
  a51 := Tryz.isAgg116
  z51 := Tryz.sizeOf116
  v51 := Tryz.zeroValue116
  t146 := Tryz.underlying245
  a146 := Tryz.isAgg245
  z146 := Tryz.sizeOf245
  v146 := Tryz.zeroValue245
  g1 := by kernel_rfl }
open Go.Proofs Go.RowKit Go.Lib in
theorem Tryz.bytes_Index_at (a1 a2 : Addr) (n c1 k c2 : Nat) (xs ys : List Int) (m : Int) (w : World) (hx : xs.length = n) (hy : ys.length = k) (hr1 : ∀ x ∈ xs, 0 ≤ x ∧ x < 256) (hr2 : ∀ y ∈ ys, 0 ≤ y ∧ y < 256) (hc1 : ∀ i, i < n → w.cell? (a1.add i) = some (.int .u8 (xs.getD i 0))) (hc2 : ∀ i, i < k → w.cell? (a2.add i) = some (.int .u8 (ys.getD i 0))) (hcap : n ≤ c1) (hs : n < 4294967281) (hk : k ≤ 9223372036854775807) (hm : w.cell? ⟨1, 0, none⟩ = some (.int .i64 m)) :
    Calls Tryz.prog 134 #[.slice (some a1) n c1, .slice (some a2) k c2] w fun e w' => e = .returned (.int .i64 (Lib.index (Lib.bytesOf xs) (Lib.bytesOf ys))) ∧ ∃ q, w' = w.drewN q := Any.bytes_Index_at Tryz.lays185 a1 a2 n c1 k c2 xs ys m w hx hy hr1 hr2 hc1 hc2 hcap hs hk hm
open Go.Proofs Go.RowKit Go.Lib in
theorem Tryz.bytes_Index_nil (p2 : Option Addr) (k c2 : Nat) (w : World) (hk : k ≤ 9223372036854775807) (h1 : k = 1 → ∃ b2 o2 cv, p2 = some ⟨b2, o2, none⟩ ∧ w.cell? ⟨b2, o2, none⟩ = some (.int .u8 cv)) :
    Calls Tryz.prog 134 #[.slice none 0 0, .slice p2 k c2] w fun e w' => e = .returned (.int .i64 (if k = 0 then 0 else -1)) ∧ w' = w := Any.bytes_Index_nil Tryz.lays185 p2 k c2 w hk h1
end Go.Proofs
/- The contracts of library functions at this seat's translation, laid by the kit's own tool. -/
namespace Go.Proofs
open Go.Shelf
def Tryz.lays171_ren : Go.Shelf.Ren := ⟨fun | 171 => 75 | 243 => 96 | 246 => 128 | 283 => 167 | 284 => 168 | 285 => 169 | 286 => 170 | 129 => 212 | 317 => 211 | 318 => 213 | 319 => 214 | 320 => 215 | 337 => 258 | 338 => 259 | n => n, fun | 3 => 3 | 9 => 9 | 2 => 2 | 4 => 4 | 171 => 204 | 0 => 0 | 53 => 205 | 37 => 35 | 5 => 5 | 173 => 208 | 212 => 235 | 51 => 116 | 20 => 20 | 213 => 236 | 46 => 168 | 232 => 312 | 233 => 313 | n => n, fun | 17 => 2 | 18 => 3 | 19 => 4 | n => n⟩
theorem Tryz.lays171 : Go.Proofs.Lays.n171 Tryz.prog Tryz.lays171_ren := {
  mixed := by kernel_rfl
  f129 := Tryz.func212.trans (congrArg some (by kernel_rfl))
  f171 := Tryz.func75.trans (congrArg some (by kernel_rfl))
  f243 := Tryz.func96.trans (congrArg some (by kernel_rfl))
  f246 := Tryz.func128.trans (congrArg some (by kernel_rfl))
  f283 := Tryz.func167.trans (congrArg some (by kernel_rfl))
  f284 := Tryz.func168.trans (congrArg some (by kernel_rfl))
  f285 := Tryz.func169.trans (congrArg some (by kernel_rfl))
  f286 := Tryz.func170.trans (congrArg some (by kernel_rfl))
  f317 := Tryz.func211.trans (congrArg some (by kernel_rfl))
  f318 := Tryz.func213.trans (congrArg some (by kernel_rfl))
  f319 := Tryz.func214.trans (congrArg some (by kernel_rfl))
  f320 := Tryz.func215.trans (congrArg some (by kernel_rfl))
  f337 := Tryz.func258.trans (congrArg some (by kernel_rfl))
  f338 := Tryz.func259.trans (congrArg some (by kernel_rfl))
  t0 := Tryz.underlying0
  a0 := Tryz.isAgg0
  z0 := Tryz.sizeOf0
  v0 := Tryz.zeroValue0
  t2 := Tryz.underlying2
  a2 := Tryz.isAgg2
  z2 := Tryz.sizeOf2
  v2 := Tryz.zeroValue2
  t3 := Tryz.underlying3
  a3 := Tryz.isAgg3
  z3 := Tryz.sizeOf3
  v3 := Tryz.zeroValue3
  t4 := Tryz.underlying4
  a4 := Tryz.isAgg4
  z4 := Tryz.sizeOf4
  v4 := Tryz.zeroValue4
  t5 := Tryz.underlying5
  a5 := Tryz.isAgg5
  z5 := Tryz.sizeOf5
  v5 := Tryz.zeroValue5
  t9 := Tryz.underlying9
  a9 := Tryz.isAgg9
  z9 := Tryz.sizeOf9
  v9 := Tryz.zeroValue9
  t20 := Tryz.underlying20
  a20 := Tryz.isAgg20
  z20 := Tryz.sizeOf20
  v20 := Tryz.zeroValue20
  t37 := Tryz.underlying35
  a37 := Tryz.isAgg35
  z37 := Tryz.sizeOf35
  v37 := Tryz.zeroValue35
  t46 := Tryz.underlying168
  a46 := Tryz.isAgg168
  z46 := Tryz.sizeOf168
  v46 := Tryz.zeroValue168
  t51 := Tryz.underlying116
  a51 := Tryz.isAgg116
  z51 := Tryz.sizeOf116
  v51 := Tryz.zeroValue116
  t53 := Tryz.underlying205
  a53 := Tryz.isAgg205
  z53 := Tryz.sizeOf205
  v53 := Tryz.zeroValue205
  t171 := Tryz.underlying204
  a171 := Tryz.isAgg204
  z171 := Tryz.sizeOf204
  v171 := Tryz.zeroValue204
  t173 := Tryz.underlying208
  a173 := Tryz.isAgg208
  z173 := Tryz.sizeOf208
  v173 := Tryz.zeroValue208
  t212 := Tryz.underlying235
  a212 := Tryz.isAgg235
  z212 := Tryz.sizeOf235
  v212 := Tryz.zeroValue235
  t213 := Tryz.underlying236
  a213 := Tryz.isAgg236
  z213 := Tryz.sizeOf236
  t232 := Tryz.underlying312
  a232 := Tryz.isAgg312
  z232 := Tryz.sizeOf312
  v232 := Tryz.zeroValue312
  t233 := Tryz.underlying313
  a233 := Tryz.isAgg313
  z233 := Tryz.sizeOf313
  v233 := Tryz.zeroValue313
  g17 := by kernel_rfl
  g18 := by kernel_rfl
  g19 := by kernel_rfl }
open Go.RowKit Go.Sort Go.Lib in
theorem Tryz.strconv_Itoa_small (i : Nat) (hi : i < 100) (w : World) :
    Calls Tryz.prog 75 #[.int .i64 i] w fun e w' => e = .returned (.string ⟨(Lib.decDigits i).toArray⟩) ∧ w' = w := Any.strconv_Itoa_small Tryz.lays171 i hi w
def Tryz.laysM181_ren : Go.Shelf.Ren := ⟨fun | 181 => 100 | n => n, fun | 130 => 178 | 3 => 3 | 0 => 0 | 93 => 150 | 37 => 35 | 91 => 148 | 5 => 5 | n => n, fun | n => n⟩
theorem Tryz.laysM181 : Go.Proofs.LaysM.n181 Tryz.prog Tryz.laysM181_ren := {
  mixed := by kernel_rfl
  f181 := Tryz.func100.trans (congrArg some (by kernel_rfl))
  t0 := Tryz.underlying0
  a0 := Tryz.isAgg0
  z0 := Tryz.sizeOf0
  v0 := Tryz.zeroValue0
  t3 := Tryz.underlying3
  a3 := Tryz.isAgg3
  z3 := Tryz.sizeOf3
  v3 := Tryz.zeroValue3
  t37 := Tryz.underlying35
  a37 := Tryz.isAgg35
  z37 := Tryz.sizeOf35
  v37 := Tryz.zeroValue35
  t93 := Tryz.underlying150
  a93 := Tryz.isAgg150
  z93 := Tryz.sizeOf150
  v93 := Tryz.zeroValue150
  t130 := Tryz.underlying178
  a130 := Tryz.isAgg178
  z130 := Tryz.sizeOf178
  v130 := Tryz.zeroValue178
  t5 := Tryz.underlying5
  a5 := Tryz.isAgg5
  z5 := Tryz.sizeOf5
  v5 := Tryz.zeroValue5
  t91 := Tryz.underlying148
  a91 := Tryz.isAgg148
  z91 := Tryz.sizeOf148
  v91 := Tryz.zeroValue148
  i0 := by kernel_rfl
  i3 := by kernel_rfl
  i5 := by kernel_rfl
  i37 := by kernel_rfl
  i91 := by kernel_rfl
  i93 := by kernel_rfl
  i130 := by kernel_rfl }
open Go.RowKit in
theorem Tryz.Buffer_Len (B b : Nat) (bs : List Value) (w : World) (h : Lib.IsBuffer 150 5 B b bs w) :
    Calls Tryz.prog 100 #[.pointer (some ⟨b, 0, none⟩)] w fun e w' => e = .returned (.int .i64 bs.length) ∧ ∃ n, w' = w.drewN n := Any.Buffer_Len Tryz.laysM181 B b bs w h
def Tryz.laysM183_ren : Go.Shelf.Ren := ⟨fun | 183 => 101 | n => n, fun | 130 => 178 | 37 => 35 | 0 => 0 | 93 => 150 | 3 => 3 | 5 => 5 | 91 => 148 | n => n, fun | n => n⟩
theorem Tryz.laysM183 : Go.Proofs.LaysM.n183 Tryz.prog Tryz.laysM183_ren := {
  mixed := by kernel_rfl
  f183 := Tryz.func101.trans (congrArg some (by kernel_rfl))
  t0 := Tryz.underlying0
  a0 := Tryz.isAgg0
  z0 := Tryz.sizeOf0
  v0 := Tryz.zeroValue0
  t3 := Tryz.underlying3
  a3 := Tryz.isAgg3
  z3 := Tryz.sizeOf3
  v3 := Tryz.zeroValue3
  t37 := Tryz.underlying35
  a37 := Tryz.isAgg35
  z37 := Tryz.sizeOf35
  v37 := Tryz.zeroValue35
  t93 := Tryz.underlying150
  a93 := Tryz.isAgg150
  z93 := Tryz.sizeOf150
  v93 := Tryz.zeroValue150
  t130 := Tryz.underlying178
  a130 := Tryz.isAgg178
  z130 := Tryz.sizeOf178
  v130 := Tryz.zeroValue178
  t5 := Tryz.underlying5
  a5 := Tryz.isAgg5
  z5 := Tryz.sizeOf5
  v5 := Tryz.zeroValue5
  t91 := Tryz.underlying148
  a91 := Tryz.isAgg148
  z91 := Tryz.sizeOf148
  v91 := Tryz.zeroValue148
  i0 := by kernel_rfl
  i3 := by kernel_rfl
  i5 := by kernel_rfl
  i37 := by kernel_rfl
  i91 := by kernel_rfl
  i93 := by kernel_rfl
  i130 := by kernel_rfl }
open Go.RowKit in
theorem Tryz.Buffer_Bytes (B b : Nat) (bs : List Value) (w : World) (h : Lib.IsBuffer 150 5 B b bs w) :
    Calls Tryz.prog 101 #[.pointer (some ⟨b, 0, none⟩)] w fun e w' => ∃ v, e = .returned v ∧ w'.ownsRow B 5 1 v bs.length bs ∧ ∃ n, w' = w.drewN n := Any.Buffer_Bytes Tryz.laysM183 B b bs w h
def Tryz.laysM178_ren : Go.Shelf.Ren := ⟨fun | 178 => 98 | 251 => 131 | 252 => 132 | 181 => 100 | 184 => 172 | 290 => 173 | 324 => 223 | n => n, fun | 130 => 178 | 9 => 9 | 3 => 3 | 75 => 152 | 0 => 0 | 93 => 150 | 91 => 148 | 131 => 111 | 4 => 4 | 37 => 35 | 20 => 20 | 80 => 356 | 5 => 5 | n => n, fun | 14 => 0 | n => n⟩
theorem Tryz.laysM178 : Go.Proofs.LaysM.n178 Tryz.prog Tryz.laysM178_ren := {
  mixed := by kernel_rfl
  f178 := Tryz.func98.trans (congrArg some (by kernel_rfl))
  f181 := Tryz.func100.trans (congrArg some (by kernel_rfl))
  f184 := Tryz.func172.trans (congrArg some (by kernel_rfl))
  f251 := Tryz.func131.trans (congrArg some (by kernel_rfl))
  f252 := Tryz.func132.trans (congrArg some (by kernel_rfl))
  f290 := Tryz.func173.trans (congrArg some (by kernel_rfl))
  f324 := Tryz.func223.trans (congrArg some (by kernel_rfl))
  t0 := Tryz.underlying0
  a0 := Tryz.isAgg0
  z0 := Tryz.sizeOf0
  v0 := Tryz.zeroValue0
  t3 := Tryz.underlying3
  a3 := Tryz.isAgg3
  z3 := Tryz.sizeOf3
  v3 := Tryz.zeroValue3
  t4 := Tryz.underlying4
  a4 := Tryz.isAgg4
  z4 := Tryz.sizeOf4
  v4 := Tryz.zeroValue4
  t9 := Tryz.underlying9
  a9 := Tryz.isAgg9
  z9 := Tryz.sizeOf9
  v9 := Tryz.zeroValue9
  t20 := Tryz.underlying20
  a20 := Tryz.isAgg20
  z20 := Tryz.sizeOf20
  v20 := Tryz.zeroValue20
  t37 := Tryz.underlying35
  a37 := Tryz.isAgg35
  z37 := Tryz.sizeOf35
  v37 := Tryz.zeroValue35
  t75 := Tryz.underlying152
  a75 := Tryz.isAgg152
  z75 := Tryz.sizeOf152
  v75 := Tryz.zeroValue152
  t91 := Tryz.underlying148
  a91 := Tryz.isAgg148
  z91 := Tryz.sizeOf148
  v91 := Tryz.zeroValue148
  t93 := Tryz.underlying150
  a93 := Tryz.isAgg150
  z93 := Tryz.sizeOf150
  v93 := Tryz.zeroValue150
  t130 := Tryz.underlying178
  a130 := Tryz.isAgg178
  z130 := Tryz.sizeOf178
  v130 := Tryz.zeroValue178
  t131 := Tryz.underlying111
  a131 := Tryz.isAgg111
  z131 := Tryz.sizeOf111
  v131 := Tryz.zeroValue111
  g14 := by kernel_rfl
  t5 := Tryz.underlying5
  a5 := Tryz.isAgg5
  z5 := Tryz.sizeOf5
  v5 := Tryz.zeroValue5
  t80 := Tryz.underlying356
  a80 := Tryz.isAgg356
  z80 := Tryz.sizeOf356
  v80 := Tryz.zeroValue356
  i0 := by kernel_rfl
  i3 := by kernel_rfl
  i4 := by kernel_rfl
  i5 := by kernel_rfl
  i9 := by kernel_rfl
  i20 := by kernel_rfl
  i37 := by kernel_rfl
  i75 := by kernel_rfl
  i80 := by kernel_rfl
  i91 := by kernel_rfl
  i93 := by kernel_rfl
  i130 := by kernel_rfl
  i131 := by kernel_rfl
  m14 := by kernel_rfl }
open Go.RowKit in
theorem Tryz.Buffer_WriteString_k (B b : Nat) (bs : List Value) (s : ByteArray) (w : World) (h : Lib.IsBuffer 150 5 B b bs w) (hBw : B ≤ w.heap.size) (h1 : ∀ v ∈ bs, v.oneCell' = true) (hlim : bs.length + s.size ≤ 140737488355328) :
    Calls Tryz.prog 98 #[.pointer (some ⟨b, 0, none⟩), .string s] w fun e w' => e = .returned (.tuple #[.int .i64 s.size, .nilIface]) ∧ Lib.IsBuffer 150 5 B b (bs ++ Lib.byteCells s.data.toList) w' ∧ Below B w w' ∧ Lib.OthersKept 5 (some b) w w' := Any.Buffer_WriteString_k Tryz.laysM178 B b bs s w h hBw h1 hlim
end Go.Proofs
/- The contracts of library functions at this seat's translation, laid by the kit's own tool. -/
namespace Go.Proofs
open Go.Shelf
def Tryz.laysM171_ren : Go.Shelf.Ren := ⟨fun | 171 => 75 | 243 => 96 | 246 => 128 | 283 => 167 | 284 => 168 | 285 => 169 | 286 => 170 | 129 => 212 | 317 => 211 | 318 => 213 | 319 => 214 | 320 => 215 | 337 => 258 | 338 => 259 | n => n, fun | 3 => 3 | 9 => 9 | 2 => 2 | 4 => 4 | 171 => 204 | 0 => 0 | 53 => 205 | 37 => 35 | 5 => 5 | 173 => 208 | 212 => 235 | 51 => 116 | 20 => 20 | 213 => 236 | 46 => 168 | 232 => 312 | 233 => 313 | n => n, fun | 17 => 2 | 18 => 3 | 19 => 4 | n => n⟩
theorem Tryz.laysM171 : Go.Proofs.LaysM.n171 Tryz.prog Tryz.laysM171_ren := {
  mixed := by kernel_rfl
  f129 := Tryz.func212.trans (congrArg some (by kernel_rfl))
  f171 := Tryz.func75.trans (congrArg some (by kernel_rfl))
  f243 := Tryz.func96.trans (congrArg some (by kernel_rfl))
  f246 := Tryz.func128.trans (congrArg some (by kernel_rfl))
  f283 := Tryz.func167.trans (congrArg some (by kernel_rfl))
  f284 := Tryz.func168.trans (congrArg some (by kernel_rfl))
  f285 := Tryz.func169.trans (congrArg some (by kernel_rfl))
  f286 := Tryz.func170.trans (congrArg some (by kernel_rfl))
  f317 := Tryz.func211.trans (congrArg some (by kernel_rfl))
  f318 := Tryz.func213.trans (congrArg some (by kernel_rfl))
  f319 := Tryz.func214.trans (congrArg some (by kernel_rfl))
  f320 := Tryz.func215.trans (congrArg some (by kernel_rfl))
  f337 := Tryz.func258.trans (congrArg some (by kernel_rfl))
  f338 := Tryz.func259.trans (congrArg some (by kernel_rfl))
  t0 := Tryz.underlying0
  a0 := Tryz.isAgg0
  z0 := Tryz.sizeOf0
  v0 := Tryz.zeroValue0
  t2 := Tryz.underlying2
  a2 := Tryz.isAgg2
  z2 := Tryz.sizeOf2
  v2 := Tryz.zeroValue2
  t3 := Tryz.underlying3
  a3 := Tryz.isAgg3
  z3 := Tryz.sizeOf3
  v3 := Tryz.zeroValue3
  t4 := Tryz.underlying4
  a4 := Tryz.isAgg4
  z4 := Tryz.sizeOf4
  v4 := Tryz.zeroValue4
  t5 := Tryz.underlying5
  a5 := Tryz.isAgg5
  z5 := Tryz.sizeOf5
  v5 := Tryz.zeroValue5
  t9 := Tryz.underlying9
  a9 := Tryz.isAgg9
  z9 := Tryz.sizeOf9
  v9 := Tryz.zeroValue9
  t20 := Tryz.underlying20
  a20 := Tryz.isAgg20
  z20 := Tryz.sizeOf20
  v20 := Tryz.zeroValue20
  t37 := Tryz.underlying35
  a37 := Tryz.isAgg35
  z37 := Tryz.sizeOf35
  v37 := Tryz.zeroValue35
  t46 := Tryz.underlying168
  a46 := Tryz.isAgg168
  z46 := Tryz.sizeOf168
  v46 := Tryz.zeroValue168
  t51 := Tryz.underlying116
  a51 := Tryz.isAgg116
  z51 := Tryz.sizeOf116
  v51 := Tryz.zeroValue116
  t53 := Tryz.underlying205
  a53 := Tryz.isAgg205
  z53 := Tryz.sizeOf205
  v53 := Tryz.zeroValue205
  t171 := Tryz.underlying204
  a171 := Tryz.isAgg204
  z171 := Tryz.sizeOf204
  v171 := Tryz.zeroValue204
  t173 := Tryz.underlying208
  a173 := Tryz.isAgg208
  z173 := Tryz.sizeOf208
  v173 := Tryz.zeroValue208
  t212 := Tryz.underlying235
  a212 := Tryz.isAgg235
  z212 := Tryz.sizeOf235
  v212 := Tryz.zeroValue235
  t213 := Tryz.underlying236
  a213 := Tryz.isAgg236
  z213 := Tryz.sizeOf236
  t232 := Tryz.underlying312
  a232 := Tryz.isAgg312
  z232 := Tryz.sizeOf312
  v232 := Tryz.zeroValue312
  t233 := Tryz.underlying313
  a233 := Tryz.isAgg313
  z233 := Tryz.sizeOf313
  v233 := Tryz.zeroValue313
  g17 := by kernel_rfl
  g18 := by kernel_rfl
  g19 := by kernel_rfl
  i0 := by kernel_rfl
  i2 := by kernel_rfl
  i3 := by kernel_rfl
  i4 := by kernel_rfl
  i5 := by kernel_rfl
  i9 := by kernel_rfl
  i20 := by kernel_rfl
  i37 := by kernel_rfl
  i46 := by kernel_rfl
  i51 := by kernel_rfl
  i53 := by kernel_rfl
  i171 := by kernel_rfl
  i173 := by kernel_rfl
  i212 := by kernel_rfl
  i232 := by kernel_rfl
  i233 := by kernel_rfl
  m17 := by kernel_rfl
  m18 := by kernel_rfl
  m19 := by kernel_rfl }
open Go.RowKit Go.Sort Go.Lib in
theorem Tryz.strconv_Itoa (n : Int) (h0 : -9223372036854775808 ≤ n) (h1 : n ≤ 9223372036854775807) (w : World) (htab : Lib.TabIs Tryz.prog w "internal/strconv.uint64pow10" .u64 Lib.pow10Tab) :
    Calls Tryz.prog 75 #[.int .i64 n] w fun e w' => e = .returned (.string ⟨(Lib.itoa n).toArray⟩) ∧ ∃ k os, w' = grow (w.drewN k) os := Any.strconv_Itoa Tryz.laysM171 n h0 h1 w htab
end Go.Proofs
