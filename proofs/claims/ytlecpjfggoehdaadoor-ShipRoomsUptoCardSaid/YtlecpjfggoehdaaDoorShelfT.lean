/- The shelf's contract of strings.Trim at this program (written by the shelf's tools; the lines on strings.Trim alone). -/
import Derived.Test.YtlecpjfggoehdaaDoorShelf
import Derived.Shelf.Strings.Trim
namespace Go.Proofs
open Go.Shelf
def Tryd.lays160_ren : Go.Shelf.Ren := ⟨fun | 160 => 117 | 232 => 132 | 231 => 131 | 227 => 133 | 234 => 135 | 233 => 134 | 236 => 137 | 235 => 136 | 228 => 147 | 271 => 149 | 151 => 148 | 197 => 144 | 120 => 156 | 152 => 155 | 260 => 150 | 137 => 159 | 119 => 160 | 224 => 153 | 225 => 152 | 217 => 151 | 266 => 157 | n => n, fun | 9 => 9 | 4 => 4 | 3 => 3 | 5 => 5 | 117 => 196 | 116 => 195 | 0 => 0 | 124 => 199 | 21 => 21 | 105 => 205 | 46 => 100 | 119 => 211 | 139 => 214 | 138 => 213 | n => n, fun | 3 => 7 | 4 => 8 | n => n⟩
theorem Tryd.lays160 : Go.Proofs.Lays.n160 Tryd.prog Tryd.lays160_ren := {
  mixed := by kernel_rfl
  f119 := Tryd.func160.trans (congrArg some (by kernel_rfl))
  f120 := Tryd.func156.trans (congrArg some (by kernel_rfl))
  f137 := Tryd.func159.trans (congrArg some (by kernel_rfl))
  f151 := Tryd.func148.trans (congrArg some (by kernel_rfl))
  f152 := Tryd.func155.trans (congrArg some (by kernel_rfl))
  f160 := Tryd.func117.trans (congrArg some (by kernel_rfl))
  f197 := Tryd.func144.trans (congrArg some (by kernel_rfl))
  f217 := Tryd.func151.trans (congrArg some (by kernel_rfl))
  f224 := Tryd.func153.trans (congrArg some (by kernel_rfl))
  f225 := Tryd.func152.trans (congrArg some (by kernel_rfl))
  f227 := Tryd.func133.trans (congrArg some (by kernel_rfl))
  f228 := Tryd.func147.trans (congrArg some (by kernel_rfl))
  f231 := Tryd.func131.trans (congrArg some (by kernel_rfl))
  f232 := Tryd.func132.trans (congrArg some (by kernel_rfl))
  f233 := Tryd.func134.trans (congrArg some (by kernel_rfl))
  f234 := Tryd.func135.trans (congrArg some (by kernel_rfl))
  f235 := Tryd.func136.trans (congrArg some (by kernel_rfl))
  f236 := Tryd.func137.trans (congrArg some (by kernel_rfl))
  f260 := Tryd.func150.trans (congrArg some (by kernel_rfl))
  f266 := Tryd.func157.trans (congrArg some (by kernel_rfl))
  f271 := Tryd.func149.trans (congrArg some (by kernel_rfl))
  t0 := Tryd.underlying0
  a0 := Tryd.isAgg0
  z0 := Tryd.sizeOf0
  v0 := Tryd.zeroValue0
  t3 := Tryd.underlying3
  a3 := Tryd.isAgg3
  z3 := Tryd.sizeOf3
  v3 := Tryd.zeroValue3
  t4 := Tryd.underlying4
  a4 := Tryd.isAgg4
  z4 := Tryd.sizeOf4
  v4 := Tryd.zeroValue4
  t5 := Tryd.underlying5
  a5 := Tryd.isAgg5
  z5 := Tryd.sizeOf5
  v5 := Tryd.zeroValue5
  t9 := Tryd.underlying9
  a9 := Tryd.isAgg9
  z9 := Tryd.sizeOf9
  v9 := Tryd.zeroValue9
  t21 := Tryd.underlying21
  a21 := Tryd.isAgg21
  z21 := Tryd.sizeOf21
  v21 := Tryd.zeroValue21
  t46 := Tryd.underlying100
  a46 := Tryd.isAgg100
  z46 := Tryd.sizeOf100
  v46 := Tryd.zeroValue100
  t105 := Tryd.underlying205
  a105 := Tryd.isAgg205
  z105 := Tryd.sizeOf205
  v105 := Tryd.zeroValue205
  t116 := Tryd.underlying195
  a116 := Tryd.isAgg195
  z116 := Tryd.sizeOf195
  t117 := Tryd.underlying196
  a117 := Tryd.isAgg196
  z117 := Tryd.sizeOf196
  v117 := Tryd.zeroValue196
  t119 := Tryd.underlying211
  a119 := Tryd.isAgg211
  z119 := Tryd.sizeOf211
  t124 := Tryd.underlying199
  a124 := Tryd.isAgg199
  z124 := Tryd.sizeOf199
  v124 := Tryd.zeroValue199
  t138 := Tryd.underlying213
  a138 := Tryd.isAgg213
  z138 := Tryd.sizeOf213
  v138 := Tryd.zeroValue213
  t139 := Tryd.underlying214
  a139 := Tryd.isAgg214
  z139 := Tryd.sizeOf214
  v139 := Tryd.zeroValue214
  g3 := by kernel_rfl
  g4 := by kernel_rfl }
open Go.RowKit Go.Lib in
theorem Tryd.strings_Trim_one (s : ByteArray) (c : UInt8) (hc : c.toNat < 128) (w : World) (hs : s.size ≤ 9223372036854775807) :
    Calls Tryd.prog 117 #[.string s, .string ⟨#[c]⟩] w fun e w' => e = .returned (.string ⟨(Lib.trimB s.data.toList c).toArray⟩) ∧ (w' = w ∨ w' = w.drew) := Any.strings_Trim_one Tryd.lays160 s c hc w hs
end Go.Proofs
