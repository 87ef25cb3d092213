/- Layings of library functions, laid at this dump by the kit's tools. -/
import Derived.Shelf.Strings.SlTrimAscii
import Derived.Shelf.Strings.Trim
import Derived.Shelf.Small.Utf8
import Derived.Shelf.Small.Strs
import Derived.Shelf.Strings.Search1
import Derived.Shelf.Strings.Runes
import Derived.Shelf.Strings.AsciiSet
import Derived.Shelf.Unicode.DecodeSlow
import Derived.Ground.SlgnProg
import Derived.Shelf.SlicesE.Clone
import Derived.Test.YtieajgkcadmchaaGreatDoorProg
import Derived.KernelRfl
namespace Go.Proofs.YtieajgkcadmchaaGreatDoor
open Go.Shelf
def Tryz.lay160_ren : Go.Shelf.Ren := ⟨fun | 160 => 199 | 232 => 207 | 231 => 206 | 227 => 208 | 234 => 210 | 233 => 209 | 236 => 212 | 235 => 211 | 228 => 215 | 271 => 218 | 151 => 217 | 197 => 216 | 120 => 222 | 152 => 221 | 260 => 220 | 137 => 223 | 119 => 224 | 224 => 225 | 225 => 226 | 217 => 227 | 266 => 228 | n => n, fun | 9 => 9 | 4 => 4 | 3 => 3 | 5 => 5 | 117 => 180 | 116 => 179 | 0 => 0 | 124 => 183 | 21 => 21 | 105 => 185 | 46 => 156 | 119 => 189 | 139 => 192 | 138 => 191 | n => n, fun | 3 => 0 | 4 => 1 | n => n⟩
theorem Tryz.lay160 : Go.Proofs.Lays.n160 Tryz.prog Tryz.lay160_ren := {
  mixed := by kernel_rfl
  f119 := Tryz.func224.trans (congrArg some (by kernel_rfl))
  f120 := Tryz.func222.trans (congrArg some (by kernel_rfl))
  f137 := Tryz.func223.trans (congrArg some (by kernel_rfl))
  f151 := Tryz.func217.trans (congrArg some (by kernel_rfl))
  f152 := Tryz.func221.trans (congrArg some (by kernel_rfl))
  f160 := Tryz.func199.trans (congrArg some (by kernel_rfl))
  f197 := Tryz.func216.trans (congrArg some (by kernel_rfl))
  f217 := Tryz.func227.trans (congrArg some (by kernel_rfl))
  f224 := Tryz.func225.trans (congrArg some (by kernel_rfl))
  f225 := Tryz.func226.trans (congrArg some (by kernel_rfl))
  f227 := Tryz.func208.trans (congrArg some (by kernel_rfl))
  f228 := Tryz.func215.trans (congrArg some (by kernel_rfl))
  f231 := Tryz.func206.trans (congrArg some (by kernel_rfl))
  f232 := Tryz.func207.trans (congrArg some (by kernel_rfl))
  f233 := Tryz.func209.trans (congrArg some (by kernel_rfl))
  f234 := Tryz.func210.trans (congrArg some (by kernel_rfl))
  f235 := Tryz.func211.trans (congrArg some (by kernel_rfl))
  f236 := Tryz.func212.trans (congrArg some (by kernel_rfl))
  f260 := Tryz.func220.trans (congrArg some (by kernel_rfl))
  f266 := Tryz.func228.trans (congrArg some (by kernel_rfl))
  f271 := Tryz.func218.trans (congrArg some (by kernel_rfl))
  t0 := Tryz.underlying0
  a0 := Tryz.isAgg0
  z0 := Tryz.sizeOf0
  v0 := Tryz.zeroValue0
  t3 := Tryz.underlying3
  a3 := Tryz.isAgg3
  z3 := Tryz.sizeOf3
  v3 := Tryz.zeroValue3
  t4 := Tryz.underlying4
  a4 := Tryz.isAgg4
  z4 := Tryz.sizeOf4
  v4 := Tryz.zeroValue4
  t5 := Tryz.underlying5
  a5 := Tryz.isAgg5
  z5 := Tryz.sizeOf5
  v5 := Tryz.zeroValue5
  t9 := Tryz.underlying9
  a9 := Tryz.isAgg9
  z9 := Tryz.sizeOf9
  v9 := Tryz.zeroValue9
  t21 := Tryz.underlying21
  a21 := Tryz.isAgg21
  z21 := Tryz.sizeOf21
  v21 := Tryz.zeroValue21
  t46 := Tryz.underlying156
  a46 := Tryz.isAgg156
  z46 := Tryz.sizeOf156
  v46 := Tryz.zeroValue156
  t105 := Tryz.underlying185
  a105 := Tryz.isAgg185
  z105 := Tryz.sizeOf185
  v105 := Tryz.zeroValue185
  t116 := Tryz.underlying179
  a116 := Tryz.isAgg179
  z116 := Tryz.sizeOf179
  t117 := Tryz.underlying180
  a117 := Tryz.isAgg180
  z117 := Tryz.sizeOf180
  v117 := Tryz.zeroValue180
  t119 := Tryz.underlying189
  a119 := Tryz.isAgg189
  z119 := Tryz.sizeOf189
  t124 := Tryz.underlying183
  a124 := Tryz.isAgg183
  z124 := Tryz.sizeOf183
  v124 := Tryz.zeroValue183
  t138 := Tryz.underlying191
  a138 := Tryz.isAgg191
  z138 := Tryz.sizeOf191
  v138 := Tryz.zeroValue191
  t139 := Tryz.underlying192
  a139 := Tryz.isAgg192
  z139 := Tryz.sizeOf192
  v139 := Tryz.zeroValue192
  g3 := by kernel_rfl
  g4 := by kernel_rfl }
end Go.Proofs.YtieajgkcadmchaaGreatDoor
