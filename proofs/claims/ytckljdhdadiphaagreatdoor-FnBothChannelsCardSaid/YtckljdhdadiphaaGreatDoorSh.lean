import Derived.Shelf.Strings.SlTrimAscii
import Derived.Shelf.Bits.Mul64
import Derived.Shelf.Strings.Trim
import Derived.Shelf.Small.Utf8
import Derived.Shelf.Small.Strs
import Derived.Shelf.Strings.Search1
import Derived.Shelf.Unicode.Decode
import Derived.Shelf.Strings.Runes
import Derived.Shelf.Strings.AsciiSet
import Derived.Shelf.Bits.Mul64
import Derived.Shelf.Unicode.DecodeSlow
import Derived.Shelf.Unicode.DecodeAny
import Derived.Shelf.Unicode.DecodeLast
import Derived.Ground.SlgnProg
import Derived.Shelf.SlicesE.Clone
import Derived.Test.YtckljdhdadiphaaGreatDoorProg
import Derived.KernelRfl
namespace Go.Proofs.YtckljdhdadiphaaGreatDoor
open Go.Shelf
def Tryz.lay160_ren:Go.Shelf.Ren:=⟨fun|160=>258|232=>266|231=>265|227=>267|234=>269|233=>268|236=>271|235=>270|228=>272|271=>275|151=>274|197=>273|120=>278|152=>277|260=>276|137=>279|119=>280|224=>281|225=>282|217=>283|266=>284|n=>n,fun|9=>9|4=>4|3=>3|5=>5|117=>209|116=>208|0=>0|124=>212|21=>21|105=>214|46=>101|119=>218|139=>221|138=>220|n=>n,fun|3=>0|4=>1|n=>n⟩
theorem Tryz.lay160:Go.Proofs.Lays.n160 Tryz.prog Tryz.lay160_ren:={
 mixed:=by kernel_rfl
 f119:=Tryz.func280.trans (congrArg some (by kernel_rfl))
 f120:=Tryz.func278.trans (congrArg some (by kernel_rfl))
 f137:=Tryz.func279.trans (congrArg some (by kernel_rfl))
 f151:=Tryz.func274.trans (congrArg some (by kernel_rfl))
 f152:=Tryz.func277.trans (congrArg some (by kernel_rfl))
 f160:=Tryz.func258.trans (congrArg some (by kernel_rfl))
 f197:=Tryz.func273.trans (congrArg some (by kernel_rfl))
 f217:=Tryz.func283.trans (congrArg some (by kernel_rfl))
 f224:=Tryz.func281.trans (congrArg some (by kernel_rfl))
 f225:=Tryz.func282.trans (congrArg some (by kernel_rfl))
 f227:=Tryz.func267.trans (congrArg some (by kernel_rfl))
 f228:=Tryz.func272.trans (congrArg some (by kernel_rfl))
 f231:=Tryz.func265.trans (congrArg some (by kernel_rfl))
 f232:=Tryz.func266.trans (congrArg some (by kernel_rfl))
 f233:=Tryz.func268.trans (congrArg some (by kernel_rfl))
 f234:=Tryz.func269.trans (congrArg some (by kernel_rfl))
 f235:=Tryz.func270.trans (congrArg some (by kernel_rfl))
 f236:=Tryz.func271.trans (congrArg some (by kernel_rfl))
 f260:=Tryz.func276.trans (congrArg some (by kernel_rfl))
 f266:=Tryz.func284.trans (congrArg some (by kernel_rfl))
 f271:=Tryz.func275.trans (congrArg some (by kernel_rfl))
 t0:=Tryz.underlying0
 a0:=Tryz.isAgg0
 z0:=Tryz.sizeOf0
 v0:=Tryz.zeroValue0
 t3:=Tryz.underlying3
 a3:=Tryz.isAgg3
 z3:=Tryz.sizeOf3
 v3:=Tryz.zeroValue3
 t4:=Tryz.underlying4
 a4:=Tryz.isAgg4
 z4:=Tryz.sizeOf4
 v4:=Tryz.zeroValue4
 t5:=Tryz.underlying5
 a5:=Tryz.isAgg5
 z5:=Tryz.sizeOf5
 v5:=Tryz.zeroValue5
 t9:=Tryz.underlying9
 a9:=Tryz.isAgg9
 z9:=Tryz.sizeOf9
 v9:=Tryz.zeroValue9
 t21:=Tryz.underlying21
 a21:=Tryz.isAgg21
 z21:=Tryz.sizeOf21
 v21:=Tryz.zeroValue21
 t46:=Tryz.underlying101
 a46:=Tryz.isAgg101
 z46:=Tryz.sizeOf101
 v46:=Tryz.zeroValue101
 t105:=Tryz.underlying214
 a105:=Tryz.isAgg214
 z105:=Tryz.sizeOf214
 v105:=Tryz.zeroValue214
 t116:=Tryz.underlying208
 a116:=Tryz.isAgg208
 z116:=Tryz.sizeOf208
 t117:=Tryz.underlying209
 a117:=Tryz.isAgg209
 z117:=Tryz.sizeOf209
 v117:=Tryz.zeroValue209
 t119:=Tryz.underlying218
 a119:=Tryz.isAgg218
 z119:=Tryz.sizeOf218
 t124:=Tryz.underlying212
 a124:=Tryz.isAgg212
 z124:=Tryz.sizeOf212
 v124:=Tryz.zeroValue212
 t138:=Tryz.underlying220
 a138:=Tryz.isAgg220
 z138:=Tryz.sizeOf220
 v138:=Tryz.zeroValue220
 t139:=Tryz.underlying221
 a139:=Tryz.isAgg221
 z139:=Tryz.sizeOf221
 v139:=Tryz.zeroValue221
 g3:=by kernel_rfl
 g4:=by kernel_rfl}
end Go.Proofs.YtckljdhdadiphaaGreatDoor
