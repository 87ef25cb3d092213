import Derived.Shelf.Strings.SlTrimAscii
import Derived.Shelf.Bits.Mul64
import Derived.Shelf.SlicesE.Delete
import Derived.Ground.SlgnProg
import Derived.Shelf.Strings.Trim
import Derived.Shelf.Small.Utf8
import Derived.Shelf.Small.Strs
import Derived.Shelf.Strings.Search1
import Derived.Shelf.Unicode.Decode
import Derived.Shelf.Strings.Runes
import Derived.Shelf.Strings.AsciiSet
import Derived.Shelf.Bits.Mul64
import Derived.Shelf.Unicode.DecodeSlow
import Derived.Shelf.Unicode.DecodeAny
import Derived.Shelf.Unicode.DecodeLast
import Derived.Ground.SlgnProg
import Derived.Shelf.SlicesE.Delete
import Derived.Shelf.SlicesE.Clone
import Derived.Test.YtnambbcafhnhpaaGreatDoorProg
import Derived.KernelRfl
namespace Go.Proofs.YtnambbcafhnhpaaGreatDoor
open Go.Shelf
def Tryz.lay160_ren:Go.Shelf.Ren:=⟨fun|160=>215|232=>242|231=>241|227=>243|234=>245|233=>244|236=>247|235=>246|228=>263|271=>266|151=>265|197=>264|120=>273|152=>272|260=>271|137=>278|119=>279|224=>280|225=>281|217=>282|266=>283|n=>n,fun|9=>9|4=>4|3=>3|5=>5|117=>206|116=>205|0=>0|124=>209|21=>21|105=>219|46=>82|119=>226|139=>229|138=>228|n=>n,fun|3=>0|4=>1|n=>n⟩
theorem Tryz.lay160:Go.Proofs.Lays.n160 Tryz.prog Tryz.lay160_ren:={
 mixed:=by kernel_rfl
 f119:=Tryz.func279.trans (congrArg some (by kernel_rfl))
 f120:=Tryz.func273.trans (congrArg some (by kernel_rfl))
 f137:=Tryz.func278.trans (congrArg some (by kernel_rfl))
 f151:=Tryz.func265.trans (congrArg some (by kernel_rfl))
 f152:=Tryz.func272.trans (congrArg some (by kernel_rfl))
 f160:=Tryz.func215.trans (congrArg some (by kernel_rfl))
 f197:=Tryz.func264.trans (congrArg some (by kernel_rfl))
 f217:=Tryz.func282.trans (congrArg some (by kernel_rfl))
 f224:=Tryz.func280.trans (congrArg some (by kernel_rfl))
 f225:=Tryz.func281.trans (congrArg some (by kernel_rfl))
 f227:=Tryz.func243.trans (congrArg some (by kernel_rfl))
 f228:=Tryz.func263.trans (congrArg some (by kernel_rfl))
 f231:=Tryz.func241.trans (congrArg some (by kernel_rfl))
 f232:=Tryz.func242.trans (congrArg some (by kernel_rfl))
 f233:=Tryz.func244.trans (congrArg some (by kernel_rfl))
 f234:=Tryz.func245.trans (congrArg some (by kernel_rfl))
 f235:=Tryz.func246.trans (congrArg some (by kernel_rfl))
 f236:=Tryz.func247.trans (congrArg some (by kernel_rfl))
 f260:=Tryz.func271.trans (congrArg some (by kernel_rfl))
 f266:=Tryz.func283.trans (congrArg some (by kernel_rfl))
 f271:=Tryz.func266.trans (congrArg some (by kernel_rfl))
 t0:=Tryz.underlying0
 a0:=Tryz.isAgg0
 z0:=Tryz.sizeOf0
 v0:=Tryz.zeroValue0
 t3:=Tryz.underlying3
 a3:=Tryz.isAgg3
 z3:=Tryz.sizeOf3
 v3:=Tryz.zeroValue3
 t4:=Tryz.underlying4
 a4:=Tryz.isAgg4
 z4:=Tryz.sizeOf4
 v4:=Tryz.zeroValue4
 t5:=Tryz.underlying5
 a5:=Tryz.isAgg5
 z5:=Tryz.sizeOf5
 v5:=Tryz.zeroValue5
 t9:=Tryz.underlying9
 a9:=Tryz.isAgg9
 z9:=Tryz.sizeOf9
 v9:=Tryz.zeroValue9
 t21:=Tryz.underlying21
 a21:=Tryz.isAgg21
 z21:=Tryz.sizeOf21
 v21:=Tryz.zeroValue21
 t46:=Tryz.underlying82
 a46:=Tryz.isAgg82
 z46:=Tryz.sizeOf82
 v46:=Tryz.zeroValue82
 t105:=Tryz.underlying219
 a105:=Tryz.isAgg219
 z105:=Tryz.sizeOf219
 v105:=Tryz.zeroValue219
 t116:=Tryz.underlying205
 a116:=Tryz.isAgg205
 z116:=Tryz.sizeOf205
 t117:=Tryz.underlying206
 a117:=Tryz.isAgg206
 z117:=Tryz.sizeOf206
 v117:=Tryz.zeroValue206
 t119:=Tryz.underlying226
 a119:=Tryz.isAgg226
 z119:=Tryz.sizeOf226
 t124:=Tryz.underlying209
 a124:=Tryz.isAgg209
 z124:=Tryz.sizeOf209
 v124:=Tryz.zeroValue209
 t138:=Tryz.underlying228
 a138:=Tryz.isAgg228
 z138:=Tryz.sizeOf228
 v138:=Tryz.zeroValue228
 t139:=Tryz.underlying229
 a139:=Tryz.isAgg229
 z139:=Tryz.sizeOf229
 v139:=Tryz.zeroValue229
 g3:=by kernel_rfl
 g4:=by kernel_rfl}
def Tryz.lay212_ren:Go.Shelf.Ren:=⟨fun|212=>184|263=>220|264=>221|n=>n,fun|46=>82|51=>190|146=>191|53=>59|148=>193|n=>n,fun|n=>n⟩
theorem Tryz.lay212:Go.Proofs.Lays.n212 Tryz.prog Tryz.lay212_ren:={
 mixed:=by kernel_rfl
 f212:=Tryz.func184.trans (congrArg some (by kernel_rfl))
 f263:=Tryz.func220.trans (congrArg some (by kernel_rfl))
 f264:=Tryz.func221.trans (congrArg some (by kernel_rfl))
 t46:=Tryz.underlying82
 a46:=Tryz.isAgg82
 z46:=Tryz.sizeOf82
 v46:=Tryz.zeroValue82
 t51:=Tryz.underlying190
 a51:=Tryz.isAgg190
 z51:=Tryz.sizeOf190
 v51:=Tryz.zeroValue190
 t53:=Tryz.underlying59
 a53:=Tryz.isAgg59
 z53:=Tryz.sizeOf59
 v53:=Tryz.zeroValue59
 t146:=Tryz.underlying191
 a146:=Tryz.isAgg191
 z146:=Tryz.sizeOf191
 v146:=Tryz.zeroValue191
 t148:=Tryz.underlying193
 a148:=Tryz.isAgg193
 z148:=Tryz.sizeOf193
 v148:=Tryz.zeroValue193}
def Tryz.laysDel_ren:Go.Shelf.Ren:=⟨fun|45=>155|n=>n,fun|22=>36|23=>2|3=>3|4=>4|0=>0|n=>n,fun|n=>n⟩
theorem Tryz.laysDel:Go.Proofs.SlLaysE.n45 Tryz.prog Tryz.laysDel_ren:={
 mixed:=by kernel_rfl
 f45:=⟨Tryz.f155.name,by decide,Tryz.func155.trans (congrArg some (by kernel_rfl))⟩
 t0:=Tryz.underlying0
 a0:=Tryz.isAgg0
 z0:=Tryz.sizeOf0
 v0:=Tryz.zeroValue0
 t3:=Tryz.underlying3
 a3:=Tryz.isAgg3
 z3:=Tryz.sizeOf3
 v3:=Tryz.zeroValue3
 t4:=Tryz.underlying4
 a4:=Tryz.isAgg4
 z4:=Tryz.sizeOf4
 v4:=Tryz.zeroValue4
 t22:=Tryz.underlying36
 a22:=Tryz.isAgg36
 z22:=Tryz.sizeOf36
 v22:=Tryz.zeroValue36
 a23:=Tryz.isAgg2
 z23:=Tryz.sizeOf2}
end Go.Proofs.YtnambbcafhnhpaaGreatDoor
