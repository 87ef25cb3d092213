import Derived.Shelf.Strings.SlTrimAscii
import Derived.Shelf.Bits.Mul64
import Derived.Shelf.SlicesE.Delete
import Derived.Ground.SlgnProg
import Derived.Shelf.Strings.Trim
import Derived.Shelf.Small.Utf8
import Derived.Shelf.Small.Strs
import Derived.Shelf.Strings.Search1
import Derived.Shelf.Unicode.Decode
import Derived.Shelf.Strings.Runes
import Derived.Shelf.Strings.AsciiSet
import Derived.Shelf.Bits.Mul64
import Derived.Shelf.Unicode.DecodeSlow
import Derived.Shelf.Unicode.DecodeAny
import Derived.Shelf.Unicode.DecodeLast
import Derived.Ground.SlgnProg
import Derived.Shelf.SlicesE.Delete
import Derived.Shelf.SlicesE.Clone
import Derived.Test.YthfgmmmeplanbaaGreatDoorProg
import Derived.KernelRfl
namespace Go.Proofs.YthfgmmmeplanbaaGreatDoor
open Go.Shelf
def Tryz.lay160_ren:Go.Shelf.Ren:=⟨fun|160=>312|232=>324|231=>323|227=>325|234=>327|233=>326|236=>329|235=>328|228=>331|271=>334|151=>333|197=>332|120=>337|152=>336|260=>335|137=>338|119=>339|224=>340|225=>341|217=>342|266=>343|n=>n,fun|9=>9|4=>4|3=>3|5=>5|117=>287|116=>286|0=>0|124=>290|21=>21|105=>292|46=>189|119=>296|139=>299|138=>298|n=>n,fun|3=>0|4=>1|n=>n⟩
theorem Tryz.lay160:Go.Proofs.Lays.n160 Tryz.prog Tryz.lay160_ren:={
 mixed:=by kernel_rfl
 f119:=Tryz.func339.trans (congrArg some (by kernel_rfl))
 f120:=Tryz.func337.trans (congrArg some (by kernel_rfl))
 f137:=Tryz.func338.trans (congrArg some (by kernel_rfl))
 f151:=Tryz.func333.trans (congrArg some (by kernel_rfl))
 f152:=Tryz.func336.trans (congrArg some (by kernel_rfl))
 f160:=Tryz.func312.trans (congrArg some (by kernel_rfl))
 f197:=Tryz.func332.trans (congrArg some (by kernel_rfl))
 f217:=Tryz.func342.trans (congrArg some (by kernel_rfl))
 f224:=Tryz.func340.trans (congrArg some (by kernel_rfl))
 f225:=Tryz.func341.trans (congrArg some (by kernel_rfl))
 f227:=Tryz.func325.trans (congrArg some (by kernel_rfl))
 f228:=Tryz.func331.trans (congrArg some (by kernel_rfl))
 f231:=Tryz.func323.trans (congrArg some (by kernel_rfl))
 f232:=Tryz.func324.trans (congrArg some (by kernel_rfl))
 f233:=Tryz.func326.trans (congrArg some (by kernel_rfl))
 f234:=Tryz.func327.trans (congrArg some (by kernel_rfl))
 f235:=Tryz.func328.trans (congrArg some (by kernel_rfl))
 f236:=Tryz.func329.trans (congrArg some (by kernel_rfl))
 f260:=Tryz.func335.trans (congrArg some (by kernel_rfl))
 f266:=Tryz.func343.trans (congrArg some (by kernel_rfl))
 f271:=Tryz.func334.trans (congrArg some (by kernel_rfl))
 t0:=Tryz.underlying0
 a0:=Tryz.isAgg0
 z0:=Tryz.sizeOf0
 v0:=Tryz.zeroValue0
 t3:=Tryz.underlying3
 a3:=Tryz.isAgg3
 z3:=Tryz.sizeOf3
 v3:=Tryz.zeroValue3
 t4:=Tryz.underlying4
 a4:=Tryz.isAgg4
 z4:=Tryz.sizeOf4
 v4:=Tryz.zeroValue4
 t5:=Tryz.underlying5
 a5:=Tryz.isAgg5
 z5:=Tryz.sizeOf5
 v5:=Tryz.zeroValue5
 t9:=Tryz.underlying9
 a9:=Tryz.isAgg9
 z9:=Tryz.sizeOf9
 v9:=Tryz.zeroValue9
 t21:=Tryz.underlying21
 a21:=Tryz.isAgg21
 z21:=Tryz.sizeOf21
 v21:=Tryz.zeroValue21
 t46:=Tryz.underlying189
 a46:=Tryz.isAgg189
 z46:=Tryz.sizeOf189
 v46:=Tryz.zeroValue189
 t105:=Tryz.underlying292
 a105:=Tryz.isAgg292
 z105:=Tryz.sizeOf292
 v105:=Tryz.zeroValue292
 t116:=Tryz.underlying286
 a116:=Tryz.isAgg286
 z116:=Tryz.sizeOf286
 t117:=Tryz.underlying287
 a117:=Tryz.isAgg287
 z117:=Tryz.sizeOf287
 v117:=Tryz.zeroValue287
 t119:=Tryz.underlying296
 a119:=Tryz.isAgg296
 z119:=Tryz.sizeOf296
 t124:=Tryz.underlying290
 a124:=Tryz.isAgg290
 z124:=Tryz.sizeOf290
 v124:=Tryz.zeroValue290
 t138:=Tryz.underlying298
 a138:=Tryz.isAgg298
 z138:=Tryz.sizeOf298
 v138:=Tryz.zeroValue298
 t139:=Tryz.underlying299
 a139:=Tryz.isAgg299
 z139:=Tryz.sizeOf299
 v139:=Tryz.zeroValue299
 g3:=by kernel_rfl
 g4:=by kernel_rfl}
def Tryz.lay212_ren:Go.Shelf.Ren:=⟨fun|212=>256|263=>295|264=>296|n=>n,fun|46=>189|51=>265|146=>266|53=>268|148=>269|n=>n,fun|n=>n⟩
theorem Tryz.lay212:Go.Proofs.Lays.n212 Tryz.prog Tryz.lay212_ren:={
 mixed:=by kernel_rfl
 f212:=Tryz.func256.trans (congrArg some (by kernel_rfl))
 f263:=Tryz.func295.trans (congrArg some (by kernel_rfl))
 f264:=Tryz.func296.trans (congrArg some (by kernel_rfl))
 t46:=Tryz.underlying189
 a46:=Tryz.isAgg189
 z46:=Tryz.sizeOf189
 v46:=Tryz.zeroValue189
 t51:=Tryz.underlying265
 a51:=Tryz.isAgg265
 z51:=Tryz.sizeOf265
 v51:=Tryz.zeroValue265
 t53:=Tryz.underlying268
 a53:=Tryz.isAgg268
 z53:=Tryz.sizeOf268
 v53:=Tryz.zeroValue268
 t146:=Tryz.underlying266
 a146:=Tryz.isAgg266
 z146:=Tryz.sizeOf266
 v146:=Tryz.zeroValue266
 t148:=Tryz.underlying269
 a148:=Tryz.isAgg269
 z148:=Tryz.sizeOf269
 v148:=Tryz.zeroValue269}
def Tryz.laysDel_ren:Go.Shelf.Ren:=⟨fun|45=>183|n=>n,fun|22=>29|23=>2|3=>3|4=>4|0=>0|n=>n,fun|n=>n⟩
theorem Tryz.laysDel:Go.Proofs.SlLaysE.n45 Tryz.prog Tryz.laysDel_ren:={
 mixed:=by kernel_rfl
 f45:=⟨Tryz.f183.name,by decide,Tryz.func183.trans (congrArg some (by kernel_rfl))⟩
 t0:=Tryz.underlying0
 a0:=Tryz.isAgg0
 z0:=Tryz.sizeOf0
 v0:=Tryz.zeroValue0
 t3:=Tryz.underlying3
 a3:=Tryz.isAgg3
 z3:=Tryz.sizeOf3
 v3:=Tryz.zeroValue3
 t4:=Tryz.underlying4
 a4:=Tryz.isAgg4
 z4:=Tryz.sizeOf4
 v4:=Tryz.zeroValue4
 t22:=Tryz.underlying29
 a22:=Tryz.isAgg29
 z22:=Tryz.sizeOf29
 v22:=Tryz.zeroValue29
 a23:=Tryz.isAgg2
 z23:=Tryz.sizeOf2}
end Go.Proofs.YthfgmmmeplanbaaGreatDoor
