import Derived.Shelf.Strings.SlTrimAscii
import Derived.Shelf.Bits.Mul64
import Derived.Shelf.SlicesE.Delete
import Derived.Ground.SlgnProg
import Derived.Shelf.Strings.Trim
import Derived.Shelf.Small.Utf8
import Derived.Shelf.Small.Strs
import Derived.Shelf.Strings.Search1
import Derived.Shelf.Strings.Runes
import Derived.Shelf.Strings.AsciiSet
import Derived.Shelf.Bits.Mul64
import Derived.Shelf.Unicode.DecodeSlow
import Derived.Ground.SlgnProg
import Derived.Shelf.SlicesE.Delete
import Derived.Test.YtkgcbbkodalfmaaGreatDoorProg
import Derived.KernelRfl
namespace Go.Proofs.YtkgcbbkodalfmaaGreatDoor
open Go.Shelf
def Tryz.lay160_ren:Go.Shelf.Ren:=⟨fun|160=>291|232=>314|231=>313|227=>315|234=>317|233=>316|236=>319|235=>318|228=>329|271=>332|151=>331|197=>330|120=>339|152=>338|260=>337|137=>340|119=>341|224=>342|225=>343|217=>344|266=>345|n=>n,fun|9=>9|4=>4|3=>3|5=>5|117=>263|116=>262|0=>0|124=>266|21=>21|105=>272|46=>120|119=>276|139=>279|138=>278|n=>n,fun|3=>0|4=>1|n=>n⟩
theorem Tryz.lay160:Go.Proofs.Lays.n160 Tryz.prog Tryz.lay160_ren:={
 mixed:=by kernel_rfl
 f119:=Tryz.func341.trans (congrArg some (by kernel_rfl))
 f120:=Tryz.func339.trans (congrArg some (by kernel_rfl))
 f137:=Tryz.func340.trans (congrArg some (by kernel_rfl))
 f151:=Tryz.func331.trans (congrArg some (by kernel_rfl))
 f152:=Tryz.func338.trans (congrArg some (by kernel_rfl))
 f160:=Tryz.func291.trans (congrArg some (by kernel_rfl))
 f197:=Tryz.func330.trans (congrArg some (by kernel_rfl))
 f217:=Tryz.func344.trans (congrArg some (by kernel_rfl))
 f224:=Tryz.func342.trans (congrArg some (by kernel_rfl))
 f225:=Tryz.func343.trans (congrArg some (by kernel_rfl))
 f227:=Tryz.func315.trans (congrArg some (by kernel_rfl))
 f228:=Tryz.func329.trans (congrArg some (by kernel_rfl))
 f231:=Tryz.func313.trans (congrArg some (by kernel_rfl))
 f232:=Tryz.func314.trans (congrArg some (by kernel_rfl))
 f233:=Tryz.func316.trans (congrArg some (by kernel_rfl))
 f234:=Tryz.func317.trans (congrArg some (by kernel_rfl))
 f235:=Tryz.func318.trans (congrArg some (by kernel_rfl))
 f236:=Tryz.func319.trans (congrArg some (by kernel_rfl))
 f260:=Tryz.func337.trans (congrArg some (by kernel_rfl))
 f266:=Tryz.func345.trans (congrArg some (by kernel_rfl))
 f271:=Tryz.func332.trans (congrArg some (by kernel_rfl))
 t0:=Tryz.underlying0
 a0:=Tryz.isAgg0
 z0:=Tryz.sizeOf0
 v0:=Tryz.zeroValue0
 t3:=Tryz.underlying3
 a3:=Tryz.isAgg3
 z3:=Tryz.sizeOf3
 v3:=Tryz.zeroValue3
 t4:=Tryz.underlying4
 a4:=Tryz.isAgg4
 z4:=Tryz.sizeOf4
 v4:=Tryz.zeroValue4
 t5:=Tryz.underlying5
 a5:=Tryz.isAgg5
 z5:=Tryz.sizeOf5
 v5:=Tryz.zeroValue5
 t9:=Tryz.underlying9
 a9:=Tryz.isAgg9
 z9:=Tryz.sizeOf9
 v9:=Tryz.zeroValue9
 t21:=Tryz.underlying21
 a21:=Tryz.isAgg21
 z21:=Tryz.sizeOf21
 v21:=Tryz.zeroValue21
 t46:=Tryz.underlying120
 a46:=Tryz.isAgg120
 z46:=Tryz.sizeOf120
 v46:=Tryz.zeroValue120
 t105:=Tryz.underlying272
 a105:=Tryz.isAgg272
 z105:=Tryz.sizeOf272
 v105:=Tryz.zeroValue272
 t116:=Tryz.underlying262
 a116:=Tryz.isAgg262
 z116:=Tryz.sizeOf262
 t117:=Tryz.underlying263
 a117:=Tryz.isAgg263
 z117:=Tryz.sizeOf263
 v117:=Tryz.zeroValue263
 t119:=Tryz.underlying276
 a119:=Tryz.isAgg276
 z119:=Tryz.sizeOf276
 t124:=Tryz.underlying266
 a124:=Tryz.isAgg266
 z124:=Tryz.sizeOf266
 v124:=Tryz.zeroValue266
 t138:=Tryz.underlying278
 a138:=Tryz.isAgg278
 z138:=Tryz.sizeOf278
 v138:=Tryz.zeroValue278
 t139:=Tryz.underlying279
 a139:=Tryz.isAgg279
 z139:=Tryz.sizeOf279
 v139:=Tryz.zeroValue279
 g3:=by kernel_rfl
 g4:=by kernel_rfl}
def Tryz.lay212_ren:Go.Shelf.Ren:=⟨fun|212=>226|263=>275|264=>276|n=>n,fun|46=>120|51=>231|146=>232|53=>65|148=>234|n=>n,fun|n=>n⟩
theorem Tryz.lay212:Go.Proofs.Lays.n212 Tryz.prog Tryz.lay212_ren:={
 mixed:=by kernel_rfl
 f212:=Tryz.func226.trans (congrArg some (by kernel_rfl))
 f263:=Tryz.func275.trans (congrArg some (by kernel_rfl))
 f264:=Tryz.func276.trans (congrArg some (by kernel_rfl))
 t46:=Tryz.underlying120
 a46:=Tryz.isAgg120
 z46:=Tryz.sizeOf120
 v46:=Tryz.zeroValue120
 t51:=Tryz.underlying231
 a51:=Tryz.isAgg231
 z51:=Tryz.sizeOf231
 v51:=Tryz.zeroValue231
 t53:=Tryz.underlying65
 a53:=Tryz.isAgg65
 z53:=Tryz.sizeOf65
 v53:=Tryz.zeroValue65
 t146:=Tryz.underlying232
 a146:=Tryz.isAgg232
 z146:=Tryz.sizeOf232
 v146:=Tryz.zeroValue232
 t148:=Tryz.underlying234
 a148:=Tryz.isAgg234
 z148:=Tryz.sizeOf234
 v148:=Tryz.zeroValue234}
def Tryz.laysDel_ren:Go.Shelf.Ren:=⟨fun|45=>180|n=>n,fun|22=>31|23=>2|3=>3|4=>4|0=>0|n=>n,fun|n=>n⟩
theorem Tryz.laysDel:Go.Proofs.SlLaysE.n45 Tryz.prog Tryz.laysDel_ren:={
 mixed:=by kernel_rfl
 f45:=⟨Tryz.f180.name,by decide,Tryz.func180.trans (congrArg some (by kernel_rfl))⟩
 t0:=Tryz.underlying0
 a0:=Tryz.isAgg0
 z0:=Tryz.sizeOf0
 v0:=Tryz.zeroValue0
 t3:=Tryz.underlying3
 a3:=Tryz.isAgg3
 z3:=Tryz.sizeOf3
 v3:=Tryz.zeroValue3
 t4:=Tryz.underlying4
 a4:=Tryz.isAgg4
 z4:=Tryz.sizeOf4
 v4:=Tryz.zeroValue4
 t22:=Tryz.underlying31
 a22:=Tryz.isAgg31
 z22:=Tryz.sizeOf31
 v22:=Tryz.zeroValue31
 a23:=Tryz.isAgg2
 z23:=Tryz.sizeOf2}
end Go.Proofs.YtkgcbbkodalfmaaGreatDoor
