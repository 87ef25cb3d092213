import Derived.Test.YtnambbcafhnhpaaGreatDoorLibS
import Derived.Test.YtnambbcafhnhpaaGreatDoorSh
namespace Go.Proofs.YtnambbcafhnhpaaGreatDoor
open Go.RowKit
set_option linter.unusedVariables false
set_option linter.unusedSimpArgs false
theorem ZP(w:World)(s t y:List UInt8)(hy:Oz s t=some y):
  Calls Tryz.prog 215 #[.string ⟨s.toArray⟩,.string ⟨t.toArray⟩] w fun e w'=>e= .returned (.string ⟨y.toArray⟩)∧aG vI w w':=by
 unfold Oz at hy
 split at hy
 ·rename_i hh
  obtain⟨h1,h2,h3⟩:=hh
  obtain rfl:=Option.some.inj hy
  have hs:(⟨s.toArray⟩:ByteArray).size=s.length:=by show s.toArray.size=_;simp
  have ht:(⟨t.toArray⟩:ByteArray).size=t.length:=by show t.toArray.size=_;simp
  refine(Any.strings_Trim_laid Tryz.lay160 (by kernel_rfl) ⟨s.toArray⟩ ⟨t.toArray⟩ w (by omega) (by omega) (ascii_of_all h3)).mono ?_
  rintro e w' ⟨rfl,hb⟩
  exact⟨rfl,aG.noB_below hb⟩
 ·cases hy
end Go.Proofs.YtnambbcafhnhpaaGreatDoor
