import Derived.Test.YtckljdhdadiphaaGreatDoorLibS
namespace Go.Proofs.YtckljdhdadiphaaGreatDoor
open Go.RowKit
set_option linter.unusedVariables false
set_option linter.unusedSimpArgs false
section
variable {G:Gl} {P:Program} {f:FuncId}
end
end Go.Proofs.YtckljdhdadiphaaGreatDoor
