/- Maps ranged over: rules. Own work of this session. -/
import Derived.Test.YtfkhglkcplnppaaDoorHwS
import Derived.Maps.RangeRun
set_option linter.unusedVariables false
namespace Go.Hw
open Go

section
variable {κ ν : Type} {P : Program} {w0 : World} {n : Nat} {ρ : Env} {H : Hp} {d : Option Nat} {ty : TypeId} {pos : String} {af : Array Edge} {gd : Option (Nat × Bool)} {kt et : TypeId} {f : κ → Value} {g : ν → Value}

end

end Go.Hw
