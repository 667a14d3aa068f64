import Derived.Test.YtdajnflppnlhiaaGreatGWLit
set_option linter.unusedVariables false
set_option linter.unusedSimpArgs false
namespace GW
open Go Go.RowKit
section
variable {P : Program} {n : Nat} {m m' : Mem} {w0 : Base} {l lq : List (Nat × D)} {H HS : List Res} {a : Act} {w : World} {lO : List Oper} {i' : Nat} {r' : Sch} {g' : Option (Nat × Bool)}
variable {Q : Exit → Act → World → Prop} {ty : TypeId} {ps : String} {af : Array Edge} {t : Nat}
end
end GW
