import Derived.Test.YtkohappfcfimmaaDoorProg
import Derived.Test.YtkohappfcfimmaaDoorGC
set_option linter.unusedVariables false
set_option linter.unusedSimpArgs false
set_option maxRecDepth 10000
set_option maxHeartbeats 4000000
namespace GW
open Go Go.RowKit Go.Proofs Go.Proofs.Tryd
noncomputable section
end
end GW
