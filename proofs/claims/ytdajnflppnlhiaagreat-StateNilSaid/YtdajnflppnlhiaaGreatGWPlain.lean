import Derived.Test.YtdajnflppnlhiaaGreatGWOps
set_option linter.unusedVariables false
namespace GW
open Go Go.RowKit
end GW
