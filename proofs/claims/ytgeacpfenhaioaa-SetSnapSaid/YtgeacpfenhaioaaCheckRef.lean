/- rookeryref.CheckStore: the same. -/
import Derived.Test.YtgeacpfenhaioaaOutside
import Derived.Test.YtgeacpfenhaioaaFormOf
namespace Go.Proofs.Ytgeacpfenhaioaa
open Go.RowKit
set_option linter.unusedVariables false

end Go.Proofs.Ytgeacpfenhaioaa
