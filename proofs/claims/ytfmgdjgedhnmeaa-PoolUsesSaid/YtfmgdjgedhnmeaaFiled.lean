/- rookerylaw.crowded: is some block held very often? · rookerylaw.filed: a closed fact. -/
import Derived.Laws.BytesArg
import Derived.Lib.SlBytesConst
import Derived.Test.YtfmgdjgedhnmeaaPut
import Derived.Test.YtfmgdjgedhnmeaaFileFacts
namespace Go.Proofs.Ytfmgdjgedhnmeaa
open Go.RowKit
set_option linter.unusedVariables false
set_option linter.unusedSimpArgs false
end Go.Proofs.Ytfmgdjgedhnmeaa
