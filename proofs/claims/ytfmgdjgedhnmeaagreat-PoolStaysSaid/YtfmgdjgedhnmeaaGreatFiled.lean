/- rookerylaw.crowded: is some block held very often? · rookerylaw.filed: a closed fact. -/
import Derived.Laws.BytesArg
import Derived.Lib.SlBytesConst
import Derived.Test.YtfmgdjgedhnmeaaGreatPut
import Derived.Test.YtfmgdjgedhnmeaaGreatFileFacts
namespace Go.Proofs.YtfmgdjgedhnmeaaGreat
open Go.RowKit
set_option linter.unusedVariables false
set_option linter.unusedSimpArgs false
end Go.Proofs.YtfmgdjgedhnmeaaGreat
