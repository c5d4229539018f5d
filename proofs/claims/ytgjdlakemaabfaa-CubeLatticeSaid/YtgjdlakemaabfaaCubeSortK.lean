/-
  CUBE: closed runs of All's sort, in pieces: what the pieces share.
-/
import Derived.Test.YtgjdlakemaabfaaCubeSumm
import Derived.Test.YtgjdlakemaabfaaAmOracle
set_option linter.unusedVariables false
set_option linter.unusedSimpArgs false
set_option maxRecDepth 100000
namespace Go.Proofs.Cube
open Go Go.Am Go.Proofs Go.RowKit

def ints (xs : List Int) : List AVal := xs.map (AVal.int .i64)
end Go.Proofs.Cube
