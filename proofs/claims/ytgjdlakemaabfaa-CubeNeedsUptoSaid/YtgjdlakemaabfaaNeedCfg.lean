/-
  CUBE: the machine's configuration for CubeNeeds.
-/
import Derived.Test.YtgjdlakemaabfaaCubeSumm
import Derived.Test.YtgjdlakemaabfaaAmTyped
set_option linter.unusedVariables false
set_option linter.unusedSimpArgs false
set_option maxRecDepth 100000
namespace Go.Proofs.Need
open Go Go.Am Go.Proofs
noncomputable def Cn : Cfg := { P := Try.prog, foc := fun f => [6, 7, 20, 21, 29, 35, 36, 37, 38, 39, 42, 44, 48, 49, 50, 51, 52, 53, 56, 57].contains f, summ := Cube.summs, glob := fun _ => none, own := fun p => ["cube.go:40", "cube.go:41"].contains p, cbox := fun p => ["cube.go:25", "ref.go:26", "law.go:43"].contains p }
theorem summOk : SummOk Cn := Cube.summ_ok rfl rfl
end Go.Proofs.Need
