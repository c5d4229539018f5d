import Derived.Test.YthfbbjoaidajfaaGreatDoorAmTyped
set_option linter.unusedVariables false
set_option linter.unusedSimpArgs false
namespace Go.Am
open Go
end Go.Am

