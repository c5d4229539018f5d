/-
  TYPED MODELS: a call of a function of content, of values without addresses, hangs on no memory.
-/
import Derived.Test.YtijnepmlnfcpnaaGreatDoorAmTyped
set_option linter.unusedVariables false
set_option linter.unusedSimpArgs false
namespace Go.Am
open Go
theorem apure_of {C : Cfg} {f : FuncId} {args : List AVal} (hs : C.foc f = true) (hb : ((C.P.funcs[f]?).bind (·.body)).isSome = true) (hr : refsL args = []) : apure C f args = true := by
  simp [apure, hs, hb, hr]
theorem refs_cons {v : AVal} {l : List AVal} (h1 : refs v = []) (h2 : refsL l = []) : refsL (v :: l) = [] := by simp only [refsL, h1, h2, List.append_nil]
end Go.Am
