/-
  WEIGHTS: how long a slice that is read may be: by what is asked of each reading's weight.
-/
import Derived.Test.YtijnepmlnfcpnabGreatDoorAmCont
set_option linter.unusedVariables false
set_option linter.unusedSimpArgs false
set_option linter.unusedSimpArgs false
set_option linter.unusedVariables false
namespace Go.Am
open Go

variable {H : Type} {enc : TypeId × Value → H} {P : Program} {W : World} {spare : Nat → Bool}

theorem trod_struct {n : Nat} {t : TypeId} {cs : List Value} {d : DataW H} {ps : List MemPlace} {fs : Array Field} (hu : P.underlying t = some (.struct fs)) (h : DataW.trod enc P W 0 spare true (n + 1) t cs = some (d, ps)) :
    ∃ xs : List (DataW H × List MemPlace), d = .agg (xs.map (·.1)) ∧ fs.toList.mapM (fun f => DataW.trod enc P W 0 spare true n f.type ((cs.drop f.offset).take (P.cellsOf f.type))) = some xs := by
  unfold DataW.trod at h
  rw [hu] at h
  simp only at h
  split at h
  case isFalse => cases h
  simp only [Option.map_eq_some_iff, Prod.mk.injEq] at h
  obtain ⟨xs, hxs, rfl, rfl⟩ := h
  exact ⟨xs, rfl, hxs⟩
theorem trod_slice {n : Nat} {t e : TypeId} {a : Addr} {len cap : Nat} {d : DataW H} {ps : List MemPlace} (hu : P.underlying t = some (.slice e)) (h : DataW.trod enc P W 0 spare true (n + 1) t [.slice (some a) len cap] = some (d, ps)) :
    ∃ elems sp : List (DataW H), d = .slice elems sp ∧ elems.length = len := by
  unfold DataW.trod at h
  rw [hu] at h
  simp only at h
  split at h
  case isFalse => cases h
  simp only [Option.bind_eq_some_iff, Option.map_eq_some_iff, Prod.mk.injEq] at h
  obtain ⟨xs, hxs, rest, hrest, rfl, rfl⟩ := h
  obtain ⟨hx1, hx2⟩ := mapM_some hxs
  exact ⟨_, _, rfl, by simpa using hx1⟩
end Go.Am
