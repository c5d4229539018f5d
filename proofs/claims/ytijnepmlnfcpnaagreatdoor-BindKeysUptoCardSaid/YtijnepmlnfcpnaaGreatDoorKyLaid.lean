/-
  KEYS: what the rows lay in package variables, as the machine's content.
-/
import Derived.Test.YtijnepmlnfcpnaaGreatDoorKyCfg
import Derived.Test.YtijnepmlnfcpnaaGreatDoorAmLaid
import Derived.Test.YtijnepmlnfcpnaaGreatDoorRows
import Derived.LaidSub
set_option linter.unusedVariables false
set_option linter.unusedSimpArgs false
set_option linter.unusedSimpArgs false
set_option linter.unusedVariables false
set_option maxRecDepth 100000
namespace Go.Proofs.Ky
open Go Go.Am Go.Proofs Go.RowKit Go.Lib
open Go.Proofs.YtijnepmlnfcpnaaGreatDoor

def kindsL : List Int := (List.range 128).map kindT
def accPairs : List (Int × Int) := (List.range 16).map fun i => ((accLo i : Int), (accHi i : Int))
theorem kinds_data : (Rows.laid_caisson_lex_kinds : DataW Unit) = .agg (kindsL.map fun z => .lit (.int .u8 z)) := by kernel_rfl
theorem first_data : (Rows.laid_unicode_utf8_first : DataW Unit) = .agg (firstL.map fun z => .lit (.int .u8 z)) := by kernel_rfl
theorem acc_data : (Rows.laid_unicode_utf8_acceptRanges : DataW Unit) = .agg (accPairs.map fun z => .agg [.lit (.int .u8 z.1), .lit (.int .u8 z.2)]) := by kernel_rfl
theorem pow_data : (Rows.laid_internal_strconv_uint64pow10 : DataW Unit) = .agg (powL.map fun z => .lit (.int .u64 z)) := by kernel_rfl
theorem glob_kinds : Cl.glob 0 = some (kindsL.map (AVal.int .u8)) := rfl
theorem glob_first : Cl.glob 2 = some (firstL.map (AVal.int .u8)) := rfl
theorem glob_acc : Cl.glob 3 = some (accL.map (AVal.int .u8)) := rfl

theorem pow_data1 : (Rows.laid_internal_strconv_uint64pow10 : DataW Unit) = Lib.tabData .u64 Lib.pow10Tab := by kernel_rfl
theorem pow_var {W : World} {l : List (String × DataW Unit)} {ps : List MemPlace} (hl : DataW.LaidVars Tryz.prog W l ps) (h4 : ("internal/strconv.uint64pow10", Rows.laid_internal_strconv_uint64pow10) ∈ l) : known1 (W.heap[1]?) := by
  obtain ⟨g, t, cs, fuel, p, hg, ht, hv, htr⟩ := laid_mem hl h4
  have hg4 : Tryz.prog.globalNamed "internal/strconv.uint64pow10" = some 1 := by kernel_rfl
  obtain rfl := Option.some.inj (hg4.symm.trans hg)
  obtain rfl : t = 273 := Option.some.inj (ht.symm.trans (show (Tryz.prog.globals[1]?).map (·.type) = some 273 from rfl))
  rw [pow_data1] at htr
  have e := Lib.cells_of_tab (n := 20) (show Tryz.prog.underlying 273 = some (.array 20 _) from rfl) (show Tryz.prog.underlying _ = some (.int .u64) from rfl) (by kernel_rfl) (by kernel_rfl) htr
  unfold World.var? at hv
  rw [hg4] at hv
  simp only [Option.bind_some] at hv
  split at hv
  · rename_i c e2 f hh
    cases hv
    exact ⟨e2, f, by rw [hh, ← e]⟩
  · cases hv
theorem globOk {W : World} {l : List (String × DataW Unit)} {ps : List MemPlace} (hl : DataW.LaidVars Tryz.prog W l ps) (h0 : ("caisson/lex.kinds", Rows.laid_caisson_lex_kinds) ∈ l) (h1 : ("unicode/utf8.first", Rows.laid_unicode_utf8_first) ∈ l)
    (h2 : ("unicode/utf8.acceptRanges", Rows.laid_unicode_utf8_acceptRanges) ∈ l) (h3 : ("internal/strconv.uint64pow10", Rows.laid_internal_strconv_uint64pow10) ∈ l) : GlobOk Cl W.heap.size (Am.start W) := by
  have k0 := tab_ints (P := Tryz.prog) (zs := kindsL) (k := .u8) (N := 128) (e := 5) hl h0 (g := 0) (by kernel_rfl) (show (Tryz.prog.globals[0]?).map (·.type) = some _ from rfl) rfl rfl (by kernel_rfl) kinds_data (by kernel_rfl)
  have k1 := tab_ints (P := Tryz.prog) (zs := firstL) (k := .u8) (N := 256) (e := 5) hl h1 (g := 2) (by kernel_rfl) (show (Tryz.prog.globals[2]?).map (·.type) = some _ from rfl) rfl rfl (by kernel_rfl) first_data (by kernel_rfl)
  have k2 := tab_pairs (P := Tryz.prog) (zs := accPairs) (k := .u8) (N := 16) hl h2 (g := 3) (by kernel_rfl) (show (Tryz.prog.globals[3]?).map (·.type) = some _ from rfl) rfl rfl (by kernel_rfl) rfl rfl rfl rfl (by kernel_rfl) (by kernel_rfl) acc_data (by kernel_rfl)
  have k3 := tab_ints (P := Tryz.prog) (zs := powL) (k := .u64) (N := 20) (e := 243) hl h3 (g := 1) (by kernel_rfl) (show (Tryz.prog.globals[1]?).map (·.type) = some _ from rfl) rfl rfl (by kernel_rfl) pow_data (by kernel_rfl)
  have k2' : ∀ (j : Nat) (z : Int), accL[j]? = some z → W.cell? ⟨3, j, none⟩ = some (.int .u8 z) := by
    intro j z hz
    have hj : j < 32 := by
      rcases Nat.lt_or_ge j 32 with h | h
      · exact h
      · rw [List.getElem?_eq_none (by unfold accL; simp; omega)] at hz; cases hz
    have hp : accPairs[j / 2]? = some ((accLo (j / 2) : Int), (accHi (j / 2) : Int)) := by
      unfold accPairs
      rw [List.getElem?_map, List.getElem?_range (by omega)]
      rfl
    obtain ⟨c1, c2⟩ := k2 _ _ hp
    unfold accL at hz
    rw [List.getElem?_map, List.getElem?_range (by omega)] at hz
    simp only [Option.map_some, Option.some.injEq] at hz
    by_cases he : j % 2 = 0
    · rw [if_pos he] at hz
      subst hz
      rw [show j = 2 * (j / 2) from by omega]
      rw [show 2 * (j / 2) / 2 = j / 2 from by omega]
      exact c1
    · rw [if_neg he] at hz
      subst hz
      rw [show j = 2 * (j / 2) + 1 from by omega]
      rw [show (2 * (j / 2) + 1) / 2 = j / 2 from by omega]
      exact c2
  refine ⟨fun gi cells hg => ?_, fun p hp => ?_⟩
  rotate_left
  · simp only [Cl, List.mem_cons, List.not_mem_nil, or_false] at hp
    subst hp
    have k4 := pow_var hl h3
    refine ⟨?_, k4⟩
    obtain ⟨e, f, h⟩ := k4
    exact Am.lt_of_heap h
  change globs gi = some cells at hg
  unfold globs at hg
  split at hg
  · rename_i e; subst e; cases hg; exact glob_ints k0
  · split at hg
    · rename_i e; subst e; cases hg; exact glob_ints k3
    · split at hg
      · rename_i e; subst e; cases hg; exact glob_ints k1
      · split at hg
        · rename_i e; subst e; cases hg; exact glob_ints k2'
        · cases hg
end Go.Proofs.Ky
