import Derived.Test.YthfbbjoaidajfaaGreatDoorParCfg
import Derived.Test.YthfbbjoaidajfaaGreatDoorAmLaid
import Derived.Test.YthfbbjoaidajfaaGreatDoorRows
import Derived.LaidSub
set_option linter.unusedVariables false
set_option linter.unusedSimpArgs false
set_option linter.unusedSimpArgs false
set_option linter.unusedVariables false
set_option maxRecDepth 100000
namespace Go.Proofs.Q.Par
open Go Go.Am Go.Proofs Go.RowKit Go.Lib
open Go.Proofs.YthfbbjoaidajfaaGreatDoor
def kindsL : List Int := (List.range 128).map kindT
def accPairs : List (Int × Int) := (List.range 16).map fun i => ((accLo i : Int), (accHi i : Int))
theorem kinds_data : (Rows.laid_caisson_lex_kinds : DataW Unit) = .agg (kindsL.map fun z => .lit (.int .u8 z)) := by kernel_rfl
theorem first_data : (Rows.laid_unicode_utf8_first : DataW Unit) = .agg (firstL.map fun z => .lit (.int .u8 z)) := by kernel_rfl
theorem acc_data : (Rows.laid_unicode_utf8_acceptRanges : DataW Unit) = .agg (accPairs.map fun z => .agg [.lit (.int .u8 z.1), .lit (.int .u8 z.2)]) := by kernel_rfl
theorem u131 : ∃ m, Tryz.prog.underlying 131 = some (.interface m) := ⟨_, rfl⟩
theorem err_cell {W : World} {l : List (String × DataW Unit)} {ps : List MemPlace} (hl : DataW.LaidVars Tryz.prog W l ps) (h3 : ("strconv.ErrRange", Rows.laid_strconv_ErrRange) ∈ l) : ∃ u x, W.cell? ⟨8, 0, none⟩ = some (.iface u x) := by
  obtain ⟨g, t, cs, fuel, p, hg, ht, hv, htr⟩ := laid_mem hl h3
  have hg8 : Tryz.prog.globalNamed "strconv.ErrRange" = some 8 := by kernel_rfl
  obtain rfl := Option.some.inj (hg8.symm.trans hg)
  obtain rfl : t = 131 := Option.some.inj (ht.symm.trans (show (Tryz.prog.globals[8]?).map (·.type) = some 131 from rfl))
  have hc := World.var?_cell hg hv 0
  obtain ⟨m, hm⟩ := u131
  cases fuel with
  | zero => simp [DataW.trod] at htr
  | succ n =>
    unfold DataW.trod at htr
    rw [hm] at htr
    obtain ⟨L, hL⟩ : ∃ L, L = cs.toList := ⟨_, rfl⟩
    rw [← hL] at htr
    have h0 : cs[0]? = L[0]? := by rw [hL]; simp
    rw [h0] at hc
    match L, htr with
    | [], htr => simp at htr
    | [v], htr =>
      cases v with
      | iface u x =>
        simp only at htr
        exact ⟨u, x, hc⟩
      | nilIface =>
        simp only at htr
        have := (Prod.mk.inj (Option.some.inj htr)).1
        unfold Rows.laid_strconv_ErrRange at this
        cases this
      | _ => simp at htr
    | a :: b :: r, htr => simp at htr
theorem pow_data : (Rows.laid_internal_strconv_uint64pow10 : DataW Unit) = Lib.tabData .u64 Lib.pow10Tab := by kernel_rfl
theorem pow_var {W : World} {l : List (String × DataW Unit)} {ps : List MemPlace} (hl : DataW.LaidVars Tryz.prog W l ps) (h4 : ("internal/strconv.uint64pow10", Rows.laid_internal_strconv_uint64pow10) ∈ l) : known4 (W.heap[4]?) := by
  obtain ⟨g, t, cs, fuel, p, hg, ht, hv, htr⟩ := laid_mem hl h4
  have hg4 : Tryz.prog.globalNamed "internal/strconv.uint64pow10" = some 4 := by kernel_rfl
  obtain rfl := Option.some.inj (hg4.symm.trans hg)
  obtain rfl : t = 186 := Option.some.inj (ht.symm.trans (show (Tryz.prog.globals[4]?).map (·.type) = some 186 from rfl))
  rw [pow_data] at htr
  have e := Lib.cells_of_tab (n := 20) (show Tryz.prog.underlying 186 = some (.array 20 _) from rfl) (show Tryz.prog.underlying _ = some (.int .u64) from rfl) (by kernel_rfl) (by kernel_rfl) htr
  unfold World.var? at hv
  rw [hg4] at hv
  simp only [Option.bind_some] at hv
  split at hv
  · rename_i c e2 f hh
    cases hv
    exact ⟨e2, f, by rw [hh, ← e]⟩
  · cases hv
theorem globOk {W : World} (hsh : W.ShapedOpen Tryz.prog) {l : List (String × DataW Unit)} {ps : List MemPlace} (hl : DataW.LaidVars Tryz.prog W l ps) (h0 : ("caisson/lex.kinds", Rows.laid_caisson_lex_kinds) ∈ l) (h1 : ("unicode/utf8.first", Rows.laid_unicode_utf8_first) ∈ l)
    (h2 : ("unicode/utf8.acceptRanges", Rows.laid_unicode_utf8_acceptRanges) ∈ l) (h3 : ("strconv.ErrRange", Rows.laid_strconv_ErrRange) ∈ l) (h4 : ("internal/strconv.uint64pow10", Rows.laid_internal_strconv_uint64pow10) ∈ l) : GlobOk Cp W.heap.size (Am.start W) := by
  have k0 := tab_ints (P := Tryz.prog) (zs := kindsL) (k := .u8) (N := 128) (e := 5) hl h0 (g := 0) (by kernel_rfl) (show (Tryz.prog.globals[0]?).map (·.type) = some _ from rfl) rfl rfl (by kernel_rfl) kinds_data (by kernel_rfl)
  have k1 := tab_ints (P := Tryz.prog) (zs := firstL) (k := .u8) (N := 256) (e := 5) hl h1 (g := 1) (by kernel_rfl) (show (Tryz.prog.globals[1]?).map (·.type) = some _ from rfl) rfl rfl (by kernel_rfl) first_data (by kernel_rfl)
  have k2 := tab_pairs (P := Tryz.prog) (zs := accPairs) (k := .u8) (N := 16) hl h2 (g := 2) (by kernel_rfl) (show (Tryz.prog.globals[2]?).map (·.type) = some _ from rfl) rfl rfl (by kernel_rfl) rfl rfl rfl rfl (by kernel_rfl) (by kernel_rfl) acc_data (by kernel_rfl)
  have k2' : ∀ (j : Nat) (z : Int), accL[j]? = some z → W.cell? ⟨2, j, none⟩ = some (.int .u8 z) := by
    intro j z hz
    have hj : j < 32 := by
      rcases Nat.lt_or_ge j 32 with h | h
      · exact h
      · rw [List.getElem?_eq_none (by unfold accL; simp; omega)] at hz; cases hz
    have hp : accPairs[j / 2]? = some ((accLo (j / 2) : Int), (accHi (j / 2) : Int)) := by
      unfold accPairs
      rw [List.getElem?_map, List.getElem?_range (by omega)]
      rfl
    obtain ⟨c1, c2⟩ := k2 _ _ hp
    unfold accL at hz
    rw [List.getElem?_map, List.getElem?_range (by omega)] at hz
    simp only [Option.map_some, Option.some.injEq] at hz
    by_cases he : j % 2 = 0
    · rw [if_pos he] at hz
      subst hz
      rw [show j = 2 * (j / 2) from by omega]
      rw [show 2 * (j / 2) / 2 = j / 2 from by omega]
      exact c1
    · rw [if_neg he] at hz
      subst hz
      rw [show j = 2 * (j / 2) + 1 from by omega]
      rw [show (2 * (j / 2) + 1) / 2 = j / 2 from by omega]
      exact c2
  obtain ⟨eu, ex, k8⟩ := err_cell hl h3
  obtain ⟨m, k3⟩ := Tryz.laysM155.s1_3 W hsh
  have cell : ∀ {b : Nat} {v : Value}, W.cell? ⟨b, 0, none⟩ = some v → b < W.heap.size ∧ ∃ cs e f, W.heap[b]? = some (.cells cs e f) ∧ cs[0]? = some v := by
    intro b v h
    refine ⟨Am.lt_of_cell h, ?_⟩
    simp only [World.cell?] at h
    split at h
    · rename_i cs e f hh; exact ⟨cs, e, f, hh, h⟩
    · cases h
  have k4 := pow_var hl h4
  refine ⟨fun gi cells hg => ?_, fun p hp => ?_⟩
  rotate_left
  · simp only [Cp, List.mem_cons, List.not_mem_nil, or_false] at hp
    rcases hp with rfl | rfl | rfl
    · obtain ⟨a, cs, e, f, h1, h2⟩ := cell k3
      exact ⟨a, cs, e, f, m, h1, h2⟩
    · refine ⟨?_, k4⟩
      obtain ⟨e, f, h⟩ := k4
      exact Am.lt_of_heap h
    · obtain ⟨a, cs, e, f, h1, h2⟩ := cell k8
      exact ⟨a, cs, e, f, eu, ex, h1, h2⟩
  change globs gi = some cells at hg
  unfold globs at hg
  split at hg
  · rename_i e; subst e; cases hg; exact glob_ints k0
  · split at hg
    · rename_i e; subst e; cases hg; exact glob_ints k1
    · split at hg
      · rename_i e; subst e; cases hg; exact glob_ints k2'
      · cases hg
end Go.Proofs.Q.Par

