import Derived.Test.YthfbbjoaidajfaaGreatDoorAmTop
import Derived.ChangeArms
import Derived.OpenShut
import Derived.FnData
set_option linter.unusedVariables false
set_option linter.unusedSimpArgs false
set_option linter.unusedSimpArgs false
namespace Go.Am
open Go
theorem laid_mem {P : Program} {w : World} {n : String} {d : DataW Unit} : ∀ {l : List (String × DataW Unit)} {ps : List MemPlace}, DataW.LaidVars P w l ps → (n, d) ∈ l →
    ∃ g t cs fuel p, P.globalNamed n = some g ∧ (P.globals[g]?).map (·.type) = some t ∧ w.var? P n = some cs ∧ DataW.trod (fun _ => ()) P w 0 (fun _ => true) false fuel t cs.toList = some (d, p) := by
  intro l
  induction l with
  | nil => intro ps _ hm; cases hm
  | cons x r ih =>
    obtain ⟨m, e⟩ := x
    intro ps h hm
    obtain ⟨g, t, cs, fuel, p, q, h1, h2, h3, h4, h5, _⟩ := h
    rcases List.mem_cons.1 hm with he | hm
    · cases he
      exact ⟨g, t, cs, fuel, p, h1, h2, h3, h4⟩
    · exact ih h5 hm
theorem tab_ints {P : Program} {w : World} {n : String} {d : DataW Unit} {l : List (String × DataW Unit)} {ps : List MemPlace} (hl : DataW.LaidVars P w l ps) (hm : (n, d) ∈ l) {g : Nat} {t e : TypeId} {N : Nat} {k : IntKind} {zs : List Int}
    (hg : P.globalNamed n = some g) (ht : (P.globals[g]?).map (·.type) = some t) (hu : P.underlying t = some (.array N e)) (he : P.underlying e = some (.int k)) (hc : P.cellsOf e = 1) (hd : d = .agg (zs.map fun z => .lit (.int k z))) (hN : zs.length = N) :
    ∀ (j : Nat) (z : Int), zs[j]? = some z → w.cell? ⟨g, j, none⟩ = some (.int k z) := by
  obtain ⟨g', t', cs, fuel, p, h1, h2, h3, h4⟩ := laid_mem hl hm
  obtain rfl := Option.some.inj (hg.symm.trans h1)
  obtain rfl := Option.some.inj (ht.symm.trans h2)
  obtain ⟨xs, m, _, ex, _, hlen, hel⟩ := DataW.trod_array hu h4
  intro j z hz
  have hj : j < N := by
    rcases Nat.lt_or_ge j zs.length with h | h
    · omega
    · rw [List.getElem?_eq_none h] at hz; cases hz
  have hE := hel j hj
  rw [hc, Nat.mul_one, List.getElem?_eq_getElem (by omega)] at hE
  obtain ⟨y, e1, e2, _⟩ := DataW.trod_int he hE
  have e3 : xs.map (·.1) = zs.map fun z => DataW.lit (.int k z) := by
    have := (Prod.mk.inj ex).1
    rw [hd] at this
    exact (DataW.agg.inj this).symm
  have e4 : (xs.map (·.1))[j]? = (zs.map fun z => (DataW.lit (.int k z) : DataW Unit))[j]? := by rw [e3]
  rw [List.getElem?_map, List.getElem?_map, List.getElem?_eq_getElem (by omega : j < xs.length), hz, e2] at e4
  simp only [Option.map_some, Option.some.injEq, DataW.lit.injEq, Lit.int.injEq, true_and] at e4
  subst e4
  rw [World.var?_cell hg h3 j]
  have h0 : ((cs.toList.drop j).take 1)[0]? = some (.int k y) := by rw [e1]; rfl
  have : cs.toList[j]? = some (.int k y) := by simpa using h0
  simpa using this
theorem tab_pairs {P : Program} {w : World} {n : String} {d : DataW Unit} {l : List (String × DataW Unit)} {ps : List MemPlace} (hl : DataW.LaidVars P w l ps) (hm : (n, d) ∈ l) {g : Nat} {t e : TypeId} {N : Nat} {k : IntKind} {zs : List (Int × Int)} {f1 f2 : Field}
    (hg : P.globalNamed n = some g) (ht : (P.globals[g]?).map (·.type) = some t) (hu : P.underlying t = some (.array N e)) (he : P.underlying e = some (.struct #[f1, f2])) (hc : P.cellsOf e = 2)
    (o1 : f1.offset = 0) (o2 : f2.offset = 1) (t1 : P.underlying f1.type = some (.int k)) (t2 : P.underlying f2.type = some (.int k)) (c1 : P.cellsOf f1.type = 1) (c2 : P.cellsOf f2.type = 1)
    (hd : d = .agg (zs.map fun z => .agg [.lit (.int k z.1), .lit (.int k z.2)])) (hN : zs.length = N) :
    ∀ (j : Nat) (z : Int × Int), zs[j]? = some z → w.cell? ⟨g, 2 * j, none⟩ = some (.int k z.1) ∧ w.cell? ⟨g, 2 * j + 1, none⟩ = some (.int k z.2) := by
  obtain ⟨g', t', cs, fuel, p, h1, h2, h3, h4⟩ := laid_mem hl hm
  obtain rfl := Option.some.inj (hg.symm.trans h1)
  obtain rfl := Option.some.inj (ht.symm.trans h2)
  obtain ⟨xs, m, _, ex, _, hlen, hel⟩ := DataW.trod_array hu h4
  intro j z hz
  have hj : j < N := by
    rcases Nat.lt_or_ge j zs.length with h | h
    · omega
    · rw [List.getElem?_eq_none h] at hz; cases hz
  have hE := hel j hj
  rw [hc, List.getElem?_eq_getElem (by omega)] at hE
  obtain ⟨ys, m', _, ey, _, hyl, hye⟩ := DataW.trod_struct he hE
  have hyl : ys.length = 2 := hyl
  have g1 := hye 0 f1 rfl
  have g2 := hye 1 f2 rfl
  rw [o1, c1, List.getElem?_eq_getElem (by omega)] at g1
  rw [o2, c2, List.getElem?_eq_getElem (by omega)] at g2
  obtain ⟨y1, a1, b1, _⟩ := DataW.trod_int t1 g1
  obtain ⟨y2, a2, b2, _⟩ := DataW.trod_int t2 g2
  have e3 : xs.map (·.1) = zs.map fun z => DataW.agg [.lit (.int k z.1), .lit (.int k z.2)] := by
    have := (Prod.mk.inj ex).1
    rw [hd] at this
    exact (DataW.agg.inj this).symm
  have e4 : (xs.map (·.1))[j]? = (zs.map fun z => (DataW.agg [.lit (.int k z.1), .lit (.int k z.2)] : DataW Unit))[j]? := by rw [e3]
  have eys : ys = [ys[0], ys[1]] := by
    match ys, hyl with
    | [a, b], _ => rfl
  rw [List.getElem?_map, List.getElem?_map, List.getElem?_eq_getElem (by omega : j < xs.length), hz, ey] at e4
  simp only [Option.map_some, Option.some.injEq, DataW.agg.injEq] at e4
  rw [eys] at e4
  simp only [List.map_cons, List.map_nil, b1, b2, List.cons.injEq, DataW.lit.injEq, Lit.int.injEq, true_and, and_true] at e4
  obtain ⟨rfl, rfl⟩ := e4
  have k1 : cs.toList[2 * j]? = some (.int k z.1) := by
    have h0 : ((((cs.toList.drop (j * 2)).take 2).drop 0).take 1)[0]? = some (.int k z.1) := by rw [a1]; rfl
    simp only [List.drop_zero, List.getElem?_take, List.getElem?_drop, Nat.lt_add_one, if_true, Nat.add_zero] at h0
    rw [Nat.mul_comm]
    simpa using h0
  have k2 : cs.toList[2 * j + 1]? = some (.int k z.2) := by
    have h0 : ((((cs.toList.drop (j * 2)).take 2).drop 1).take 1)[0]? = some (.int k z.2) := by rw [a2]; rfl
    simp only [List.getElem?_take, List.getElem?_drop, Nat.lt_add_one, if_true, Nat.add_zero] at h0
    rw [Nat.mul_comm]
    simpa using h0
  rw [World.var?_cell hg h3, World.var?_cell hg h3]
  exact ⟨by simpa using k1, by simpa using k2⟩
theorem glob_ints {w : World} {g : Nat} {k : IntKind} {zs : List Int} (h : ∀ (j : Nat) (z : Int), zs[j]? = some z → w.cell? ⟨g, j, none⟩ = some (.int k z)) :
    ∃ vs, VsRel (allCells w) (fun _ => none) (zs.map (AVal.int k)) vs ∧ ICells (allCells w) g 0 vs := by
  refine ⟨zs.map (Value.int k), VsRel.map_of _ fun _ _ => .int _ _, fun j v hv => ?_⟩
  rw [List.getElem?_map] at hv
  cases hz : zs[j]? with
  | none => rw [hz] at hv; cases hv
  | some z =>
    rw [hz] at hv
    cases hv
    show w.cell? ⟨g, 0 + j, none⟩ = _
    rw [Nat.zero_add]
    exact h j z hz
end Go.Am

