/-
  BIND: the law of NOT, AND and OR holds.
-/
-- GN BndB
import Derived.Test.YtijnepmlnfcpnaaGreatDoorBndLaw
import Derived.Test.YtijnepmlnfcpnaaGreatDoorBndBFns
set_option linter.unusedVariables false
set_option linter.unusedSimpArgs false
set_option linter.unusedSimpArgs false
set_option linter.unusedVariables false
set_option maxRecDepth 100000
namespace Go.Proofs.Bnd
open Go Go.Am Go.Proofs

theorem hold21 {t : TestT} {f : Fact} {b : Bool} (hs : sz t ≤ 4096) (h : F77 5000 t f = some b) : G21 t f = some b := by
  have hw : walkN t 0 = sz t := by rw [walk_sz t 0 (by omega)]; omega
  have hd : decide (((sz t : Nat) : Int) ≤ 4096) = true := by simp; omega
  simp only [G21, M21, m21_0, m21_1, seqM, condM, blockM, skipM, exitM, retM, S66, hw, Option.bind_some, hd, h, cond_true, Bool.true_and]
theorem reads22 {t : TestT} {p : Int × Bool} (hs : sz t ≤ 4096) (h : F78 5000 t = some p) : G22 t = some p := by
  have hw : walkN t 0 = sz t := by rw [walk_sz t 0 (by omega)]; omega
  have hd : decide (((sz t : Nat) : Int) > 4096) = false := by simp; omega
  simp only [G22, M22, m22_0, m22_1, m22_2, m22_3, seqM, condM, blockM, skipM, exitM, retM, S66, hw, Option.bind_some, hd, h]
abbrev nT (t : TestT) : TestT := .mk 3 t .nil false 0 0 [] []
abbrev aT (l r : TestT) : TestT := .mk 1 l r false 0 0 [] []
abbrev oT (l r : TestT) : TestT := .mk 2 l r false 0 0 [] []
theorem law_ok {x y : Bound} {f : Fact} (hx : OkT x.Where) (hy : OkT y.Where) (hf : OkF f) : G6 x y f = some true := by
  obtain ⟨l, hl⟩ : ∃ l, l = x.Where := ⟨_, rfl⟩
  obtain ⟨r, hr⟩ : ∃ r, r = y.Where := ⟨_, rfl⟩
  rw [← hl] at hx
  rw [← hr] at hy
  have n1 := nodes_ok 5000 l 900 (by omega) (by omega)
  have n2 := nodes_ok 5000 r 900 (by omega) (by omega)
  have n1' : F20 5000 l 900 = some ((min 900 (sz l) : Nat) : Int) := n1
  have n2' : F20 5000 r 900 = some ((min 900 (sz r) : Nat) : Int) := n2
  cases hln : l.isNil with
  | true => simp only [G6, M6, m6_0, m6_1, m6_2, m6_3, m6_4, m6_5, m6_6, m6_7, m6_8, m6_9, m6_10, m6_11, m6_12, m6_13, m6_14, m6_15, m6_16, m6_17, seqM, condM, blockM, skipM, exitM, retM, S9, ← hl, ← hr, hln, Option.bind_some, cond_true, cond_false, Bool.true_or, Bool.not_true, Bool.false_eq_true]
  | false =>
    cases hrn : r.isNil with
    | true => simp only [G6, M6, m6_0, m6_1, m6_2, m6_3, m6_4, m6_5, m6_6, m6_7, m6_8, m6_9, m6_10, m6_11, m6_12, m6_13, m6_14, m6_15, m6_16, m6_17, seqM, condM, blockM, skipM, exitM, retM, S9, ← hl, ← hr, hln, hrn, Option.bind_some, cond_true, cond_false, Bool.true_or, Bool.or_true, Bool.not_true, Bool.not_false, Bool.false_or]
    | false =>
      cases hd1 : decide (((min 900 (sz l) : Nat) : Int) ≥ 900) with
      | true => simp only [G6, M6, m6_0, m6_1, m6_2, m6_3, m6_4, m6_5, m6_6, m6_7, m6_8, m6_9, m6_10, m6_11, m6_12, m6_13, m6_14, m6_15, m6_16, m6_17, seqM, condM, blockM, skipM, exitM, retM, S9, ← hl, ← hr, hln, hrn, n1', hd1, Option.bind_some, cond_true, cond_false, Bool.true_or, Bool.or_true, Bool.not_true, Bool.not_false, Bool.false_or]
      | false =>
        cases hd2 : decide (((min 900 (sz r) : Nat) : Int) ≥ 900) with
        | true => simp only [G6, M6, m6_0, m6_1, m6_2, m6_3, m6_4, m6_5, m6_6, m6_7, m6_8, m6_9, m6_10, m6_11, m6_12, m6_13, m6_14, m6_15, m6_16, m6_17, seqM, condM, blockM, skipM, exitM, retM, S9, ← hl, ← hr, hln, hrn, n1', hd1, n2', hd2, Option.bind_some, cond_true, cond_false, Bool.true_or, Bool.or_true, Bool.not_true, Bool.not_false, Bool.false_or]
        | false =>
          have z1 : sz l < 900 := by simp only [decide_eq_false_iff_not] at hd1; omega
          have z2 : sz r < 900 := by simp only [decide_eq_false_iff_not] at hd2; omega
          obtain ⟨a, ha⟩ := holds_ok hf l hx
          obtain ⟨b, hb⟩ := holds_ok hf r hy
          obtain ⟨p, hp⟩ := reads_ok l
          obtain ⟨q, hq⟩ := reads_ok r
          have F : ∀ (n : Nat) (t : TestT) (g : Fact), F77 (n + 1) t g = G77 (F77 n) t g := fun _ _ _ => rfl
          have vl := hold21 (f := f) (by omega) (ha 5000 (by omega))
          have vr := hold21 (f := f) (by omega) (hb 5000 (by omega))
          have v1 : G21 (nT l) f = some (!a) := hold21 (by simp only [sz]; omega) ((F 4999 _ _).trans (holds_not (ha 4999 (by omega)) hln))
          have v3 : G21 (aT l r) f = some (a && b) := hold21 (by simp only [sz]; omega) ((F 4999 _ _).trans (holds_and (ha 4999 (by omega)) (hb 4999 (by omega))))
          have v4 : G21 (oT l r) f = some (a || b) := hold21 (by simp only [sz]; omega) ((F 4999 _ _).trans (holds_or (ha 4999 (by omega)) (hb 4999 (by omega))))
          have w1 : F77 4999 (nT l) f = some (!a) := (F 4998 _ _).trans (holds_not (ha 4998 (by omega)) hln)
          have w2 : F77 4999 (nT r) f = some (!b) := (F 4998 _ _).trans (holds_not (hb 4998 (by omega)) hrn)
          have w3 : F77 4999 (aT l r) f = some (a && b) := (F 4998 _ _).trans (holds_and (ha 4998 (by omega)) (hb 4998 (by omega)))
          have v5 : G21 (nT (nT l)) f = some (!(!a)) := hold21 (by simp only [sz]; omega) ((F 4999 _ _).trans (holds_not w1 rfl))
          have v6 : G21 (nT (aT l r)) f = some (!(a && b)) := hold21 (by simp only [sz]; omega) ((F 4999 _ _).trans (holds_not w3 rfl))
          have v7 : G21 (oT (nT l) (nT r)) f = some (!a || !b) := hold21 (by simp only [sz]; omega) ((F 4999 _ _).trans (holds_or w1 w2))
          have u1 := reads22 (t := l) (by omega) (hp 5000 (by omega))
          have u2 := reads22 (t := r) (by omega) (hq 5000 (by omega))
          have u3 : G22 (aT l r) = some (bits .or .i64 p.1 q.1, p.2 || q.2) := reads22 (by simp only [sz]; omega) ((show F78 5000 (aT l r) = G78 (F78 4999) (aT l r) from rfl).trans (reads_and rfl rfl (hp 4999 (by omega)) (hq 4999 (by omega))))
          simp only [nT, aT, oT] at v1 v3 v4 v5 v6 v7 u3
          simp only [G6, M6, m6_0, m6_1, m6_2, m6_3, m6_4, m6_5, m6_6, m6_7, m6_8, m6_9, m6_10, m6_11, m6_12, m6_13, m6_14, m6_15, m6_16, m6_17, seqM, condM, blockM, skipM, exitM, retM, S9, ← hl, ← hr, hln, hrn, n1', hd1, n2', hd2, Option.bind_some, cond_true, cond_false, Bool.not_true, Bool.not_false, Bool.false_or, vl, vr, v1, v3, v4, v5, v6, v7, u1, u2, u3]
          cases a <;> cases b <;> simp [v1, v3, v4, v5, v6, v7, u1, u2, u3]
end Go.Proofs.Bnd
