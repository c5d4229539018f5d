/-
  KEYS: what the document tells is toldB.
-/
-- GN Ky KyB
import Derived.Test.YtijnepmlnfcpnaaGreatDoorKyTold
import Derived.Test.YtijnepmlnfcpnaaGreatDoorKyBFns
import Derived.Lib.ItoaLen
set_option linter.unusedVariables false
set_option linter.unusedSimpArgs false
set_option linter.unusedSimpArgs false
set_option linter.unusedVariables false
set_option maxRecDepth 100000
namespace Go.Proofs.Ky
open Go Go.Am Go.Proofs

def V64 (n : Int) : Prop := -9223372036854775808 ≤ n ∧ n ≤ 9223372036854775807
theorem cat_ok {a b : List UInt8} (h : a.length + b.length ≤ 9223372036854775807) : catT a b = some (a ++ b) := by
  unfold catT; rw [if_pos h]
theorem s75 {n : Int} (h : V64 n) : S75 n = some (Lib.itoa n) := by
  unfold S75; exact if_pos h
theorem s147 {n : Int} (h : V64 n) : S147 n 10 = some (Lib.itoa n) := by
  unfold S147; exact if_pos ⟨rfl, h⟩
theorem g144 (m : Bool) : G144 m = some (boolS m) := by
  cases m <;> simp only [G144, M144, m144_0, m144_1, G194, M194, m194_0, m194_1, m194_2, m194_3, seqM, condM, blockM, skipM, exitM, retM, boolS, Option.bind_some, if_true, Bool.false_eq_true, if_false]
theorem texts_loop (rec76 : TestT → Option (List UInt8)) (k : Int) (l r : TestT) (m : Bool) (i o : Int) (ts : List (List UInt8)) (is : List Int) (hts : ts.length ≤ 9223372036854775807) :
    ∀ (q p : List (List UInt8)) (acc : List UInt8) (hv : ts = p ++ q) (hlen : acc.length + (q.flatMap (toldText 116)).length ≤ 9223372036854775807) (s : Fr76) (h0 : s.t0 = .mk k l r m i o ts is) (h3 : s.t3 = acc) (h4 : s.t4 = (p.length : Int)),
      ∃ s', loopM (L76_9 rec76) s = some (.ext 0, s') ∧ s'.t0 = .mk k l r m i o ts is ∧ s'.t3 = acc ++ q.flatMap (toldText 116) := by
  intro q
  induction q with
  | nil =>
    intro p acc hv hlen s h0 h3 h4
    rw [List.append_nil] at hv
    have h : decide ((p.length : Int) < (ts.length : Int)) = false := by rw [hv]; simp
    exact ⟨{ s with t41 := false }, loopM_ext (by simp only [L76_9, m76_8, seqM, condM, blockM, skipM, exitM, retM, h0, TestT.get, Option.bind_some, h4, h, if_true]), h0, by simp [h3]⟩
  | cons y q ih =>
    intro p acc hv hlen s h0 h3 h4
    have hl2 : ts.length = p.length + (q.length + 1) := by rw [hv]; simp
    have h : decide ((p.length : Int) < (ts.length : Int)) = true := by rw [hl2]; simp; omega
    have w1 : IntKind.wrap .i64 ((p.length : Int) + 1) = (((p ++ [y]).length : Nat) : Int) := by
      rw [wrap64 (by omega) (by omega)]; simp
    have hat : at? ts (p.length : Int) = some y := by rw [hv, at_nat]; simp
    have hll : (toldText 116 y).length = 1 + ((Lib.itoa (y.length : Int)).length + (1 + y.length)) := by simp [toldText]; omega
    simp only [List.flatMap_cons, List.length_append] at hlen
    have e1 : catT acc [116] = some (acc ++ [116]) := cat_ok (by simp only [List.length_cons, List.length_nil]; omega)
    have e2 : S75 (y.length : Int) = some (Lib.itoa (y.length : Int)) := s75 (by unfold V64; omega)
    have e3 : catT (acc ++ [116]) (Lib.itoa (y.length : Int)) = some ((acc ++ [116]) ++ Lib.itoa (y.length : Int)) := cat_ok (by simp only [List.length_append, List.length_cons, List.length_nil]; omega)
    have e4 : catT ((acc ++ [116]) ++ Lib.itoa (y.length : Int)) [58] = some (((acc ++ [116]) ++ Lib.itoa (y.length : Int)) ++ [58]) := cat_ok (by simp only [List.length_append, List.length_cons, List.length_nil]; omega)
    have e5 : catT (((acc ++ [116]) ++ Lib.itoa (y.length : Int)) ++ [58]) y = some ((((acc ++ [116]) ++ Lib.itoa (y.length : Int)) ++ [58]) ++ y) := cat_ok (by simp only [List.length_append, List.length_cons, List.length_nil]; omega)
    have e6 : (((acc ++ [116]) ++ Lib.itoa (y.length : Int)) ++ [58]) ++ y = acc ++ toldText 116 y := by simp [toldText]
    have hs : ∃ s2, L76_9 rec76 s = some (.nrm, s2) ∧ s2.t0 = .mk k l r m i o ts is ∧ s2.t3 = acc ++ toldText 116 y ∧ s2.t4 = (((p ++ [y]).length : Nat) : Int) := by
      simp only [L76_9, m76_8, m76_7, m76_6, seqM, condM, blockM, skipM, exitM, retM, h0, h3, h4, TestT.get, Option.bind_some, h, hat, e1, e2, e3, e4, e5, e6, w1]
      exact ⟨_, rfl, rfl, rfl, rfl⟩
    obtain ⟨s2, e7, k0, k3, k4⟩ := hs
    rw [loopM_nrm e7]
    obtain ⟨s', e8, q0, q3⟩ := ih (p ++ [y]) (acc ++ toldText 116 y) (by rw [hv]; simp) (by simp only [List.length_append]; omega) s2 k0 k3 k4
    exact ⟨s', e8, q0, by rw [q3]; simp [List.flatMap_cons]⟩
theorem ints_loop (rec76 : TestT → Option (List UInt8)) (k : Int) (l r : TestT) (m : Bool) (i o : Int) (ts : List (List UInt8)) (is : List Int) (hts : is.length ≤ 9223372036854775807) (hV : ∀ n ∈ is, V64 n) :
    ∀ (q p : List Int) (acc : List UInt8) (hv : is = p ++ q) (hlen : acc.length + (q.flatMap (toldInt 105)).length ≤ 9223372036854775807) (s : Fr76) (h0 : s.t0 = .mk k l r m i o ts is) (h3 : s.t3 = acc) (h4 : s.t5 = (p.length : Int)),
      ∃ s', loopM (L76_4 rec76) s = some (.ext 2, s') ∧ s'.t0 = .mk k l r m i o ts is ∧ s'.t3 = acc ++ q.flatMap (toldInt 105) := by
  intro q
  induction q with
  | nil =>
    intro p acc hv hlen s h0 h3 h4
    rw [List.append_nil] at hv
    have h : decide ((p.length : Int) < (is.length : Int)) = false := by rw [hv]; simp
    exact ⟨{ s with t71 := false }, loopM_ext (by simp only [L76_4, m76_3, seqM, condM, blockM, skipM, exitM, retM, h0, TestT.get, Option.bind_some, h4, h, if_true]), h0, by simp [h3]⟩
  | cons y q ih =>
    intro p acc hv hlen s h0 h3 h4
    have hl2 : is.length = p.length + (q.length + 1) := by rw [hv]; simp
    have h : decide ((p.length : Int) < (is.length : Int)) = true := by rw [hl2]; simp; omega
    have w1 : IntKind.wrap .i64 ((p.length : Int) + 1) = (((p ++ [y]).length : Nat) : Int) := by
      rw [wrap64 (by omega) (by omega)]; simp
    have hat : at? is (p.length : Int) = some y := by rw [hv, at_nat]; simp
    have hll : (toldInt 105 y).length = 1 + (Lib.itoa y).length := by simp [toldInt]; omega
    simp only [List.flatMap_cons, List.length_append] at hlen
    have e1 : catT acc [105] = some (acc ++ [105]) := cat_ok (by simp only [List.length_cons, List.length_nil]; omega)
    have e2 : S147 y 10 = some (Lib.itoa y) := s147 (hV y (by rw [hv]; simp))
    have e3 : catT (acc ++ [105]) (Lib.itoa y) = some ((acc ++ [105]) ++ Lib.itoa y) := cat_ok (by simp only [List.length_append, List.length_cons, List.length_nil]; omega)
    have e6 : (acc ++ [105]) ++ Lib.itoa y = acc ++ toldInt 105 y := by simp [toldInt]
    have hs : ∃ s2, L76_4 rec76 s = some (.nrm, s2) ∧ s2.t0 = .mk k l r m i o ts is ∧ s2.t3 = acc ++ toldInt 105 y ∧ s2.t5 = (((p ++ [y]).length : Nat) : Int) := by
      simp only [L76_4, m76_3, m76_2, m76_1, seqM, condM, blockM, skipM, exitM, retM, h0, h3, h4, TestT.get, Option.bind_some, h, hat, e1, e2, e3, e6, w1]
      exact ⟨_, rfl, rfl, rfl, rfl⟩
    obtain ⟨s2, e7, k0, k3, k4⟩ := hs
    rw [loopM_nrm e7]
    obtain ⟨s', e8, q0, q3⟩ := ih (p ++ [y]) (acc ++ toldInt 105 y) (by rw [hv]; simp) (by simp only [List.length_append]; omega) s2 k0 k3 k4
    exact ⟨s', e8, q0, by rw [q3]; simp [List.flatMap_cons]⟩
def dep : TestT → Nat
  | .nil => 0
  | .mk _ l r _ _ _ _ _ => 1 + max (dep l) (dep r)
/-- numbers of 64 bits, and lists that are not too long -/
def OkT : TestT → Prop
  | .nil => True
  | .mk k l r _ i o ts is => OkT l ∧ OkT r ∧ V64 k ∧ V64 i ∧ V64 o ∧ ts.length ≤ 9223372036854775807 ∧ is.length ≤ 9223372036854775807 ∧ ∀ n ∈ is, V64 n
set_option maxHeartbeats 4000000 in
theorem told_ok : ∀ (t : TestT) (n : Nat), dep t < n → OkT t → (toldT t).length ≤ 9223372036854775807 → F76 n t = some (toldT t) := by
  intro t
  induction t with
  | nil =>
    intro n hn _ _
    cases n with
    | zero => omega
    | succ n => simp only [F76, G76, M76, m76_0, m76_1, m76_2, m76_3, L76_4, m76_5, m76_6, m76_7, m76_8, L76_9, m76_10, m76_11, m76_12, m76_13, m76_14, seqM, condM, blockM, skipM, exitM, retM, TestT.isNil, toldT]
  | mk k l r m i o ts is ihl ihr =>
    intro n hn hok hlen
    obtain ⟨okl, okr, vk, vi, vo, lts, lis, vis⟩ := hok
    cases n with
    | zero => omega
    | succ n =>
      simp only [dep] at hn
      simp only [toldT, List.length_append, List.length_cons, List.length_nil] at hlen
      have hL := ihl n (by omega) okl (by omega)
      have hR := ihr n (by omega) okr (by omega)
      obtain ⟨h1, e1⟩ : ∃ x, x = ([40] : List UInt8) ++ Lib.itoa k := ⟨_, rfl⟩
      have c1 : catT ([40] : List UInt8) (Lib.itoa k) = some (([40] : List UInt8) ++ Lib.itoa k) := cat_ok (by simp only [List.length_cons, List.length_nil]; omega)
      have c2 : catT (([40] : List UInt8) ++ Lib.itoa k) ([44] : List UInt8) = some ((([40] : List UInt8) ++ Lib.itoa k) ++ ([44] : List UInt8)) := cat_ok (by simp only [List.length_append, List.length_cons, List.length_nil]; omega)
      have c3 : catT ((([40] : List UInt8) ++ Lib.itoa k) ++ ([44] : List UInt8)) (boolS m) = some (((([40] : List UInt8) ++ Lib.itoa k) ++ ([44] : List UInt8)) ++ boolS m) := cat_ok (by simp only [List.length_append, List.length_cons, List.length_nil]; omega)
      have c4 : catT (((([40] : List UInt8) ++ Lib.itoa k) ++ ([44] : List UInt8)) ++ boolS m) ([44] : List UInt8) = some ((((([40] : List UInt8) ++ Lib.itoa k) ++ ([44] : List UInt8)) ++ boolS m) ++ ([44] : List UInt8)) := cat_ok (by simp only [List.length_append, List.length_cons, List.length_nil]; omega)
      have c5 : catT ((((([40] : List UInt8) ++ Lib.itoa k) ++ ([44] : List UInt8)) ++ boolS m) ++ ([44] : List UInt8)) (Lib.itoa i) = some (((((([40] : List UInt8) ++ Lib.itoa k) ++ ([44] : List UInt8)) ++ boolS m) ++ ([44] : List UInt8)) ++ Lib.itoa i) := cat_ok (by simp only [List.length_append, List.length_cons, List.length_nil]; omega)
      have c6 : catT (((((([40] : List UInt8) ++ Lib.itoa k) ++ ([44] : List UInt8)) ++ boolS m) ++ ([44] : List UInt8)) ++ Lib.itoa i) ([44] : List UInt8) = some ((((((([40] : List UInt8) ++ Lib.itoa k) ++ ([44] : List UInt8)) ++ boolS m) ++ ([44] : List UInt8)) ++ Lib.itoa i) ++ ([44] : List UInt8)) := cat_ok (by simp only [List.length_append, List.length_cons, List.length_nil]; omega)
      have c7 : catT ((((((([40] : List UInt8) ++ Lib.itoa k) ++ ([44] : List UInt8)) ++ boolS m) ++ ([44] : List UInt8)) ++ Lib.itoa i) ++ ([44] : List UInt8)) (Lib.itoa o) = some (((((((([40] : List UInt8) ++ Lib.itoa k) ++ ([44] : List UInt8)) ++ boolS m) ++ ([44] : List UInt8)) ++ Lib.itoa i) ++ ([44] : List UInt8)) ++ Lib.itoa o) := cat_ok (by simp only [List.length_append, List.length_cons, List.length_nil]; omega)
      obtain ⟨acc, hacc⟩ : ∃ acc, acc = ((((((([40] : List UInt8) ++ Lib.itoa k) ++ ([44] : List UInt8)) ++ boolS m) ++ ([44] : List UInt8)) ++ Lib.itoa i) ++ ([44] : List UInt8)) ++ Lib.itoa o := ⟨_, rfl⟩
      rw [← hacc] at c7
      have la : acc.length = 1 + (Lib.itoa k).length + 1 + (boolS m).length + 1 + (Lib.itoa i).length + 1 + (Lib.itoa o).length := by rw [hacc]; simp only [List.length_append, List.length_cons, List.length_nil]
      have hpre : ∃ s1 : Fr76, seqM (m76_14 (F76 n)) (seqM (seqM (m76_13 (F76 n)) (condM (fun s => s.t7) (seqM (m76_12 (F76 n)) (retM)) (skipM))) (seqM (m76_11 (F76 n)) (m76_10 (F76 n)))) { (default : Fr76) with t0 := .mk k l r m i o ts is } = some (.nrm, s1) ∧ s1.t0 = .mk k l r m i o ts is ∧ s1.t3 = acc ∧ s1.t4 = 0 := by
        simp only [m76_14, m76_13, m76_11, m76_10, seqM, condM, blockM, skipM, exitM, retM, TestT.isNil, TestT.get, Option.bind_some, s75 vk, s75 vi, s75 vo, g144, c1, c2, c3, c4, c5, c6, c7]
        exact ⟨_, rfl, rfl, rfl, rfl⟩
      obtain ⟨s1, e1, k0, k3, k4⟩ := hpre
      obtain ⟨s2, hs2, q0, q3⟩ := texts_loop (F76 n) k l r m i o ts is lts ts [] acc rfl (by omega) s1 k0 k3 k4
      obtain ⟨s3, hs3, p0, p3⟩ := ints_loop (F76 n) k l r m i o ts is lis vis is [] (acc ++ ts.flatMap (toldText 116)) rfl (by rw [List.length_append]; omega) { s2 with t5 := 0 } q0 q3 rfl
      obtain ⟨acc2, hacc2⟩ : ∃ acc2, acc2 = (acc ++ ts.flatMap (toldText 116)) ++ is.flatMap (toldInt 105) := ⟨_, rfl⟩
      have la2 : acc2.length = acc.length + (ts.flatMap (toldText 116)).length + (is.flatMap (toldInt 105)).length := by rw [hacc2, List.length_append, List.length_append]
      rw [← hacc2] at p3
      have d1 : catT acc2 (toldT l) = some (acc2 ++ toldT l) := cat_ok (by omega)
      have d2 : catT (acc2 ++ toldT l) (toldT r) = some ((acc2 ++ toldT l) ++ toldT r) := cat_ok (by rw [List.length_append]; omega)
      have d3 : catT ((acc2 ++ toldT l) ++ toldT r) ([41] : List UInt8) = some (((acc2 ++ toldT l) ++ toldT r) ++ ([41] : List UInt8)) := cat_ok (by simp only [List.length_append, List.length_cons, List.length_nil]; omega)
      have hfin : ((acc2 ++ toldT l) ++ toldT r) ++ ([41] : List UInt8) = toldT (.mk k l r m i o ts is) := by
        rw [hacc2, hacc]; simp [toldT]
      have e2 : ∃ s4, M76 (F76 n) { (default : Fr76) with t0 := .mk k l r m i o ts is } = some (.ret, s4) ∧ s4.t2 = toldT (.mk k l r m i o ts is) := by
        simp only [seqM, m76_14, m76_13, m76_11, m76_10, condM, skipM, TestT.isNil, TestT.get, Option.bind_some, s75 vk, s75 vi, s75 vo, g144, c1, c2, c3, c4, c5, c6, c7] at e1
        cases e1
        simp only [M76, m76_14, m76_13, m76_11, m76_10, m76_5, m76_0, seqM, condM, blockM, skipM, exitM, retM, TestT.isNil, TestT.get, Option.bind_some, s75 vk, s75 vi, s75 vo, g144, c1, c2, c3, c4, c5, c6, c7, hs2, if_true, hs3, p0, p3, hL, hR, d1, d2, d3, hfin]
        exact ⟨_, rfl, rfl⟩
      obtain ⟨s4, e2, h4⟩ := e2
      show G76 (F76 n) _ = _
      unfold G76
      rw [e2]
      exact congrArg some h4
end Go.Proofs.Ky
