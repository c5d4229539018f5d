/-
  PLAN (aa): the law PlanChooses holds of its typed function.
-/
-- GN Plm PlmB PlmC
import Derived.Test.YtijnepmlnfcpnaaGreatDoorPlmRefB
import Derived.Test.YtijnepmlnfcpnaaGreatDoorPlmCFns
import Derived.Lib.ItoaLen
set_option linter.unusedVariables false
set_option linter.unusedSimpArgs false
set_option linter.unusedSimpArgs false
set_option linter.unusedVariables false
set_option maxRecDepth 100000
namespace Go.Proofs.Plm
open Go Go.Am Go.Proofs

def V64 (n : Int) : Prop := -9223372036854775808 ≤ n ∧ n ≤ 9223372036854775807
def gv (need set rows : Int) (l : List ViewInfo) (head facts : Int) : Int :=
  if cov set need = true then (if IntKind.wrap .i64 ((ch need head facts l).Cost - (if rows < 0 then 0 else rows)) < 0 then 0 else IntKind.wrap .i64 ((ch need head facts l).Cost - (if rows < 0 then 0 else rows))) else 0
theorem g31 (need set rows head facts : Int) (l : List ViewInfo) (hl : l.length ≤ 9223372036854775807) : G31 need set rows l head facts = some (gv need set rows l head facts) := by
  have h81 := g17 need head facts l hl
  unfold gv
  cases hc : cov set need with
  | false => simp only [G31, M31, m31_0, m31_1, m31_2, m31_3, seqM, condM, blockM, skipM, exitM, retM, g8, hc, Option.bind_some, Bool.not_false, Bool.false_eq_true, if_false]
  | true =>
    simp only [G31, M31, m31_0, m31_1, m31_2, m31_3, seqM, condM, blockM, skipM, exitM, retM, g8, hc, Option.bind_some, Bool.not_true, h81, if_true]
theorem g32 (need set : Int) (x : Offer) (hl : x.Views.length ≤ 9223372036854775807) : G32 need set x = some (gv need set x.Rows x.Views x.Head x.Facts) := by
  have h84 := g84 need x.Head x.Facts x.Views hl
  unfold gv
  cases hc : cov set need with
  | false => simp only [G32, M32, m32_0, m32_1, m32_2, m32_3, m32_4, m32_5, seqM, condM, blockM, skipM, exitM, retM, g86, hc, h84, g87, Option.bind_some, Bool.not_false, Bool.true_or, Bool.false_eq_true, if_false]
  | true =>
    cases hd : decide (IntKind.wrap .i64 ((ch need x.Head x.Facts x.Views).Cost - (if x.Rows < 0 then 0 else x.Rows)) < 0) with
    | true =>
      have hd2 := of_decide_eq_true hd
      simp only [G32, M32, m32_0, m32_1, m32_2, m32_3, m32_4, m32_5, seqM, condM, blockM, skipM, exitM, retM, g86, hc, h84, g87, hd, Option.bind_some, Bool.not_true, Bool.false_or, if_true, if_pos hd2]
    | false =>
      have hd2 := of_decide_eq_false hd
      simp only [G32, M32, m32_0, m32_1, m32_2, m32_3, m32_4, m32_5, seqM, condM, blockM, skipM, exitM, retM, g86, hc, h84, g87, hd, Option.bind_some, Bool.not_true, Bool.or_self, if_true, if_neg hd2]
def tx (p : Plan) : List UInt8 := if p.Base = true then ([97, 108, 108, 32, 102, 97, 99, 116, 115, 44, 32] : List UInt8) ++ Lib.itoa p.Cost else ([118, 105, 101, 119, 32] : List UInt8) ++ (Lib.itoa p.Set ++ (([44, 32] : List UInt8) ++ Lib.itoa p.Cost))
theorem cat_ok {a b : List UInt8} (h : a.length + b.length ≤ 9223372036854775807) : catT a b = some (a ++ b) := by
  unfold catT; rw [if_pos h]
theorem s75 {n : Int} (h : V64 n) : S75 n = some (Lib.itoa n) := by
  unfold S75; exact if_pos h
theorem g29 (p : Plan) (hc : V64 p.Cost) (hs : V64 p.Set) : G29 p = some (tx p) := by
  have l1 := Lib.itoa_length_le p.Cost hc.1 hc.2
  have l2 := Lib.itoa_length_le p.Set hs.1 hs.2
  have c1 : catT ([44, 32] : List UInt8) (Lib.itoa p.Cost) = some (([44, 32] : List UInt8) ++ Lib.itoa p.Cost) := cat_ok (by simp only [List.length_cons, List.length_nil]; omega)
  have c2 : catT ([97, 108, 108, 32, 102, 97, 99, 116, 115] : List UInt8) (([44, 32] : List UInt8) ++ Lib.itoa p.Cost) = some (([97, 108, 108, 32, 102, 97, 99, 116, 115] : List UInt8) ++ (([44, 32] : List UInt8) ++ Lib.itoa p.Cost)) := cat_ok (by simp only [List.length_append, List.length_cons, List.length_nil]; omega)
  have c3 : catT ([118, 105, 101, 119, 32] : List UInt8) (Lib.itoa p.Set) = some (([118, 105, 101, 119, 32] : List UInt8) ++ Lib.itoa p.Set) := cat_ok (by simp only [List.length_cons, List.length_nil]; omega)
  have c4 : catT (([118, 105, 101, 119, 32] : List UInt8) ++ Lib.itoa p.Set) (([44, 32] : List UInt8) ++ Lib.itoa p.Cost) = some ((([118, 105, 101, 119, 32] : List UInt8) ++ Lib.itoa p.Set) ++ (([44, 32] : List UInt8) ++ Lib.itoa p.Cost)) := cat_ok (by simp only [List.length_append, List.length_cons, List.length_nil]; omega)
  unfold tx
  cases hb : p.Base with
  | true =>
    simp only [G29, M29, m29_0, m29_1, m29_2, m29_3, m29_4, seqM, condM, blockM, skipM, exitM, retM, s75 hc, c1, hb, c2, Option.bind_some, if_true]
    rfl
  | false =>
    simp only [G29, M29, m29_0, m29_1, m29_2, m29_3, m29_4, seqM, condM, blockM, skipM, exitM, retM, s75 hc, s75 hs, c1, hb, c3, c4, Option.bind_some, Bool.false_eq_true, if_false]
    rw [List.append_assoc]
theorem g30 (p : Plan) (hc : V64 p.Cost) (hs : V64 p.Set) : G30 p = some (tx p) := by
  have l1 := Lib.itoa_length_le p.Cost hc.1 hc.2
  have l2 := Lib.itoa_length_le p.Set hs.1 hs.2
  have c1 : catT ([97, 108, 108, 32, 102, 97, 99, 116, 115, 44, 32] : List UInt8) (Lib.itoa p.Cost) = some (([97, 108, 108, 32, 102, 97, 99, 116, 115, 44, 32] : List UInt8) ++ Lib.itoa p.Cost) := cat_ok (by simp only [List.length_cons, List.length_nil]; omega)
  have c3 : catT ([118, 105, 101, 119, 32] : List UInt8) (Lib.itoa p.Set) = some (([118, 105, 101, 119, 32] : List UInt8) ++ Lib.itoa p.Set) := cat_ok (by simp only [List.length_cons, List.length_nil]; omega)
  have c4 : catT (([118, 105, 101, 119, 32] : List UInt8) ++ Lib.itoa p.Set) ([44, 32] : List UInt8) = some ((([118, 105, 101, 119, 32] : List UInt8) ++ Lib.itoa p.Set) ++ ([44, 32] : List UInt8)) := cat_ok (by simp only [List.length_append, List.length_cons, List.length_nil]; omega)
  have c5 : catT ((([118, 105, 101, 119, 32] : List UInt8) ++ Lib.itoa p.Set) ++ ([44, 32] : List UInt8)) (Lib.itoa p.Cost) = some (((([118, 105, 101, 119, 32] : List UInt8) ++ Lib.itoa p.Set) ++ ([44, 32] : List UInt8)) ++ Lib.itoa p.Cost) := cat_ok (by simp only [List.length_append, List.length_cons, List.length_nil]; omega)
  unfold tx
  cases hb : p.Base with
  | true => simp only [G30, M30, m30_0, m30_1, m30_2, m30_3, seqM, condM, blockM, skipM, exitM, retM, s75 hc, c1, hb, Option.bind_some, if_true]
  | false =>
    simp only [G30, M30, m30_0, m30_1, m30_2, m30_3, seqM, condM, blockM, skipM, exitM, retM, s75 hc, s75 hs, hb, c3, c4, c5, Option.bind_some, Bool.false_eq_true, if_false]
    rw [List.append_assoc, List.append_assoc]
def OkV (v : ViewInfo) : Prop := V64 v.Set ∧ V64 v.Rows
theorem mr64 {v : ViewInfo} (h : V64 v.Rows) : V64 (mr v) := by
  unfold V64 at *; unfold mr; split <;> omega
theorem ch64 (need head facts : Int) (l : List ViewInfo) (hf : V64 facts) (hl : ∀ v ∈ l, OkV v) : V64 (ch need head facts l).Cost ∧ V64 (ch need head facts l).Set := by
  rcases ch_cases need head facts l with ⟨e, _⟩ | ⟨z, hz, _, e, _, _⟩
  · rw [e]
    refine ⟨?_, by unfold V64; simp only; omega⟩
    unfold V64 at *; simp only; unfold fx; split <;> omega
  · rw [e]
    exact ⟨mr64 (hl z hz).2, (hl z hz).1⟩
theorem eqPlan_self (p : Plan) : eqPlan p p = true := by unfold eqPlan; simp
set_option maxHeartbeats 4000000 in
theorem law_ok (b : Bound) (x : Offer) (set : Int) (hb : b.Sets.length ≤ 2 ^ 30) (hl : x.Views.length ≤ 9223372036854775807) (hf : V64 x.Facts) (hv : ∀ v ∈ x.Views, OkV v) : G8 b x set = some true := by
  have hb2 : b.Sets.length ≤ 9223372036854775807 := by omega
  obtain ⟨pl, hpl⟩ : ∃ pl, pl = ch (needN b) x.Head x.Facts (if meas b = true then [] else x.Views) := ⟨_, rfl⟩
  have e26 := g6 b hb2 x.Views hl x.Head x.Facts
  have e28 := g28 b hb x.Views hl x.Head x.Facts
  have hr := ch64 (needN b) x.Head x.Facts (if meas b = true then [] else x.Views) hf (by
    intro v hvm
    cases hm : meas b with
    | true => rw [hm] at hvm; simp at hvm
    | false => rw [hm] at hvm; exact hv v (by simpa using hvm))
  rw [← hpl] at e26 e28 hr
  have e27 := g7 b hb2
  have e29 := g29 pl hr.1 hr.2
  have e30 := g30 pl hr.1 hr.2
  have e31 := g31 (needN b) set x.Rows x.Head x.Facts x.Views hl
  have e32 := g32 (needN b) set x hl
  have hq := eqPlan_self pl
  have ht : (tx pl == tx pl) = true := by simp
  have hg : (gv (needN b) set x.Rows x.Views x.Head x.Facts == gv (needN b) set x.Rows x.Views x.Head x.Facts) = true := by simp
  have e2 : ∃ s2, M8 { (default : Fr8) with t0 := b, t1 := x, t2 := set } = some (.ret, s2) ∧ s2.t6 = true := by
    unfold M8
    simp only [m8_4, m8_3, m8_2, m8_1, m8_0, seqM, condM, blockM, skipM, exitM, retM, S25, e26, e27, e28, e29, e30, e31, e32, hq, ht, hg, Option.bind_some, cond_true, Bool.and_self]
    exact ⟨_, rfl, rfl⟩
  obtain ⟨s2, e2, h6⟩ := e2
  unfold G8
  rw [e2]
  exact congrArg some h6
end Go.Proofs.Plm
