/-
  KEYS: a bound query, read.
-/
import Derived.Test.YtijnepmlnfcpnaaGreatDoorKyLaw
import Derived.Test.YtijnepmlnfcpnaaGreatDoorAmTyped
import Derived.Test.YtijnepmlnfcpnaaGreatDoorAmArgs
set_option linter.unusedVariables false
set_option linter.unusedSimpArgs false
set_option linter.unusedSimpArgs false
set_option linter.unusedVariables false
set_option maxRecDepth 100000
namespace Go.Proofs.Ky
open Go Go.Am Go.Proofs

def Fits {α : Type} (l : List α) : Prop := l.length ≤ 9223372036854775807
theorem v64 {x : Int} (h : (Lit.int .i64 x).wf = true) : V64 x := by
  have := wf_i64 h
  unfold V64; omega
theorem elsq_of {α : Type} {r : α → List AVal → Prop} {Q : α → Prop} : ∀ css : List (List AVal), (∀ c ∈ css, ∃ x, r x c ∧ Q x) → ∃ xs, Els r xs css ∧ ∀ x ∈ xs, Q x := by
  intro css
  induction css with
  | nil => intro _; exact ⟨[], .nil, fun x hx => by cases hx⟩
  | cons c css ih =>
    intro h
    obtain ⟨x, hx, hq⟩ := h c (List.mem_cons_self ..)
    obtain ⟨xs, hxs, hqs⟩ := ih fun d hd => h d (List.mem_cons_of_mem _ hd)
    exact ⟨x :: xs, .cons hx hxs, fun y hy => by
      rcases List.mem_cons.1 hy with rfl | hy
      · exact hq
      · exact hqs y hy⟩
theorem slq_of {P : Program} {n : Nat} {t e : TypeId} {ws : List AVal} {α : Type} {r : α → List AVal → Prop} {Q : α → Prop} (hu : P.underlying t = some (.slice e)) (hz : P.cellsOf e ≠ 0) (h : Cont P n t ws)
    (H : ∀ m c, m < n → Cont P m e c → c.length = P.cellsOf e → ∃ x, r x c ∧ Q x) : ∃ xs, rSl r xs ws ∧ Fits xs ∧ ∀ x ∈ xs, Q x := by
  cases n with
  | zero => cases h
  | succ n =>
    simp only [Cont, hu] at h
    rcases h with rfl | ⟨h0, _⟩ | ⟨css, cap, rfl, _, hlen, hall⟩
    · exact ⟨[], ⟨_, rfl, .nil⟩, Nat.zero_le _, fun x hx => by cases hx⟩
    · exact absurd h0 hz
    · obtain ⟨xs, hxs, hq⟩ := elsq_of (r := r) (Q := Q) css fun c hc => H n c (by omega) (hall c hc).1 (hall c hc).2
      refine ⟨xs, ⟨_, rfl, .inr ⟨css, cap, rfl, hxs⟩⟩, ?_, hq⟩
      unfold Fits
      rw [← hxs.1]
      exact hlen

theorem four {α : Type} {l : List α} (h : l.length = 4) : ∃ a b c d, l = [a, b, c, d] := by
  match l, h with
  | [a, b, c, d], _ => exact ⟨a, b, c, d, rfl⟩
theorem eight {α : Type} {l : List α} (h : l.length = 8) : ∃ a b c d e f g i, l = [a, b, c, d, e, f, g, i] := by
  match l, h with
  | [a, b, c, d, e, f, g, i], _ => exact ⟨a, b, c, d, e, f, g, i, rfl⟩
theorem two {α : Type} {l : List α} (h : l.length = 2) : ∃ a b, l = [a, b] := by
  match l, h with
  | [a, b], _ => exact ⟨a, b, rfl⟩
theorem str_q {n : Nat} {cl : List AVal} (h : Cont Tryz.prog n 9 cl) : ∃ x, rS x cl ∧ True := by
  obtain ⟨x, hx, _⟩ := str_of (t := 9) rfl h
  exact ⟨x, hx, trivial⟩
theorem strs_q {n : Nat} {cl : List AVal} (h : Cont Tryz.prog n 22 cl) : ∃ xs, rSl rS xs cl ∧ Fits xs := by
  obtain ⟨xs, h1, h2, _⟩ := slq_of (r := rS) (Q := fun _ => True) (t := 22) (e := 9) rfl (of_decide_eq_true (by kernel_rfl)) h fun m c _ hc _ => str_q hc
  exact ⟨xs, h1, h2⟩
theorem i64_q {n : Nat} {t : TypeId} {cl : List AVal} (hu : Tryz.prog.underlying t = some (.int .i64)) (h : Cont Tryz.prog n t cl) : ∃ x, rI .i64 x cl ∧ V64 x := by
  obtain ⟨x, hx, w⟩ := int_of (k := .i64) (t := t) hu h
  exact ⟨x, hx, v64 w⟩
theorem ints_q {n : Nat} {cl : List AVal} (h : Cont Tryz.prog n 51 cl) : ∃ xs, rSl (rI .i64) xs cl ∧ Fits xs ∧ ∀ x ∈ xs, V64 x :=
  slq_of (r := rI .i64) (Q := V64) (t := 51) (e := 2) rfl (of_decide_eq_true (by kernel_rfl)) h fun m c _ hc _ => i64_q rfl hc
theorem nums_q {n : Nat} {cl : List AVal} (h : Cont Tryz.prog n 33 cl) : ∃ xs, rSl (rI .i64) xs cl ∧ Fits xs ∧ ∀ x ∈ xs, V64 x :=
  slq_of (r := rI .i64) (Q := V64) (t := 33) (e := 3) rfl (of_decide_eq_true (by kernel_rfl)) h fun m c _ hc _ => i64_q rfl hc
theorem pick_q {n : Nat} {cl : List AVal} (h : Cont Tryz.prog n 63 cl) : ∃ x, rPick x cl ∧ OkP x := by
  obtain ⟨m, css, rfl, rfl, hl, hf⟩ := st_of (t := 63) rfl (by kernel_rfl) h
  obtain ⟨a, b, rfl⟩ := two hl
  obtain ⟨x, hx, k0⟩ := int_of (k := .i64) (t := 3) rfl (hf 0 _ a rfl rfl).1
  obtain ⟨y, hy, k1⟩ := int_of (k := .i64) (t := 3) rfl (hf 1 _ b rfl rfl).1
  cases hx; cases hy
  exact ⟨⟨x, y⟩, rfl, v64 k0, v64 k1⟩
theorem test_q : ∀ (n : Nat) (cl : List AVal), Cont Tryz.prog n 32 cl → ∃ x, rTestT x cl ∧ OkT x := by
  intro n
  induction n using Nat.strongRecOn with
  | _ n ih =>
    intro cl h
    rcases pt_of (e := 57) rfl (of_decide_eq_true (by kernel_rfl)) h with rfl | ⟨m, cs, rfl, rfl, hc⟩
    · exact ⟨.nil, rfl, trivial⟩
    · obtain ⟨m, css, rfl, rfl, hl, hf⟩ := st_of (t := 57) rfl (by kernel_rfl) hc
      obtain ⟨a, b, c, d, e, f, g, i, rfl⟩ := eight hl
      obtain ⟨x0, h0, k0⟩ := int_of (k := .i64) (t := 3) rfl (hf 0 _ a rfl rfl).1
      obtain ⟨x1, h1, o1⟩ := ih m (by omega) b (hf 1 _ b rfl rfl).1
      obtain ⟨x2, h2, o2⟩ := ih m (by omega) c (hf 2 _ c rfl rfl).1
      obtain ⟨x3, h3⟩ := bool_of (t := 4) rfl (hf 3 _ d rfl rfl).1
      obtain ⟨x4, h4, k4⟩ := int_of (k := .i64) (t := 3) rfl (hf 4 _ e rfl rfl).1
      obtain ⟨x5, h5, k5⟩ := int_of (k := .i64) (t := 3) rfl (hf 5 _ f rfl rfl).1
      obtain ⟨x6, ⟨v6, h6, s6⟩, f6⟩ := strs_q (hf 6 _ g rfl rfl).1
      obtain ⟨x7, ⟨v7, h7, s7⟩, f7, q7⟩ := ints_q (hf 7 _ i rfl rfl).1
      obtain ⟨w1, rfl⟩ := one_cell (rTestT_p.len _ _ h1)
      obtain ⟨w2, rfl⟩ := one_cell (rTestT_p.len _ _ h2)
      cases h0; cases h3; cases h4; cases h5; cases h6; cases h7
      exact ⟨.mk x0 x1 x2 x3 x4 x5 x6 x7, ⟨w1, w2, v6, v7, rfl, h1, h2, s6, s7⟩, o1, o2, v64 k0, v64 k4, v64 k5, f6, f7, q7⟩
theorem bound_q {n : Nat} {cl : List AVal} (h : Cont Tryz.prog n 35 cl) : ∃ x, rBound x cl ∧ OkB x := by
  obtain ⟨m, css, rfl, rfl, hl, hf⟩ := st_of (t := 35) rfl (by kernel_rfl) h
  obtain ⟨a, b, c, d, rfl⟩ := four hl
  obtain ⟨x0, ⟨v0, h0, s0⟩, f0, q0⟩ := slq_of (r := rPick) (Q := OkP) (t := 31) (e := 63) rfl (of_decide_eq_true (by kernel_rfl)) (hf 0 _ a rfl rfl).1 fun m c _ hc _ => pick_q hc
  obtain ⟨x1, ⟨v1, h1, s1⟩, f1⟩ := strs_q (hf 1 _ b rfl rfl).1
  obtain ⟨x2, h2, o2⟩ := test_q m c (hf 2 _ c rfl rfl).1
  obtain ⟨x3, ⟨v3, h3, s3⟩, f3, q3⟩ := nums_q (hf 3 _ d rfl rfl).1
  obtain ⟨w2, rfl⟩ := one_cell (rTestT_p.len _ _ h2)
  cases h0; cases h1; cases h3
  exact ⟨⟨x0, x1, x2, x3⟩, ⟨v0, v1, w2, v3, rfl, s0, s1, h2, s3⟩, ⟨f0, q0⟩, f1, ⟨f3, q3⟩, o2⟩
end Go.Proofs.Ky
