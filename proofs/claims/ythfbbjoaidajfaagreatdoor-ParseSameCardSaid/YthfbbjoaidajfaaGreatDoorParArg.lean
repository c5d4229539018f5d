/-
  PARSE: a query, read.
-/
import Derived.Test.YthfbbjoaidajfaaGreatDoorParSaTypes
import Derived.Test.YthfbbjoaidajfaaGreatDoorAmTyped
set_option linter.unusedVariables false
set_option linter.unusedSimpArgs false
set_option linter.unusedSimpArgs false
set_option linter.unusedVariables false
set_option maxRecDepth 100000
namespace Go.Proofs.Par
open Go Go.Am Go.Proofs

def Fits {α : Type} (l : List α) : Prop := l.length ≤ 9223372036854775807
def OkC : CondT → Prop
  | .nil => True
  | .mk _ l r _ _ v => OkC l ∧ OkC r ∧ Fits v
def OkG (g : Group) : Prop := Fits g.Columns ∧ Fits g.Sets ∧ ∀ s ∈ g.Sets, Fits s
def OkQ (q : Query) : Prop := Fits q.Items ∧ Fits q.Groups ∧ (∀ g ∈ q.Groups, OkG g) ∧ OkC q.Where

theorem elsq_of {α : Type} {r : α → List AVal → Prop} {Q : α → Prop} : ∀ css : List (List AVal), (∀ c ∈ css, ∃ x, r x c ∧ Q x) → ∃ xs, Els r xs css ∧ ∀ x ∈ xs, Q x := by
  intro css
  induction css with
  | nil => intro _; exact ⟨[], .nil, fun x hx => by cases hx⟩
  | cons c css ih =>
    intro h
    obtain ⟨x, hx, hq⟩ := h c (List.mem_cons_self ..)
    obtain ⟨xs, hxs, hqs⟩ := ih fun d hd => h d (List.mem_cons_of_mem _ hd)
    exact ⟨x :: xs, .cons hx hxs, fun y hy => by
      rcases List.mem_cons.1 hy with rfl | hy
      · exact hq
      · exact hqs y hy⟩
theorem slq_of {P : Program} {n : Nat} {t e : TypeId} {ws : List AVal} {α : Type} {r : α → List AVal → Prop} {Q : α → Prop} (hu : P.underlying t = some (.slice e)) (hz : P.cellsOf e ≠ 0) (h : Cont P n t ws)
    (H : ∀ m c, m < n → Cont P m e c → c.length = P.cellsOf e → ∃ x, r x c ∧ Q x) : ∃ xs, rSl r xs ws ∧ Fits xs ∧ ∀ x ∈ xs, Q x := by
  cases n with
  | zero => cases h
  | succ n =>
    simp only [Cont, hu] at h
    rcases h with rfl | ⟨h0, _⟩ | ⟨css, cap, rfl, _, hlen, hall⟩
    · exact ⟨[], ⟨_, rfl, .nil⟩, Nat.zero_le _, fun x hx => by cases hx⟩
    · exact absurd h0 hz
    · obtain ⟨xs, hxs, hq⟩ := elsq_of (r := r) (Q := Q) css fun c hc => H n c (by omega) (hall c hc).1 (hall c hc).2
      refine ⟨xs, ⟨_, rfl, .inr ⟨css, cap, rfl, hxs⟩⟩, ?_, hq⟩
      unfold Fits
      rw [← hxs.1]
      exact hlen

theorem five {α : Type} {l : List α} (h : l.length = 5) : ∃ a b c d e, l = [a, b, c, d, e] := by
  match l, h with
  | [a, b, c, d, e], _ => exact ⟨a, b, c, d, e, rfl⟩
theorem six {α : Type} {l : List α} (h : l.length = 6) : ∃ a b c d e f, l = [a, b, c, d, e, f] := by
  match l, h with
  | [a, b, c, d, e, f], _ => exact ⟨a, b, c, d, e, f, rfl⟩
theorem three {α : Type} {l : List α} (h : l.length = 3) : ∃ a b c, l = [a, b, c] := by
  match l, h with
  | [a, b, c], _ => exact ⟨a, b, c, rfl⟩
theorem two {α : Type} {l : List α} (h : l.length = 2) : ∃ a b, l = [a, b] := by
  match l, h with
  | [a, b], _ => exact ⟨a, b, rfl⟩

theorem str_q {n : Nat} {cl : List AVal} (h : Cont Tryz.prog n 9 cl) : ∃ x, rS x cl ∧ True := by
  obtain ⟨x, hx, _⟩ := str_of (t := 9) rfl h
  exact ⟨x, hx, trivial⟩
theorem strs_q {n : Nat} {cl : List AVal} (h : Cont Tryz.prog n 52 cl) : ∃ xs, rSl rS xs cl ∧ Fits xs := by
  obtain ⟨xs, h1, h2, _⟩ := slq_of (r := rS) (Q := fun _ => True) (t := 52) (e := 9) rfl (of_decide_eq_true (by kernel_rfl)) h fun m c _ hc _ => str_q hc
  exact ⟨xs, h1, h2⟩
theorem sets_q {n : Nat} {cl : List AVal} (h : Cont Tryz.prog n 63 cl) : ∃ xs, rSl (rSl rS) xs cl ∧ Fits xs ∧ ∀ x ∈ xs, Fits x :=
  slq_of (t := 63) (e := 52) rfl (of_decide_eq_true (by kernel_rfl)) h fun m c _ hc _ => strs_q hc
theorem value_q {n : Nat} {cl : List AVal} (h : Cont Tryz.prog n 47 cl) : ∃ x, rValue x cl ∧ True := by
  obtain ⟨m, css, rfl, rfl, hl, hf⟩ := st_of (t := 47) rfl (by kernel_rfl) h
  obtain ⟨a, b, c, rfl⟩ := three hl
  obtain ⟨x0, h0⟩ := bool_of (t := 4) rfl (hf 0 _ a rfl rfl).1
  obtain ⟨x1, h1, _⟩ := str_q (hf 1 _ b rfl rfl).1
  obtain ⟨x2, h2, _⟩ := int_of (k := .i64) (t := 2) rfl (hf 2 _ c rfl rfl).1
  cases h0; cases h1; cases h2
  exact ⟨⟨x0, x1, x2⟩, rfl, trivial⟩
theorem item_q {n : Nat} {cl : List AVal} (h : Cont Tryz.prog n 45 cl) : ∃ x, rItem x cl ∧ True := by
  obtain ⟨m, css, rfl, rfl, hl, hf⟩ := st_of (t := 45) rfl (by kernel_rfl) h
  obtain ⟨a, b, rfl⟩ := two hl
  obtain ⟨x0, h0, _⟩ := int_of (k := .i64) (t := 3) rfl (hf 0 _ a rfl rfl).1
  obtain ⟨x1, h1, _⟩ := str_q (hf 1 _ b rfl rfl).1
  cases h0; cases h1
  exact ⟨⟨x0, x1⟩, rfl, trivial⟩
theorem group_q {n : Nat} {cl : List AVal} (h : Cont Tryz.prog n 65 cl) : ∃ x, rGroup x cl ∧ OkG x := by
  obtain ⟨m, css, rfl, rfl, hl, hf⟩ := st_of (t := 65) rfl (by kernel_rfl) h
  obtain ⟨a, b, c, rfl⟩ := three hl
  obtain ⟨x0, h0, _⟩ := int_of (k := .i64) (t := 3) rfl (hf 0 _ a rfl rfl).1
  obtain ⟨x1, ⟨v1, h1, s1⟩, f1⟩ := strs_q (hf 1 _ b rfl rfl).1
  obtain ⟨x2, ⟨v2, h2, s2⟩, f2, f3⟩ := sets_q (hf 2 _ c rfl rfl).1
  cases h0; cases h1; cases h2
  exact ⟨⟨x0, x1, x2⟩, ⟨v1, v2, rfl, s1, s2⟩, f1, f2, f3⟩
theorem cond_q : ∀ (n : Nat) (cl : List AVal), Cont Tryz.prog n 24 cl → ∃ x, rCondT x cl ∧ OkC x := by
  intro n
  induction n using Nat.strongRecOn with
  | _ n ih =>
    intro cl h
    rcases pt_of (e := 50) rfl (of_decide_eq_true (by kernel_rfl)) h with rfl | ⟨m, cs, rfl, rfl, hc⟩
    · exact ⟨.nil, rfl, trivial⟩
    · obtain ⟨m, css, rfl, rfl, hl, hf⟩ := st_of (t := 50) rfl (by kernel_rfl) hc
      obtain ⟨a, b, c, d, e, f, rfl⟩ := six hl
      obtain ⟨x0, h0, _⟩ := int_of (k := .i64) (t := 3) rfl (hf 0 _ a rfl rfl).1
      obtain ⟨x1, h1, o1⟩ := ih m (by omega) b (hf 1 _ b rfl rfl).1
      obtain ⟨x2, h2, o2⟩ := ih m (by omega) c (hf 2 _ c rfl rfl).1
      obtain ⟨x3, h3, _⟩ := str_q (hf 3 _ d rfl rfl).1
      obtain ⟨x4, h4, _⟩ := int_of (k := .i64) (t := 3) rfl (hf 4 _ e rfl rfl).1
      obtain ⟨x5, ⟨v5, h5, s5⟩, f5, _⟩ := slq_of (r := rValue) (Q := fun _ => True) (t := 48) (e := 47) rfl (of_decide_eq_true (by kernel_rfl)) (hf 5 _ f rfl rfl).1 fun m c _ hc _ => value_q hc
      obtain ⟨w1, rfl⟩ := one_cell (rCondT_p.len _ _ h1)
      obtain ⟨w2, rfl⟩ := one_cell (rCondT_p.len _ _ h2)
      cases h0; cases h3; cases h4; cases h5
      exact ⟨.mk x0 x1 x2 x3 x4 x5, ⟨w1, w2, v5, rfl, h1, h2, s5⟩, o1, o2, f5⟩
theorem query_q {n : Nat} {cl : List AVal} (h : Cont Tryz.prog n 27 cl) : ∃ x, rQuery x cl ∧ OkQ x := by
  obtain ⟨m, css, rfl, rfl, hl, hf⟩ := st_of (t := 27) rfl (by kernel_rfl) h
  obtain ⟨a, b, c, d, e, rfl⟩ := five hl
  obtain ⟨x0, ⟨v0, h0, s0⟩, f0, _⟩ := slq_of (r := rItem) (Q := fun _ => True) (t := 23) (e := 45) rfl (of_decide_eq_true (by kernel_rfl)) (hf 0 _ a rfl rfl).1 fun m c _ hc _ => item_q hc
  obtain ⟨x1, h1, _⟩ := str_q (hf 1 _ b rfl rfl).1
  obtain ⟨x2, h2, o2⟩ := cond_q m c (hf 2 _ c rfl rfl).1
  obtain ⟨x3, h3⟩ := bool_of (t := 4) rfl (hf 3 _ d rfl rfl).1
  obtain ⟨x4, ⟨v4, h4, s4⟩, f4, g4⟩ := slq_of (r := rGroup) (Q := OkG) (t := 25) (e := 65) rfl (of_decide_eq_true (by kernel_rfl)) (hf 4 _ e rfl rfl).1 fun m c _ hc _ => group_q hc
  obtain ⟨w2, rfl⟩ := one_cell (rCondT_p.len _ _ h2)
  cases h0; cases h1; cases h3; cases h4
  exact ⟨⟨x0, x1, x2, x3, x4⟩, ⟨v0, w2, v4, rfl, s0, h2, s4⟩, f0, f4, g4, o2⟩
end Go.Proofs.Par
