/-
  KEYS: how great a test is, as the document counts it and as the program does; how long the texts are that tell a bound query.
-/
-- GN Ky KyB KyC
import Derived.Test.YtijnepmlnfcpnaaGreatDoorKyRefB
import Derived.Test.YtijnepmlnfcpnaaGreatDoorKyKey
import Derived.Test.YtijnepmlnfcpnaaGreatDoorAmCont
set_option linter.unusedVariables false
set_option linter.unusedSimpArgs false
set_option linter.unusedSimpArgs false
set_option linter.unusedVariables false
set_option maxRecDepth 100000
namespace Go.Proofs.Ky
open Go Go.Am Go.Proofs

def sz : TestT → Nat
  | .nil => 0
  | .mk _ l r _ _ _ _ _ => 1 + sz l + sz r
theorem dep_sz : ∀ x : TestT, dep x ≤ sz x
  | .nil => Nat.le_refl _
  | .mk _ l r _ _ _ _ _ => by have h1 := dep_sz l; have h2 := dep_sz r; simp only [dep, sz]; omega
theorem walk_sz : ∀ (x : TestT) (n : Nat), n ≤ 4097 → walkN x n = min (n + sz x) 4097
  | .nil, n, h => by simp only [walkN, sz]; omega
  | .mk _ l r _ _ _ _ _, n, h => by
    unfold walkN
    split
    · simp only [sz]; omega
    · rw [walk_sz l _ (by omega), walk_sz r _ (by omega)]
      simp only [sz]; omega
theorem nodes_ok : ∀ (n : Nat) (x : TestT) (room : Nat), room < n → room ≤ 5000 → F20 n x room = some ((min room (sz x) : Nat) : Int) := by
  intro n
  induction n with
  | zero => intro x room h; omega
  | succ n ih =>
    intro x room h hr
    show G20 (F20 n) x room = _
    cases x with
    | nil => simp [G20, M20, m20_0, m20_1, m20_2, m20_3, m20_4, seqM, condM, blockM, skipM, exitM, retM, sz, TestT.isNil]
    | mk k l r m i o ts is =>
      by_cases h0 : room = 0
      · subst h0
        simp [G20, M20, m20_0, m20_1, m20_2, m20_3, m20_4, seqM, condM, blockM, skipM, exitM, retM, sz, TestT.isNil]
      · have hd : decide ((room : Int) ≤ 0) = false := by simp; omega
        have e1 : F20 n l (IntKind.wrap .i64 ((room : Int) - 1)) = some ((min (room - 1) (sz l) : Nat) : Int) := by
          have : IntKind.wrap .i64 ((room : Int) - 1) = ((room - 1 : Nat) : Int) := by rw [wrap64 (by omega) (by omega)]; omega
          rw [this]; exact ih l (room - 1) (by omega) (by omega)
        obtain ⟨a, ha⟩ : ∃ a, a = min (room - 1) (sz l) := ⟨_, rfl⟩
        rw [← ha] at e1
        have hw1 : IntKind.wrap .i64 (1 + (a : Int)) = ((1 + a : Nat) : Int) := by rw [wrap64 (by omega) (by omega)]; omega
        have e2 : F20 n r (IntKind.wrap .i64 ((room : Int) - ((1 + a : Nat) : Int))) = some ((min (room - (1 + a)) (sz r) : Nat) : Int) := by
          have : IntKind.wrap .i64 ((room : Int) - ((1 + a : Nat) : Int)) = ((room - (1 + a) : Nat) : Int) := by rw [wrap64 (by omega) (by omega)]; omega
          rw [this]; exact ih r (room - (1 + a)) (by omega) (by omega)
        obtain ⟨b, hb⟩ : ∃ b, b = min (room - (1 + a)) (sz r) := ⟨_, rfl⟩
        rw [← hb] at e2
        have hw2 : IntKind.wrap .i64 (((1 + a : Nat) : Int) + (b : Int)) = ((1 + a + b : Nat) : Int) := by rw [wrap64 (by omega) (by omega)]; omega
        have hres : min room (sz (.mk k l r m i o ts is)) = 1 + a + b := by unfold sz; omega
        rw [hres]
        simp only [G20, M20, m20_0, m20_1, m20_2, m20_3, m20_4, seqM, condM, blockM, skipM, exitM, retM, TestT.isNil, hd, Bool.or_self, TestT.get, Option.bind_some, e1, hw1, e2, hw2]
theorem few_ok (x : TestT) : G18 x = some (decide (sz x ≤ 4096)) := by
  have h := nodes_ok 5000 x 4097 (by omega) (by omega)
  have h' : F20 5000 x 4097 = some ((min 4097 (sz x) : Nat) : Int) := h
  have hd : decide (((min 4097 (sz x) : Nat) : Int) ≤ 4096) = decide (sz x ≤ 4096) := by
    apply Bool.eq_iff_iff.2
    simp only [decide_eq_true_eq]
    omega
  simp only [G18, M18, m18_0, m18_1, seqM, condM, blockM, skipM, exitM, retM, h', Option.bind_some, hd]

/-! ### lengths -/
theorem itoa_20 {n : Int} (h : V64 n) : (Lib.itoa n).length ≤ 20 := by
  have d : ∀ (k u : Nat), u < 10 ^ k → (Lib.decDigits u).length ≤ max k 1 := by
    intro k
    induction k with
    | zero =>
      intro u hu
      rw [Lib.decDigits, dif_pos (by simpa using Nat.lt_of_lt_of_le hu (by decide))]
      simp
    | succ k ih =>
      intro u hu
      by_cases hs : u < 10
      · rw [Lib.decDigits, dif_pos hs]; simp
      · rw [Q.dec_step hs, List.length_append]
        have := ih (u / 10) (by rw [Nat.pow_succ] at hu; omega)
        have k1 : 1 ≤ k := by
          rcases Nat.eq_zero_or_pos k with rfl | h
          · simp at hu; omega
          · exact h
        simp only [List.length_cons, List.length_nil]
        omega
  unfold V64 at h
  unfold Lib.itoa
  split
  · have := d 19 n.natAbs (by omega)
    simp only [List.length_cons]
    omega
  · have := d 19 n.toNat (by omega)
    omega
theorem keyN_21 {n : Int} (h : V64 n) : (keyN n).length ≤ 21 := by
  unfold keyN
  have := itoa_20 h
  simp only [List.length_append, List.length_cons, List.length_nil]
  omega
theorem len64 {α : Type} {l : List α} (h : l.length ≤ 9223372036854775807) : V64 (l.length : Int) := by unfold V64; omega
/-- what is made of a list's elements is no longer than so many times their weight -/
theorem flat_le {α : Type} {f : α → List UInt8} {g : α → Nat} (c : Nat) : ∀ l : List α, (∀ a ∈ l, (f a).length ≤ c * g a) → (l.flatMap f).length ≤ c * (l.map g).sum
  | [], _ => Nat.zero_le _
  | a :: l, H => by
    have h1 := H a (List.mem_cons_self ..)
    have h2 := flat_le c l fun b hb => H b (List.mem_cons_of_mem _ hb)
    simp only [List.flatMap_cons, List.length_append, List.map_cons, List.sum_cons, Nat.mul_add]
    omega
def wS (t : List UInt8) : Nat := t.length + 1
def wI (_ : Int) : Nat := 1
def wP (_ : Pick) : Nat := 2
def wT : TestT → Nat
  | .nil => 1
  | .mk _ l r _ _ _ ts is => 5 + wT l + wT r + ((ts.map wS).sum + 1) + ((is.map wI).sum + 1)
def wB (b : Bound) : Nat := ((b.Picks.map wP).sum + 1) + ((b.Names.map wS).sum + 1) + wT b.Where + ((b.Sets.map wI).sum + 1)
theorem each_le {α : Type} {f : α → List UInt8} {g : α → Nat} (l : List α) (hl : l.length ≤ 9223372036854775807) (H : ∀ a ∈ l, (f a).length ≤ 100 * g a) : (keyEach f l).length ≤ 100 * ((l.map g).sum + 1) := by
  unfold keyEach
  have h1 := keyN_21 (len64 hl)
  have h2 := flat_le 100 l H
  simp only [List.length_append]
  omega
theorem fits_w {ts : List (List UInt8)} (h : (ts.map wS).sum ≤ 9000000000000000000) : ∀ t ∈ ts, V64 (t.length : Int) := by
  induction ts with
  | nil => intro t ht; cases ht
  | cons a l ih =>
    simp only [List.map_cons, List.sum_cons] at h
    have ha : wS a ≤ 9000000000000000000 := by omega
    unfold wS at ha
    intro t ht
    rcases List.mem_cons.1 ht with rfl | ht
    · unfold V64; omega
    · exact ih (by omega) t ht
theorem text_le {t : List UInt8} (h : V64 (t.length : Int)) : (keyText t).length ≤ 100 * wS t := by
  unfold keyText wS
  have := keyN_21 h
  simp only [List.length_append]
  omega
theorem boolS_5 (m : Bool) : (boolS m).length ≤ 5 := by cases m <;> decide
theorem keyTest_le : ∀ t : TestT, OkT t → wT t ≤ 9000000000000000000 → (keyTest t).length ≤ 100 * wT t
  | .nil, _, _ => by simp [keyTest, wT]
  | .mk k l r m i o ts is, h, hw => by
    obtain ⟨h1, h2, h3, h4, h5, h6, h7, h8⟩ := h
    simp only [wT] at hw
    have e1 := keyTest_le l h1 (by omega)
    have e2 := keyTest_le r h2 (by omega)
    have e3 := keyN_21 h3
    have e4 := keyN_21 h4
    have e5 := keyN_21 h5
    have e6 := boolS_5 m
    have fw := fits_w (ts := ts) (by omega)
    have e7 := each_le (f := keyText) (g := wS) ts h6 fun t ht => text_le (fw t ht)
    have e8 := each_le (f := keyN) (g := wI) is h7 fun n hn => by have := keyN_21 (h8 n hn); unfold wI; omega
    simp only [keyTest, wT, List.length_append, List.length_cons, List.length_nil]
    omega
theorem keyB_le (b : Bound) (h : OkB b) (hw : wB b ≤ 9000000000000000000) : (keyB b).length ≤ 100 * wB b := by
  obtain ⟨⟨lp, vp⟩, ln, ⟨ls, vs⟩, ow⟩ := h
  simp only [wB] at hw
  have fw := fits_w (ts := b.Names) (by omega)
  have e1 := each_le (f := keyPick) (g := wP) b.Picks lp fun p hp => by
    have h1 := keyN_21 (vp p hp).1
    have h2 := keyN_21 (vp p hp).2
    unfold keyPick wP
    rw [List.length_append]; omega
  have e2 := each_le (f := keyText) (g := wS) b.Names ln fun t ht => text_le (fw t ht)
  have e3 := each_le (f := keyN) (g := wI) b.Sets ls fun n hn => by have := keyN_21 (vs n hn); unfold wI; omega
  have e4 := keyTest_le b.Where ow (by omega)
  simp only [keyB, wB, List.length_append]
  omega
theorem told_text_le (d : UInt8) {t : List UInt8} (h : V64 (t.length : Int)) : (toldText d t).length ≤ 100 * wS t := by
  unfold toldText wS
  have := itoa_20 h
  simp only [List.length_append, List.length_cons, List.length_nil]
  omega
theorem told_int_le (d : UInt8) {n : Int} (h : V64 n) : (toldInt d n).length ≤ 100 * wI n := by
  unfold toldInt wI
  have := itoa_20 h
  simp only [List.length_cons]
  omega
theorem toldT_le : ∀ t : TestT, OkT t → wT t ≤ 9000000000000000000 → (toldT t).length ≤ 100 * wT t
  | .nil, _, _ => by simp [toldT, wT]
  | .mk k l r m i o ts is, h, hw => by
    obtain ⟨h1, h2, h3, h4, h5, h6, h7, h8⟩ := h
    simp only [wT] at hw
    have e1 := toldT_le l h1 (by omega)
    have e2 := toldT_le r h2 (by omega)
    have e3 := itoa_20 h3
    have e4 := itoa_20 h4
    have e5 := itoa_20 h5
    have e6 := boolS_5 m
    have fw := fits_w (ts := ts) (by omega)
    have e7 := flat_le (f := toldText 116) (g := wS) 100 ts fun t ht => told_text_le 116 (fw t ht)
    have e8 := flat_le (f := toldInt 105) (g := wI) 100 is fun n hn => told_int_le 105 (h8 n hn)
    simp only [toldT, wT, List.length_append, List.length_cons, List.length_nil]
    omega
theorem toldB_le (b : Bound) (h : OkB b) (hw : wB b ≤ 9000000000000000000) : (toldB b).length ≤ 100 * wB b := by
  obtain ⟨⟨lp, vp⟩, ln, ⟨ls, vs⟩, ow⟩ := h
  simp only [wB] at hw
  have fw := fits_w (ts := b.Names) (by omega)
  have e1 := flat_le (f := toldPick) (g := wP) 100 b.Picks fun p hp => by
    have h1 := itoa_20 (vp p hp).1
    have h2 := itoa_20 (vp p hp).2
    unfold toldPick wP
    simp only [List.length_append, List.length_cons, List.length_nil]; omega
  have e2 := flat_le (f := toldText 110) (g := wS) 100 b.Names fun t ht => told_text_le 110 (fw t ht)
  have e3 := flat_le (f := toldInt 115) (g := wI) 100 b.Sets fun n hn => told_int_le 115 (vs n hn)
  have e4 := toldT_le b.Where ow (by omega)
  simp only [toldB, wB, List.length_append]
  omega

/-! ### the weight of what is read -/
theorem els_uncons {α : Type} {r : α → List AVal → Prop} {x : α} {xs : List α} {c : List AVal} {css : List (List AVal)} (E : Els r (x :: xs) (c :: css)) : r x c ∧ Els r xs css :=
  ⟨E.2 0 x c rfl rfl, by have := E.1; simpa using this, fun i y d hy hd => E.2 (i + 1) y d (by simpa using hy) (by simpa using hd)⟩
theorem els_w {α : Type} {r : α → List AVal → Prop} {g : α → Nat} (H : ∀ x c, r x c → g x ≤ bulkL c) : ∀ (css : List (List AVal)) (xs : List α), Els r xs css → (xs.map g).sum ≤ bulkL css.flatten := by
  intro css
  induction css with
  | nil =>
    intro xs E
    have := E.1
    have e : xs = [] := List.eq_nil_of_length_eq_zero (by simpa using this.symm)
    rw [e]
    exact Nat.zero_le _
  | cons c css ih =>
    intro xs E
    cases xs with
    | nil => have := E.1; simp at this
    | cons x xs =>
      obtain ⟨h1, h2⟩ := els_uncons E
      have e1 := H x c h1
      have e2 := ih xs h2
      rw [List.flatten_cons, bulkL_append, List.map_cons, List.sum_cons]
      omega
theorem sl_w {α : Type} {r : α → List AVal → Prop} {g : α → Nat} (H : ∀ x c, r x c → g x ≤ bulkL c) {xs : List α} {v : AVal} (h : Sl r xs v) : (xs.map g).sum + 1 ≤ bulkA v := by
  rcases h with ⟨h0, h1⟩ | ⟨css, cap, rfl, E⟩
  · subst h0
    rw [h1]
    simp [bulkA]
  · have := els_w H css xs E
    simp only [bulkA]
    omega
theorem s_w (x : List UInt8) (c : List AVal) (h : rS x c) : wS x ≤ bulkL c := by
  rw [show c = [.str x] from h]; simp [bulkL, bulkA, wS]
theorem i_w (x : Int) (c : List AVal) (h : rI .i64 x c) : wI x ≤ bulkL c := by
  rw [show c = [.int .i64 x] from h]; simp [bulkL, bulkA, wI]
theorem p_w (x : Pick) (c : List AVal) (h : rPick x c) : wP x ≤ bulkL c := by
  rw [show c = _ from h]; simp [bulkL, bulkA, wP]
theorem t_w : ∀ (x : TestT) (v : AVal), rTestT x [v] → wT x ≤ bulkA v := by
  intro x
  induction x with
  | nil => intro v h; cases h; simp [bulkA, wT]
  | mk a0 a1 a2 a3 a4 a5 a6 a7 ih0 ih1 =>
    intro v h
    obtain ⟨v0, v1, v2, v3, hc, h0, h1, h2, h3⟩ := h
    cases hc
    have e0 := ih0 _ h0
    have e1 := ih1 _ h1
    have e2 := sl_w s_w h2
    have e3 := sl_w i_w h3
    simp only [bulkA, bulkL, wT]
    omega
theorem b_w {b : Bound} {c : List AVal} (h : rBound b c) : wB b ≤ bulkL c := by
  obtain ⟨v0, v1, v2, v3, rfl, h0, h1, h2, h3⟩ := h
  have e0 := sl_w p_w h0
  have e1 := sl_w s_w h1
  have e2 := t_w _ _ h2
  have e3 := sl_w i_w h3
  simp only [bulkL, wB]
  omega
end Go.Proofs.Ky
