-- GN Par
/-
  PARSE: two queries are the same just if they are: what both texts' comparing functions tell.
-/
import Derived.Test.YthfbbjoaidajfaaGreatDoorParScFns
import Derived.Test.YthfbbjoaidajfaaGreatDoorParArg
set_option linter.unusedVariables false
set_option linter.unusedSimpArgs false
set_option linter.unusedSimpArgs false
set_option linter.unusedVariables false
set_option maxRecDepth 100000
namespace Go.Proofs.Par
open Go Go.Am


/-- A loop that compares two lists of one length, place by place. -/
theorem eq_loop {F α : Type} (f : Mo F) (xs ys : List α) (out : Nat) (I : Nat → F → Prop) (bad : F → Prop) (hlen : xs.length = ys.length)
    (hend : ∀ s, I xs.length s → ∃ s', f s = some (.ext out, s') ∧ I xs.length s')
    (hstep : ∀ k s x y, k < xs.length → I k s → xs[k]? = some x → ys[k]? = some y → (x = y → ∃ s', f s = some (.nrm, s') ∧ I (k + 1) s') ∧ (x ≠ y → ∃ s', f s = some (.ret, s') ∧ bad s')) :
    ∀ (m k : Nat) (s : F), k + m = xs.length → I k s → (xs.drop k = ys.drop k → ∃ s', loopM f s = some (.ext out, s') ∧ I xs.length s') ∧ (xs.drop k ≠ ys.drop k → ∃ s', loopM f s = some (.ret, s') ∧ bad s') := by
  intro m
  induction m with
  | zero =>
    intro k s hk hI
    obtain rfl : k = xs.length := by omega
    have e : xs.drop xs.length = ys.drop xs.length := by rw [List.drop_length, hlen, List.drop_length]
    obtain ⟨s', hf, hI'⟩ := hend s hI
    exact ⟨fun _ => ⟨s', loopM_ext hf, hI'⟩, fun h => absurd e h⟩
  | succ m ih =>
    intro k s hk hI
    have hkx : k < xs.length := by omega
    have hky : k < ys.length := by omega
    have ex := List.drop_eq_getElem_cons hkx
    have ey := List.drop_eq_getElem_cons hky
    obtain ⟨h1, h2⟩ := hstep k s xs[k] ys[k] hkx hI (List.getElem?_eq_getElem hkx) (List.getElem?_eq_getElem hky)
    by_cases he : xs[k] = ys[k]
    · obtain ⟨s', hf, hI'⟩ := h1 he
      obtain ⟨g1, g2⟩ := ih (k + 1) s' (by omega) hI'
      rw [ex, ey, he, loopM_nrm hf]
      refine ⟨fun h => g1 (List.cons.inj h).2, fun h => g2 fun h' => h (by rw [h'])⟩
    · obtain ⟨s', hf, hb⟩ := h2 he
      rw [ex, ey]
      exact ⟨fun h => absurd (List.cons.inj h).1 he, fun _ => ⟨s', loopM_ret hf, hb⟩⟩

theorem len_ne {α : Type} {xs ys : List α} (h : xs.length ≠ ys.length) : ((xs.length : Int) != (ys.length : Int)) = true := by
  simp only [bne_iff_ne, ne_eq]; omega
theorem len_eq {α : Type} {xs ys : List α} (h : xs.length = ys.length) : ((xs.length : Int) != (ys.length : Int)) = false := by
  rw [h]; simp
theorem lt_t {k n : Nat} (h : k < n) : decide ((k : Int) < (n : Int)) = true := by simp; exact h
theorem lt_f (n : Nat) : decide ((n : Int) < (n : Int)) = false := by simp
theorem up1 {k n : Nat} (h : k < n) (hn : n ≤ 9223372036854775807) : IntKind.wrap .i64 ((k : Int) + 1) = ((k + 1 : Nat) : Int) := by
  rw [wrap64 (by omega) (by omega)]; rfl
theorem eqValue_t (a b : Value) : eqValue a b = true ↔ a = b := by
  cases a; cases b
  simp [eqValue, and_assoc]
theorem eqItem_t (a b : Item) : eqItem a b = true ↔ a = b := by
  cases a; cases b
  simp [eqItem]
theorem eqStr_t (a b : List (List UInt8)) : (a == b) = true ↔ a = b := by simp
theorem not_of {b : Bool} {p : Prop} (h : b = true ↔ p) (hp : p) : (!b) = false := by rw [h.2 hp]; rfl
theorem not_of' {b : Bool} {p : Prop} (h : b = true ↔ p) (hp : ¬ p) : (!b) = true := by
  cases b
  · rfl
  · exact absurd (h.1 rfl) hp
theorem iff_t {b : Bool} {p : Prop} (h : b = true ↔ p) (hp : p) : b = true := h.2 hp
theorem iff_f {b : Bool} {p : Prop} (h : b = true ↔ p) (hp : ¬ p) : b = false := by
  cases b
  · rfl
  · exact absurd (h.1 rfl) hp

theorem eqS (a b : List UInt8) : (a == b) = true ↔ a = b := by simp
theorem ok53 {xs ys : List (List UInt8)} (hx : Fits xs) : ∃ b, G53 xs ys = some b ∧ (b = true ↔ xs = ys) := by
  unfold G53 M53
  by_cases hl : xs.length = ys.length
  case neg =>
    exact ⟨false, by simp only [m53_0, m53_7, m53_8, m53_9, m53_10, seqM, condM, blockM, skipM, exitM, retM, len_ne hl], ⟨fun h => (by cases h), fun h => absurd (by rw [h]) hl⟩⟩
  have base := eq_loop L53_6 xs ys 0 (fun k s => s.t0 = xs ∧ s.t1 = ys ∧ s.t12 = (xs.length : Int) ∧ s.t13 = (k : Int)) (fun s => s.t4 = false) hl
    (by
      rintro s ⟨h0, h1, h12, h13⟩
      refine ⟨_, by simp only [L53_6, m53_1, m53_2, m53_3, m53_4, m53_5, seqM, condM, blockM, skipM, exitM, retM, h0, h1, h12, h13, lt_f]; exact rfl, ?_⟩
      refine ⟨?_, ?_, ?_, ?_⟩ <;> first | rfl | assumption)
    (by
      rintro k s x y hk ⟨h0, h1, h12, h13⟩ gx gy
      have ax : at? xs (k : Int) = some x := by rw [at_nat]; exact gx
      have ay : at? ys (k : Int) = some y := by rw [at_nat]; exact gy
      refine ⟨fun e => ?_, fun e => ?_⟩
      · have q := not_of (eqS x y) e
        refine ⟨_, by simp only [L53_6, m53_1, m53_2, m53_3, m53_4, m53_5, seqM, condM, blockM, skipM, exitM, retM, h0, h1, h12, h13, lt_t hk, ax, ay, Option.bind_some, q, up1 hk hx]; exact rfl, ?_⟩
        refine ⟨?_, ?_, ?_, ?_⟩ <;> first | rfl | assumption
      · have q := not_of' (eqS x y) e
        refine ⟨_, by simp only [L53_6, m53_1, m53_2, m53_3, m53_4, m53_5, seqM, condM, blockM, skipM, exitM, retM, h0, h1, h12, h13, lt_t hk, ax, ay, Option.bind_some, q]; exact rfl, ?_⟩
        rfl)
    xs.length 0
  obtain ⟨h1, h2⟩ := base { (default : Fr53) with t0 := xs, t1 := ys, t10 := false, t12 := (xs.length : Int), t13 := 0 } (Nat.zero_add _) ⟨rfl, rfl, rfl, rfl⟩
  by_cases he : xs = ys
  · obtain ⟨s', hs, _⟩ := h1 (by rw [he])
    dsimp only at hs
    exact ⟨true, by simp only [m53_0, m53_7, m53_8, m53_9, m53_10, seqM, condM, blockM, skipM, exitM, retM, len_eq hl, hs, if_true], ⟨fun _ => he, fun _ => rfl⟩⟩
  · obtain ⟨s', hs, hb⟩ := h2 (by simpa using he)
    dsimp only at hs
    exact ⟨false, by simp only [m53_0, m53_7, m53_8, m53_9, m53_10, seqM, condM, blockM, skipM, exitM, retM, len_eq hl, hs, hb], ⟨fun h => (by cases h), fun h => absurd h he⟩⟩
theorem ok50 {xs ys : List Item} (hx : Fits xs) : ∃ b, G50 xs ys = some b ∧ (b = true ↔ xs = ys) := by
  unfold G50 M50
  by_cases hl : xs.length = ys.length
  case neg =>
    exact ⟨false, by simp only [m50_0, m50_7, m50_8, m50_9, m50_10, seqM, condM, blockM, skipM, exitM, retM, len_ne hl], ⟨fun h => (by cases h), fun h => absurd (by rw [h]) hl⟩⟩
  have base := eq_loop L50_6 xs ys 0 (fun k s => s.t0 = xs ∧ s.t1 = ys ∧ s.t12 = (xs.length : Int) ∧ s.t13 = (k : Int)) (fun s => s.t4 = false) hl
    (by
      rintro s ⟨h0, h1, h12, h13⟩
      refine ⟨_, by simp only [L50_6, m50_1, m50_2, m50_3, m50_4, m50_5, seqM, condM, blockM, skipM, exitM, retM, h0, h1, h12, h13, lt_f]; exact rfl, ?_⟩
      refine ⟨?_, ?_, ?_, ?_⟩ <;> first | rfl | assumption)
    (by
      rintro k s x y hk ⟨h0, h1, h12, h13⟩ gx gy
      have ax : at? xs (k : Int) = some x := by rw [at_nat]; exact gx
      have ay : at? ys (k : Int) = some y := by rw [at_nat]; exact gy
      refine ⟨fun e => ?_, fun e => ?_⟩
      · have q := not_of (eqItem_t x y) e
        refine ⟨_, by simp only [L50_6, m50_1, m50_2, m50_3, m50_4, m50_5, seqM, condM, blockM, skipM, exitM, retM, h0, h1, h12, h13, lt_t hk, ax, ay, Option.bind_some, q, up1 hk hx]; exact rfl, ?_⟩
        refine ⟨?_, ?_, ?_, ?_⟩ <;> first | rfl | assumption
      · have q := not_of' (eqItem_t x y) e
        refine ⟨_, by simp only [L50_6, m50_1, m50_2, m50_3, m50_4, m50_5, seqM, condM, blockM, skipM, exitM, retM, h0, h1, h12, h13, lt_t hk, ax, ay, Option.bind_some, q]; exact rfl, ?_⟩
        rfl)
    xs.length 0
  obtain ⟨h1, h2⟩ := base { (default : Fr50) with t0 := xs, t1 := ys, t10 := false, t12 := (xs.length : Int), t13 := 0 } (Nat.zero_add _) ⟨rfl, rfl, rfl, rfl⟩
  by_cases he : xs = ys
  · obtain ⟨s', hs, _⟩ := h1 (by rw [he])
    dsimp only at hs
    exact ⟨true, by simp only [m50_0, m50_7, m50_8, m50_9, m50_10, seqM, condM, blockM, skipM, exitM, retM, len_eq hl, hs, if_true], ⟨fun _ => he, fun _ => rfl⟩⟩
  · obtain ⟨s', hs, hb⟩ := h2 (by simpa using he)
    dsimp only at hs
    exact ⟨false, by simp only [m50_0, m50_7, m50_8, m50_9, m50_10, seqM, condM, blockM, skipM, exitM, retM, len_eq hl, hs, hb], ⟨fun h => (by cases h), fun h => absurd h he⟩⟩
theorem ok99 {xs ys : List Value} (hx : Fits xs) : ∃ b, G99 xs ys = some b ∧ (b = true ↔ xs = ys) := by
  unfold G99 M99
  by_cases hl : xs.length = ys.length
  case neg =>
    exact ⟨false, by simp only [m99_0, m99_7, m99_8, m99_9, m99_10, seqM, condM, blockM, skipM, exitM, retM, len_ne hl], ⟨fun h => (by cases h), fun h => absurd (by rw [h]) hl⟩⟩
  have base := eq_loop L99_6 xs ys 0 (fun k s => s.t0 = xs ∧ s.t1 = ys ∧ s.t12 = (xs.length : Int) ∧ s.t13 = (k : Int)) (fun s => s.t4 = false) hl
    (by
      rintro s ⟨h0, h1, h12, h13⟩
      refine ⟨_, by simp only [L99_6, m99_1, m99_2, m99_3, m99_4, m99_5, seqM, condM, blockM, skipM, exitM, retM, h0, h1, h12, h13, lt_f]; exact rfl, ?_⟩
      refine ⟨?_, ?_, ?_, ?_⟩ <;> first | rfl | assumption)
    (by
      rintro k s x y hk ⟨h0, h1, h12, h13⟩ gx gy
      have ax : at? xs (k : Int) = some x := by rw [at_nat]; exact gx
      have ay : at? ys (k : Int) = some y := by rw [at_nat]; exact gy
      refine ⟨fun e => ?_, fun e => ?_⟩
      · have q := not_of (eqValue_t x y) e
        refine ⟨_, by simp only [L99_6, m99_1, m99_2, m99_3, m99_4, m99_5, seqM, condM, blockM, skipM, exitM, retM, h0, h1, h12, h13, lt_t hk, ax, ay, Option.bind_some, q, up1 hk hx]; exact rfl, ?_⟩
        refine ⟨?_, ?_, ?_, ?_⟩ <;> first | rfl | assumption
      · have q := not_of' (eqValue_t x y) e
        refine ⟨_, by simp only [L99_6, m99_1, m99_2, m99_3, m99_4, m99_5, seqM, condM, blockM, skipM, exitM, retM, h0, h1, h12, h13, lt_t hk, ax, ay, Option.bind_some, q]; exact rfl, ?_⟩
        rfl)
    xs.length 0
  obtain ⟨h1, h2⟩ := base { (default : Fr99) with t0 := xs, t1 := ys, t10 := false, t12 := (xs.length : Int), t13 := 0 } (Nat.zero_add _) ⟨rfl, rfl, rfl, rfl⟩
  by_cases he : xs = ys
  · obtain ⟨s', hs, _⟩ := h1 (by rw [he])
    dsimp only at hs
    exact ⟨true, by simp only [m99_0, m99_7, m99_8, m99_9, m99_10, seqM, condM, blockM, skipM, exitM, retM, len_eq hl, hs, if_true], ⟨fun _ => he, fun _ => rfl⟩⟩
  · obtain ⟨s', hs, hb⟩ := h2 (by simpa using he)
    dsimp only at hs
    exact ⟨false, by simp only [m99_0, m99_7, m99_8, m99_9, m99_10, seqM, condM, blockM, skipM, exitM, retM, len_eq hl, hs, hb], ⟨fun h => (by cases h), fun h => absurd h he⟩⟩
theorem ok82 {xs ys : List (List UInt8)} (hx : Fits xs) : ∃ b, G82 xs ys = some b ∧ (b = true ↔ xs = ys) := by
  unfold G82 M82
  by_cases hl : xs.length = ys.length
  case neg =>
    exact ⟨false, by simp only [m82_0, m82_6, m82_7, m82_8, m82_9, seqM, condM, blockM, skipM, exitM, retM, len_ne hl], ⟨fun h => (by cases h), fun h => absurd (by rw [h]) hl⟩⟩
  have base := eq_loop L82_5 xs ys 0 (fun k s => s.t0 = xs ∧ s.t1 = ys ∧ s.t5 = (k : Int)) (fun s => s.t4 = false) hl
    (by
      rintro s ⟨h0, h1, h5⟩
      refine ⟨_, by simp only [L82_5, m82_1, m82_2, m82_3, m82_4, seqM, condM, blockM, skipM, exitM, retM, h0, h1, h5, lt_f]; exact rfl, ?_⟩
      refine ⟨?_, ?_, ?_⟩ <;> first | rfl | assumption)
    (by
      rintro k s x y hk ⟨h0, h1, h5⟩ gx gy
      have ax : at? xs (k : Int) = some x := by rw [at_nat]; exact gx
      have ay : at? ys (k : Int) = some y := by rw [at_nat]; exact gy
      refine ⟨fun e => ?_, fun e => ?_⟩
      · have q := not_of (eqS x y) e
        refine ⟨_, by simp only [L82_5, m82_1, m82_2, m82_3, m82_4, seqM, condM, blockM, skipM, exitM, retM, h0, h1, h5, lt_t hk, ax, ay, Option.bind_some, q, up1 hk hx]; exact rfl, ?_⟩
        refine ⟨?_, ?_, ?_⟩ <;> first | rfl | assumption
      · have q := not_of' (eqS x y) e
        refine ⟨_, by simp only [L82_5, m82_1, m82_2, m82_3, m82_4, seqM, condM, blockM, skipM, exitM, retM, h0, h1, h5, lt_t hk, ax, ay, Option.bind_some, q]; exact rfl, ?_⟩
        rfl)
    xs.length 0
  obtain ⟨h1, h2⟩ := base { (default : Fr82) with t0 := xs, t1 := ys, t10 := false, t5 := 0 } (Nat.zero_add _) ⟨rfl, rfl, rfl⟩
  by_cases he : xs = ys
  · obtain ⟨s', hs, _⟩ := h1 (by rw [he])
    dsimp only at hs
    exact ⟨true, by simp only [m82_0, m82_6, m82_7, m82_8, m82_9, seqM, condM, blockM, skipM, exitM, retM, len_eq hl, hs, if_true], ⟨fun _ => he, fun _ => rfl⟩⟩
  · obtain ⟨s', hs, hb⟩ := h2 (by simpa using he)
    dsimp only at hs
    exact ⟨false, by simp only [m82_0, m82_6, m82_7, m82_8, m82_9, seqM, condM, blockM, skipM, exitM, retM, len_eq hl, hs, hb], ⟨fun h => (by cases h), fun h => absurd h he⟩⟩
theorem not_len {α : Type} {a b : List α} (h : a = b) : a.length = b.length := by rw [h]
theorem ok30 {a b : Group} (ha : OkG a) : ∃ r, G30 a b = some r ∧ (r = true ↔ a = b) := by
  obtain ⟨c, hc, hc'⟩ := ok82 (xs := a.Columns) (ys := b.Columns) ha.1
  unfold G30 M30
  by_cases e : c = true ∧ a.Kind = b.Kind ∧ a.Sets.length = b.Sets.length
  case neg =>
    have h30 : (((!c) || (a.Kind != b.Kind)) || ((a.Sets.length : Int) != (b.Sets.length : Int))) = true := by
      cases c with
      | false => rfl
      | true =>
        by_cases hk : a.Kind = b.Kind
        · have hl : a.Sets.length ≠ b.Sets.length := fun hl => e ⟨rfl, hk, hl⟩
          rw [len_ne hl]; simp
        · simp [hk]
    exact ⟨false, by simp only [m30_8, m30_9, m30_10, m30_11, seqM, condM, blockM, skipM, exitM, retM, hc, Option.bind_some, h30], ⟨fun h => (by cases h), fun h => absurd ⟨hc'.2 (by rw [h]), by rw [h], by rw [h]⟩ e⟩⟩
  obtain ⟨e1, e2, e3⟩ := e
  subst e1
  have h30 : (((!true) || (a.Kind != b.Kind)) || ((a.Sets.length : Int) != (b.Sets.length : Int))) = false := by rw [len_eq e3]; simp [e2]
  have base := eq_loop L30_6 a.Sets b.Sets 0 (fun k s => s.t2 = a ∧ s.t3 = b ∧ s.t6 = (k : Int)) (fun s => s.t4 = false) e3
    (by
      rintro s ⟨h2, h3, h6⟩
      refine ⟨_, by simp only [L30_6, m30_5, seqM, condM, blockM, skipM, exitM, retM, h2, h3, h6, lt_f]; exact rfl, ?_⟩
      refine ⟨?_, ?_, ?_⟩ <;> first | rfl | assumption)
    (by
      rintro k s x y hk ⟨h2, h3, h6⟩ gx gy
      have ax : at? a.Sets (k : Int) = some x := by rw [at_nat]; exact gx
      have ay : at? b.Sets (k : Int) = some y := by rw [at_nat]; exact gy
      obtain ⟨d, hd, hd'⟩ := ok82 (xs := x) (ys := y) (ha.2.2 x (List.mem_of_getElem? gx))
      refine ⟨fun e => ?_, fun e => ?_⟩
      · have q := not_of hd' e
        refine ⟨_, by simp only [L30_6, m30_1, m30_2, m30_3, m30_4, m30_5, seqM, condM, blockM, skipM, exitM, retM, h2, h3, h6, lt_t hk, ax, ay, hd, Option.bind_some, q, up1 hk ha.2.1]; exact rfl, ?_⟩
        refine ⟨?_, ?_, ?_⟩ <;> first | rfl | assumption
      · have q := not_of' hd' e
        refine ⟨_, by simp only [L30_6, m30_1, m30_2, m30_3, m30_4, m30_5, seqM, condM, blockM, skipM, exitM, retM, h2, h3, h6, lt_t hk, ax, ay, hd, Option.bind_some, q]; exact rfl, ?_⟩
        rfl)
    a.Sets.length 0
  obtain ⟨h1, h2⟩ := base { (default : Fr30) with t0 := a, t1 := b, t2 := a, t3 := b, t5 := true, t30 := false, t6 := 0 } (Nat.zero_add _) ⟨rfl, rfl, rfl⟩
  by_cases he : a.Sets = b.Sets
  · obtain ⟨s', hs, _⟩ := h1 (by rw [he])
    dsimp only at hs
    refine ⟨true, by simp only [m30_0, m30_7, m30_9, m30_10, m30_11, seqM, condM, blockM, skipM, exitM, retM, hc, Option.bind_some, h30, hs, if_true], ⟨fun _ => ?_, fun _ => rfl⟩⟩
    have := hc'.1 rfl
    cases a; cases b
    simp_all
  · obtain ⟨s', hs, hb⟩ := h2 (by simpa using he)
    dsimp only at hs
    exact ⟨false, by simp only [m30_0, m30_7, m30_9, m30_10, m30_11, seqM, condM, blockM, skipM, exitM, retM, hc, Option.bind_some, h30, hs, hb], ⟨fun h => (by cases h), fun h => absurd (by rw [h]) he⟩⟩

/-! ### conditions: as many nodes as may still come -/
open Classical in
noncomputable def sc : CondT → Nat → CondT → Nat × Bool
  | .nil, n, .nil => (n, true)
  | .nil, n, .mk _ _ _ _ _ _ => (n, false)
  | .mk _ _ _ _ _ _, n, .nil => (n, false)
  | .mk k l r c o v, n, .mk k' l' r' c' o' v' =>
    if n = 0 then (0, false)
    else if k = k' ∧ c = c' ∧ o = o' ∧ v = v' then
      (if (sc l (n - 1) l').2 = true then sc r (sc l (n - 1) l').1 r' else ((sc l (n - 1) l').1, false))
    else (n - 1, false)
theorem sc_le : ∀ (a : CondT) (n : Nat) (b : CondT), (sc a n b).1 ≤ n := by
  intro a
  induction a with
  | nil => intro n b; cases b <;> simp [sc]
  | mk k l r c o v ihl ihr =>
    intro n b
    cases b with
    | nil => simp [sc]
    | mk k' l' r' c' o' v' =>
      simp only [sc]
      have h1 := ihl (n - 1) l'
      split
      · omega
      · split
        · split
          · have h2 := ihr (sc l (n - 1) l').1 r'
            omega
          · show (sc l (n - 1) l').1 ≤ n
            omega
        · show n - 1 ≤ n
          omega
theorem down1 {n : Nat} (h0 : n ≠ 0) (h : n ≤ 4096) : IntKind.wrap .i64 ((n : Int) - 1) = ((n - 1 : Nat) : Int) := by
  rw [wrap64 (by omega) (by omega)]; omega
theorem bne_f {x y : Int} (h : x = y) : (x != y) = false := by simp [h]
theorem bne_t {x y : Int} (h : x ≠ y) : (x != y) = true := by simp [h]

theorem ref31 : ∀ (a : CondT) (n : Nat) (b : CondT) (fuel : Nat), OkC a → n ≤ 4096 → n < fuel → F31 fuel ⟨n⟩ a b = some (⟨((sc a n b).1 : Nat)⟩, (sc a n b).2) := by
  intro a
  induction a with
  | nil =>
    intro n b fuel _ hn hf
    obtain ⟨f, rfl⟩ : ∃ f, fuel = f + 1 := ⟨fuel - 1, by omega⟩
    show G31 (F31 f) ⟨n⟩ .nil b = _
    unfold G31 M31
    cases b <;> simp [m31_15, m31_14, m31_13, seqM, condM, blockM, skipM, exitM, retM, CondT.isNil, sc]
  | mk k l r c o v ihl ihr =>
    intro n b fuel hok hn hf
    obtain ⟨f, rfl⟩ : ∃ f, fuel = f + 1 := ⟨fuel - 1, by omega⟩
    show G31 (F31 f) ⟨n⟩ (.mk k l r c o v) b = _
    unfold G31 M31
    cases b with
    | nil => simp [m31_15, m31_14, m31_13, seqM, condM, blockM, skipM, exitM, retM, CondT.isNil, sc]
    | mk k' l' r' c' o' v' =>
      by_cases h0 : n = 0
      · subst h0
        simp [m31_15, m31_14, m31_13, m31_12, m31_11, seqM, condM, blockM, skipM, exitM, retM, CondT.isNil, sc]
      have hb0 : ((n : Int) == 0) = false := by simp; omega
      have hd := down1 h0 hn
      have hm : n - 1 < f := by omega
      have hm4 : n - 1 ≤ 4096 := by omega
      by_cases hl : v.length = v'.length
      case neg =>
        have h76 : ((((k != k') || (!(c == c'))) || (o != o')) || ((v.length : Int) != (v'.length : Int))) = true := by rw [len_ne hl]; simp
        have hne : ¬ (k = k' ∧ c = c' ∧ o = o' ∧ v = v') := fun h => hl (by rw [h.2.2.2])
        simp only [m31_15, m31_14, m31_13, m31_12, m31_11, m31_10, m31_9, m31_8, seqM, condM, blockM, skipM, exitM, retM, CondT.isNil, CondT.get, hb0, hd, h76, Option.bind_some, Bool.or_self, sc, h0, hne, if_false]
      have hlen := len_eq hl
      by_cases he : k = k' ∧ c = c' ∧ o = o'
      case neg =>
        have h76 : ((((k != k') || (!(c == c'))) || (o != o')) || ((v.length : Int) != (v'.length : Int))) = true := by
          by_cases hk : k = k'
          · by_cases hc : c = c'
            · have ho : o ≠ o' := fun ho => he ⟨hk, hc, ho⟩
              simp [ho]
            · simp [hc]
          · simp [hk]
        have hne : ¬ (k = k' ∧ c = c' ∧ o = o' ∧ v = v') := fun h => he ⟨h.1, h.2.1, h.2.2.1⟩
        simp only [m31_15, m31_14, m31_13, m31_12, m31_11, m31_10, m31_9, m31_8, seqM, condM, blockM, skipM, exitM, retM, CondT.isNil, CondT.get, hb0, hd, h76, Option.bind_some, Bool.or_self, sc, h0, hne, if_false]
      obtain ⟨rfl, rfl, rfl⟩ := he
      have h76 : ((((k != k) || (!(c == c))) || (o != o)) || ((v.length : Int) != (v'.length : Int))) = false := by rw [hlen]; simp
      have base := eq_loop (L31_6 (F31 f)) v v' 0 (fun j s => s.st = ⟨((n - 1 : Nat) : Int)⟩ ∧ s.t0 = .mk k l r c o v ∧ s.t1 = .mk k l' r' c o v' ∧ s.t7 = (j : Int)) (fun s => s.t6 = false ∧ s.st = ⟨((n - 1 : Nat) : Int)⟩) hl
        (by
          rintro s ⟨h1, h2, h3, h4⟩
          refine ⟨_, by simp only [L31_6, m31_5, seqM, condM, blockM, skipM, exitM, retM, h1, h2, h3, h4, CondT.get, Option.bind_some, lt_f]; exact rfl, ?_⟩
          refine ⟨?_, ?_, ?_, ?_⟩ <;> first | rfl | assumption)
        (by
          rintro j s x y hj ⟨h1, h2, h3, h4⟩ gx gy
          have ax : at? v (j : Int) = some x := by rw [at_nat]; exact gx
          have ay : at? v' (j : Int) = some y := by rw [at_nat]; exact gy
          refine ⟨fun e => ?_, fun e => ?_⟩
          · have q := not_of (eqValue_t x y) e
            refine ⟨_, by simp only [L31_6, m31_2, m31_3, m31_4, m31_5, seqM, condM, blockM, skipM, exitM, retM, h1, h2, h3, h4, CondT.get, Option.bind_some, lt_t hj, ax, ay, q, up1 hj hok.2.2]; exact rfl, ?_⟩
            refine ⟨?_, ?_, ?_, ?_⟩ <;> first | rfl | assumption
          · have q := not_of' (eqValue_t x y) e
            refine ⟨_, by simp only [L31_6, m31_2, m31_3, m31_4, m31_5, seqM, condM, blockM, skipM, exitM, retM, h1, h2, h3, h4, CondT.get, Option.bind_some, lt_t hj, ax, ay, q]; exact rfl, ?_⟩
            refine ⟨?_, ?_⟩ <;> first | rfl | assumption)
        v.length 0
      obtain ⟨g1, g2⟩ := base { (default : Fr31) with st := ⟨((n - 1 : Nat) : Int)⟩, t0 := .mk k l r c o v, t1 := .mk k l' r' c o v', t14 := false, t25 := false, t76 := false, t7 := 0 } (Nat.zero_add _) ⟨rfl, rfl, rfl, rfl⟩
      by_cases hv : v = v'
      case neg =>
        obtain ⟨s', hs, hb⟩ := g2 (by simpa using hv)
        dsimp only at hs
        have hne : ¬ (k = k ∧ c = c ∧ o = o ∧ v = v') := fun h => hv h.2.2.2
        simp only [m31_15, m31_14, m31_12, m31_10, m31_9, m31_7, seqM, condM, blockM, skipM, exitM, retM, CondT.isNil, CondT.get, hb0, hd, h76, Option.bind_some, Bool.or_self, hs, hb.1, hb.2, sc, h0, hv, and_false, if_false]
      subst hv
      obtain ⟨s', hs, hi1, hi2, hi3, hi4⟩ := g1 rfl
      dsimp only at hs
      have hL := ihl (n - 1) l' f hok.1 hm4 hm
      have hle := sc_le l (n - 1) l'
      cases hx : (sc l (n - 1) l').2 with
      | false =>
        rw [hx] at hL
        simp only [m31_15, m31_14, m31_12, m31_10, m31_9, m31_7, m31_1, m31_0, seqM, condM, blockM, skipM, exitM, retM, CondT.isNil, CondT.get, hb0, hd, h76, Option.bind_some, Bool.or_self, hs, hi1, hi2, hi3, hL, sc, h0, hx, if_false, if_true, cond_false, Bool.false_eq_true, and_self]
      | true =>
        rw [hx] at hL
        have hR := ihr (sc l (n - 1) l').1 r' f hok.2.1 (by omega) (by omega)
        simp only [m31_15, m31_14, m31_12, m31_10, m31_9, m31_7, m31_1, m31_0, seqM, condM, blockM, skipM, exitM, retM, CondT.isNil, CondT.get, hb0, hd, h76, Option.bind_some, Bool.or_self, hs, hi1, hi2, hi3, hL, hR, sc, h0, hx, if_false, if_true, cond_true, and_self]

theorem ok14 {a b : Query} (ha : OkQ a) : ∃ r, G14 a b = some r ∧ (r = true ↔ (a.Table = b.Table ∧ a.Grouped = b.Grouped ∧ a.Items = b.Items ∧ a.Groups = b.Groups ∧ (sc a.Where 4096 b.Where).2 = true)) := by
  have hC := ref31 a.Where 4096 b.Where 5000 ha.2.2.2 (by omega) (by omega)
  unfold G14 M14
  by_cases e : a.Table = b.Table ∧ a.Grouped = b.Grouped ∧ a.Items.length = b.Items.length ∧ a.Groups.length = b.Groups.length
  case neg =>
    have h37 : ((((!(a.Table == b.Table)) || (a.Grouped != b.Grouped)) || ((a.Items.length : Int) != (b.Items.length : Int))) || ((a.Groups.length : Int) != (b.Groups.length : Int))) = true := by
      by_cases h1 : a.Table = b.Table
      · by_cases h2 : a.Grouped = b.Grouped
        · by_cases h3 : a.Items.length = b.Items.length
          · have h4 : a.Groups.length ≠ b.Groups.length := fun h4 => e ⟨h1, h2, h3, h4⟩
            rw [len_ne h4]; simp
          · rw [len_ne h3]; simp
        · simp [h2]
      · simp [h1]
    exact ⟨false, by simp only [m14_14, m14_15, m14_16, seqM, condM, blockM, skipM, exitM, retM, h37], ⟨fun h => (by cases h), fun h => absurd ⟨h.1, h.2.1, by rw [h.2.2.1], by rw [h.2.2.2.1]⟩ e⟩⟩
  obtain ⟨e1, e2, e3, e4⟩ := e
  have h37 : ((((!(a.Table == b.Table)) || (a.Grouped != b.Grouped)) || ((a.Items.length : Int) != (b.Items.length : Int))) || ((a.Groups.length : Int) != (b.Groups.length : Int))) = false := by
    rw [len_eq e3, len_eq e4, e1, e2]; simp
  have base := eq_loop L14_12 a.Items b.Items 0 (fun k s => s.t2 = a ∧ s.t3 = b ∧ s.t5 = (k : Int)) (fun s => s.t4 = false) e3
    (by
      rintro s ⟨h2, h3, h6⟩
      refine ⟨_, by simp only [L14_12, m14_11, seqM, condM, blockM, skipM, exitM, retM, h2, h3, h6, lt_f]; exact rfl, ?_⟩
      refine ⟨?_, ?_, ?_⟩ <;> first | rfl | assumption)
    (by
      rintro k s x y hk ⟨h2, h3, h6⟩ gx gy
      have ax : at? a.Items (k : Int) = some x := by rw [at_nat]; exact gx
      have ay : at? b.Items (k : Int) = some y := by rw [at_nat]; exact gy
      refine ⟨fun e => ?_, fun e => ?_⟩
      · have q := not_of (eqItem_t x y) e
        refine ⟨_, by simp only [L14_12, m14_8, m14_9, m14_10, m14_11, seqM, condM, blockM, skipM, exitM, retM, h2, h3, h6, lt_t hk, ax, ay, Option.bind_some, q, up1 hk ha.1]; exact rfl, ?_⟩
        refine ⟨?_, ?_, ?_⟩ <;> first | rfl | assumption
      · have q := not_of' (eqItem_t x y) e
        refine ⟨_, by simp only [L14_12, m14_8, m14_9, m14_10, m14_11, seqM, condM, blockM, skipM, exitM, retM, h2, h3, h6, lt_t hk, ax, ay, Option.bind_some, q]; exact rfl, ?_⟩
        rfl)
    a.Items.length 0
  have base2 := eq_loop L14_6 a.Groups b.Groups 2 (fun k s => s.t2 = a ∧ s.t3 = b ∧ s.t6 = (k : Int)) (fun s => s.t4 = false) e4
    (by
      rintro s ⟨h2, h3, h6⟩
      refine ⟨_, by simp only [L14_6, m14_5, seqM, condM, blockM, skipM, exitM, retM, h2, h3, h6, lt_f]; exact rfl, ?_⟩
      refine ⟨?_, ?_, ?_⟩ <;> first | rfl | assumption)
    (by
      rintro k s x y hk ⟨h2, h3, h6⟩ gx gy
      have ax : at? a.Groups (k : Int) = some x := by rw [at_nat]; exact gx
      have ay : at? b.Groups (k : Int) = some y := by rw [at_nat]; exact gy
      obtain ⟨d, hd, hd'⟩ := ok30 (a := x) (b := y) (ha.2.2.1 x (List.mem_of_getElem? gx))
      refine ⟨fun e => ?_, fun e => ?_⟩
      · have q := not_of hd' e
        refine ⟨_, by simp only [L14_6, m14_1, m14_2, m14_3, m14_4, m14_5, seqM, condM, blockM, skipM, exitM, retM, h2, h3, h6, lt_t hk, ax, ay, hd, Option.bind_some, q, up1 hk ha.2.1]; exact rfl, ?_⟩
        refine ⟨?_, ?_, ?_⟩ <;> first | rfl | assumption
      · have q := not_of' hd' e
        refine ⟨_, by simp only [L14_6, m14_1, m14_2, m14_3, m14_4, m14_5, seqM, condM, blockM, skipM, exitM, retM, h2, h3, h6, lt_t hk, ax, ay, hd, Option.bind_some, q]; exact rfl, ?_⟩
        rfl)
    a.Groups.length 0
  obtain ⟨g1, g2⟩ := base { (default : Fr14) with t0 := a, t1 := b, t2 := a, t3 := b, t37 := false, t5 := 0 } (Nat.zero_add _) ⟨rfl, rfl, rfl⟩
  by_cases hI : a.Items = b.Items
  case neg =>
    obtain ⟨s', hs, hb⟩ := g2 (by simpa using hI)
    dsimp only at hs
    exact ⟨false, by simp only [m14_13, m14_15, m14_16, seqM, condM, blockM, skipM, exitM, retM, h37, hs, hb], ⟨fun h => (by cases h), fun h => absurd h.2.2.1 hI⟩⟩
  obtain ⟨s1, hs, i2, i3, _⟩ := g1 (by rw [hI])
  dsimp only at hs
  obtain ⟨k1, k2⟩ := base2 { s1 with t6 := 0 } (Nat.zero_add _) ⟨i2, i3, rfl⟩
  by_cases hG : a.Groups = b.Groups
  case neg =>
    obtain ⟨s', hs2, hb⟩ := k2 (by simpa using hG)
    try dsimp only at hs2
    exact ⟨false, by simp only [m14_7, m14_13, m14_15, m14_16, seqM, condM, blockM, skipM, exitM, retM, h37, hs, hs2, hb, if_true], ⟨fun h => (by cases h), fun h => absurd h.2.2.2.1 hG⟩⟩
  obtain ⟨s2, hs2, j2, j3, _⟩ := k1 (by rw [hG])
  try dsimp only at hs2
  refine ⟨(sc a.Where 4096 b.Where).2, ?_, ⟨fun h => ⟨e1, e2, hI, hG, h⟩, fun h => h.2.2.2.2⟩⟩
  have hC' : F31 5000 { n := 4096 } a.Where b.Where = _ := hC
  simp only [m14_0, m14_7, m14_13, m14_15, m14_16, seqM, condM, blockM, skipM, exitM, retM, h37, hs, hs2, if_true, j2, j3, hC', Option.bind_some]

-- PROGRAM
theorem ok54 {xs ys : List (List (List UInt8))} {e : (List (List UInt8)) → (List (List UInt8)) → Option Bool} (hx : Fits xs) (he : ∀ x ∈ xs, ∀ y, ∃ r, e x y = some r ∧ (r = true ↔ x = y)) : ∃ b, G54 xs ys e = some b ∧ (b = true ↔ xs = ys) := by
  unfold G54 M54
  by_cases hl : xs.length = ys.length
  case neg =>
    exact ⟨false, by simp only [m54_9, m54_10, m54_11, seqM, condM, blockM, skipM, exitM, retM, len_ne hl], ⟨fun h => (by cases h), fun h => absurd (by rw [h]) hl⟩⟩
  have base := eq_loop L54_7 xs ys 0 (fun k s => s.t15 = xs ∧ s.t1 = ys ∧ s.t2 = e ∧ s.t16 = (xs.length : Int) ∧ s.t17 = (k : Int)) (fun s => s.t6 = false) hl
    (by
      rintro s ⟨h0, h1, h2, h3, h4⟩
      refine ⟨_, by simp only [L54_7, m54_6, seqM, condM, blockM, skipM, exitM, retM, h0, h1, h2, h3, h4, lt_f]; exact rfl, ?_⟩
      refine ⟨?_, ?_, ?_, ?_, ?_⟩ <;> first | rfl | assumption)
    (by
      rintro k s x y hk ⟨h0, h1, h2, h3, h4⟩ gx gy
      have ax : at? xs (k : Int) = some x := by rw [at_nat]; exact gx
      have ay : at? ys (k : Int) = some y := by rw [at_nat]; exact gy
      obtain ⟨d, hd, hd'⟩ := he x (List.mem_of_getElem? gx) y
      refine ⟨fun e => ?_, fun e => ?_⟩
      · have q := not_of hd' e
        refine ⟨_, by simp only [L54_7, m54_1, m54_2, m54_3, m54_4, m54_5, m54_6, seqM, condM, blockM, skipM, exitM, retM, h0, h1, h2, h3, h4, lt_t hk, ax, ay, hd, Option.bind_some, q, up1 hk hx]; exact rfl, ?_⟩
        refine ⟨?_, ?_, ?_, ?_, ?_⟩ <;> first | rfl | assumption
      · have q := not_of' hd' e
        refine ⟨_, by simp only [L54_7, m54_1, m54_2, m54_3, m54_4, m54_5, m54_6, seqM, condM, blockM, skipM, exitM, retM, h0, h1, h2, h3, h4, lt_t hk, ax, ay, hd, Option.bind_some, q]; exact rfl, ?_⟩
        rfl)
    xs.length 0
  obtain ⟨h1, h2⟩ := base { (default : Fr54) with t0 := xs, t1 := ys, t2 := e, t14 := false, t15 := xs, t16 := (xs.length : Int), t17 := 0 } (Nat.zero_add _) ⟨rfl, rfl, rfl, rfl, rfl⟩
  by_cases hq : xs = ys
  · obtain ⟨s', hs, _⟩ := h1 (by rw [hq])
    dsimp only at hs
    exact ⟨true, by simp only [m54_0, m54_8, m54_10, m54_11, seqM, condM, blockM, skipM, exitM, retM, len_eq hl, hs, if_true], ⟨fun _ => hq, fun _ => rfl⟩⟩
  · obtain ⟨s', hs, hb⟩ := h2 (by simpa using hq)
    dsimp only at hs
    exact ⟨false, by simp only [m54_0, m54_8, m54_10, m54_11, seqM, condM, blockM, skipM, exitM, retM, len_eq hl, hs, hb], ⟨fun h => (by cases h), fun h => absurd h hq⟩⟩
theorem ok51 {xs ys : List Group} {e : Group → Group → Option Bool} (hx : Fits xs) (he : ∀ x ∈ xs, ∀ y, ∃ r, e x y = some r ∧ (r = true ↔ x = y)) : ∃ b, G51 xs ys e = some b ∧ (b = true ↔ xs = ys) := by
  unfold G51 M51
  by_cases hl : xs.length = ys.length
  case neg =>
    exact ⟨false, by simp only [m51_9, m51_10, m51_11, seqM, condM, blockM, skipM, exitM, retM, len_ne hl], ⟨fun h => (by cases h), fun h => absurd (by rw [h]) hl⟩⟩
  have base := eq_loop L51_7 xs ys 0 (fun k s => s.t15 = xs ∧ s.t1 = ys ∧ s.t2 = e ∧ s.t16 = (xs.length : Int) ∧ s.t17 = (k : Int)) (fun s => s.t6 = false) hl
    (by
      rintro s ⟨h0, h1, h2, h3, h4⟩
      refine ⟨_, by simp only [L51_7, m51_6, seqM, condM, blockM, skipM, exitM, retM, h0, h1, h2, h3, h4, lt_f]; exact rfl, ?_⟩
      refine ⟨?_, ?_, ?_, ?_, ?_⟩ <;> first | rfl | assumption)
    (by
      rintro k s x y hk ⟨h0, h1, h2, h3, h4⟩ gx gy
      have ax : at? xs (k : Int) = some x := by rw [at_nat]; exact gx
      have ay : at? ys (k : Int) = some y := by rw [at_nat]; exact gy
      obtain ⟨d, hd, hd'⟩ := he x (List.mem_of_getElem? gx) y
      refine ⟨fun e => ?_, fun e => ?_⟩
      · have q := not_of hd' e
        refine ⟨_, by simp only [L51_7, m51_1, m51_2, m51_3, m51_4, m51_5, m51_6, seqM, condM, blockM, skipM, exitM, retM, h0, h1, h2, h3, h4, lt_t hk, ax, ay, hd, Option.bind_some, q, up1 hk hx]; exact rfl, ?_⟩
        refine ⟨?_, ?_, ?_, ?_, ?_⟩ <;> first | rfl | assumption
      · have q := not_of' hd' e
        refine ⟨_, by simp only [L51_7, m51_1, m51_2, m51_3, m51_4, m51_5, m51_6, seqM, condM, blockM, skipM, exitM, retM, h0, h1, h2, h3, h4, lt_t hk, ax, ay, hd, Option.bind_some, q]; exact rfl, ?_⟩
        rfl)
    xs.length 0
  obtain ⟨h1, h2⟩ := base { (default : Fr51) with t0 := xs, t1 := ys, t2 := e, t14 := false, t15 := xs, t16 := (xs.length : Int), t17 := 0 } (Nat.zero_add _) ⟨rfl, rfl, rfl, rfl, rfl⟩
  by_cases hq : xs = ys
  · obtain ⟨s', hs, _⟩ := h1 (by rw [hq])
    dsimp only at hs
    exact ⟨true, by simp only [m51_0, m51_8, m51_10, m51_11, seqM, condM, blockM, skipM, exitM, retM, len_eq hl, hs, if_true], ⟨fun _ => hq, fun _ => rfl⟩⟩
  · obtain ⟨s', hs, hb⟩ := h2 (by simpa using hq)
    dsimp only at hs
    exact ⟨false, by simp only [m51_0, m51_8, m51_10, m51_11, seqM, condM, blockM, skipM, exitM, retM, len_eq hl, hs, hb], ⟨fun h => (by cases h), fun h => absurd h hq⟩⟩
theorem ok55 {xs ys : List (List UInt8)} (hx : Fits xs) : ∃ b, G55 xs ys = some b ∧ (b = true ↔ xs = ys) := by
  obtain ⟨b, hb, hb'⟩ := ok53 (ys := ys) hx
  exact ⟨b, by simp only [G55, M55, m55_0, m55_1, seqM, condM, blockM, skipM, exitM, retM, hb, Option.bind_some], hb'⟩
theorem beq_int {x y : Int} (h : x = y) : (x == y) = true := by simp [h]
theorem beq_int' {x y : Int} (h : x ≠ y) : (x == y) = false := by simp [h]
theorem ok52 {a b : Group} (ha : OkG a) : ∃ r, G52 a b = some r ∧ (r = true ↔ a = b) := by
  obtain ⟨c, hc, hc'⟩ := ok53 (ys := b.Columns) ha.1
  obtain ⟨d, hd, hd'⟩ := ok54 (ys := b.Sets) (e := G55) ha.2.1 (fun x hx y => ok55 (ha.2.2 x hx))
  by_cases hk : a.Kind = b.Kind
  case neg => exact ⟨false, by simp only [G52, M52, m52_0, m52_1, seqM, condM, blockM, skipM, exitM, retM, beq_int' hk, cond_false, Option.bind_some, Bool.false_and], ⟨fun h => (by cases h), fun h => absurd (by rw [h]) hk⟩⟩
  cases c with
  | false => exact ⟨false, by simp only [G52, M52, m52_0, m52_1, seqM, condM, blockM, skipM, exitM, retM, beq_int hk, hc, cond_true, cond_false, Option.bind_some, Bool.and_false, Bool.false_and], ⟨fun h => (by cases h), fun h => absurd (hc'.2 (by rw [h])) (by simp)⟩⟩
  | true =>
    refine ⟨d, by simp only [G52, M52, m52_0, m52_1, seqM, condM, blockM, skipM, exitM, retM, beq_int hk, hc, hd, cond_true, Option.bind_some, Bool.and_self, Bool.true_and], ?_⟩
    rw [hd']
    have := hc'.1 rfl
    cases a; cases b
    simp_all

theorem down0 : IntKind.wrap .i64 ((0 : Int) - 1) = -1 := by rw [wrap64 (by omega) (by omega)]; rfl
/-- The program's, which counts a node ahead of the test. -/
theorem prog56 : ∀ (a : CondT) (n : Nat) (b : CondT) (fuel : Nat), OkC a → n ≤ 4096 → n < fuel →
    ((sc a n b).2 = true → F56 fuel n a b = some ((((sc a n b).1 : Nat) : Int), true)) ∧ ((sc a n b).2 = false → ∃ m, F56 fuel n a b = some (m, false)) := by
  intro a
  induction a with
  | nil =>
    intro n b fuel _ hn hf
    obtain ⟨f, rfl⟩ : ∃ f, fuel = f + 1 := ⟨fuel - 1, by omega⟩
    show (_ → G56 (F56 f) n .nil b = _) ∧ (_ → ∃ m, G56 (F56 f) n .nil b = _)
    unfold G56 M56
    cases b <;> simp [m56_4, m56_3, m56_2, seqM, condM, blockM, skipM, exitM, retM, CondT.isNil, sc, ptrT]
  | mk k l r c o v ihl ihr =>
    intro n b fuel hok hn hf
    obtain ⟨f, rfl⟩ : ∃ f, fuel = f + 1 := ⟨fuel - 1, by omega⟩
    show (_ → G56 (F56 f) n (.mk k l r c o v) b = _) ∧ (_ → ∃ m, G56 (F56 f) n (.mk k l r c o v) b = _)
    unfold G56 M56
    cases b with
    | nil => simp [m56_4, m56_3, m56_2, seqM, condM, blockM, skipM, exitM, retM, CondT.isNil, sc, ptrT]
    | mk k' l' r' c' o' v' =>
      by_cases h0 : n = 0
      · subst h0
        have hge : decide ((-1 : Int) ≥ 0) = false := by decide
        have h00 : ((0 : Nat) : Int) = 0 := rfl
        refine ⟨fun h => by simp [sc] at h, fun _ => ⟨-1, ?_⟩⟩
        simp only [m56_4, m56_3, m56_1, m56_0, seqM, condM, blockM, skipM, exitM, retM, CondT.isNil, h00, down0, hge, cond_false, Option.bind_some, Bool.false_and, Bool.or_self]
      have hd := down1 h0 hn
      have hge : decide (((n - 1 : Nat) : Int) ≥ 0) = true := by simp
      have hm : n - 1 < f := by omega
      have hm4 : n - 1 ≤ 4096 := by omega
      obtain ⟨q, hq, hq'⟩ := ok99 (ys := v') hok.2.2
      by_cases hk : k = k'
      case neg =>
        have hne : ¬ (k = k' ∧ c = c' ∧ o = o' ∧ v = v') := fun h => hk h.1
        have e1 : (k == k') = false := beq_int' hk
        refine ⟨fun h => by simp [sc, h0, hne] at h, fun _ => ⟨((n - 1 : Nat) : Int), ?_⟩⟩
        simp only [m56_4, m56_3, m56_1, m56_0, seqM, condM, blockM, skipM, exitM, retM, CondT.isNil, CondT.get, hd, hge, e1, cond_true, cond_false, Option.bind_some, Bool.true_and, Bool.and_false, Bool.false_and, Bool.or_self]
      have e1 : (k == k') = true := beq_int hk
      by_cases hc : c = c'
      case neg =>
        have hne : ¬ (k = k' ∧ c = c' ∧ o = o' ∧ v = v') := fun h => hc h.2.1
        have e2 : (c == c') = false := by simp [hc]
        refine ⟨fun h => by simp [sc, h0, hne] at h, fun _ => ⟨((n - 1 : Nat) : Int), ?_⟩⟩
        simp only [m56_4, m56_3, m56_1, m56_0, seqM, condM, blockM, skipM, exitM, retM, CondT.isNil, CondT.get, hd, hge, e1, e2, cond_true, cond_false, Option.bind_some, Bool.true_and, Bool.and_false, Bool.false_and, Bool.or_self]
      have e2 : (c == c') = true := by simp [hc]
      by_cases ho : o = o'
      case neg =>
        have hne : ¬ (k = k' ∧ c = c' ∧ o = o' ∧ v = v') := fun h => ho h.2.2.1
        have e3 : (o == o') = false := beq_int' ho
        refine ⟨fun h => by simp [sc, h0, hne] at h, fun _ => ⟨((n - 1 : Nat) : Int), ?_⟩⟩
        simp only [m56_4, m56_3, m56_1, m56_0, seqM, condM, blockM, skipM, exitM, retM, CondT.isNil, CondT.get, hd, hge, e1, e2, e3, cond_true, cond_false, Option.bind_some, Bool.true_and, Bool.and_false, Bool.false_and, Bool.or_self]
      have e3 : (o == o') = true := beq_int ho
      cases q with
      | false =>
        have hv : v ≠ v' := fun h => absurd (hq'.2 h) (by simp)
        have hne : ¬ (k = k' ∧ c = c' ∧ o = o' ∧ v = v') := fun h => hv h.2.2.2
        refine ⟨fun h => by simp [sc, h0, hne] at h, fun _ => ⟨((n - 1 : Nat) : Int), ?_⟩⟩
        simp only [m56_4, m56_3, m56_1, m56_0, seqM, condM, blockM, skipM, exitM, retM, CondT.isNil, CondT.get, hd, hge, e1, e2, e3, hq, cond_true, cond_false, Option.bind_some, Bool.true_and, Bool.and_false, Bool.false_and, Bool.or_self]
      | true =>
        have hall : k = k' ∧ c = c' ∧ o = o' ∧ v = v' := ⟨hk, hc, ho, hq'.1 rfl⟩
        have hle := sc_le l (n - 1) l'
        obtain ⟨L1, L2⟩ := ihl (n - 1) l' f hok.1 hm4 hm
        have hsc : sc (.mk k l r c o v) n (.mk k' l' r' c' o' v') = (if (sc l (n - 1) l').2 = true then sc r (sc l (n - 1) l').1 r' else ((sc l (n - 1) l').1, false)) := by
          simp only [sc]
          rw [if_neg h0, if_pos hall]
        rw [hsc]
        cases hx : (sc l (n - 1) l').2 with
        | false =>
          obtain ⟨m, hL⟩ := L2 hx
          refine ⟨fun h => by simp at h, fun _ => ⟨m, ?_⟩⟩
          simp only [m56_4, m56_3, m56_1, m56_0, seqM, condM, blockM, skipM, exitM, retM, CondT.isNil, CondT.get, hd, hge, e1, e2, e3, hq, hL, cond_true, cond_false, Option.bind_some, Bool.true_and, Bool.and_self, Bool.or_self]
        | true =>
          have hL := L1 hx
          obtain ⟨R1, R2⟩ := ihr (sc l (n - 1) l').1 r' f hok.2.1 (by omega) (by omega)
          rw [if_pos rfl]
          refine ⟨fun h => ?_, fun h => ?_⟩
          · have hR := R1 h
            simp only [m56_4, m56_3, m56_1, m56_0, seqM, condM, blockM, skipM, exitM, retM, CondT.isNil, CondT.get, hd, hge, e1, e2, e3, hq, hL, hR, cond_true, cond_false, Option.bind_some, Bool.true_and, Bool.and_self, Bool.or_self]
          · obtain ⟨m, hR⟩ := R2 h
            exact ⟨m, by simp only [m56_4, m56_3, m56_1, m56_0, seqM, condM, blockM, skipM, exitM, retM, CondT.isNil, CondT.get, hd, hge, e1, e2, e3, hq, hL, hR, cond_true, cond_false, Option.bind_some, Bool.true_and, Bool.and_self, Bool.or_self]⟩

theorem ok19 {a b : Query} (ha : OkQ a) : ∃ r, G19 a b = some r ∧ (r = true ↔ (a.Table = b.Table ∧ a.Grouped = b.Grouped ∧ a.Items = b.Items ∧ a.Groups = b.Groups ∧ (sc a.Where 4096 b.Where).2 = true)) := by
  obtain ⟨L1, L2⟩ := prog56 a.Where 4096 b.Where 5000 ha.2.2.2 (by omega) (by omega)
  obtain ⟨c, hc, hc'⟩ := ok50 (ys := b.Items) ha.1
  obtain ⟨d, hd, hd'⟩ := ok51 (ys := b.Groups) (e := G52) ha.2.1 (fun x hx y => ok52 (ha.2.2.1 x hx))
  by_cases e : a.Table = b.Table ∧ a.Grouped = b.Grouped
  case neg =>
    have h1 : ((a.Table == b.Table) && (a.Grouped == b.Grouped)) = false := by
      by_cases h1 : a.Table = b.Table
      · have h2 : a.Grouped ≠ b.Grouped := fun h2 => e ⟨h1, h2⟩
        simp [h2]
      · simp [h1]
    exact ⟨false, by simp only [G19, M19, m19_0, m19_1, m19_2, seqM, condM, blockM, skipM, exitM, retM, h1, cond_false, Option.bind_some, Bool.false_and], ⟨fun h => (by cases h), fun h => absurd ⟨h.1, h.2.1⟩ e⟩⟩
  have h1 : ((a.Table == b.Table) && (a.Grouped == b.Grouped)) = true := by simp [e.1, e.2]
  cases c with
  | false => exact ⟨false, by simp only [G19, M19, m19_0, m19_1, m19_2, seqM, condM, blockM, skipM, exitM, retM, h1, hc, cond_true, cond_false, Option.bind_some, Bool.and_false, Bool.false_and], ⟨fun h => (by cases h), fun h => absurd (hc'.2 h.2.2.1) (by simp)⟩⟩
  | true =>
    cases d with
    | false => exact ⟨false, by simp only [G19, M19, m19_0, m19_1, m19_2, seqM, condM, blockM, skipM, exitM, retM, h1, hc, hd, cond_true, cond_false, Option.bind_some, Bool.and_false, Bool.false_and, Bool.and_self], ⟨fun h => (by cases h), fun h => absurd (hd'.2 h.2.2.2.1) (by simp)⟩⟩
    | true =>
      have c1 := hc'.1 rfl
      have d1 := hd'.1 rfl
      have h4096 : ((4096 : Nat) : Int) = 4096 := rfl
      rw [h4096] at L1 L2
      cases hx : (sc a.Where 4096 b.Where).2 with
      | true =>
        have hL := L1 hx
        exact ⟨true, by simp only [G19, M19, m19_0, m19_1, m19_2, seqM, condM, blockM, skipM, exitM, retM, h1, hc, hd, hL, cond_true, Option.bind_some, Bool.and_self], ⟨fun _ => ⟨e.1, e.2, c1, d1, rfl⟩, fun _ => rfl⟩⟩
      | false =>
        obtain ⟨m, hL⟩ := L2 hx
        exact ⟨false, by simp only [G19, M19, m19_0, m19_1, m19_2, seqM, condM, blockM, skipM, exitM, retM, h1, hc, hd, hL, cond_true, Option.bind_some, Bool.and_self], ⟨fun h => (by cases h), fun h => by cases h.2.2.2.2⟩⟩

theorem same_ok {a b : Query} (ha : OkQ a) : ∃ r, G19 a b = some r ∧ G14 a b = some r := by
  obtain ⟨r, h1, h2⟩ := ok19 (b := b) ha
  obtain ⟨q, h3, h4⟩ := ok14 (b := b) ha
  have : r = q := by
    cases r <;> cases q <;> simp_all
  subst this
  exact ⟨r, h1, h3⟩

end Go.Proofs.Par
