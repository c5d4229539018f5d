import Derived.Test.YthfbbjoaidajfaaGreatDoorPrsXFns
set_option linter.unusedVariables false
set_option linter.unusedSimpArgs false
set_option linter.unusedSimpArgs false
set_option linter.unusedVariables false
set_option maxRecDepth 100000
namespace Go.Proofs.Q.Par
open Go Go.Am Go.Proofs
theorem l20 (text : Bs) : match words text with
    | .ok ws => S20 text = some (ws, ⟨0, 0⟩)
    | .er f => S20 text = some ([], f) := by
  unfold S20
  cases words text <;> rfl
theorem l22 {ws : List Word} (h : Wf ws ws) : match pQuery ws with
    | .ok q _ => S22 ws = some (q, ⟨0, 0⟩)
    | .er f => S22 ws = some (Q.zQ, f)
    | .out => True := by
  unfold S22
  rw [if_pos h]
  cases pQuery ws <;> first | rfl | trivial
def walkB (P : CondT → Nat → Bool) : CondT → Nat → Bool
  | .nil, _ => true
  | .mk k l r c o vs, d => P (.mk k l r c o vs) d && walkB P l (d + 1) && walkB P r (d + 1)
theorem l24 (v : CondT → Int → Option Bool) (P : CondT → Nat → Bool) (hv : ∀ k l r c o vs (d : Nat), v (.mk k l r c o vs) (d : Int) = some (P (.mk k l r c o vs) d)) : ∀ (n : Nat) (c : CondT) (d : Nat), depth c < n → d + n < 100000 → F24 n c (d : Int) v = some (walkB P c d) := by
  intro n
  induction n with
  | zero => intro c d h; omega
  | succ n ih =>
    intro c d h hd
    show G24 (F24 n) c (d : Int) v = _
    cases c with
    | nil => simp only [G24, M24, m24_0, m24_1, seqM, condM, blockM, skipM, exitM, retM, CondT.isNil, Bool.not_true, cond_false, Option.bind_some, Bool.true_or, walkB]
    | mk k l r c o vs =>
      simp only [depth] at h
      have hw : IntKind.wrap .i64 ((d : Int) + 1) = ((d + 1 : Nat) : Int) := by rw [wrap64 (by omega) (by omega)]; rfl
      have e1 := ih l (d + 1) (by omega) (by omega)
      have e2 := ih r (d + 1) (by omega) (by omega)
      have ev := hv k l r c o vs d
      cases hp : P (.mk k l r c o vs) d with
      | false =>
        rw [hp] at ev
        simp only [G24, M24, m24_0, m24_1, seqM, condM, blockM, skipM, exitM, retM, CondT.isNil, CondT.get, Bool.not_false, cond_true, cond_false, Option.bind_some, ev, Bool.false_or, Bool.false_and, walkB, hp]
      | true =>
        rw [hp] at ev
        cases h1 : walkB P l (d + 1) with
        | false =>
          rw [h1] at e1
          simp only [G24, M24, m24_0, m24_1, seqM, condM, blockM, skipM, exitM, retM, CondT.isNil, CondT.get, Bool.not_false, cond_true, cond_false, Option.bind_some, ev, hw, e1, Bool.false_or, Bool.false_and, Bool.true_and, walkB, hp, h1]
        | true =>
          rw [h1] at e1
          simp only [G24, M24, m24_0, m24_1, seqM, condM, blockM, skipM, exitM, retM, CondT.isNil, CondT.get, Bool.not_false, cond_true, cond_false, Option.bind_some, ev, hw, e1, e2, Bool.false_or, Bool.false_and, Bool.true_and, walkB, hp, h1]
theorem walk_many : ∀ (c : CondT) (d : Nat), walkB (fun c _ => match c with
    | .nil => true
    | .mk _ _ _ _ _ vs => decide ((vs.length : Int) ≤ 64)) c d = !manyV c
  | .nil, _ => rfl
  | .mk k l r c o vs, d => by
    unfold walkB manyV
    rw [walk_many l, walk_many r]
    have : decide ((vs.length : Int) ≤ 64) = !decide (vs.length > 64) := by
      rw [Bool.eq_iff_iff]; simp; omega
    simp only [this, Bool.not_or]
theorem walk_deep : ∀ (c : CondT) (d : Nat), walkB (fun _ d => decide ((d : Int) ≤ 32)) c d = (c.isNil || decide (depth c + d ≤ 33))
  | .nil, _ => rfl
  | .mk k l r c o vs, d => by
    unfold walkB depth
    rw [walk_deep l, walk_deep r]
    have hl : l.isNil = true → depth l = 0 := fun h => by rw [isNil_eq h]; rfl
    have hr : r.isNil = true → depth r = 0 := fun h => by rw [isNil_eq h]; rfl
    simp only [CondT.isNil, Bool.false_or]
    rw [Bool.eq_iff_iff]
    simp only [Bool.and_eq_true, decide_eq_true_eq, Bool.or_eq_true]
    constructor
    · rintro ⟨⟨h1, h2⟩, h3⟩
      have a : depth l + d ≤ 32 := by rcases h2 with h2 | h2; · have := hl h2; omega
                                      · omega
      have b : depth r + d ≤ 32 := by rcases h3 with h3 | h3; · have := hr h3; omega
                                      · omega
      omega
    · intro h
      exact ⟨⟨by omega, .inr (by omega)⟩, .inr (by omega)⟩
theorem lp115 (f : List Bs → Option Bool) (g : List Bs → Bool) (hf : ∀ s, f s = some (g s)) (l : List (List Bs)) (hl : l.length ≤ 10000) : ∀ (k j : Nat) (s : Fr115), k + j = l.length → s.t0 = l → s.t1 = f → s.t7 = (l.length : Int) → s.t8 = (j : Int) →
    ((l.drop j).any g = false ∧ ∃ s', loopM L115_6 s = some (.ext 0, s')) ∨ ((l.drop j).any g = true ∧ ∃ s' i, loopM L115_6 s = some (.ret, s') ∧ s'.t4 = ((i : Nat) : Int)) := by
  intro k
  induction k with
  | zero =>
    intro j s hj h0 h1 h7 h8
    have hd : decide ((j : Int) < (l.length : Int)) = false := by simp; omega
    refine .inl ⟨by rw [List.drop_eq_nil_of_le (by omega)]; rfl, _, loopM_ext (by simp only [G115, M115, m115_0, m115_1, m115_2, m115_3, m115_4, m115_5, L115_6, m115_7, m115_8, seqM, condM, blockM, skipM, exitM, retM, h7, h8, hd]; exact rfl)⟩
  | succ k ih =>
    intro j s hj h0 h1 h7 h8
    have hd : decide ((j : Int) < (l.length : Int)) = true := by simp; omega
    have hx : at? l (j : Int) = some (l[j]'(by omega)) := by rw [at_nat]; exact List.getElem?_eq_getElem _
    have hw : IntKind.wrap .i64 ((j : Int) + 1) = ((j + 1 : Nat) : Int) := by rw [wrap64 (by omega) (by omega)]; rfl
    have hdr : l.drop j = l[j]'(by omega) :: l.drop (j + 1) := List.drop_eq_getElem_cons (by omega)
    have e := hf (l[j]'(by omega))
    rw [hdr, List.any_cons]
    cases hb : g (l[j]'(by omega)) with
    | true =>
      rw [hb] at e
      exact .inr ⟨rfl, _, j, loopM_ret (by simp only [G115, M115, m115_0, m115_1, m115_2, m115_3, m115_4, m115_5, L115_6, m115_7, m115_8, seqM, condM, blockM, skipM, exitM, retM, h0, h1, h7, h8, hd, hx, e, Option.bind_some]; exact rfl), by rfl⟩
    | false =>
      rw [hb] at e
      have step : ∃ s', L115_6 s = some (.nrm, s') ∧ s'.t0 = l ∧ s'.t1 = f ∧ s'.t7 = (l.length : Int) ∧ s'.t8 = ((j + 1 : Nat) : Int) :=
        ⟨_, by simp only [G115, M115, m115_0, m115_1, m115_2, m115_3, m115_4, m115_5, L115_6, m115_7, m115_8, seqM, condM, blockM, skipM, exitM, retM, h0, h1, h7, h8, hd, hx, e, Option.bind_some, hw]; exact rfl, by rfl, by rfl, by rfl, by rfl⟩
      obtain ⟨s', e1, a1, a2, a3, a4⟩ := step
      rw [Bool.false_or, loopM_nrm e1]
      exact ih (j + 1) s' (by omega) a1 a2 a3 a4
theorem l68 (l : List (List Bs)) (hl : l.length ≤ 10000) : G68 l G69 = some (l.any fun s => decide ((s.length : Int) > 16)) := by
  have h69 : ∀ s, G69 s = some (decide ((s.length : Int) > 16)) := fun s => by simp only [G69, M69, m69_0, m69_1, seqM, condM, blockM, skipM, exitM, retM]
  have I := lp115 G69 (fun s => decide ((s.length : Int) > 16)) h69 l hl l.length 0 { (default : Fr115) with t0 := l, t1 := G69, t7 := (l.length : Int), t8 := 0 } rfl rfl rfl rfl rfl
  rw [List.drop_zero] at I
  rcases I with ⟨a, s', e⟩ | ⟨a, s', i, e, b⟩
  · rw [a]
    have d : decide ((-1 : Int) ≥ 0) = false := by decide
    simp only [G68, M68, m68_0, m68_1, G115, M115, m115_8, m115_7, m115_0, seqM, condM, blockM, skipM, exitM, retM, e, if_true, Option.bind_some, d]
  · rw [a]
    have d : decide ((i : Int) ≥ 0) = true := by simp
    simp only [G68, M68, m68_0, m68_1, G115, M115, m115_8, m115_7, m115_0, seqM, condM, blockM, skipM, exitM, retM, e, b, Option.bind_some, d]
def gFew (g : Group) : Bool := decide (g.Columns.length ≤ 16) && decide (g.Sets.length ≤ 64) && g.Sets.all fun s => decide (s.length ≤ 16)
theorem lp23 (l : List Group) (hl : l.length ≤ 10000) (hs : ∀ g ∈ l, g.Sets.length ≤ 10000) : ∀ (k j : Nat) (s : Fr23), k + j = l.length → s.t6 = l → s.t7 = (l.length : Int) → s.t8 = (j : Int) →
    ((l.drop j).all gFew = true ∧ ∃ s', loopM L23_6 s = some (.ext 0, s') ∧ s'.t1 = s.t1) ∨ ((l.drop j).all gFew = false ∧ ∃ s', loopM L23_6 s = some (.ret, s') ∧ s'.t2 = false) := by
  intro k
  induction k with
  | zero =>
    intro j s hj h6 h7 h8
    have hd : decide ((j : Int) < (l.length : Int)) = false := by simp; omega
    refine .inl ⟨by rw [List.drop_eq_nil_of_le (by omega)]; rfl, _, loopM_ext (by simp only [G23, M23, m23_0, m23_1, m23_2, m23_3, m23_4, m23_5, L23_6, m23_7, m23_8, seqM, condM, blockM, skipM, exitM, retM, h7, h8, hd]; exact rfl), by rfl⟩
  | succ k ih =>
    intro j s hj h6 h7 h8
    have hd : decide ((j : Int) < (l.length : Int)) = true := by simp; omega
    have hx : at? l (j : Int) = some (l[j]'(by omega)) := by rw [at_nat]; exact List.getElem?_eq_getElem _
    have hw : IntKind.wrap .i64 ((j : Int) + 1) = ((j + 1 : Nat) : Int) := by rw [wrap64 (by omega) (by omega)]; rfl
    have hdr : l.drop j = l[j]'(by omega) :: l.drop (j + 1) := List.drop_eq_getElem_cons (by omega)
    obtain ⟨g, hg⟩ : ∃ g, g = l[j]'(by omega) := ⟨_, rfl⟩
    have e := l68 g.Sets (hs g (by rw [hg]; exact List.getElem_mem _))
    rw [hdr, List.all_cons, ← hg]
    rw [← hg] at hx
    have key : ((decide ((g.Columns.length : Int) > 16) || decide ((g.Sets.length : Int) > 64)) || (g.Sets.any fun s => decide ((s.length : Int) > 16))) = !gFew g := by
      unfold gFew
      rw [Bool.eq_iff_iff]
      simp only [Bool.or_eq_true, decide_eq_true_eq, List.any_eq_true, Bool.not_eq_true', Bool.and_eq_false_iff, decide_eq_false_iff_not, List.all_eq_false]
      constructor
      · rintro ((h | h) | ⟨s, hs, h⟩)
        · exact .inl (.inl (by omega))
        · exact .inl (.inr (by omega))
        · exact .inr ⟨s, hs, by omega⟩
      · rintro ((h | h) | ⟨s, hs, h⟩)
        · exact .inl (.inl (by omega))
        · exact .inl (.inr (by omega))
        · exact .inr ⟨s, hs, by omega⟩
    have m3 : ∀ s : Fr23, s.t4 = g → m23_3 s = some (.nrm, { s with t26 := !gFew g }) := by
      intro s h4
      cases hc : (decide ((g.Columns.length : Int) > 16) || decide ((g.Sets.length : Int) > 64)) with
      | true =>
        rw [hc, Bool.true_or] at key
        simp only [m23_3, h4, hc, Bool.not_true, cond_false, Option.bind_some, Bool.true_or, ← key]
      | false =>
        rw [hc, Bool.false_or] at key
        simp only [m23_3, h4, hc, Bool.not_false, cond_true, Option.bind_some, Bool.false_or, e, key]
    cases hb : gFew g with
    | false =>
      rw [hb] at m3
      refine .inr ⟨rfl, _, loopM_ret (by simp only [L23_6, m23_5, m23_4, m23_2, m23_1, seqM, condM, blockM, skipM, exitM, retM, h6, h7, h8, hd, hx, m3, Option.bind_some, Bool.not_false]; exact rfl), by rfl⟩
    | true =>
      rw [hb] at m3
      have step : ∃ s', L23_6 s = some (.nrm, s') ∧ s'.t6 = l ∧ s'.t7 = (l.length : Int) ∧ s'.t8 = ((j + 1 : Nat) : Int) ∧ s'.t1 = s.t1 :=
        ⟨_, by simp only [L23_6, m23_5, m23_4, m23_2, m23_1, seqM, condM, blockM, skipM, exitM, retM, h6, h7, h8, hd, hx, m3, Option.bind_some, hw, Bool.not_true]; exact rfl, by rfl, by rfl, by rfl, by rfl⟩
      obtain ⟨s', e1, a1, a2, a3, a4⟩ := step
      rw [Bool.true_and, loopM_nrm e1]
      have I := ih (j + 1) s' (by omega) a1 a2 a3
      rw [a4] at I
      exact I
theorem l23 (q : Query) (h1 : q.Groups.length ≤ 10000) (h2 : ∀ g ∈ q.Groups, g.Sets.length ≤ 10000) (h3 : depth q.Where < 5000) : G23 q = some (few q) := by
  have I := lp23 q.Groups h1 h2 q.Groups.length 0 { (default : Fr23) with t0 := q, t1 := q, t6 := q.Groups, t7 := (q.Groups.length : Int), t8 := 0 } rfl rfl rfl rfl
  rw [List.drop_zero] at I
  have hfew : few q = (q.Groups.all gFew && decide (q.Items.length ≤ 16) && decide (q.Groups.length ≤ 16) && !manyV q.Where) := rfl
  rcases I with ⟨a, s', e, b⟩ | ⟨a, s', e, b⟩
  · rw [hfew, a, Bool.true_and]
    have hw := l24 G70 (fun c _ => match c with
      | .nil => true
      | .mk _ _ _ _ _ vs => decide ((vs.length : Int) ≤ 64)) (fun k l r c o vs d => by simp only [G70, M70, m70_0, m70_1, seqM, condM, blockM, skipM, exitM, retM, CondT.get, Option.bind_some]) 5000 q.Where 1 h3 (by omega)
    rw [walk_many] at hw
    have hw' : F24 5000 q.Where 1 G70 = some (!manyV q.Where) := hw
    have d1 : decide ((q.Items.length : Int) ≤ 16) = decide (q.Items.length ≤ 16) := by rw [Bool.eq_iff_iff]; simp; omega
    have d2 : decide ((q.Groups.length : Int) ≤ 16) = decide (q.Groups.length ≤ 16) := by rw [Bool.eq_iff_iff]; simp; omega
    simp only [G23, M23, m23_8, m23_7, m23_0, seqM, condM, blockM, skipM, exitM, retM, e, b, if_true, d1, d2, hw', Option.bind_some]
    cases (decide (q.Items.length ≤ 16) && decide (q.Groups.length ≤ 16)) with
    | false => simp only [cond_false, Option.bind_some, Bool.false_and]
    | true => simp only [cond_true, Option.bind_some, Bool.true_and]
  · rw [hfew, a]
    simp only [G23, M23, m23_8, m23_7, m23_0, seqM, condM, blockM, skipM, exitM, retM, e, b, Bool.false_and]
theorem depth_size : ∀ c : CondT, depth c ≤ size c
  | .nil => Nat.le_refl _
  | .mk k l r c o vs => by
    have := depth_size l
    have := depth_size r
    simp only [depth, size]; omega
theorem lx_len : ∀ (n : Nat) (s : Bs) (p : Nat) (ws : List Word), s.length = n → lx p s = .ok ws → ws.length ≤ s.length + 1 := by
  intro n
  induction n using Nat.strongRecOn with
  | _ n ih =>
    intro s p ws hs h
    cases s with
    | nil => rw [lx_nil] at h; cases h; simp
    | cons c t =>
      simp only [List.length_cons] at hs ⊢
      cases hst : lexStep p c t with
      | blank => rw [lx_blank hst] at h; have := ih t.length (by omega) t _ _ rfl h; omega
      | bad f => rw [lx_bad hst] at h; cases h
      | word w k =>
        rw [lx_word hst] at h
        have K1 := lexStep_pos hst
        cases hl : lx (p + k) ((c :: t).drop k) with
        | er f => rw [hl] at h; cases h
        | ok l =>
          rw [hl] at h; cases h
          have := ih ((c :: t).drop k).length (by simp; omega) _ _ _ rfl hl
          simp at this ⊢; omega
theorem wf_words {s : Bs} {ws : List Word} (h : words s = .ok ws) : Wf ws ws := by
  obtain ⟨hl, L⟩ := words_ok h
  obtain ⟨i, hi, hk⟩ := L.fin
  refine ⟨List.suffix_refl _, L.ok, ⟨i, _, hi, hk, rfl⟩, ?_⟩
  unfold words at h
  rw [if_neg (by omega)] at h
  have := lx_len _ s 0 ws rfl h
  omega
theorem sevRest_len {α : Type} {p : List Word → R α} (hp : Shr p) : ∀ (n : Nat) (ws : List Word) (l : List α) (r : List Word), sevRest p n ws = .ok l r → l.length ≤ ws.length
  | 0, _, _, _, h => by cases h
  | n + 1, ws, l, r, h => by
    unfold sevRest at h
    split at h
    · rename_i hi
      obtain ⟨x, r1, h1, h⟩ := R.bind_eq_ok h
      obtain ⟨l2, r2, h2, h⟩ := R.bind_eq_ok h
      cases h
      have a := hp _ _ _ h1
      have b := sevRest_len hp n _ _ _ h2
      have c := isH_len hi
      simp at a ⊢; omega
    · cases h; simp
theorem several_len {α : Type} {p : List Word → R α} (hp : Shr p) {ws : List Word} {l : List α} {r : List Word} (h : several p ws = .ok l r) : l.length ≤ ws.length := by
  obtain ⟨x, r1, h1, h⟩ := R.bind_eq_ok h
  obtain ⟨l2, r2, h2, h⟩ := R.bind_eq_ok h
  cases h
  have a := hp _ _ _ h1
  have b := sevRest_len hp _ _ _ _ h2
  simp; omega
theorem several_all {α : Type} {p : List Word → R α} {Q : α → Prop} (N : Nat) (hp : Shr p) (hq : ∀ ws x r, ws.length ≤ N → p ws = .ok x r → Q x) {ws : List Word} {l : List α} {r : List Word} (hn : ws.length ≤ N) (h : several p ws = .ok l r) : ∀ x ∈ l, Q x := by
  have key : ∀ (n : Nat) (ws : List Word) (l : List α) (r : List Word), ws.length ≤ N → sevRest p n ws = .ok l r → ∀ x ∈ l, Q x := by
    intro n
    induction n with
    | zero => intro ws l r _ h; cases h
    | succ n ih =>
      intro ws l r hn h
      unfold sevRest at h
      split at h
      · obtain ⟨x, r1, h1, h⟩ := R.bind_eq_ok h
        obtain ⟨l2, r2, h2, h⟩ := R.bind_eq_ok h
        cases h
        have a := hp _ _ _ h1
        intro y hy
        rcases List.mem_cons.1 hy with rfl | hy
        · exact hq _ _ _ (by simp; omega) h1
        · exact ih _ _ _ (by simp at a; omega) h2 y hy
      · cases h; simp
  obtain ⟨x, r1, h1, h⟩ := R.bind_eq_ok h
  obtain ⟨l2, r2, h2, h⟩ := R.bind_eq_ok h
  cases h
  have a := hp _ _ _ h1
  intro y hy
  rcases List.mem_cons.1 hy with rfl | hy
  · exact hq _ _ _ hn h1
  · exact key _ _ _ _ (by omega) h2 y hy
theorem pElement_len {ws : List Word} {g : Group} {r : List Word} (h : pElement ws = .ok g r) : g.Sets.length ≤ ws.length := by
  unfold pElement at h
  split at h
  · obtain ⟨s, r1, h1, h⟩ := R.bind_eq_ok h
    cases h; simp
  split at h
  · cases h
  · obtain ⟨s, r1, h1, h⟩ := R.bind_eq_ok h
    cases h; simp
  · obtain ⟨s, r1, h1, h⟩ := R.bind_eq_ok h
    cases h; simp
  · obtain ⟨_, r2, h2, h⟩ := R.bind_eq_ok h
    obtain ⟨v, r3, h3, h⟩ := R.bind_eq_ok h
    obtain ⟨_, r4, h4, h⟩ := R.bind_eq_ok h
    cases h
    have a := must_len _ _ _ h2
    have b := several_len pSet_shr h3
    simp at a ⊢; omega
theorem pQuery_groups {ws : List Word} {q : Query} {r : List Word} (hw : OKs ws) (h : pQuery ws = .ok q r) : q.Groups.length ≤ ws.length ∧ ∀ g ∈ q.Groups, g.Sets.length ≤ ws.length := by
  unfold pQuery at h
  obtain ⟨_, r1, h1, h⟩ := R.bind_eq_ok h
  obtain ⟨items, r2, h2, h⟩ := R.bind_eq_ok h
  obtain ⟨_, r3, h3, h⟩ := R.bind_eq_ok h
  obtain ⟨t, r4, h4, h⟩ := R.bind_eq_ok h
  obtain ⟨c, r5, h5, h⟩ := R.bind_eq_ok h
  obtain ⟨g, r6, h6, h⟩ := R.bind_eq_ok h
  obtain ⟨_, r7, h7, h⟩ := R.bind_eq_ok h
  cases h
  have s1 := (must_rd _ _ hw).suf h1
  have w1 := hw.suf s1
  have s2 := (several_rd pItem_rd pItem_shr _ w1).suf h2
  have w2 := w1.suf s2
  have s3 := (must_rd _ _ w2).suf h3
  have w3 := w2.suf s3
  have s4 := (pName_rd _ w3).suf h4
  have w4 := w3.suf s4
  have s5 := (pWhere_rd _ w4).suf h5
  have hle : r5.length ≤ ws.length := ((((s5.trans s4).trans s3).trans s2).trans s1).length_le
  simp only
  unfold pGroups at h6
  split at h6
  · obtain ⟨_, r8, h8, h6⟩ := R.bind_eq_ok h6
    obtain ⟨l, r9, h9, h6⟩ := R.bind_eq_ok h6
    cases h6
    have a := must_len _ _ _ h8
    have b := several_len pElement_shr h9
    have c := several_all (Q := fun g : Group => g.Sets.length ≤ ws.length) ws.length pElement_shr (fun u x r hu hx => Nat.le_trans (pElement_len hx) hu) (by simp at a; omega) h9
    exact ⟨by simp at a; simp only; omega, c⟩
  · cases h6; simp
theorem l12 (text : Bs) : G12 text = some (parse text) := by
  have e20 := l20 text
  unfold parse
  cases hw : words text with
  | er f =>
    rw [hw] at e20
    have hc : (f.Code != 0) = true := by
      have := (parse_good text)
      unfold parse at this
      rw [hw] at this
      simp only at this
      rcases this with ⟨h1, h2, _⟩ | ⟨_, h, _⟩
      · exact absurd h2 (by decide)
      · simpa using h
    simp only [G12, M12, m12_0, m12_1, m12_2, m12_3, m12_4, m12_5, m12_6, m12_7, m12_8, m12_9, m12_10, m12_11, seqM, condM, blockM, skipM, exitM, retM, e20, Option.bind_some, hc]
    rfl
  | ok ws =>
    rw [hw] at e20
    have W := wf_words hw
    have Q := pQuery_rd ws W.ok
    have e22 := l22 W
    have c0 : ((0 : Int) != 0) = false := by decide
    simp only
    cases hq : pQuery ws with
    | out => rw [hq] at Q; exact Q.elim
    | er f =>
      rw [hq] at Q e22
      have hc : (f.Code != 0) = true := by
        have := Q.1
        simp; omega
      simp only [G12, M12, m12_0, m12_1, m12_2, m12_3, m12_4, m12_5, m12_6, m12_7, m12_8, m12_9, m12_10, m12_11, seqM, condM, blockM, skipM, exitM, retM, e20, e22, Option.bind_some, hc, c0]
      rfl
    | ok q r =>
      rw [hq] at Q e22
      obtain ⟨hg1, hg2⟩ := pQuery_groups W.ok hq
      have hsm := W.small
      have hsz : depth q.Where < 5000 := by
        have a := depth_size q.Where
        have b := Q.1.size
        have L := (words_ok hw).2.wt
        have := (words_ok hw).1
        omega
      have e23 := l23 q (by omega) (fun g hg => by have := hg2 g hg; omega) hsz
      have h24 := l24 G25 (fun _ d => decide ((d : Int) ≤ 32)) (fun k l r c o vs d => by simp only [G25, M25, m25_0, m25_1, seqM, condM, blockM, skipM, exitM, retM]) 5000 q.Where 1 hsz (by omega)
      rw [walk_deep] at h24
      have h24' : F24 5000 q.Where 1 G25 = some (!decide (depth q.Where > 32)) := by
        rw [show (1 : Int) = ((1 : Nat) : Int) from rfl, h24]
        congr 1
        cases hn : q.Where.isNil with
        | true => rw [isNil_eq hn]; rfl
        | false => rw [Bool.false_or, Bool.eq_iff_iff]; simp
      cases hf : few q with
      | false =>
        rw [hf] at e23
        simp only [G12, M12, m12_0, m12_1, m12_2, m12_3, m12_4, m12_5, m12_6, m12_7, m12_8, m12_9, m12_10, m12_11, seqM, condM, blockM, skipM, exitM, retM, e20, e22, e23, Option.bind_some, c0, Bool.not_false, if_true, hf]
        rfl
      | true =>
        rw [hf] at e23
        by_cases hd : depth q.Where > 32
        · rw [decide_eq_true hd] at h24'
          simp only [G12, M12, m12_0, m12_1, m12_2, m12_3, m12_4, m12_5, m12_6, m12_7, m12_8, m12_9, m12_10, m12_11, seqM, condM, blockM, skipM, exitM, retM, e20, e22, e23, h24', Option.bind_some, c0, Bool.not_false, Bool.not_true, Bool.false_eq_true, if_false, if_pos hd, hf]
          rfl
        · rw [decide_eq_false hd] at h24'
          simp only [G12, M12, m12_0, m12_1, m12_2, m12_3, m12_4, m12_5, m12_6, m12_7, m12_8, m12_9, m12_10, m12_11, seqM, condM, blockM, skipM, exitM, retM, e20, e22, e23, h24', Option.bind_some, c0, Bool.not_false, Bool.not_true, Bool.false_eq_true, if_false, if_neg hd, hf]
end Go.Proofs.Q.Par

