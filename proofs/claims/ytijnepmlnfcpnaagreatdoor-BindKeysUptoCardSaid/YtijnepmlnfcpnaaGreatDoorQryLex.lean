/-
  QUERY: the lexer's steps, and how pieces of text are read as words.
-/
import Derived.Test.YtijnepmlnfcpnaaGreatDoorQrySpec
set_option linter.unusedVariables false
set_option linter.unusedSimpArgs false
set_option linter.unusedVariables false
set_option linter.unusedSimpArgs false
namespace Go.Proofs.Q

def lx (p : Nat) (s : Bs) : Lx := lexGo s.length p s

theorem takeWhile_split (f : UInt8 → Bool) (w s : Bs) (hw : ∀ b ∈ w, f b = true) (hs : ∀ c t, s = c :: t → f c = false) : (w ++ s).takeWhile f = w ∧ (w ++ s).dropWhile f = s := by
  induction w with
  | nil =>
    cases s with
    | nil => exact ⟨rfl, rfl⟩
    | cons c t => simp [List.takeWhile, List.dropWhile, hs c t rfl]
  | cons b w ih =>
    have hb := hw b (List.mem_cons_self ..)
    have := ih fun x hx => hw x (List.mem_cons_of_mem _ hx)
    simp [List.takeWhile, List.dropWhile, hb, this.1, this.2]
theorem signLen_pos (c : UInt8) (t : Bs) : 1 ≤ signLen c t := by
  unfold signLen; split
  · omega
  · split <;> omega
theorem isL_of {b : UInt8} (h : kindB b = 2) : isL b = true := by unfold isL; simp [h]
theorem isD_of {b : UInt8} (h : kindB b = 3) : isD b = true := by unfold isD; simp [h]
theorem lexStep_pos {p : Nat} {c : UInt8} {t : Bs} {w : Word} {n : Nat} (h : lexStep p c t = .word w n) : 1 ≤ n := by
  unfold lexStep at h
  split at h
  · cases h
  split at h
  · rename_i h2
    have hl : isLD c = true := by unfold isLD; simp [isL_of h2]
    unfold lexLetter at h
    have : 1 ≤ ((c :: t).takeWhile isLD).length := by simp [List.takeWhile, hl]
    simp only at h
    split at h
    · cases h; exact this
    split at h
    · cases h
    · cases h; exact this
  split at h
  · rename_i h3
    have hl : isD c = true := isD_of h3
    unfold lexDigit at h
    have : 1 ≤ ((c :: t).takeWhile isD).length := by simp [List.takeWhile, hl]
    simp only at h
    split at h
    · cases h
    split at h
    · cases h
    split at h
    · cases h
    · cases h; exact this
  split at h
  · unfold lexQuote at h
    split at h
    · cases h
    split at h
    · cases h
    · cases h; omega
  split at h
  · cases h; exact signLen_pos _ _
  · cases h
theorem lexGo_fuel : ∀ (n : Nat) (s : Bs) (p : Nat), s.length ≤ n → lexGo n p s = lexGo s.length p s := by
  intro n
  induction n using Nat.strongRecOn with
  | _ n ih =>
    intro s p hs
    cases s with
    | nil => cases n <;> rfl
    | cons c t =>
      cases n with
      | zero => simp at hs
      | succ n =>
        simp only [List.length_cons] at hs ⊢
        simp only [lexGo]
        cases hst : lexStep p c t with
        | blank => simp only; rw [ih n (by omega) t _ (by omega)]
        | bad f => rfl
        | word w k =>
          have hk := lexStep_pos hst
          have hd : ((c :: t).drop k).length ≤ t.length := by simp; omega
          simp only
          rw [ih n (by omega) _ _ (by omega), ih t.length (by omega) _ _ hd]
theorem lx_nil (p : Nat) : lx p [] = .ok [⟨6, [], p⟩] := rfl
theorem lx_blank {p : Nat} {c : UInt8} {t : Bs} (h : lexStep p c t = .blank) : lx p (c :: t) = lx (p + 1) t := by
  unfold lx; simp only [List.length_cons, lexGo, h]
theorem lx_word {p : Nat} {c : UInt8} {t : Bs} {w : Word} {k : Nat} (h : lexStep p c t = .word w k) : lx p (c :: t) = (lx (p + k) ((c :: t).drop k)).cons w := by
  have hk := lexStep_pos h
  unfold lx; simp only [List.length_cons, lexGo, h]
  rw [lexGo_fuel _ _ _ (by simp; omega)]
theorem lx_bad {p : Nat} {c : UInt8} {t : Bs} {f : Fault} (h : lexStep p c t = .bad f) : lx p (c :: t) = .er f := by
  unfold lx; simp only [List.length_cons, lexGo, h]

/-! ### texts that are read as certain words -/
abbrev Tok := Int × Bs
def kt (w : Word) : Tok := (w.Kind, w.Text)
def Lx.app (ws : List Word) : Lx → Lx
  | .ok l => .ok (ws ++ l)
  | .er f => .er f
theorem Lx.app_nil (x : Lx) : x.app [] = x := by cases x <;> rfl
theorem Lx.app_app (a b : List Word) (x : Lx) : (x.app b).app a = x.app (a ++ b) := by cases x <;> simp [Lx.app]
theorem Lx.cons_eq (w : Word) (x : Lx) : x.cons w = x.app [w] := by cases x <;> rfl
/-- what may stand behind a word -/
def Bd (s : Bs) : Prop := ∀ c t, s = c :: t → c = 32 ∨ c = 44 ∨ c = 40 ∨ c = 41
def Any (s : Bs) : Prop := True
def LxT (P : Bs → Prop) (a : Bs) (T : List Tok) : Prop := ∀ p s, P s → ∃ ws, ws.map kt = T ∧ lx p (a ++ s) = (lx (p + a.length) s).app ws
theorem LxT.nil {P : Bs → Prop} : LxT P [] [] := fun p s _ => ⟨[], rfl, by simp [Lx.app_nil]⟩
theorem LxT.append {P Q : Bs → Prop} {a b : Bs} {A B : List Tok} (ha : LxT P a A) (hb : LxT Q b B) (h : ∀ s, Q s → P (b ++ s)) : LxT Q (a ++ b) (A ++ B) := by
  intro p s hs
  obtain ⟨u, hu, eu⟩ := ha p (b ++ s) (h s hs)
  obtain ⟨v, hv, ev⟩ := hb (p + a.length) s hs
  refine ⟨u ++ v, by simp [hu, hv], ?_⟩
  rw [List.append_assoc, eu, ev, Lx.app_app, List.length_append, Nat.add_assoc]
theorem LxT.mono {P Q : Bs → Prop} {a : Bs} {A : List Tok} (ha : LxT P a A) (h : ∀ s, Q s → P s) : LxT Q a A := fun p s hs => ha p s (h s hs)
theorem LxT.seq {Q : Bs → Prop} {a b : Bs} {A B : List Tok} (ha : LxT Any a A) (hb : LxT Q b B) : LxT Q (a ++ b) (A ++ B) := ha.append hb fun _ _ => trivial
theorem Bd.head {c : UInt8} {t s : Bs} (h : c = 32 ∨ c = 44 ∨ c = 40 ∨ c = 41) : Bd (c :: t ++ s) := by
  intro d r e; cases e; exact h
/-- .. where the second piece begins with what may stand behind a word -/
theorem LxT.bd {Q : Bs → Prop} {a b : Bs} {c : UInt8} {A B : List Tok} (ha : LxT Bd a A) (hc : c = 32 ∨ c = 44 ∨ c = 40 ∨ c = 41) (hb : LxT Q (c :: b) B) : LxT Q (a ++ c :: b) (A ++ B) := ha.append hb fun s _ => Bd.head hc
theorem LxT.of_word {P : Bs → Prop} {a : Bs} {c : UInt8} {b : Bs} {k : Int} {x : Bs} (e : a = c :: b) (h : ∀ p s, P s → lexStep p c (b ++ s) = .word ⟨k, x, p⟩ a.length) : LxT P a [(k, x)] := by
  intro p s hs
  subst e
  refine ⟨[⟨k, x, p⟩], rfl, ?_⟩
  rw [List.cons_append, lx_word (h p s hs), Lx.cons_eq]
  congr 2
  rw [← List.cons_append, List.drop_left]
theorem lxt_blank {P : Bs → Prop} : LxT P [32] [] := by
  intro p s _
  refine ⟨[], rfl, ?_⟩
  rw [Lx.app_nil]
  exact lx_blank (by unfold lexStep; rw [if_pos (by decide)])
theorem step_sign {p : Nat} {c : UInt8} {t : Bs} (h : kindB c = 5) : lexStep p c t = .word ⟨5, (c :: t).take (signLen c t), p⟩ (signLen c t) := by
  unfold lexStep; simp [h]
theorem lxt_sign {P : Bs → Prop} (c : UInt8) (h : kindB c = 5) (h1 : c ≠ 60) (h2 : c ≠ 62) : LxT P [c] [(5, [c])] := by
  refine LxT.of_word (c := c) (b := []) rfl fun p s _ => ?_
  have hl : signLen c s = 1 := by unfold signLen; split <;> simp [h1, h2]
  rw [List.nil_append, step_sign h, hl]; rfl
theorem lxt_lt : LxT Bd [60] [(5, [60])] := by
  refine LxT.of_word (c := 60) (b := []) rfl fun p s hs => ?_
  have hl : signLen 60 s = 1 := by
    unfold signLen; split
    · rfl
    · rename_i d r
      rcases hs d r rfl with rfl | rfl | rfl | rfl <;> decide
  rw [List.nil_append, step_sign (by decide), hl]; rfl
theorem lxt_gt : LxT Bd [62] [(5, [62])] := by
  refine LxT.of_word (c := 62) (b := []) rfl fun p s hs => ?_
  have hl : signLen 62 s = 1 := by
    unfold signLen; split
    · rfl
    · rename_i d r
      rcases hs d r rfl with rfl | rfl | rfl | rfl <;> decide
  rw [List.nil_append, step_sign (by decide), hl]; rfl
theorem lxt_two (c d : UInt8) (h : kindB c = 5) (hl : (c = 60 ∧ (d = 62 ∨ d = 61)) ∨ (c = 62 ∧ d = 61)) : LxT Bd [c, d] [(5, [c, d])] := by
  refine LxT.of_word (c := c) (b := [d]) rfl fun p s hs => ?_
  have hl : signLen c ([d] ++ s) = 2 := by unfold signLen; simp only [List.cons_append]; rw [if_pos hl]
  rw [step_sign h, hl]; rfl
theorem lxt_op (o : Int) : LxT Bd (opB o) [(5, opB o)] := by
  unfold opB
  split
  · exact lxt_sign _ (by decide) (by decide) (by decide)
  split
  · exact lxt_two _ _ (by decide) (by decide)
  split
  · exact lxt_lt
  split
  · exact lxt_two _ _ (by decide) (by decide)
  split
  · exact lxt_gt
  · exact lxt_two _ _ (by decide) (by decide)
theorem Bd.notLD {s : Bs} (h : Bd s) : ∀ c t, s = c :: t → isLD c = false := by
  intro c t e
  rcases h c t e with rfl | rfl | rfl | rfl <;> decide
theorem Bd.notD {s : Bs} (h : Bd s) : ∀ c t, s = c :: t → isD c = false := by
  intro c t e
  rcases h c t e with rfl | rfl | rfl | rfl <;> decide
theorem Bd.notL {s : Bs} (h : Bd s) : nextL s = false := by
  cases s with
  | nil => rfl
  | cons c t => show isL c = false; rcases h c t rfl with rfl | rfl | rfl | rfl <;> decide
theorem kind_of_isL {b : UInt8} (h : isL b = true) : kindB b = 2 := by unfold isL at h; simpa using h
theorem kind_of_isD {b : UInt8} (h : isD b = true) : kindB b = 3 := by unfold isD at h; simpa using h
theorem step_letter {p : Nat} {c : UInt8} {b s : Bs} (h : isL c = true) (hb : ∀ x ∈ b, isLD x = true) (hs : Bd s) : lexStep p c (b ++ s) = if isKw (c :: b) then .word ⟨2, caps (c :: b), p⟩ (c :: b).length
  else if (c :: b).length > 32 then .bad ⟨45, p⟩ else .word ⟨1, c :: b, p⟩ (c :: b).length := by
  have hk := kind_of_isL h
  unfold lexStep
  simp only [hk]
  have ht := (takeWhile_split isLD (c :: b) s (by
    intro x hx
    rcases List.mem_cons.1 hx with rfl | hx
    · unfold isLD; simp [h]
    · exact hb x hx) hs.notLD).1
  rw [List.cons_append] at ht
  simp only [lexLetter, ht]
  rfl
theorem lxt_kw (w : Bs) (c : UInt8) (b : Bs) (e : w = c :: b) (h : isL c = true) (hb : ∀ x ∈ b, isLD x = true) (hk : isKw w = true) : LxT Bd w [(2, caps w)] :=
  LxT.of_word e fun p s hs => by
    subst e
    rw [step_letter h hb hs, if_pos hk]
theorem isName_cons {s : Bs} (h : isName s = true) : ∃ c b, s = c :: b ∧ isL c = true ∧ (∀ x ∈ b, isLD x = true) ∧ isKw s = false ∧ s.length ≤ 32 := by
  cases s with
  | nil => cases h
  | cons c b =>
    simp only [isName, Bool.and_eq_true, decide_eq_true_eq, Bool.not_eq_true', List.all_cons, List.all_eq_true] at h
    exact ⟨c, b, rfl, h.1.1.2, h.1.2.2, h.2, h.1.1.1⟩
theorem lxt_name {s : Bs} (h : isName s = true) : LxT Bd s [(1, s)] := by
  obtain ⟨c, b, e, h1, h2, h3, h4⟩ := isName_cons h
  refine LxT.of_word e fun p r hr => ?_
  subst e
  rw [step_letter h1 h2 hr, if_neg (by simp [h3]), if_neg (by omega)]
theorem lxt_digits {w : Bs} {c : UInt8} {b : Bs} (e : w = c :: b) (hw : ∀ x ∈ w, isD x = true) (hz : w.length > 1 → c ≠ 48) (hl : w.length ≤ 19) : LxT Bd w [(3, w)] := by
  refine LxT.of_word e fun p s hs => ?_
  subst e
  have hk := kind_of_isD (hw c (List.mem_cons_self ..))
  have ht := takeWhile_split isD (c :: b) s hw hs.notD
  rw [List.cons_append] at ht
  unfold lexStep
  simp only [hk]
  simp only [lexDigit, ht.1, ht.2, hs.notL]
  rw [if_neg (by decide), if_neg (by decide), if_pos True.intro, if_neg, if_neg (by omega), if_neg (by decide)]
  rintro ⟨h1, h2⟩
  simp only [List.head?_cons, Option.some.injEq] at h2
  exact hz h1 h2

/-! ### texts in quotes -/
def esc (x : Bs) : Bs := x.flatMap fun b => if b = 39 then [39, 39] else [b]
theorem esc_cons (b : UInt8) (x : Bs) : esc (b :: x) = (if b = 39 then [39, 39] else [b]) ++ esc x := rfl
theorem quoted_esc (s : Bs) (hs : ∀ c t, s = c :: t → c ≠ 39) : ∀ x : Bs, quoted (esc x ++ 39 :: s) = some (x, (esc x).length + 1) := by
  intro x
  induction x with
  | nil =>
    cases s with
    | nil => rfl
    | cons d r =>
      have := hs d r rfl
      simp [esc, quoted, this]
  | cons b x ih =>
    rw [esc_cons]
    by_cases hb : b = 39
    · subst hb
      simp only [if_true, List.cons_append, List.nil_append, quoted, ih, Option.map_some, List.length_cons]
    · rw [if_neg hb]
      obtain ⟨d, r, hr⟩ : ∃ d r, esc x ++ 39 :: s = d :: r := by cases he : esc x with
        | nil => exact ⟨_, _, rfl⟩
        | cons d r => exact ⟨_, _, rfl⟩
      simp only [List.cons_append, List.nil_append, hr]
      rw [hr] at ih
      simp only [quoted, if_neg hb, ih, Option.map_some, List.length_cons]
theorem lxt_quote {x : Bs} (hx : x.length ≤ 64) : LxT Bd (quote x) [(4, x)] := by
  have e : quote x = 39 :: (esc x ++ [39]) := rfl
  refine LxT.of_word e fun p s hs => ?_
  have hq := quoted_esc s (fun c t h => by rcases hs c t h with rfl | rfl | rfl | rfl <;> decide) x
  rw [List.append_assoc, List.singleton_append]
  unfold lexStep
  rw [if_neg (by decide), if_neg (by decide), if_neg (by decide), if_pos (by decide)]
  simp only [lexQuote, hq]
  rw [if_neg (by omega), e]
  simp
end Go.Proofs.Q
