/-
  BIND: the key of a bound query, and what the document tells of it, as plain texts: each says all of it.
-/
import Derived.Test.YtijnepmlnfcpnaaGreatDoorKyTypes
import Derived.Test.YtijnepmlnfcpnaaGreatDoorQryNum
set_option linter.unusedVariables false
set_option linter.unusedSimpArgs false
set_option linter.unusedSimpArgs false
set_option linter.unusedVariables false
namespace Go.Proofs.Ky
open Go Go.Am Go.Proofs

/-- a byte of a number -/
def numC (c : UInt8) : Bool := Q.isD c || c == 45
def Stop (r : List UInt8) : Prop := ∀ c, r.head? = some c → numC c = false
theorem cut : ∀ (x y r s : List UInt8), (∀ c ∈ x, numC c = true) → (∀ c ∈ y, numC c = true) → Stop r → Stop s → x ++ r = y ++ s → x = y ∧ r = s
  | [], [], r, s, _, _, _, _, h => ⟨rfl, h⟩
  | [], d :: y, r, s, _, hy, hr, _, h => by
    rw [List.nil_append] at h
    have := hr d (by rw [h]; rfl)
    rw [hy d (List.mem_cons_self ..)] at this; cases this
  | c :: x, [], r, s, hx, _, _, hs, h => by
    rw [List.nil_append] at h
    have := hs c (by rw [← h]; rfl)
    rw [hx c (List.mem_cons_self ..)] at this; cases this
  | c :: x, d :: y, r, s, hx, hy, hr, hs, h => by
    simp only [List.cons_append, List.cons.injEq] at h
    obtain ⟨e1, e2⟩ := cut x y r s (fun c h => hx c (List.mem_cons_of_mem _ h)) (fun c h => hy c (List.mem_cons_of_mem _ h)) hr hs h.2
    exact ⟨by rw [h.1, e1], e2⟩
def val (l : List UInt8) : Nat := l.foldl (fun n c => n * 10 + (c.toNat - 48)) 0
theorem val_dec (u : Nat) : val (Lib.decDigits u) = u := by
  induction u using Nat.strongRecOn with
  | _ u ih =>
    by_cases h : u < 10
    · rw [Lib.decDigits, dif_pos h]
      have : (UInt8.ofNat (48 + u)).toNat = 48 + u := by simp [UInt8.toNat_ofNat']; omega
      simp only [val, List.foldl_cons, List.foldl_nil, this]; omega
    · rw [Q.dec_step h]
      have e := ih (u / 10) (by omega)
      have : (UInt8.ofNat (48 + u % 10)).toNat = 48 + u % 10 := by simp [UInt8.toNat_ofNat']; omega
      unfold val at e ⊢
      rw [List.foldl_append, e]
      simp only [List.foldl_cons, List.foldl_nil, this]; omega
theorem itoa_num (n : Int) : ∀ c ∈ Lib.itoa n, numC c = true := by
  unfold Lib.itoa numC
  split
  · intro c hc
    rcases List.mem_cons.1 hc with rfl | hc
    · decide
    · rw [Q.dec_isD _ c hc]; rfl
  · intro c hc; rw [Q.dec_isD _ c hc]; rfl
theorem itoa_inj {m n : Int} (h : Lib.itoa m = Lib.itoa n) : m = n := by
  have nd : ∀ u, ∀ r, Lib.decDigits u ≠ 45 :: r := by
    intro u r e
    have := Q.dec_isD u 45 (by rw [e]; exact List.mem_cons_self ..)
    revert this; decide
  unfold Lib.itoa at h
  split at h <;> split at h
  · simp only [List.cons.injEq, true_and] at h
    have := congrArg val h
    rw [val_dec, val_dec] at this
    omega
  · exact absurd h.symm (nd _ _)
  · exact absurd h (nd _ _)
  · have := congrArg val h
    rw [val_dec, val_dec] at this
    omega
/-- a number and what is behind it -/
theorem itoa_cut {m n : Int} {r s : List UInt8} (hr : Stop r) (hs : Stop s) (h : Lib.itoa m ++ r = Lib.itoa n ++ s) : m = n ∧ r = s := by
  obtain ⟨e1, e2⟩ := cut _ _ r s (itoa_num m) (itoa_num n) hr hs h
  exact ⟨itoa_inj e1, e2⟩
theorem stop_cons {c : UInt8} {r : List UInt8} (h : numC c = false) : Stop (c :: r) := by
  intro d hd
  simp at hd; subst hd; exact h

/-! ### the key -/
def Pf {α : Type} (f : α → List UInt8) : Prop := ∀ a b r s, f a ++ r = f b ++ s → a = b ∧ r = s
def keyN (n : Int) : List UInt8 := Lib.itoa n ++ ([59] : List UInt8)
theorem keyN_pf : Pf keyN := by
  intro m n r s h
  unfold keyN at h
  rw [List.append_assoc, List.append_assoc] at h
  obtain ⟨e1, e2⟩ := itoa_cut (stop_cons (by decide)) (stop_cons (by decide)) h
  exact ⟨e1, (List.cons.inj e2).2⟩
def keyText (t : List UInt8) : List UInt8 := keyN (t.length : Int) ++ t
theorem keyText_pf : Pf keyText := by
  intro a b r s h
  unfold keyText at h
  rw [List.append_assoc, List.append_assoc] at h
  obtain ⟨e1, e2⟩ := keyN_pf _ _ _ _ h
  exact List.append_inj e2 (by omega)
def keyEach {α : Type} (f : α → List UInt8) (l : List α) : List UInt8 := keyN (l.length : Int) ++ l.flatMap f
theorem flat_pf {α : Type} {f : α → List UInt8} (hf : Pf f) : ∀ (a b : List α) (r s : List UInt8), a.length = b.length → a.flatMap f ++ r = b.flatMap f ++ s → a = b ∧ r = s
  | [], [], r, s, _, h => ⟨rfl, h⟩
  | [], _ :: _, r, s, hl, h => by simp at hl
  | _ :: _, [], r, s, hl, h => by simp at hl
  | x :: a, y :: b, r, s, hl, h => by
    simp only [List.flatMap_cons, List.append_assoc] at h
    obtain ⟨e1, e2⟩ := hf _ _ _ _ h
    obtain ⟨e3, e4⟩ := flat_pf hf a b r s (by simpa using hl) e2
    exact ⟨by rw [e1, e3], e4⟩
theorem keyEach_pf {α : Type} {f : α → List UInt8} (hf : Pf f) : Pf (keyEach f) := by
  intro a b r s h
  unfold keyEach at h
  rw [List.append_assoc, List.append_assoc] at h
  obtain ⟨e1, e2⟩ := keyN_pf _ _ _ _ h
  exact flat_pf hf a b r s (by omega) e2
def boolS (m : Bool) : List UInt8 := if m = true then ([116, 114, 117, 101] : List UInt8) else ([102, 97, 108, 115, 101] : List UInt8)
theorem boolS_pf : Pf boolS := by
  intro a b r s h
  cases a <;> cases b <;> simp [boolS] at h ⊢ <;> exact h
def keyTest : TestT → List UInt8
  | .nil => ([45] : List UInt8)
  | .mk k l r m i o ts is => ([43] : List UInt8) ++ (keyN k ++ (boolS m ++ (keyN i ++ (keyN o ++ (keyEach keyText ts ++ (keyEach keyN is ++ (keyTest l ++ keyTest r)))))))
theorem keyTest_pf : ∀ (a b : TestT) (r s : List UInt8), keyTest a ++ r = keyTest b ++ s → a = b ∧ r = s
  | .nil, .nil, r, s, h => by simp [keyTest] at h; exact ⟨rfl, h⟩
  | .nil, .mk .., r, s, h => by simp [keyTest] at h
  | .mk .., .nil, r, s, h => by simp [keyTest] at h
  | .mk k l r m i o ts is, .mk k' l' r' m' i' o' ts' is', x, y, h => by
    simp only [keyTest, List.append_assoc, List.cons_append, List.nil_append, List.cons.injEq, true_and] at h
    obtain ⟨e1, h1⟩ := keyN_pf _ _ _ _ h
    obtain ⟨e2, h2⟩ := boolS_pf _ _ _ _ h1
    obtain ⟨e3, h3⟩ := keyN_pf _ _ _ _ h2
    obtain ⟨e4, h4⟩ := keyN_pf _ _ _ _ h3
    obtain ⟨e5, h5⟩ := keyEach_pf keyText_pf _ _ _ _ h4
    obtain ⟨e6, h6⟩ := keyEach_pf keyN_pf _ _ _ _ h5
    obtain ⟨e7, h7⟩ := keyTest_pf l l' _ _ h6
    obtain ⟨e8, h8⟩ := keyTest_pf r r' _ _ h7
    exact ⟨by rw [e1, e2, e3, e4, e5, e6, e7, e8], h8⟩
def keyPick (p : Pick) : List UInt8 := keyN p.Kind ++ keyN p.Index
theorem keyPick_pf : Pf keyPick := by
  intro a b r s h
  unfold keyPick at h
  rw [List.append_assoc, List.append_assoc] at h
  obtain ⟨e1, h1⟩ := keyN_pf _ _ _ _ h
  obtain ⟨e2, h2⟩ := keyN_pf _ _ _ _ h1
  cases a; cases b
  simp only at e1 e2
  exact ⟨by rw [e1, e2], h2⟩
def keyB (b : Bound) : List UInt8 := keyEach keyPick b.Picks ++ (keyEach keyText b.Names ++ (keyEach keyN b.Sets ++ keyTest b.Where))
theorem keyB_inj {a b : Bound} (h : keyB a = keyB b) : a = b := by
  have h : keyB a ++ [] = keyB b ++ [] := by rw [h]
  unfold keyB at h
  simp only [List.append_assoc] at h
  obtain ⟨e1, h1⟩ := keyEach_pf keyPick_pf _ _ _ _ h
  obtain ⟨e2, h2⟩ := keyEach_pf keyText_pf _ _ _ _ h1
  obtain ⟨e3, h3⟩ := keyEach_pf keyN_pf _ _ _ _ h2
  obtain ⟨e4, _⟩ := keyTest_pf _ _ _ _ h3
  cases a; cases b
  simp only at e1 e2 e3 e4
  rw [e1, e2, e3, e4]

/-! ### what the document tells -/
def NotC (d : UInt8) (r : List UInt8) : Prop := r.head? ≠ some d
/-- pieces that all begin with one letter, and something behind that does not -/
theorem list_pf {α : Type} {f : α → List UInt8} {d : UInt8} {S : List UInt8 → Prop} (hd : ∀ a, ∃ t, f a = d :: t) (hS : ∀ a r, S (f a ++ r))
    (hf : ∀ a b r s, S r → S s → f a ++ r = f b ++ s → a = b ∧ r = s) : ∀ (a b : List α) (r s : List UInt8), S r → S s → NotC d r → NotC d s → a.flatMap f ++ r = b.flatMap f ++ s → a = b ∧ r = s
  | [], [], r, s, _, _, _, _, h => ⟨rfl, h⟩
  | [], y :: b, r, s, _, _, hr, _, h => by
    obtain ⟨t, ht⟩ := hd y
    simp only [List.flatMap_nil, List.nil_append, List.flatMap_cons, ht, List.cons_append] at h
    exact absurd (by rw [h]; rfl) hr
  | x :: a, [], r, s, _, _, _, hs, h => by
    obtain ⟨t, ht⟩ := hd x
    simp only [List.flatMap_nil, List.nil_append, List.flatMap_cons, ht, List.cons_append] at h
    exact absurd (by rw [← h]; rfl) hs
  | x :: a, y :: b, r, s, h1, h2, hr, hs, h => by
    simp only [List.flatMap_cons, List.append_assoc] at h
    have k : ∀ (l : List α) (r : List UInt8), S r → S (l.flatMap f ++ r) := by
      intro l r hr
      cases l with
      | nil => exact hr
      | cons z l => rw [List.flatMap_cons, List.append_assoc]; exact hS _ _
    obtain ⟨e1, e2⟩ := hf _ _ _ _ (k a r h1) (k b s h2) h
    obtain ⟨e3, e4⟩ := list_pf hd hS hf a b r s h1 h2 hr hs e2
    exact ⟨by rw [e1, e3], e4⟩
def toldPick (p : Pick) : List UInt8 := ([112] : List UInt8) ++ (Lib.itoa p.Kind ++ (([46] : List UInt8) ++ Lib.itoa p.Index))
theorem toldPick_pf (a b : Pick) (r s : List UInt8) (hr : Stop r) (hs : Stop s) (h : toldPick a ++ r = toldPick b ++ s) : a = b ∧ r = s := by
  unfold toldPick at h
  simp only [List.append_assoc, List.cons_append, List.nil_append, List.cons.injEq, true_and] at h
  obtain ⟨e1, h1⟩ := itoa_cut (stop_cons (by decide)) (stop_cons (by decide)) h
  obtain ⟨e2, h2⟩ := itoa_cut hr hs (List.cons.inj h1).2
  cases a; cases b
  simp only at e1 e2
  exact ⟨by rw [e1, e2], h2⟩
def toldText (d : UInt8) (t : List UInt8) : List UInt8 := d :: (Lib.itoa (t.length : Int) ++ (([58] : List UInt8) ++ t))
theorem toldText_pf (d : UInt8) (a b r s : List UInt8) (h : toldText d a ++ r = toldText d b ++ s) : a = b ∧ r = s := by
  unfold toldText at h
  simp only [List.append_assoc, List.cons_append, List.nil_append, List.cons.injEq, true_and] at h
  obtain ⟨e1, h1⟩ := itoa_cut (stop_cons (by decide)) (stop_cons (by decide)) h
  exact List.append_inj (List.cons.inj h1).2 (by omega)
def toldInt (d : UInt8) (n : Int) : List UInt8 := d :: Lib.itoa n
theorem toldInt_pf (d : UInt8) (a b : Int) (r s : List UInt8) (hr : Stop r) (hs : Stop s) (h : toldInt d a ++ r = toldInt d b ++ s) : a = b ∧ r = s := by
  unfold toldInt at h
  simp only [List.cons_append, List.cons.injEq, true_and] at h
  exact itoa_cut hr hs h
def toldT : TestT → List UInt8
  | .nil => ([95] : List UInt8)
  | .mk k l r m i o ts is => ([40] : List UInt8) ++ (Lib.itoa k ++ (([44] : List UInt8) ++ (boolS m ++ (([44] : List UInt8) ++ (Lib.itoa i ++ (([44] : List UInt8) ++ (Lib.itoa o ++ (ts.flatMap (toldText 116) ++ (is.flatMap (toldInt 105) ++ (toldT l ++ (toldT r ++ ([41] : List UInt8))))))))))))
theorem toldT_head (t : TestT) (x : List UInt8) : ∃ c y, toldT t ++ x = c :: y ∧ (c = 95 ∨ c = 40) := by
  cases t with
  | nil => exact ⟨95, x, rfl, .inl rfl⟩
  | mk k l r m i o ts is => exact ⟨40, _, rfl, .inr rfl⟩
theorem toldT_stop (t : TestT) (x : List UInt8) : Stop (toldT t ++ x) := by
  obtain ⟨c, y, h, hc⟩ := toldT_head t x
  rw [h]
  rcases hc with rfl | rfl <;> exact stop_cons (by decide)
theorem toldT_not (t : TestT) (x : List UInt8) (d : UInt8) (h1 : d ≠ 95) (h2 : d ≠ 40) : NotC d (toldT t ++ x) := by
  obtain ⟨c, y, h, hc⟩ := toldT_head t x
  rw [h]
  unfold NotC
  simp only [List.head?_cons, ne_eq, Option.some.injEq]
  rcases hc with rfl | rfl
  · exact fun e => h1 e.symm
  · exact fun e => h2 e.symm
theorem ints_stop (is : List Int) (x : List UInt8) (hx : Stop x) : Stop (is.flatMap (toldInt 105) ++ x) := by
  cases is with
  | nil => exact hx
  | cons z l => simp only [List.flatMap_cons, toldInt, List.cons_append]; exact stop_cons (by decide)
theorem ints_not (is : List Int) (x : List UInt8) (hx : NotC 116 x) : NotC 116 (is.flatMap (toldInt 105) ++ x) := by
  cases is with
  | nil => exact hx
  | cons z l => simp [List.flatMap_cons, toldInt, NotC]
theorem texts_stop (d : UInt8) (hd : numC d = false) (ts : List (List UInt8)) (x : List UInt8) (hx : Stop x) : Stop (ts.flatMap (toldText d) ++ x) := by
  cases ts with
  | nil => exact hx
  | cons z l => simp only [List.flatMap_cons, toldText, List.cons_append]; exact stop_cons hd
theorem toldT_pf : ∀ (a b : TestT) (r s : List UInt8), toldT a ++ r = toldT b ++ s → a = b ∧ r = s
  | .nil, .nil, r, s, h => by simp [toldT] at h; exact ⟨rfl, h⟩
  | .nil, .mk .., r, s, h => by simp [toldT] at h
  | .mk .., .nil, r, s, h => by simp [toldT] at h
  | .mk k l r m i o ts is, .mk k' l' r' m' i' o' ts' is', x, y, h => by
    simp only [toldT, List.append_assoc, List.cons_append, List.nil_append, List.cons.injEq, true_and] at h
    obtain ⟨e1, h1⟩ := itoa_cut (stop_cons (by decide)) (stop_cons (by decide)) h
    obtain ⟨e2, h2⟩ := boolS_pf _ _ _ _ (List.cons.inj h1).2
    obtain ⟨e3, h3⟩ := itoa_cut (stop_cons (by decide)) (stop_cons (by decide)) (List.cons.inj h2).2
    obtain ⟨e4, h4⟩ := itoa_cut (texts_stop _ (by decide) _ _ (ints_stop _ _ (toldT_stop _ _))) (texts_stop _ (by decide) _ _ (ints_stop _ _ (toldT_stop _ _))) (List.cons.inj h3).2
    obtain ⟨e5, h5⟩ := list_pf (f := toldText 116) (d := 116) (S := fun _ => True) (fun a => ⟨_, rfl⟩) (fun _ _ => trivial) (fun a b r s _ _ h => toldText_pf 116 a b r s h) ts ts' _ _ trivial trivial (ints_not _ _ (toldT_not _ _ _ (by decide) (by decide))) (ints_not _ _ (toldT_not _ _ _ (by decide) (by decide))) h4
    obtain ⟨e6, h6⟩ := list_pf (f := toldInt 105) (d := 105) (S := Stop) (fun a => ⟨_, rfl⟩) (fun _ _ => stop_cons (by decide)) (fun a b r s h1 h2 h => toldInt_pf 105 a b r s h1 h2 h) is is' _ _ (toldT_stop _ _) (toldT_stop _ _) (toldT_not _ _ _ (by decide) (by decide)) (toldT_not _ _ _ (by decide) (by decide)) h5
    obtain ⟨e7, h7⟩ := toldT_pf l l' _ _ h6
    obtain ⟨e8, h8⟩ := toldT_pf r r' _ _ h7
    exact ⟨by rw [e1, e2, e3, e4, e5, e6, e7, e8], (List.cons.inj h8).2⟩
def toldB (b : Bound) : List UInt8 := b.Picks.flatMap toldPick ++ (b.Names.flatMap (toldText 110) ++ (b.Sets.flatMap (toldInt 115) ++ toldT b.Where))
theorem sets_stop (l : List Int) (x : List UInt8) (hx : Stop x) : Stop (l.flatMap (toldInt 115) ++ x) := by
  cases l with
  | nil => exact hx
  | cons z l => simp only [List.flatMap_cons, toldInt, List.cons_append]; exact stop_cons (by decide)
theorem sets_not (d : UInt8) (h : d ≠ 115) (l : List Int) (x : List UInt8) (hx : NotC d x) : NotC d (l.flatMap (toldInt 115) ++ x) := by
  cases l with
  | nil => exact hx
  | cons z l =>
    simp only [List.flatMap_cons, toldInt, List.cons_append, NotC, List.head?_cons, ne_eq, Option.some.injEq]
    exact fun e => h e.symm
theorem names_not (d : UInt8) (h : d ≠ 110) (l : List (List UInt8)) (x : List UInt8) (hx : NotC d x) : NotC d (l.flatMap (toldText 110) ++ x) := by
  cases l with
  | nil => exact hx
  | cons z l =>
    simp only [List.flatMap_cons, toldText, List.cons_append, NotC, List.head?_cons, ne_eq, Option.some.injEq]
    exact fun e => h e.symm
theorem toldB_inj {a b : Bound} (h : toldB a = toldB b) : a = b := by
  have h : toldB a ++ [] = toldB b ++ [] := by rw [h]
  unfold toldB at h
  simp only [List.append_assoc] at h
  have st : ∀ (c : Bound), Stop (c.Sets.flatMap (toldInt 115) ++ (toldT c.Where ++ [])) := fun c => sets_stop _ _ (toldT_stop _ _)
  have sn : ∀ (c : Bound), Stop (c.Names.flatMap (toldText 110) ++ (c.Sets.flatMap (toldInt 115) ++ (toldT c.Where ++ []))) := fun c => texts_stop _ (by decide) _ _ (st c)
  have np : ∀ (c : Bound), NotC 112 (c.Names.flatMap (toldText 110) ++ (c.Sets.flatMap (toldInt 115) ++ (toldT c.Where ++ []))) := fun c => names_not _ (by decide) _ _ (sets_not _ (by decide) _ _ (toldT_not _ _ _ (by decide) (by decide)))
  have nn : ∀ (c : Bound), NotC 110 (c.Sets.flatMap (toldInt 115) ++ (toldT c.Where ++ [])) := fun c => sets_not _ (by decide) _ _ (toldT_not _ _ _ (by decide) (by decide))
  have ns : ∀ (c : Bound), NotC 115 (toldT c.Where ++ []) := fun c => toldT_not _ _ _ (by decide) (by decide)
  obtain ⟨e1, h1⟩ := list_pf (f := toldPick) (d := 112) (S := Stop) (fun a => ⟨_, rfl⟩) (fun _ _ => stop_cons (by decide)) (fun a b r s h1 h2 h => toldPick_pf a b r s h1 h2 h) _ _ _ _ (sn a) (sn b) (np a) (np b) h
  obtain ⟨e2, h2⟩ := list_pf (f := toldText 110) (d := 110) (S := fun _ => True) (fun a => ⟨_, rfl⟩) (fun _ _ => trivial) (fun a b r s _ _ h => toldText_pf 110 a b r s h) _ _ _ _ trivial trivial (nn a) (nn b) h1
  obtain ⟨e3, h3⟩ := list_pf (f := toldInt 115) (d := 115) (S := Stop) (fun a => ⟨_, rfl⟩) (fun _ _ => stop_cons (by decide)) (fun a b r s h1 h2 h => toldInt_pf 115 a b r s h1 h2 h) _ _ _ _ (toldT_stop _ _) (toldT_stop _ _) (ns a) (ns b) h2
  obtain ⟨e4, _⟩ := toldT_pf _ _ _ _ h3
  cases a; cases b
  simp only at e1 e2 e3 e4
  rw [e1, e2, e3, e4]
/-- ONE KEY JUST IF THE SAME IS TOLD. -/
theorem key_told (a b : Bound) : keyB a = keyB b ↔ toldB a = toldB b := ⟨fun h => by rw [keyB_inj h], fun h => by rw [toldB_inj h]⟩
end Go.Proofs.Ky
