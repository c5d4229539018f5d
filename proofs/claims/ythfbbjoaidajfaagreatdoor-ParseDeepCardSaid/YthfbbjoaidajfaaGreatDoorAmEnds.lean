import Derived.Test.YthfbbjoaidajfaaGreatDoorAmHeap
set_option linter.unusedVariables false
set_option linter.unusedSimpArgs false
set_option linter.unusedVariables false
set_option linter.unusedSimpArgs false
namespace Go.Am
open Go
def accId : AVal → List Nat
  | .lst _ _ (.tok r) => [r]
  | _ => []
def Acc (es : Nat) (h : AHeap) (v : AVal) (cells : List AVal) (n : Nat) : Prop :=
  (v = .nilSl ∧ cells = [] ∧ n = 0) ∨ ∃ r, v = .lst cells n (.tok r) ∧ cells.length = n * es ∧ h.get r = some (.tok es) ∧ r < h.next
theorem Acc.congr {es n : Nat} {h h' : AHeap} {v : AVal} {cells : List AVal} (A : Acc es h v cells n) (hn : h.next ≤ h'.next) (he : ∀ i ∈ accId v, h'.get i = h.get i) : Acc es h' v cells n := by
  rcases A with h | ⟨r, rfl, hl, hg, hlt⟩
  · exact .inl h
  · exact .inr ⟨r, rfl, hl, by rw [he r (by simp [accId])]; exact hg, by omega⟩
theorem Acc.isCell {es n : Nat} {h : AHeap} {v : AVal} {cells : List AVal} (A : Acc es h v cells n) : v.isCell = true := by
  rcases A with ⟨rfl, _⟩ | ⟨r, rfl, _⟩ <;> rfl
theorem Acc.index {es n i : Nat} {h : AHeap} {v : AVal} {cells : List AVal} (A : Acc es h v cells n) (hi : i < n) : indexAddrA es v i = some (.iptr (cells.drop (i * es))) := by
  rcases A with ⟨_, _, rfl⟩ | ⟨r, rfl, hcl, hg, hlt⟩
  · omega
  · simp only [indexAddrA]
    rw [if_pos ⟨by omega, by omega⟩, Int.toNat_natCast]
end Go.Am



set_option linter.unusedVariables false
set_option linter.unusedSimpArgs false
namespace Go.Am
open Go
abbrev Obl := AHeap × AHeap × Nat
def obl1 (a b : Did) : Option (List Obl) :=
  match a.cls, b.cls with
  | some _, some _ => some []
  | some ids, none => some (ids.map fun i => (b.h0, b.h1, i))
  | none, some ids => some (ids.map fun i => (a.h0, a.h1, i))
  | none, none => none
def oblI (ops : Array Oper) (an : List (List Nat)) (cs : List Did) (j : Nat) : List Nat → Option (List Obl)
  | [] => some []
  | i :: r => if (an.getD j []).contains i then oblI ops an cs j r else
    match ops[i]?, ops[j]?, cs[i]?, cs[j]? with
    | some x, some y, some a, some b => if free2 ops x y then (match obl1 a b, oblI ops an cs j r with
      | some l, some m => some (l ++ m)
      | _, _ => none) else none
    | _, _, _, _ => none
def oblJ (ops : Array Oper) (an : List (List Nat)) (cs : List Did) : List Nat → Option (List Obl)
  | [] => some []
  | j :: r => match oblI ops an cs j (List.range j), oblJ ops an cs r with
    | some l, some m => some (l ++ m)
    | _, _ => none
def owes (ops : Array Oper) (cs : List Did) : Option (List Obl) := if backOk ops then oblJ ops (ancs ops.toList) cs (List.range cs.length) else none
theorem obl1_ok {a b : Did} {l : List Obl} (h : obl1 a b = some l) (hs : ∀ o ∈ l, sameBlk o.1 o.2.1 o.2.2 = true) : memOk a b = true := by
  unfold obl1 at h
  unfold memOk
  split at h
  · rename_i h1 h2; rw [h1, h2]
  · rename_i ids h1 h2
    rw [h1, h2]; cases h
    simp only [List.all_eq_true]
    exact fun i hi => hs _ (List.mem_map.2 ⟨i, hi, rfl⟩)
  · rename_i ids h1 h2
    rw [h1, h2]; cases h
    simp only [List.all_eq_true]
    exact fun i hi => hs _ (List.mem_map.2 ⟨i, hi, rfl⟩)
  · cases h
theorem oblI_ok {ops : Array Oper} {an : List (List Nat)} {cs : List Did} {j : Nat} : ∀ {is : List Nat} {l : List Obl}, oblI ops an cs j is = some l → (∀ o ∈ l, sameBlk o.1 o.2.1 o.2.2 = true) →
    (is.all fun i => (an.getD j []).contains i || match ops[i]?, ops[j]?, cs[i]?, cs[j]? with
      | some x, some y, some a, some b => free2 ops x y && memOk a b
      | _, _, _, _ => false) = true := by
  intro is
  induction is with
  | nil => intro l _ _; rfl
  | cons i is ih =>
    intro l h hs
    simp only [List.all_cons, Bool.and_eq_true]
    unfold oblI at h
    split at h
    · rename_i hc
      exact ⟨by rw [hc]; rfl, ih h hs⟩
    · split at h
      · rename_i x y a b hx hy ha hb
        split at h
        · rename_i hf
          split at h
          · rename_i l1 l2 h1 h2
            cases h
            exact ⟨by simp only [hx, hy, ha, hb, hf, obl1_ok h1 fun o ho => hs o (List.mem_append_left _ ho), Bool.and_self, Bool.or_true], ih h2 fun o ho => hs o (List.mem_append_right _ ho)⟩
          · cases h
        · cases h
      · cases h
theorem oblJ_ok {ops : Array Oper} {an : List (List Nat)} {cs : List Did} : ∀ {js : List Nat} {l : List Obl}, oblJ ops an cs js = some l → (∀ o ∈ l, sameBlk o.1 o.2.1 o.2.2 = true) →
    (js.all fun j => (List.range j).all fun i => (an.getD j []).contains i || match ops[i]?, ops[j]?, cs[i]?, cs[j]? with
      | some x, some y, some a, some b => free2 ops x y && memOk a b
      | _, _, _, _ => false) = true := by
  intro js
  induction js with
  | nil => intro l _ _; rfl
  | cons j js ih =>
    intro l h hs
    unfold oblJ at h
    split at h
    · rename_i l1 l2 h1 h2
      cases h
      rw [List.all_cons, Bool.and_eq_true]
      exact ⟨oblI_ok h1 fun o ho => hs o (List.mem_append_left _ ho), ih h2 fun o ho => hs o (List.mem_append_right _ ho)⟩
    · cases h
theorem k_owes {ops : Array Oper} {cs : List Did} {s' : ASt} (l : List Obl) (h : owes ops cs = some l) (hs : ∀ o ∈ l, sameBlk o.1 o.2.1 o.2.2 = true) : drawK ops (some (cs, s')) = some (.normal, s') := by
  unfold owes at h
  split at h
  · rename_i hb
    refine k_draw ops cs s' ?_
    rw [hb, Bool.and_true]
    exact oblJ_ok h hs
  · cases h
theorem sameBlk_of {h h' : AHeap} {id : Nat} {b : ABlk} (hg : h.get id = some b) (hs : h'.get id = h.get id) (hr : eqB b b = true) : sameBlk h h' id = true := by
  unfold sameBlk
  rw [hs, hg]; exact hr
end Go.Am

