/-
  THE ABSTRACT MACHINE: slices that grow by append from nothing: content, with spare room of which a token tells.
-/
import Derived.Test.YtgjdlakemaabfaaAmHeap
set_option linter.unusedVariables false
set_option linter.unusedSimpArgs false
set_option linter.unusedVariables false
set_option linter.unusedSimpArgs false
namespace Go.Am
open Go

def accId : AVal → List Nat
  | .lst _ _ (.tok r) => [r]
  | _ => []
/-- a slice that has grown by append -/
def Acc (es : Nat) (h : AHeap) (v : AVal) (cells : List AVal) (n : Nat) : Prop :=
  (v = .nilSl ∧ cells = [] ∧ n = 0) ∨ ∃ r, v = .lst cells n (.tok r) ∧ cells.length = n * es ∧ h.get r = some (.tok es) ∧ r < h.next
theorem Acc.nil (es : Nat) (h : AHeap) : Acc es h .nilSl [] 0 := .inl ⟨rfl, rfl, rfl⟩
theorem Acc.congr {es n : Nat} {h h' : AHeap} {v : AVal} {cells : List AVal} (A : Acc es h v cells n) (hn : h.next ≤ h'.next) (he : ∀ i ∈ accId v, h'.get i = h.get i) : Acc es h' v cells n := by
  rcases A with h | ⟨r, rfl, hl, hg, hlt⟩
  · exact .inl h
  · exact .inr ⟨r, rfl, hl, by rw [he r (by simp [accId])]; exact hg, by omega⟩
theorem Acc.isCell {es n : Nat} {h : AHeap} {v : AVal} {cells : List AVal} (A : Acc es h v cells n) : v.isCell = true := by
  rcases A with ⟨rfl, _⟩ | ⟨r, rfl, _⟩ <;> rfl
theorem Acc.lt {es n : Nat} {h : AHeap} {v : AVal} {cells : List AVal} (A : Acc es h v cells n) : ∀ i ∈ accId v, i < h.next := by
  rcases A with ⟨rfl, _⟩ | ⟨r, rfl, _, _, hlt⟩
  · intro i hi; simp [accId] at hi
  · intro i hi; simp only [accId, List.mem_singleton] at hi; subst hi; exact hlt
theorem Acc.length {es n : Nat} {h : AHeap} {v : AVal} {cells : List AVal} (A : Acc es h v cells n) : cells.length = n * es := by
  rcases A with ⟨_, rfl, rfl⟩ | ⟨r, rfl, hl, _⟩
  · simp
  · exact hl
/-- More behind it. -/
theorem append_acc {es bytes n m : Nat} {h : AHeap} {v : AVal} {cells new : List AVal} {cap : Cap} (A : Acc es h v cells n) (hl : new.length = m * es) (hm : 0 < m) (hc : new.all AVal.isCell = true) (hb : (n + m) * bytes ≤ 2 ^ 47) (hn : n + m ≤ 9223372036854775807) :
    ∃ v' h', appendA false h es bytes v (.lst new m cap) = some (v', h') ∧ Acc es h' v' (cells ++ new) (n + m) ∧ h'.next = h.next + 1 ∧ accId v' = [h.next] ∧ (∀ j, j < h.next → j ∉ accId v → h'.get j = h.get j) ∧ v' = .lst (cells ++ new) (n + m) (.tok h.next) := by
  have hsrc : srcCells h es m (.lst new m cap) = some new := by
    simp only [srcCells]
    rw [if_pos ⟨Nat.le_refl _, hl⟩, ← hl, List.take_length]
  rcases A with ⟨rfl, rfl, rfl⟩ | ⟨r, rfl, hcl, hg, hlt⟩
  · refine ⟨_, h.new (.tok es), ?_, .inr ⟨h.next, rfl, by simpa using hl, Heap.get_new_eq, by rw [Heap.new_next]; omega⟩, rfl, rfl, fun j hj _ => Heap.get_new_lt hj, rfl⟩
    simp only [appendA, lenA, hsrc, Option.bind_eq_bind, Option.bind_some, hc, if_true]
    rw [if_neg (by omega), if_pos ⟨by simpa using hb, by omega⟩, if_neg (by simp)]
    simp
  · refine ⟨_, (h.set r none).new (.tok es), ?_, .inr ⟨h.next, rfl, by simp [hcl, hl, Nat.add_mul], Heap.get_new_eq, by rw [Heap.new_next, Heap.set_next]; omega⟩, rfl, rfl, fun j hj hjr => ?_, rfl⟩
    · simp only [appendA, lenA, hsrc, Option.bind_eq_bind, Option.bind_some, hc, if_true]
      rw [if_neg (by omega), if_pos ⟨hb, hn, hcl⟩]
      simp only [hg, if_true]
    · simp only [accId, List.mem_singleton] at hjr
      rw [Heap.get_new_lt (by rw [Heap.set_next]; exact hj), Heap.get_set_ne hjr]
theorem Acc.index {es n i : Nat} {h : AHeap} {v : AVal} {cells : List AVal} (A : Acc es h v cells n) (hi : i < n) : indexAddrA es v i = some (.iptr (cells.drop (i * es))) := by
  rcases A with ⟨_, _, rfl⟩ | ⟨r, rfl, hcl, hg, hlt⟩
  · omega
  · simp only [indexAddrA]
    rw [if_pos ⟨by omega, by omega⟩, Int.toNat_natCast]
theorem Acc.alen {es n : Nat} {h : AHeap} {v : AVal} {cells : List AVal} (A : Acc es h v cells n) {P : Program} {t e : TypeId} (hu : P.underlying t = some (.slice e)) (h2 : AHeap) : Am.alen P h2 t v = some (.int .i64 n) := by
  rcases A with ⟨rfl, _, rfl⟩ | ⟨r, rfl, hcl, hg, hlt⟩ <;> simp [Am.alen, hu]
end Go.Am
