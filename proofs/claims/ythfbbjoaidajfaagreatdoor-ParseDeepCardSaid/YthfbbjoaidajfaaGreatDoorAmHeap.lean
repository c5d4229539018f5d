import Derived.Test.YthfbbjoaidajfaaGreatDoorAmLimit
set_option linter.unusedVariables false
set_option linter.unusedSimpArgs false
set_option linter.unusedVariables false
namespace Go.Am.Heap
open Go Go.Am
theorem set_get (h : AHeap) (i j : Nat) (b : Option ABlk) : (h.set i b).get j = if j = i then b else h.get j := rfl
theorem new_get (h : AHeap) (j : Nat) (b : ABlk) : (h.new b).get j = if j = h.next then some b else h.get j := rfl
theorem set_next (h : AHeap) (i : Nat) (b : Option ABlk) : (h.set i b).next = h.next := rfl
theorem new_next (h : AHeap) (b : ABlk) : (h.new b).next = h.next + 1 := rfl
theorem get_new_ne {h : AHeap} {j : Nat} {b : ABlk} (hj : j ≠ h.next) : (h.new b).get j = h.get j := by rw [new_get, if_neg hj]
theorem get_new_lt {h : AHeap} {j : Nat} {b : ABlk} (hj : j < h.next) : (h.new b).get j = h.get j := get_new_ne (by omega)
theorem get_new_eq {h : AHeap} {b : ABlk} : (h.new b).get h.next = some b := by rw [new_get, if_pos rfl]
theorem get_set_ne {h : AHeap} {i j : Nat} {b : Option ABlk} (hj : j ≠ i) : (h.set i b).get j = h.get j := by rw [set_get, if_neg hj]
theorem get_set_eq {h : AHeap} {i : Nat} {b : Option ABlk} : (h.set i b).get i = b := by rw [set_get, if_pos rfl]
theorem set_id (h : AHeap) (i : Nat) : h.set i (h.get i) = h := by
  cases h with | mk g n =>
  simp only [AHeap.set, AHeap.mk.injEq, and_true]
  funext j; split
  · rename_i e; rw [e]
  · rfl
theorem set_same {h : AHeap} {i : Nat} {b : Option ABlk} (e : h.get i = b) : h.set i b = h := by rw [← e]; exact set_id h i
theorem load_at {h : AHeap} {id off : Nat} {cells : List AVal} {v : AVal} (hg : h.get id = some (.arr cells)) (hv : cells[off]? = some v) : loadA h false 1 (.ptr id off) = some v := by
  have hlt := (List.getElem?_eq_some_iff.1 hv).1
  simp only [loadA, hg, ofCells, Bool.false_eq_true, if_false]
  rw [if_pos (by omega)]
  simpa using hv
theorem store_at {h : AHeap} {id off : Nat} {cells : List AVal} {v : AVal} (hg : h.get id = some (.arr cells)) (hv : v.isCell = true) (ho : off < cells.length) : storeA h 1 (.ptr id off) v = some (h.set id (some (.arr (cells.set off v)))) := by
  have hc : v.cells = [v] := by cases v <;> first | rfl | simp [AVal.isCell] at hv
  simp only [storeA, hg, hc]
  rw [if_pos ⟨rfl, by simp [hv], by omega⟩]
  rfl
theorem load_gen {h : AHeap} {id off n : Nat} {ag : Bool} {cells : List AVal} (hg : h.get id = some (.arr cells)) (ho : off ≤ cells.length) : loadA h ag n (.ptr id off) = ofCells ag n (cells.drop off) := by
  simp only [loadA, hg]
  rw [if_pos ho]
theorem store_gen {h : AHeap} {id off n : Nat} {v : AVal} {cells vs out : List AVal} (hg : h.get id = some (.arr cells)) (hv : v.cells = vs) (hn : vs.length = n) (hc : vs.all AVal.isCell = true) (ho : off + n ≤ cells.length) (hr : setRange cells off vs = out) :
    storeA h n (.ptr id off) v = some (h.set id (some (.arr out))) := by
  simp only [storeA, hg, hv]
  rw [if_pos ⟨hn, hc, ho⟩, hr]
end Go.Am.Heap

