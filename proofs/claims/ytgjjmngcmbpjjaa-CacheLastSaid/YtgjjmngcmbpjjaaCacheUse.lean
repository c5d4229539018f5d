/-
  CACHE: use makes an entry the last one of the order list.
-/
import Derived.Test.YtgjjmngcmbpjjaaCacheOps
set_option linter.unusedSimpArgs false
set_option linter.unusedVariables false
set_option maxRecDepth 100000
namespace Go.Am.Cache
open Go Go.Am Go.Proofs

theorem bs52_1 (x : Nat) : abuildSlice Try.prog 52 1 [(0, .ptr x 0)] = some ([.ptr x 0], 1) := by kernel_rfl
theorem own26 : Cf.own "cache.go:26" = true := by kernel_rfl

/-- one more behind the order list -/
theorem append_use {K : Nat} {h1 : AHeap} {v : AVal} {ps : List Nat} (hv : OrdP K h1 v ps) (x : Nat) (hK : K ≤ 1000000) (hlt : ∀ i ∈ ordId v, i < h1.next) :
    ∃ v' h3, appendA true (h1.new (.arr [.ptr x 0])) 1 8 v (.sl h1.next 0 1 1 1 false) = some (v', h3) ∧ OrdP (K + 1) h3 v' (ps ++ [x]) ∧ h1.next ≤ h3.next ∧ (∀ i ∈ ordId v', (i ∈ ordId v ∨ h1.next ≤ i) ∧ i < h3.next) ∧ (∀ j, j < h1.next → j ∉ ordId v → h3.get j = h1.get j) := by
  have g1 : (h1.new (.arr [.ptr x 0])).get h1.next = some (.arr [.ptr x 0]) := by simp [Heap.new_get]
  have hsrc : srcCells (h1.new (.arr [.ptr x 0])) 1 1 (.sl h1.next 0 1 1 1 false) = some [.ptr x 0] := by
    simp [srcCells, g1]
  rcases hv with ⟨rfl, rfl⟩ | ⟨oi, cs, rfl, hg, hl, hk, ht⟩
  · refine ⟨.sl (h1.next + 1) 0 1 1 1 true, (h1.new (.arr [.ptr x 0])).new (.arr [.ptr x 0]), ?_, .inr ⟨h1.next + 1, [.ptr x 0], rfl, ?_, ?_, ?_, ?_⟩, ?_, ?_, ?_⟩
    · simp only [appendA, lenA, hsrc, Option.bind_eq_bind, Option.bind_some]
      simp [AVal.isCell, AHeap.new]
    · simp [Heap.new_get, Heap.new_next]
    · simp
    · simp
    · simp
    · simp only [Heap.new_next]; omega
    · intro i hi; simp only [ordId, List.mem_singleton] at hi; subst hi; simp only [Heap.new_next]; omega
    · intro j hj _
      rw [Heap.get_new_lt (by rw [Heap.new_next]; omega), Heap.get_new_lt hj]
  · have hoi : oi < h1.next := hlt oi (by simp [ordId])
    have hg2 : (h1.new (.arr [.ptr x 0])).get oi = some (.arr cs) := by simp only [Heap.new_get]; rw [if_neg (by omega)]; exact hg
    rcases Nat.lt_or_ge ps.length cs.length with h2 | h2
    · -- there is room
      refine ⟨.sl oi 0 1 (ps.length + 1) cs.length true, (h1.new (.arr [.ptr x 0])).set oi (some (.arr (cs.set ps.length (.ptr x 0)))), ?_, .inr ⟨oi, cs.set ps.length (.ptr x 0), ?_, ?_, ?_, ?_, ?_⟩, ?_, ?_, ?_⟩
      · simp only [appendA, lenA, hsrc, hg2, Option.bind_eq_bind, Option.bind_some]
        simp [AVal.isCell, hl, show ps.length + 1 ≤ cs.length from h2, setRange]
      · simp
      · simp [Heap.set_get]
      · simp; omega
      · simp; omega
      · rw [List.length_append, List.length_singleton, List.take_add_one, List.take_set_of_le (Nat.le_refl _), ht]
        simp [h2]
      · simp only [Heap.set_next, Heap.new_next]; omega
      · intro i hi; simp only [ordId, List.mem_singleton] at hi; subst hi; simp only [ordId, List.mem_singleton, Heap.set_next, Heap.new_next]; exact ⟨.inl trivial, by omega⟩
      · intro j hj hjo
        simp only [ordId, List.mem_singleton] at hjo
        simp only [Heap.set_get, Heap.new_get]
        rw [if_neg hjo, if_neg (by omega)]
    · -- a new array
      have he : ps.length = cs.length := by omega
      refine ⟨.sl (h1.next + 1) 0 1 (ps.length + 1) (ps.length + 1) true, ((h1.new (.arr [.ptr x 0])).set oi none).new (.arr (ps.map (.ptr · 0) ++ [.ptr x 0])), ?_, .inr ⟨h1.next + 1, ps.map (.ptr · 0) ++ [.ptr x 0], ?_, ?_, ?_, ?_, ?_⟩, ?_, ?_, ?_⟩
      · simp only [appendA, lenA, hsrc, hg2, Option.bind_eq_bind, Option.bind_some]
        rw [if_pos (by simp [AVal.isCell]), if_pos ⟨trivial, by omega, by omega⟩, if_neg (by omega), if_pos (by omega), if_pos trivial, if_pos (by omega)]
        simp only [Option.some.injEq, Prod.mk.injEq, List.drop_zero, Nat.mul_one, ht]
        exact ⟨rfl, trivial⟩
      · simp
      · simp [Heap.new_get, Heap.set_next, Heap.new_next]
      · simp
      · simp; omega
      · simp
        rw [show ps.length + 1 = (ps.map (AVal.ptr · 0) ++ [AVal.ptr x 0]).length from by simp, List.take_length]
      · simp only [Heap.set_next, Heap.new_next]; omega
      · intro i hi; simp only [ordId, List.mem_singleton] at hi; subst hi; simp only [Heap.set_next, Heap.new_next]; omega
      · intro j hj hjo
        simp only [ordId, List.mem_singleton] at hjo
        rw [Heap.get_new_lt (by rw [Heap.set_next, Heap.new_next]; omega), Heap.get_set_ne hjo, Heap.get_new_lt hj]

/-- AN ENTRY IS USED. -/
theorem use_run {K : Nat} (h : AHeap) (c x : Nat) (ov : AVal) (ps : List Nat) (cells : List AVal) (hc : h.get c = some (.arr cells)) (h3 : cells[3]? = some ov) (hv : OrdP K h ov ps) (hx : IsEnt h x) (hall : ∀ p ∈ ps, IsEnt h p) (hK : K ≤ 1000000) (hco : c ∉ ordId ov)
    (hcn : c < h.next) (hlt : ∀ i ∈ ordId ov, i < h.next) :
    ∃ h' ov', run Cf 25 [.ptr c 3, .ptr x 0] h = some (.ret (.tup []), h') ∧ h'.get c = some (.arr (cells.set 3 ov')) ∧ OrdP (K + 1) h' ov' (ps.erase x ++ [x]) ∧ (∀ i ∈ ordId ov', (i ∈ ordId ov ∨ h.next ≤ i) ∧ i < h'.next) ∧ h.next ≤ h'.next ∧ ∀ j, j < h.next → j ≠ c → j ∉ ordId ov → h'.get j = h.get j := by
  obtain ⟨h1, ov1, hr1, hc1, hv1, hid1, hn1, hf1⟩ := drop_run h c x ov ps cells hc h3 hv hx hall hK hco
  obtain ⟨a0, ha0⟩ : ∃ a0, a0 = slots Try.f25 [.ptr c 3, .ptr x 0] := ⟨_, rfl⟩
  have hl : a0.length = 17 := by rw [ha0]; rfl
  have i0 : a0[0]? = some (.ptr c 3) := by rw [ha0]; rfl
  have i1 : a0[1]? = some (.ptr x 0) := by rw [ha0]; rfl
  have hres : Try.f25.results.toList = [] := rfl
  have h3l := (List.getElem?_eq_some_iff.1 h3).1
  have h31 : (cells.set 3 ov1)[3]? = some ov1 := by simp [h3l]
  have hld := Heap.load_at hc1 h31
  obtain ⟨ov2, h2, hap, hv2, hn2, hid2, hf2⟩ := append_use hv1 x hK (by rw [hid1, hn1]; exact hlt)
  have hc2 : h2.get c = some (.arr (cells.set 3 ov1)) := by rw [hf2 c (by omega) (by rw [hid1]; exact hco)]; exact hc1
  have hst := Heap.store_at (v := ov2) hc2 hv2.isCell (by simpa using h3l)
  rw [List.set_set] at hst
  obtain ⟨H, hH⟩ : ∃ H, H = h2.set c (some (.arr (cells.set 3 ov2))) := ⟨_, rfl⟩
  rw [← hH] at hst
  have he : ∃ t, ex Cf (bodyOf Try.f25) ⟨a0, h⟩ = some (.normal, ⟨t, H⟩) := by
    simp only [bodyOf, Try.f25, Bool.false_eq_true, e_seq, e_region, e_cond, e_block, ex_skip, ex_exit, ex_ret, o_cons, xops_nil, k_want_none, k_want_false, k_val, k_pan, k_call, k_ret, k_seq, k_seq_exit, k_seq_ret, k_true, k_false, k_block, k_block_exit, k_block_ret, k_loop, k_loop_exit, k_loop_ret, awanted, aoper, evalO, put, Option.getD_some, List.getElem?_set, acallOp, abuiltin, List.map_cons, List.map_nil, Nat.reduceEqDiff, Nat.reduceLT, List.length_set, Option.map_some, Option.bind_some, Option.bind_eq_bind, add_i, sub_i, mul_i, eql_i, neq_i, lss_i, leq_i, gtr_i, geq_i, ofV, ofCell, ↓reduceIte, List.cons_append, List.nil_append, List.append_nil, List.getElem?_toArray, List.getElem?_cons_succ, List.getElem?_cons_zero, e_draw, g_nil, g_cons, g_want, g_skip, g_val, g_call, g_ret, Option.map_none, hl, i0, i1, CP, hr1, Ty.fa54_0, dropCells, Nat.add_zero, Ty.ld52, Ty.st52, hld, bs52_1, own26, Ty.ap52, hap, hst]
    exact ⟨_, rfl⟩
  obtain ⟨t, he⟩ := he
  have hco2 : c ∉ ordId ov2 := fun hm => by
    rcases (hid2 c hm).1 with h4 | h4
    · rw [hid1] at h4; exact hco h4
    · omega
  refine ⟨H, ov2, fn_run (fn := Try.f25) (x := .normal) Try.func25 rfl rfl rfl (.inr rfl) (by rw [← ha0]; exact he) (vs := []) (by rw [hres]; rfl), ?_, ?_, ?_, ?_, ?_⟩
  · simp only [hH, Heap.set_get, if_true]
  · refine hv2.congr fun i hi => ?_
    rw [hH, Heap.get_set_ne (fun e => hco2 (by rw [← e]; exact hi))]
  · intro i hi
    obtain ⟨h4, h5⟩ := hid2 i hi
    rw [hid1, hn1] at h4
    exact ⟨h4, by rw [hH]; exact h5⟩
  · rw [hH]; simp only [Heap.set_next]; omega
  · intro j hj hjc hjo
    rw [hH, Heap.get_set_ne hjc, hf2 j (by omega) (by rw [hid1]; exact hjo), hf1 j hjc hjo]
end Go.Am.Cache
