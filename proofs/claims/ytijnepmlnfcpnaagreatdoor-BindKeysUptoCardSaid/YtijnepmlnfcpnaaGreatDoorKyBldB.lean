/-
  KEYS: strings.Builder's WriteString of a text that is not empty.
-/
import Derived.Test.YtijnepmlnfcpnaaGreatDoorKyBld
set_option linter.unusedVariables false
set_option linter.unusedSimpArgs false
set_option linter.unusedSimpArgs false
set_option linter.unusedVariables false
set_option maxRecDepth 100000
namespace Go.Proofs.Ky
open Go Go.Am Go.Proofs

namespace Bx
theorem own114 : Cl.own "builder.go:114" = true := by kernel_rfl
theorem aps (h : AHeap) (s : AVal) (x : List UInt8) : aappend Tryz.prog true h [118, 9] [s, .str x] = (appendA true h 1 1 s (.str x)).map (markRow h 5 s) := by kernel_rfl
theorem lns (h : AHeap) (s : List UInt8) : alen Tryz.prog h 9 (.str s) = some (.int .i64 s.length) := by kernel_rfl
end Bx
theorem ws_tail (b : Nat) (x : List UInt8) (sv : AVal) (h h1 h2 : AHeap) (hcc : run Cl 193 [.ptr b 0] h = some (.ret (.tup []), h1)) (g1 : h1.get b = some (.arr [.ptr b 0, sv]))
    {r : AVal} (hap : (appendA true h1 1 1 sv (.str x)).map (markRow h1 5 sv) = some (r, h2)) (g2 : h2.get b = some (.arr [.ptr b 0, sv])) (hr : r.isCell = true) (hrc : r.cells = [r]) :
    run Cl 143 [.ptr b 0, .str x] h = some (.ret (.tup [.int .i64 x.length, .nilI]), h2.set b (some (.arr [.ptr b 0, r]))) := by
  obtain ⟨a0, ha0⟩ : ∃ a0, a0 = slots Tryz.f143 [.ptr b 0, .str x] := ⟨_, rfl⟩
  have hl : a0.length = 19 := by rw [ha0]; rfl
  have i0 : a0[0]? = some (.ptr b 0) := by rw [ha0]; rfl
  have i1 : a0[1]? = some (.str x) := by rw [ha0]; rfl
  have ld : loadA h1 false 1 (.ptr b 1) = some sv := Heap.load_at g1 rfl
  have st : storeA h2 1 (.ptr b 1) r = some (h2.set b (some (.arr [.ptr b 0, r]))) := by
    simp only [storeA, hrc, g2, List.all_cons, hr, List.all_nil]
    rfl
  have p : ∃ t, ex Cl (bodyOf Tryz.f143) ⟨a0, h⟩ = some (.ret, ⟨t, h2.set b (some (.arr [.ptr b 0, r]))⟩) ∧ t[4]? = some (.int .i64 x.length) ∧ t[5]? = some .nilI := by
    simp only [bodyOf, Tryz.f143, Cat, Bool.false_eq_true, e_seq, e_region, e_cond, e_block, ex_skip, ex_exit, ex_ret, o_cons, xops_nil, k_want_none, k_want_false, k_val, k_pan, k_call, k_ret, k_seq, k_seq_exit, k_seq_ret, k_true, k_false, k_block, k_block_exit, k_block_ret, k_loop, k_loop_exit, k_loop_ret, awanted, aoper, evalO, put, Option.getD_some, List.getElem?_set, acallOp, abuiltin, List.map_cons, List.map_nil, Nat.reduceEqDiff, Nat.reduceLT, List.length_set, Option.map_some, Option.bind_some, Option.bind_eq_bind, add_i, sub_i, mul_i, eql_i, neq_i, lss_i, leq_i, gtr_i, geq_i, ofV, ofCell, ↓reduceIte, List.cons_append, List.nil_append, List.append_nil, List.getElem?_toArray, List.getElem?_cons_succ, List.getElem?_cons_zero, e_draw, g_nil, g_cons, g_want, g_skip, g_val, g_call, g_ret, Option.map_none, hl, i0, i1, CP, hcc, Bx.fa1, dropCells, Nat.zero_add, Bx.ld127, ld, Bx.own114, Bx.aps, hap, Bx.st127, st, Bx.lns]
    exact ⟨_, rfl, by simp [hl], by simp [hl]⟩
  obtain ⟨t, e, t4, t5⟩ := p
  exact fn_run (fn := Tryz.f143) (x := .ret) Tryz.func143 rfl rfl rfl (.inl rfl) (by rw [← ha0]; exact e) (vs := [_, _]) (by simp only [show Tryz.f143.results.toList = [ResultVar.tmp 4, ResultVar.tmp 5] from rfl, aresults, ares1, t4, t5]; rfl)
/-- what a builder's block does not hold is left as it was -/
def Keep (b : Nat) (h h' : AHeap) : Prop := h.next ≤ h'.next ∧ ∀ j, j < h.next → j ≠ b → (∀ c n, h.get b ≠ some (.arr [c, .sl j 0 1 n n true])) → h'.get j = h.get j ∧ h'.ty j = h.ty j ∧ (∀ c n, h'.get b ≠ some (.arr [c, .sl j 0 1 n n true]))
theorem src_str (h : AHeap) (x : List UInt8) : srcCells h 1 x.length (.str x) = some (byA x) := by
  simp [srcCells, byA]
theorem ws_run (b : Nat) (l x : List UInt8) (hx : x ≠ []) (hlen : l.length + x.length ≤ 140737488355328) (h : AHeap) (H : Bld b l h) : ∃ h', run Cl 143 [.ptr b 0, .str x] h = some (.ret (.tup [.int .i64 x.length, .nilI]), h') ∧ Bld b (l ++ x) h' ∧ Keep b h h' := by
  have hm : x.length ≠ 0 := by intro e; exact hx (List.eq_nil_of_length_eq_zero e)
  obtain ⟨hb, ht, ⟨rfl, g⟩ | ⟨hln, bb, hne, hbb, htb, g, gb⟩⟩ := H
  · have hcc := cc_first b .nilSl h g ht rfl
    obtain ⟨h1, hh1⟩ : ∃ h1, h1 = h.set b (some (.arr [.ptr b 0, .nilSl])) := ⟨_, rfl⟩
    rw [← hh1] at hcc
    have g1 : h1.get b = some (.arr [.ptr b 0, .nilSl]) := by rw [hh1]; exact Heap.get_set_eq
    have hb1 : b < h1.next := by rw [hh1]; exact hb
    have hn1 : h1.next = h.next := by rw [hh1]; rfl
    have ht1 : h1.ty b = some (122, true) := by rw [hh1]; exact ht
    simp only [List.length_nil, Nat.zero_add] at hlen
    have hap : (appendA true h1 1 1 .nilSl (.str x)).map (markRow h1 5 .nilSl) = some (.sl h1.next 0 1 x.length x.length true, (h1.new (.arr (byA x))).mark h1.next (5, false)) := by
      have hc1 : x.length * 1 ≤ 2 ^ 47 ∧ x.length ≤ 9223372036854775807 := ⟨by omega, by omega⟩
      simp only [appendA, lenA, Option.bind_eq_bind, Option.bind_some, src_str, byA_cell, if_true, if_neg hm, if_pos hc1, Option.map_some, markRow]
      simp
    have g2 : ((h1.new (.arr (byA x))).mark h1.next (5, false)).get b = some (.arr [.ptr b 0, .nilSl]) := by
      rw [get_mark, Heap.get_new_lt hb1]; exact g1
    refine ⟨_, ws_tail b x .nilSl h h1 _ hcc g1 hap g2 rfl rfl, ⟨?_, ?_, .inr ⟨by simpa using hx, h1.next, by omega, ?_, ?_, ?_, ?_⟩⟩, ?_, ?_⟩
    · simp only [Heap.set_next, next_mark, Heap.new_next]; omega
    · rw [ty_set, ty_mark, if_neg (by omega), ty_new]; exact ht1
    · simp only [Heap.set_next, next_mark, Heap.new_next]; omega
    · rw [ty_set, ty_mark, if_pos rfl]
    · rw [Heap.get_set_eq]; simp
    · rw [Heap.get_set_ne (by omega), get_mark]
      exact Heap.get_new_eq
    · simp only [Heap.set_next, next_mark, Heap.new_next]; omega
    · intro j hj hjb _
      refine ⟨?_, ?_, ?_⟩
      · rw [Heap.get_set_ne hjb, get_mark, Heap.get_new_lt (by omega), hh1, Heap.get_set_ne hjb]
      · rw [ty_set, ty_mark, if_neg (by omega), ty_new, hh1, ty_set]
      · intro c n e
        rw [Heap.get_set_eq] at e
        simp at e
        omega
  · have hcc := cc_later b _ h g
    have hap : (appendA true h 1 1 (.sl bb 0 1 l.length l.length true) (.str x)).map (markRow h 5 (.sl bb 0 1 l.length l.length true)) = some (.sl h.next 0 1 (l.length + x.length) (l.length + x.length) true, ((h.set bb none).new (.arr (byA l ++ byA x))).mark h.next (5, false)) := by
      have e1 : (List.drop 0 (byA l)).take (l.length * 1) = byA l := by rw [List.drop_zero, Nat.mul_one, ← byA_len, List.take_length]
      have hty : h.isTy bb 5 = true := by unfold AHeap.isTy; rw [htb]; rfl
      have e2 : List.take l.length (byA l) = byA l := by rw [← byA_len, List.take_length]
      have c1 : ¬ (l.length + x.length ≤ l.length) := by omega
      have c2 : l.length + x.length ≤ 140737488355328 := hlen
      have c3 : l.length + x.length ≤ 9223372036854775807 := by omega
      simp only [appendA, lenA, Option.bind_eq_bind, Option.bind_some, src_str, byA_cell, if_true, gb]
      simp [byA_len, e1, e2, c2, c3, if_neg c1, markRow, Heap.set_next, hty]
    have g2 : (((h.set bb none).new (.arr (byA l ++ byA x))).mark h.next (5, false)).get b = some (.arr [.ptr b 0, .sl bb 0 1 l.length l.length true]) := by
      rw [get_mark, Heap.get_new_lt (by rw [Heap.set_next]; omega), Heap.get_set_ne (Ne.symm hne)]; exact g
    refine ⟨_, ws_tail b x _ h h _ hcc g hap g2 rfl rfl, ⟨?_, ?_, .inr ⟨by simp [hx], h.next, by omega, ?_, ?_, ?_, ?_⟩⟩, ?_, ?_⟩
    · simp only [Heap.set_next, next_mark, Heap.new_next]; omega
    · rw [ty_set, ty_mark, if_neg (by omega), ty_new, ty_set]; exact ht
    · simp only [Heap.set_next, next_mark, Heap.new_next]; omega
    · rw [ty_set, ty_mark, if_pos rfl]
    · rw [Heap.get_set_eq]; simp
    · rw [Heap.get_set_ne (by omega), get_mark]
      have := Heap.get_new_eq (h := h.set bb none) (b := .arr (byA l ++ byA x))
      rw [Heap.set_next] at this
      rw [this]; simp [byA]
    · simp only [Heap.set_next, next_mark, Heap.new_next]; omega
    · intro j hj hjb hno
      have hjbb : j ≠ bb := by
        intro e; subst e
        exact hno _ _ g
      refine ⟨?_, ?_, ?_⟩
      · rw [Heap.get_set_ne hjb, get_mark, Heap.get_new_lt (by rw [Heap.set_next]; omega), Heap.get_set_ne hjbb]
      · rw [ty_set, ty_mark, if_neg (by omega), ty_new, ty_set]
      · intro c n e
        rw [Heap.get_set_eq] at e
        simp at e
        omega
end Go.Proofs.Ky
