/-
  KEYS: the teller's number and text.
-/
import Derived.Test.YtijnepmlnfcpnaaGreatDoorKyBldB
import Derived.Test.YtijnepmlnfcpnaaGreatDoorKyRef
set_option linter.unusedVariables false
set_option linter.unusedSimpArgs false
set_option linter.unusedSimpArgs false
set_option linter.unusedVariables false
set_option maxRecDepth 100000
namespace Go.Proofs.Ky
open Go Go.Am Go.Proofs

namespace Bx
theorem fb0 (p : AVal) : afieldAddr Tryz.prog 122 p 0 = dropCells 0 p := by kernel_rfl
end Bx
theorem Keep.refl (b : Nat) (h : AHeap) : Keep b h h := ⟨Nat.le_refl _, fun j _ _ hno => ⟨rfl, rfl, hno⟩⟩
theorem Keep.trans {b : Nat} {h h' h'' : AHeap} (k : Keep b h h') (k' : Keep b h' h'') : Keep b h h'' :=
  ⟨Nat.le_trans k.1 k'.1, fun j hj hb hno => by
    obtain ⟨e1, e2, e3⟩ := k.2 j hj hb hno
    obtain ⟨f1, f2, f3⟩ := k'.2 j (Nat.lt_of_lt_of_le hj k.1) hb e3
    exact ⟨f1.trans e1, f2.trans e2, f3⟩⟩
theorem num_run (b : Nat) (l : List UInt8) (n : Int) (hn : V64 n) (hlen : l.length + (keyN n).length ≤ 140737488355328) (h : AHeap) (H : Bld b l h) : ∃ h', run Cl 69 [.ptr b 0, .int .i64 n] h = some (.ret (.tup []), h') ∧ Bld b (l ++ keyN n) h' ∧ Keep b h h' := by
  obtain ⟨a0, ha0⟩ : ∃ a0, a0 = slots Tryz.f69 [.ptr b 0, .int .i64 n] := ⟨_, rfl⟩
  have hl : a0.length = 11 := by rw [ha0]; rfl
  have i0 : a0[0]? = some (.ptr b 0) := by rw [ha0]; rfl
  have i1 : a0[1]? = some (.int .i64 n) := by rw [ha0]; rfl
  have it := S75_spec n _ (s75 hn) h
  have hk : keyN n = Lib.itoa n ++ [59] := rfl
  rw [hk] at hlen ⊢
  obtain ⟨h', ew, Hb, K⟩ := ws_run b l (Lib.itoa n ++ [59]) (by simp) hlen h H
  have hc : catT (Lib.itoa n) [59] = some (Lib.itoa n ++ [59]) := cat_ok (by simp only [List.length_append, List.length_cons, List.length_nil] at hlen ⊢; omega)
  have cv := fun t xo yo h => cat_v (C := Cl) hc t xo yo h
  have p : ∃ t, ex Cl (bodyOf Tryz.f69) ⟨a0, h⟩ = some (.normal, ⟨t, h'⟩) := by
    simp only [bodyOf, Tryz.f69, Cat, Bool.false_eq_true, e_seq, e_region, e_cond, e_block, ex_skip, ex_exit, ex_ret, o_cons, xops_nil, k_want_none, k_want_false, k_val, k_pan, k_call, k_ret, k_seq, k_seq_exit, k_seq_ret, k_true, k_false, k_block, k_block_exit, k_block_ret, k_loop, k_loop_exit, k_loop_ret, awanted, aoper, evalO, put, Option.getD_some, List.getElem?_set, acallOp, abuiltin, List.map_cons, List.map_nil, Nat.reduceEqDiff, Nat.reduceLT, List.length_set, Option.map_some, Option.bind_some, Option.bind_eq_bind, add_i, sub_i, mul_i, eql_i, neq_i, lss_i, leq_i, gtr_i, geq_i, ofV, ofCell, ↓reduceIte, List.cons_append, List.nil_append, List.append_nil, List.getElem?_toArray, List.getElem?_cons_succ, List.getElem?_cons_zero, e_draw, g_nil, g_cons, g_want, g_skip, g_val, g_call, g_ret, Option.map_none, hl, i0, i1, CP, Bx.fb0, dropCells, Nat.add_zero, it, cv, ew]
    rw [k_draw _ _ _ (by kernel_rfl)]
    exact ⟨_, rfl⟩
  obtain ⟨t, e⟩ := p
  exact ⟨h', fn_run (fn := Tryz.f69) (x := .normal) Tryz.func69 rfl rfl rfl (.inr rfl) (by rw [← ha0]; exact e) (vs := []) rfl, Hb, K⟩
theorem ws_nil (b : Nat) (l : List UInt8) (hln0 : l ≠ []) (hlen : l.length ≤ 140737488355328) (h : AHeap) (H : Bld b l h) : ∃ h', run Cl 143 [.ptr b 0, .str []] h = some (.ret (.tup [.int .i64 (([] : List UInt8).length : Nat), .nilI]), h') ∧ Bld b l h' ∧ Keep b h h' := by
  obtain ⟨hb, ht, ⟨rfl, g⟩ | ⟨hln, bb, hne, hbb, htb, g, gb⟩⟩ := H
  · exact absurd rfl hln0
  · have hcc := cc_later b _ h g
    have hap : (appendA true h 1 1 (.sl bb 0 1 l.length l.length true) (.str [])).map (markRow h 5 (.sl bb 0 1 l.length l.length true)) = some (.sl bb 0 1 l.length l.length true, h.set bb (some (.arr (setRange (byA l) (0 + l.length * 1) [])))) := by
      have hty : h.isTy bb 5 = true := by unfold AHeap.isTy; rw [htb]; rfl
      simp [appendA, lenA, srcCells, gb, byA_len, markRow, hty]
      intro hc; omega
    have hsr : setRange (byA l) (0 + l.length * 1) [] = byA l := by simp [setRange]
    rw [hsr] at hap
    have g2 : (h.set bb (some (.arr (byA l)))).get b = some (.arr [.ptr b 0, .sl bb 0 1 l.length l.length true]) := by
      rw [Heap.get_set_ne (Ne.symm hne)]; exact g
    refine ⟨_, ws_tail b [] _ h h _ hcc g hap g2 rfl rfl, ⟨?_, ?_, .inr ⟨hln, bb, hne, ?_, ?_, ?_, ?_⟩⟩, ?_, ?_⟩
    · simp only [Heap.set_next]; exact hb
    · rw [ty_set, ty_set]; exact ht
    · simp only [Heap.set_next]; exact hbb
    · rw [ty_set, ty_set]; exact htb
    · exact Heap.get_set_eq
    · rw [Heap.get_set_ne hne]; exact Heap.get_set_eq
    · simp only [Heap.set_next]; exact Nat.le_refl _
    · intro j hj hjb hno
      have hjbb : j ≠ bb := by
        intro e; subst e
        exact hno _ _ g
      refine ⟨?_, ?_, ?_⟩
      · rw [Heap.get_set_ne hjb, Heap.get_set_ne hjbb]
      · rw [ty_set, ty_set]
      · intro c n e
        rw [Heap.get_set_eq] at e
        simp at e
        exact hjbb e.2.1.symm
theorem ws_any (b : Nat) (l x : List UInt8) (hln0 : l ≠ []) (hlen : l.length + x.length ≤ 140737488355328) (h : AHeap) (H : Bld b l h) : ∃ h', run Cl 143 [.ptr b 0, .str x] h = some (.ret (.tup [.int .i64 x.length, .nilI]), h') ∧ Bld b (l ++ x) h' ∧ Keep b h h' := by
  cases x with
  | nil => rw [List.append_nil]; exact ws_nil b l hln0 (by simpa using hlen) h H
  | cons c x => exact ws_run b l (c :: x) (by simp) hlen h H
theorem keyN_ne (n : Int) : keyN n ≠ [] := by unfold keyN; simp
theorem text_run (b : Nat) (l x : List UInt8) (hlen : l.length + (keyText x).length ≤ 140737488355328) (h : AHeap) (H : Bld b l h) : ∃ h', run Cl 71 [.ptr b 0, .str x] h = some (.ret (.tup []), h') ∧ Bld b (l ++ keyText x) h' ∧ Keep b h h' := by
  have hk : keyText x = keyN (x.length : Int) ++ x := rfl
  rw [hk, List.length_append] at hlen
  obtain ⟨h1, e1, H1, K1⟩ := num_run b l (x.length : Int) (by unfold V64; omega) (by omega) h H
  obtain ⟨h2, e2, H2, K2⟩ := ws_any b (l ++ keyN (x.length : Int)) x (by simp [keyN_ne]) (by rw [List.length_append]; omega) h1 H1
  obtain ⟨a0, ha0⟩ : ∃ a0, a0 = slots Tryz.f71 [.ptr b 0, .str x] := ⟨_, rfl⟩
  have hl : a0.length = 13 := by rw [ha0]; rfl
  have i0 : a0[0]? = some (.ptr b 0) := by rw [ha0]; rfl
  have i1 : a0[1]? = some (.str x) := by rw [ha0]; rfl
  have p : ∃ t, ex Cl (bodyOf Tryz.f71) ⟨a0, h⟩ = some (.normal, ⟨t, h2⟩) := by
    simp only [bodyOf, Tryz.f71, Cat, Bool.false_eq_true, e_seq, e_region, e_cond, e_block, ex_skip, ex_exit, ex_ret, o_cons, xops_nil, k_want_none, k_want_false, k_val, k_pan, k_call, k_ret, k_seq, k_seq_exit, k_seq_ret, k_true, k_false, k_block, k_block_exit, k_block_ret, k_loop, k_loop_exit, k_loop_ret, awanted, aoper, evalO, put, Option.getD_some, List.getElem?_set, acallOp, abuiltin, List.map_cons, List.map_nil, Nat.reduceEqDiff, Nat.reduceLT, List.length_set, Option.map_some, Option.bind_some, Option.bind_eq_bind, add_i, sub_i, mul_i, eql_i, neq_i, lss_i, leq_i, gtr_i, geq_i, ofV, ofCell, ↓reduceIte, List.cons_append, List.nil_append, List.append_nil, List.getElem?_toArray, List.getElem?_cons_succ, List.getElem?_cons_zero, e_draw, g_nil, g_cons, g_want, g_skip, g_val, g_call, g_ret, Option.map_none, hl, i0, i1, CP, Bx.fb0, dropCells, Nat.add_zero, Bx.lns, e1, e2]
    exact ⟨_, rfl⟩
  obtain ⟨t, e⟩ := p
  refine ⟨h2, fn_run (fn := Tryz.f71) (x := .normal) Tryz.func71 rfl rfl rfl (.inr rfl) (by rw [← ha0]; exact e) (vs := []) rfl, ?_, K1.trans K2⟩
  rw [hk, ← List.append_assoc]; exact H2
end Go.Proofs.Ky
