/-
  KEYS: the closures over the teller's box.
-/
import Derived.Test.YtijnepmlnfcpnaaGreatDoorKyEach
set_option linter.unusedVariables false
set_option linter.unusedSimpArgs false
set_option linter.unusedSimpArgs false
set_option linter.unusedVariables false
set_option maxRecDepth 100000
namespace Go.Proofs.Ky
open Go Go.Am Go.Proofs

namespace Bx
theorem ld116 (h : AHeap) (p : AVal) : aload Tryz.prog h 116 p = loadA h false 1 p := by kernel_rfl
end Bx
theorem tst_run (b i : Nat) (l : List UInt8) (n : Int) (hn : V64 n) (hlen : l.length + (keyN n).length ≤ 140737488355328) (h : AHeap) (hi : h.get i = some (.arr [.ptr b 0])) (H : Bld b l h) : ∃ h', run Cl 146 [.int .i64 n, .ptr i 0] h = some (.ret (.tup []), h') ∧ Bld b (l ++ keyN n) h' ∧ Keep b h h' := by
  obtain ⟨a0, ha0⟩ : ∃ a0, a0 = slots Tryz.f146 [.int .i64 n, .ptr i 0] := ⟨_, rfl⟩
  have hl : a0.length = 10 := by rw [ha0]; rfl
  have i0 : a0[0]? = some (.int .i64 n) := by rw [ha0]; rfl
  have i1 : a0[1]? = some (.ptr i 0) := by rw [ha0]; rfl
  have ld : loadA h false 1 (.ptr i 0) = some (.ptr b 0) := Heap.load_at hi rfl
  have it := S147_spec n 10 _ (s147 hn) h
  have hk : keyN n = Lib.itoa n ++ [59] := rfl
  rw [hk] at hlen ⊢
  obtain ⟨h', ew, Hb, K⟩ := ws_run b l (Lib.itoa n ++ [59]) (by simp) hlen h H
  have hc : catT (Lib.itoa n) [59] = some (Lib.itoa n ++ [59]) := cat_ok (by simp only [List.length_append, List.length_cons, List.length_nil] at hlen ⊢; omega)
  have cv := fun t xo yo h => cat_v (C := Cl) hc t xo yo h
  have p : ∃ t, ex Cl (bodyOf Tryz.f146) ⟨a0, h⟩ = some (.normal, ⟨t, h'⟩) := by
    simp only [bodyOf, Tryz.f146, Cat, Bool.false_eq_true, e_seq, e_region, e_cond, e_block, ex_skip, ex_exit, ex_ret, o_cons, xops_nil, k_want_none, k_want_false, k_val, k_pan, k_call, k_ret, k_seq, k_seq_exit, k_seq_ret, k_true, k_false, k_block, k_block_exit, k_block_ret, k_loop, k_loop_exit, k_loop_ret, awanted, aoper, evalO, put, Option.getD_some, List.getElem?_set, acallOp, abuiltin, List.map_cons, List.map_nil, Nat.reduceEqDiff, Nat.reduceLT, List.length_set, Option.map_some, Option.bind_some, Option.bind_eq_bind, add_i, sub_i, mul_i, eql_i, neq_i, lss_i, leq_i, gtr_i, geq_i, ofV, ofCell, ↓reduceIte, List.cons_append, List.nil_append, List.append_nil, List.getElem?_toArray, List.getElem?_cons_succ, List.getElem?_cons_zero, e_draw, g_nil, g_cons, g_want, g_skip, g_val, g_call, g_ret, Option.map_none, hl, i0, i1, CP, Bx.ld116, ld, Bx.fb0, dropCells, Nat.add_zero, it, cv, ew]
    rw [k_draw _ _ _ (by kernel_rfl)]
    exact ⟨_, rfl⟩
  obtain ⟨t, e⟩ := p
  exact ⟨h', fn_run (fn := Tryz.f146) (x := .normal) Tryz.func146 rfl rfl rfl (.inr rfl) (by rw [← ha0]; exact e) (vs := []) rfl, Hb, K⟩
namespace Bx
theorem ix51 (x : AVal) (k : IntKind) (i : Int) : aindexAddr Tryz.prog 51 x (.int k i) = indexAddrA 1 x i := by kernel_rfl
theorem ldj (h : AHeap) (p : AVal) : aload Tryz.prog h 2 p = loadA h false 1 p := by kernel_rfl
end Bx
noncomputable def lp145 : Code := Cat [true, true, true, true] (bodyOf Tryz.f145)
theorem loop145 (b i : Nat) (hib : i ≠ b) (xs : List Int) (w : AVal) (hw : Sl (rI .i64) xs w) (hV : ∀ n ∈ xs, V64 n) (hxl : xs.length ≤ 9223372036854775807) :
    ∀ (q p : List Int) (hv : xs = p ++ q) (acc : List UInt8) (hlen : acc.length + (q.flatMap keyN).length ≤ 140737488355328) (h : AHeap) (H : Bld b acc h) (hi : h.get i = some (.arr [.ptr b 0])) (hin : i < h.next) (hno : ∀ c n, h.get b ≠ some (.arr [c, .sl i 0 1 n n true])) (a : List AVal) (hl : a.length = 22)
      (i2 : a[2]? = some (.fn (.func 146) [] [.ptr i 0])) (i12 : a[12]? = some w) (i13 : a[13]? = some (.int .i64 xs.length)) (i14 : a[14]? = some (.int .i64 p.length)),
      ∃ t h', ex Cl (.loop lp145) ⟨a, h⟩ = some (.exit 0, ⟨t, h'⟩) ∧ Bld b (acc ++ q.flatMap keyN) h' ∧ Keep b h h' := by
  intro q
  induction q with
  | nil =>
    intro p hv acc hlen h H hi hin hno a hl i2 i12 i13 i14
    rw [List.append_nil] at hv
    have hg : decide ((p.length : Int) < (xs.length : Int)) = false := by rw [hv]; simp
    have pp : ∃ t, ex Cl lp145 ⟨a, h⟩ = some (.exit 0, ⟨t, h⟩) := by
      simp only [lp145, bodyOf, Tryz.f145, Cat, Bool.false_eq_true, e_seq, e_region, e_cond, e_block, ex_skip, ex_exit, ex_ret, o_cons, xops_nil, k_want_none, k_want_false, k_val, k_pan, k_call, k_ret, k_seq, k_seq_exit, k_seq_ret, k_true, k_false, k_block, k_block_exit, k_block_ret, k_loop, k_loop_exit, k_loop_ret, awanted, aoper, evalO, put, Option.getD_some, List.getElem?_set, acallOp, abuiltin, List.map_cons, List.map_nil, Nat.reduceEqDiff, Nat.reduceLT, List.length_set, Option.map_some, Option.bind_some, Option.bind_eq_bind, add_i, sub_i, mul_i, eql_i, neq_i, lss_i, leq_i, gtr_i, geq_i, ofV, ofCell, ↓reduceIte, List.cons_append, List.nil_append, List.append_nil, List.getElem?_toArray, List.getElem?_cons_succ, List.getElem?_cons_zero, e_draw, g_nil, g_cons, g_want, g_skip, g_val, g_call, g_ret, Option.map_none, hl, i2, i12, i13, i14, CP, bq1, bq2, bq3, bq4, hg]
      exact ⟨_, rfl⟩
    obtain ⟨t, e⟩ := pp
    exact ⟨t, h, by rw [e_loop, e]; rfl, by simpa using H, Keep.refl b h⟩
  | cons y q ih =>
    intro p hv acc hlen h H hi hin hno a hl i2 i12 i13 i14
    have hl2 : xs.length = p.length + (q.length + 1) := by rw [hv]; simp
    have hg : decide ((p.length : Int) < (xs.length : Int)) = true := by rw [hl2]; simp; omega
    have hw1 : IntKind.i64.wrap ((p.length : Int) + 1) = (((p ++ [y]).length : Nat) : Int) := by rw [wrap64 (by omega) (by omega)]; simp
    have hat : at? xs (p.length : Int) = some y := by rw [hv, at_nat]; simp
    obtain ⟨cu, du, eu, iu, _⟩ := Sl.ix (rI_p .i64) hw hat
    subst eu
    simp only [List.flatMap_cons, List.length_append] at hlen
    obtain ⟨h1, e1, H1, K1⟩ := tst_run b i acc y (hV y (by rw [hv]; simp)) (by omega) h hi H
    obtain ⟨gi, _, gn⟩ := K1.2 i hin hib hno
    have hi1 := gi.trans hi
    have hin1 := Nat.lt_of_lt_of_le hin K1.1
    have pp : ∃ t, ex Cl lp145 ⟨a, h⟩ = some (.normal, ⟨t, h1⟩) ∧ t.length = 22 ∧ t[2]? = some (.fn (.func 146) [] [.ptr i 0]) ∧ t[12]? = some w ∧ t[13]? = some (.int .i64 xs.length) ∧ t[14]? = some (.int .i64 (p ++ [y]).length) := by
      simp only [lp145, bodyOf, Tryz.f145, Cat, Bool.false_eq_true, e_seq, e_region, e_cond, e_block, ex_skip, ex_exit, ex_ret, o_cons, xops_nil, k_want_none, k_want_false, k_val, k_pan, k_call, k_ret, k_seq, k_seq_exit, k_seq_ret, k_true, k_false, k_block, k_block_exit, k_block_ret, k_loop, k_loop_exit, k_loop_ret, awanted, aoper, evalO, put, Option.getD_some, List.getElem?_set, acallOp, abuiltin, List.map_cons, List.map_nil, Nat.reduceEqDiff, Nat.reduceLT, List.length_set, Option.map_some, Option.bind_some, Option.bind_eq_bind, add_i, sub_i, mul_i, eql_i, neq_i, lss_i, leq_i, gtr_i, geq_i, ofV, ofCell, ↓reduceIte, List.cons_append, List.nil_append, List.append_nil, List.getElem?_toArray, List.getElem?_cons_succ, List.getElem?_cons_zero, e_draw, g_nil, g_cons, g_want, g_skip, g_val, g_call, g_ret, Option.map_none, hl, i2, i12, i13, i14, CP, bq1, bq2, bq3, bq4, hg, Bx.ix51, iu, Bx.ldj, ld_ip, ofc1, List.drop_succ_cons, List.drop_zero, e1, hw1]
      exact ⟨_, rfl, by simp [hl], by simp [i2], by simp [i12], by simp [i13], by simp [hl]⟩
    obtain ⟨t, e, tl, t2, t12, t13, t14⟩ := pp
    obtain ⟨t', h', e', H', K'⟩ := ih (p ++ [y]) (by rw [hv]; simp) (acc ++ keyN y) (by rw [List.length_append]; omega) h1 H1 hi1 hin1 gn t tl t2 t12 t13 t14
    exact ⟨t', h', by rw [e_loop, e]; exact e', by rw [List.flatMap_cons, ← List.append_assoc]; exact H', K1.trans K'⟩
theorem un51 : Tryz.prog.underlying 51 = some (.slice 2) := rfl
theorem each145 (b i : Nat) (hib : i ≠ b) (l : List UInt8) (xs : List Int) (w : AVal) (hw : Sl (rI .i64) xs w) (hV : ∀ n ∈ xs, V64 n) (hxl : xs.length ≤ 9223372036854775807) (hlen : l.length + (keyEach keyN xs).length ≤ 140737488355328) (h : AHeap) (H : Bld b l h) (hi : h.get i = some (.arr [.ptr b 0])) (hin : i < h.next) (hno : ∀ c n, h.get b ≠ some (.arr [c, .sl i 0 1 n n true])) :
    ∃ h', run Cl 145 [.ptr b 0, w, .fn (.func 146) [] [.ptr i 0]] h = some (.ret (.tup []), h') ∧ Bld b (l ++ keyEach keyN xs) h' ∧ Keep b h h' := by
  have hk : keyEach keyN xs = keyN (xs.length : Int) ++ xs.flatMap keyN := rfl
  rw [hk, List.length_append] at hlen
  obtain ⟨h1, e1, H1, K1⟩ := num_run b l (xs.length : Int) (by unfold V64; omega) (by omega) h H
  have lu := fun h => Sl.len hw un51 h
  obtain ⟨gi, _, gn⟩ := K1.2 i hin hib hno
  have hi1 := gi.trans hi
  have hin1 := Nat.lt_of_lt_of_le hin K1.1
  obtain ⟨a0, ha0⟩ : ∃ a0, a0 = slots Tryz.f145 [.ptr b 0, w, .fn (.func 146) [] [.ptr i 0]] := ⟨_, rfl⟩
  have hl : a0.length = 22 := by rw [ha0]; rfl
  have i0 : a0[0]? = some (.ptr b 0) := by rw [ha0]; rfl
  have i1 : a0[1]? = some w := by rw [ha0]; rfl
  have i2 : a0[2]? = some (.fn (.func 146) [] [.ptr i 0]) := by rw [ha0]; rfl
  have p1 : ∃ t, ex Cl (Cat [false] (bodyOf Tryz.f145)) ⟨a0, h⟩ = some (.normal, ⟨t, h1⟩) ∧ t.length = 22 ∧ t[1]? = some w ∧ t[2]? = some (.fn (.func 146) [] [.ptr i 0]) := by
    simp only [bodyOf, Tryz.f145, Cat, Bool.false_eq_true, e_seq, e_region, e_cond, e_block, ex_skip, ex_exit, ex_ret, o_cons, xops_nil, k_want_none, k_want_false, k_val, k_pan, k_call, k_ret, k_seq, k_seq_exit, k_seq_ret, k_true, k_false, k_block, k_block_exit, k_block_ret, k_loop, k_loop_exit, k_loop_ret, awanted, aoper, evalO, put, Option.getD_some, List.getElem?_set, acallOp, abuiltin, List.map_cons, List.map_nil, Nat.reduceEqDiff, Nat.reduceLT, List.length_set, Option.map_some, Option.bind_some, Option.bind_eq_bind, add_i, sub_i, mul_i, eql_i, neq_i, lss_i, leq_i, gtr_i, geq_i, ofV, ofCell, ↓reduceIte, List.cons_append, List.nil_append, List.append_nil, List.getElem?_toArray, List.getElem?_cons_succ, List.getElem?_cons_zero, e_draw, g_nil, g_cons, g_want, g_skip, g_val, g_call, g_ret, Option.map_none, hl, i0, i1, i2, CP, lu, e1]
    exact ⟨_, rfl, by simp [hl], by simp [i1], by simp [i2]⟩
  obtain ⟨t1, x1, tl1, t11, t12⟩ := p1
  have p2 : ∃ t, ex Cl (Cat [true, false] (bodyOf Tryz.f145)) ⟨t1, h1⟩ = some (.normal, ⟨t, h1⟩) ∧ t.length = 22 ∧ t[2]? = some (.fn (.func 146) [] [.ptr i 0]) ∧ t[12]? = some w ∧ t[13]? = some (.int .i64 xs.length) ∧ t[14]? = some (.int .i64 0) := by
    simp only [bodyOf, Tryz.f145, Cat, Bool.false_eq_true, e_seq, e_region, e_cond, e_block, ex_skip, ex_exit, ex_ret, o_cons, xops_nil, k_want_none, k_want_false, k_val, k_pan, k_call, k_ret, k_seq, k_seq_exit, k_seq_ret, k_true, k_false, k_block, k_block_exit, k_block_ret, k_loop, k_loop_exit, k_loop_ret, awanted, aoper, evalO, put, Option.getD_some, List.getElem?_set, acallOp, abuiltin, List.map_cons, List.map_nil, Nat.reduceEqDiff, Nat.reduceLT, List.length_set, Option.map_some, Option.bind_some, Option.bind_eq_bind, add_i, sub_i, mul_i, eql_i, neq_i, lss_i, leq_i, gtr_i, geq_i, ofV, ofCell, ↓reduceIte, List.cons_append, List.nil_append, List.append_nil, List.getElem?_toArray, List.getElem?_cons_succ, List.getElem?_cons_zero, e_draw, g_nil, g_cons, g_want, g_skip, g_val, g_call, g_ret, Option.map_none, tl1, t11, t12, CP, lu]
    exact ⟨_, rfl, by simp [tl1], by simp [t12], by simp [tl1], by simp [tl1], by simp [tl1]⟩
  obtain ⟨t2, x2, tl2, t22, t212, t213, t214⟩ := p2
  obtain ⟨t3, h3, x3, H3, K3⟩ := loop145 b i hib xs w hw hV hxl xs [] rfl (l ++ keyN (xs.length : Int)) (by rw [List.length_append]; omega) h1 H1 hi1 hin1 gn t2 tl2 t22 t212 t213 t214
  have e : ex Cl (bodyOf Tryz.f145) ⟨a0, h⟩ = some (.normal, ⟨t3, h3⟩) := by
    rw [show bodyOf Tryz.f145 = .seq (Cat [false] (bodyOf Tryz.f145)) (.seq (Cat [true, false] (bodyOf Tryz.f145)) (.block 0 (.loop lp145))) from rfl]
    rw [e_seq, x1]
    simp only [k_seq]
    rw [e_seq, x2]
    simp only [k_seq]
    rw [e_block, x3]
    rfl
  refine ⟨h3, fn_run (fn := Tryz.f145) (x := .normal) Tryz.func145 rfl rfl rfl (.inr rfl) (by rw [← ha0]; exact e) (vs := []) rfl, ?_, K1.trans K3⟩
  rw [hk, ← List.append_assoc]; exact H3
end Go.Proofs.Ky
