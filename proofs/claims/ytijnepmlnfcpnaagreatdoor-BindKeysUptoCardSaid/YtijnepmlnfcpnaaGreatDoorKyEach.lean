/-
  KEYS: the teller's loops.
-/
import Derived.Test.YtijnepmlnfcpnaaGreatDoorKyTell
set_option linter.unusedVariables false
set_option linter.unusedSimpArgs false
set_option linter.unusedSimpArgs false
set_option linter.unusedVariables false
set_option maxRecDepth 100000
namespace Go.Proofs.Ky
open Go Go.Am Go.Proofs

namespace Bx
theorem ix33 (x : AVal) (k : IntKind) (i : Int) : aindexAddr Tryz.prog 33 x (.int k i) = indexAddrA 1 x i := by kernel_rfl
theorem ldi (h : AHeap) (p : AVal) : aload Tryz.prog h 3 p = loadA h false 1 p := by kernel_rfl
end Bx
noncomputable def lp72 : Code := Cat [true, true, true, true] (bodyOf Tryz.f72)
theorem loop72 (b : Nat) (xs : List Int) (w : AVal) (hw : Sl (rI .i64) xs w) (hV : ∀ n ∈ xs, V64 n) (hxl : xs.length ≤ 9223372036854775807) :
    ∀ (q p : List Int) (hv : xs = p ++ q) (acc : List UInt8) (hlen : acc.length + (q.flatMap keyN).length ≤ 140737488355328) (h : AHeap) (H : Bld b acc h) (a : List AVal) (hl : a.length = 22)
      (i2 : a[2]? = some (.fn (.func 69) [.ptr b 0] [])) (i12 : a[12]? = some w) (i13 : a[13]? = some (.int .i64 xs.length)) (i14 : a[14]? = some (.int .i64 p.length)),
      ∃ t h', ex Cl (.loop lp72) ⟨a, h⟩ = some (.exit 0, ⟨t, h'⟩) ∧ Bld b (acc ++ q.flatMap keyN) h' ∧ Keep b h h' := by
  intro q
  induction q with
  | nil =>
    intro p hv acc hlen h H a hl i2 i12 i13 i14
    rw [List.append_nil] at hv
    have hg : decide ((p.length : Int) < (xs.length : Int)) = false := by rw [hv]; simp
    have pp : ∃ t, ex Cl lp72 ⟨a, h⟩ = some (.exit 0, ⟨t, h⟩) := by
      simp only [lp72, bodyOf, Tryz.f72, Cat, Bool.false_eq_true, e_seq, e_region, e_cond, e_block, ex_skip, ex_exit, ex_ret, o_cons, xops_nil, k_want_none, k_want_false, k_val, k_pan, k_call, k_ret, k_seq, k_seq_exit, k_seq_ret, k_true, k_false, k_block, k_block_exit, k_block_ret, k_loop, k_loop_exit, k_loop_ret, awanted, aoper, evalO, put, Option.getD_some, List.getElem?_set, acallOp, abuiltin, List.map_cons, List.map_nil, Nat.reduceEqDiff, Nat.reduceLT, List.length_set, Option.map_some, Option.bind_some, Option.bind_eq_bind, add_i, sub_i, mul_i, eql_i, neq_i, lss_i, leq_i, gtr_i, geq_i, ofV, ofCell, ↓reduceIte, List.cons_append, List.nil_append, List.append_nil, List.getElem?_toArray, List.getElem?_cons_succ, List.getElem?_cons_zero, e_draw, g_nil, g_cons, g_want, g_skip, g_val, g_call, g_ret, Option.map_none, hl, i2, i12, i13, i14, CP, bq1, bq2, bq3, bq4, hg]
      exact ⟨_, rfl⟩
    obtain ⟨t, e⟩ := pp
    exact ⟨t, h, by rw [e_loop, e]; rfl, by simpa using H, Keep.refl b h⟩
  | cons y q ih =>
    intro p hv acc hlen h H a hl i2 i12 i13 i14
    have hl2 : xs.length = p.length + (q.length + 1) := by rw [hv]; simp
    have hg : decide ((p.length : Int) < (xs.length : Int)) = true := by rw [hl2]; simp; omega
    have hw1 : IntKind.i64.wrap ((p.length : Int) + 1) = (((p ++ [y]).length : Nat) : Int) := by rw [wrap64 (by omega) (by omega)]; simp
    have hat : at? xs (p.length : Int) = some y := by rw [hv, at_nat]; simp
    obtain ⟨cu, du, eu, iu, _⟩ := Sl.ix (rI_p .i64) hw hat
    subst eu
    simp only [List.flatMap_cons, List.length_append] at hlen
    obtain ⟨h1, e1, H1, K1⟩ := num_run b acc y (hV y (by rw [hv]; simp)) (by omega) h H
    have pp : ∃ t, ex Cl lp72 ⟨a, h⟩ = some (.normal, ⟨t, h1⟩) ∧ t.length = 22 ∧ t[2]? = some (.fn (.func 69) [.ptr b 0] []) ∧ t[12]? = some w ∧ t[13]? = some (.int .i64 xs.length) ∧ t[14]? = some (.int .i64 (p ++ [y]).length) := by
      simp only [lp72, bodyOf, Tryz.f72, Cat, Bool.false_eq_true, e_seq, e_region, e_cond, e_block, ex_skip, ex_exit, ex_ret, o_cons, xops_nil, k_want_none, k_want_false, k_val, k_pan, k_call, k_ret, k_seq, k_seq_exit, k_seq_ret, k_true, k_false, k_block, k_block_exit, k_block_ret, k_loop, k_loop_exit, k_loop_ret, awanted, aoper, evalO, put, Option.getD_some, List.getElem?_set, acallOp, abuiltin, List.map_cons, List.map_nil, Nat.reduceEqDiff, Nat.reduceLT, List.length_set, Option.map_some, Option.bind_some, Option.bind_eq_bind, add_i, sub_i, mul_i, eql_i, neq_i, lss_i, leq_i, gtr_i, geq_i, ofV, ofCell, ↓reduceIte, List.cons_append, List.nil_append, List.append_nil, List.getElem?_toArray, List.getElem?_cons_succ, List.getElem?_cons_zero, e_draw, g_nil, g_cons, g_want, g_skip, g_val, g_call, g_ret, Option.map_none, hl, i2, i12, i13, i14, CP, bq1, bq2, bq3, bq4, hg, Bx.ix33, iu, Bx.ldi, ld_ip, ofc1, List.drop_succ_cons, List.drop_zero, e1, hw1]
      exact ⟨_, rfl, by simp [hl], by simp [i2], by simp [i12], by simp [i13], by simp [hl]⟩
    obtain ⟨t, e, tl, t2, t12, t13, t14⟩ := pp
    obtain ⟨t', h', e', H', K'⟩ := ih (p ++ [y]) (by rw [hv]; simp) (acc ++ keyN y) (by rw [List.length_append]; omega) h1 H1 t tl t2 t12 t13 t14
    exact ⟨t', h', by rw [e_loop, e]; exact e', by rw [List.flatMap_cons, ← List.append_assoc]; exact H', K1.trans K'⟩
theorem un33 : Tryz.prog.underlying 33 = some (.slice 3) := rfl
theorem each72 (b : Nat) (l : List UInt8) (xs : List Int) (w : AVal) (hw : Sl (rI .i64) xs w) (hV : ∀ n ∈ xs, V64 n) (hxl : xs.length ≤ 9223372036854775807) (hlen : l.length + (keyEach keyN xs).length ≤ 140737488355328) (h : AHeap) (H : Bld b l h) :
    ∃ h', run Cl 72 [.ptr b 0, w, .fn (.func 69) [.ptr b 0] []] h = some (.ret (.tup []), h') ∧ Bld b (l ++ keyEach keyN xs) h' ∧ Keep b h h' := by
  have hk : keyEach keyN xs = keyN (xs.length : Int) ++ xs.flatMap keyN := rfl
  rw [hk, List.length_append] at hlen
  obtain ⟨h1, e1, H1, K1⟩ := num_run b l (xs.length : Int) (by unfold V64; omega) (by omega) h H
  have lu := fun h => Sl.len hw un33 h
  obtain ⟨a0, ha0⟩ : ∃ a0, a0 = slots Tryz.f72 [.ptr b 0, w, .fn (.func 69) [.ptr b 0] []] := ⟨_, rfl⟩
  have hl : a0.length = 22 := by rw [ha0]; rfl
  have i0 : a0[0]? = some (.ptr b 0) := by rw [ha0]; rfl
  have i1 : a0[1]? = some w := by rw [ha0]; rfl
  have i2 : a0[2]? = some (.fn (.func 69) [.ptr b 0] []) := by rw [ha0]; rfl
  have p1 : ∃ t, ex Cl (Cat [false] (bodyOf Tryz.f72)) ⟨a0, h⟩ = some (.normal, ⟨t, h1⟩) ∧ t.length = 22 ∧ t[1]? = some w ∧ t[2]? = some (.fn (.func 69) [.ptr b 0] []) := by
    simp only [bodyOf, Tryz.f72, Cat, Bool.false_eq_true, e_seq, e_region, e_cond, e_block, ex_skip, ex_exit, ex_ret, o_cons, xops_nil, k_want_none, k_want_false, k_val, k_pan, k_call, k_ret, k_seq, k_seq_exit, k_seq_ret, k_true, k_false, k_block, k_block_exit, k_block_ret, k_loop, k_loop_exit, k_loop_ret, awanted, aoper, evalO, put, Option.getD_some, List.getElem?_set, acallOp, abuiltin, List.map_cons, List.map_nil, Nat.reduceEqDiff, Nat.reduceLT, List.length_set, Option.map_some, Option.bind_some, Option.bind_eq_bind, add_i, sub_i, mul_i, eql_i, neq_i, lss_i, leq_i, gtr_i, geq_i, ofV, ofCell, ↓reduceIte, List.cons_append, List.nil_append, List.append_nil, List.getElem?_toArray, List.getElem?_cons_succ, List.getElem?_cons_zero, e_draw, g_nil, g_cons, g_want, g_skip, g_val, g_call, g_ret, Option.map_none, hl, i0, i1, i2, CP, lu, e1]
    exact ⟨_, rfl, by simp [hl], by simp [i1], by simp [i2]⟩
  obtain ⟨t1, x1, tl1, t11, t12⟩ := p1
  have p2 : ∃ t, ex Cl (Cat [true, false] (bodyOf Tryz.f72)) ⟨t1, h1⟩ = some (.normal, ⟨t, h1⟩) ∧ t.length = 22 ∧ t[2]? = some (.fn (.func 69) [.ptr b 0] []) ∧ t[12]? = some w ∧ t[13]? = some (.int .i64 xs.length) ∧ t[14]? = some (.int .i64 0) := by
    simp only [bodyOf, Tryz.f72, Cat, Bool.false_eq_true, e_seq, e_region, e_cond, e_block, ex_skip, ex_exit, ex_ret, o_cons, xops_nil, k_want_none, k_want_false, k_val, k_pan, k_call, k_ret, k_seq, k_seq_exit, k_seq_ret, k_true, k_false, k_block, k_block_exit, k_block_ret, k_loop, k_loop_exit, k_loop_ret, awanted, aoper, evalO, put, Option.getD_some, List.getElem?_set, acallOp, abuiltin, List.map_cons, List.map_nil, Nat.reduceEqDiff, Nat.reduceLT, List.length_set, Option.map_some, Option.bind_some, Option.bind_eq_bind, add_i, sub_i, mul_i, eql_i, neq_i, lss_i, leq_i, gtr_i, geq_i, ofV, ofCell, ↓reduceIte, List.cons_append, List.nil_append, List.append_nil, List.getElem?_toArray, List.getElem?_cons_succ, List.getElem?_cons_zero, e_draw, g_nil, g_cons, g_want, g_skip, g_val, g_call, g_ret, Option.map_none, tl1, t11, t12, CP, lu]
    exact ⟨_, rfl, by simp [tl1], by simp [t12], by simp [tl1], by simp [tl1], by simp [tl1]⟩
  obtain ⟨t2, x2, tl2, t22, t212, t213, t214⟩ := p2
  obtain ⟨t3, h3, x3, H3, K3⟩ := loop72 b xs w hw hV hxl xs [] rfl (l ++ keyN (xs.length : Int)) (by rw [List.length_append]; omega) h1 H1 t2 tl2 t22 t212 t213 t214
  have e : ex Cl (bodyOf Tryz.f72) ⟨a0, h⟩ = some (.normal, ⟨t3, h3⟩) := by
    rw [show bodyOf Tryz.f72 = .seq (Cat [false] (bodyOf Tryz.f72)) (.seq (Cat [true, false] (bodyOf Tryz.f72)) (.block 0 (.loop lp72))) from rfl]
    rw [e_seq, x1]
    simp only [k_seq]
    rw [e_seq, x2]
    simp only [k_seq]
    rw [e_block, x3]
    rfl
  refine ⟨h3, fn_run (fn := Tryz.f72) (x := .normal) Tryz.func72 rfl rfl rfl (.inr rfl) (by rw [← ha0]; exact e) (vs := []) rfl, ?_, K1.trans K3⟩
  rw [hk, ← List.append_assoc]; exact H3
namespace Bx
theorem ix22 (x : AVal) (k : IntKind) (i : Int) : aindexAddr Tryz.prog 22 x (.int k i) = indexAddrA 1 x i := by kernel_rfl
theorem lds (h : AHeap) (p : AVal) : aload Tryz.prog h 9 p = loadA h false 1 p := by kernel_rfl
end Bx
noncomputable def lp70 : Code := Cat [true, true, true, true] (bodyOf Tryz.f70)
theorem loop70 (b : Nat) (xs : List (List UInt8)) (w : AVal) (hw : Sl rS xs w) (hxl : xs.length ≤ 9223372036854775807) :
    ∀ (q p : List (List UInt8)) (hv : xs = p ++ q) (acc : List UInt8) (hlen : acc.length + (q.flatMap keyText).length ≤ 140737488355328) (h : AHeap) (H : Bld b acc h) (a : List AVal) (hl : a.length = 22)
      (i2 : a[2]? = some (.fn (.func 71) [.ptr b 0] [])) (i12 : a[12]? = some w) (i13 : a[13]? = some (.int .i64 xs.length)) (i14 : a[14]? = some (.int .i64 p.length)),
      ∃ t h', ex Cl (.loop lp70) ⟨a, h⟩ = some (.exit 0, ⟨t, h'⟩) ∧ Bld b (acc ++ q.flatMap keyText) h' ∧ Keep b h h' := by
  intro q
  induction q with
  | nil =>
    intro p hv acc hlen h H a hl i2 i12 i13 i14
    rw [List.append_nil] at hv
    have hg : decide ((p.length : Int) < (xs.length : Int)) = false := by rw [hv]; simp
    have pp : ∃ t, ex Cl lp70 ⟨a, h⟩ = some (.exit 0, ⟨t, h⟩) := by
      simp only [lp70, bodyOf, Tryz.f70, Cat, Bool.false_eq_true, e_seq, e_region, e_cond, e_block, ex_skip, ex_exit, ex_ret, o_cons, xops_nil, k_want_none, k_want_false, k_val, k_pan, k_call, k_ret, k_seq, k_seq_exit, k_seq_ret, k_true, k_false, k_block, k_block_exit, k_block_ret, k_loop, k_loop_exit, k_loop_ret, awanted, aoper, evalO, put, Option.getD_some, List.getElem?_set, acallOp, abuiltin, List.map_cons, List.map_nil, Nat.reduceEqDiff, Nat.reduceLT, List.length_set, Option.map_some, Option.bind_some, Option.bind_eq_bind, add_i, sub_i, mul_i, eql_i, neq_i, lss_i, leq_i, gtr_i, geq_i, ofV, ofCell, ↓reduceIte, List.cons_append, List.nil_append, List.append_nil, List.getElem?_toArray, List.getElem?_cons_succ, List.getElem?_cons_zero, e_draw, g_nil, g_cons, g_want, g_skip, g_val, g_call, g_ret, Option.map_none, hl, i2, i12, i13, i14, CP, bq1, bq2, bq3, bq4, hg]
      exact ⟨_, rfl⟩
    obtain ⟨t, e⟩ := pp
    exact ⟨t, h, by rw [e_loop, e]; rfl, by simpa using H, Keep.refl b h⟩
  | cons y q ih =>
    intro p hv acc hlen h H a hl i2 i12 i13 i14
    have hl2 : xs.length = p.length + (q.length + 1) := by rw [hv]; simp
    have hg : decide ((p.length : Int) < (xs.length : Int)) = true := by rw [hl2]; simp; omega
    have hw1 : IntKind.i64.wrap ((p.length : Int) + 1) = (((p ++ [y]).length : Nat) : Int) := by rw [wrap64 (by omega) (by omega)]; simp
    have hat : at? xs (p.length : Int) = some y := by rw [hv, at_nat]; simp
    obtain ⟨cu, du, eu, iu, _⟩ := Sl.ix rS_p hw hat
    subst eu
    simp only [List.flatMap_cons, List.length_append] at hlen
    obtain ⟨h1, e1, H1, K1⟩ := text_run b acc y (by omega) h H
    have pp : ∃ t, ex Cl lp70 ⟨a, h⟩ = some (.normal, ⟨t, h1⟩) ∧ t.length = 22 ∧ t[2]? = some (.fn (.func 71) [.ptr b 0] []) ∧ t[12]? = some w ∧ t[13]? = some (.int .i64 xs.length) ∧ t[14]? = some (.int .i64 (p ++ [y]).length) := by
      simp only [lp70, bodyOf, Tryz.f70, Cat, Bool.false_eq_true, e_seq, e_region, e_cond, e_block, ex_skip, ex_exit, ex_ret, o_cons, xops_nil, k_want_none, k_want_false, k_val, k_pan, k_call, k_ret, k_seq, k_seq_exit, k_seq_ret, k_true, k_false, k_block, k_block_exit, k_block_ret, k_loop, k_loop_exit, k_loop_ret, awanted, aoper, evalO, put, Option.getD_some, List.getElem?_set, acallOp, abuiltin, List.map_cons, List.map_nil, Nat.reduceEqDiff, Nat.reduceLT, List.length_set, Option.map_some, Option.bind_some, Option.bind_eq_bind, add_i, sub_i, mul_i, eql_i, neq_i, lss_i, leq_i, gtr_i, geq_i, ofV, ofCell, ↓reduceIte, List.cons_append, List.nil_append, List.append_nil, List.getElem?_toArray, List.getElem?_cons_succ, List.getElem?_cons_zero, e_draw, g_nil, g_cons, g_want, g_skip, g_val, g_call, g_ret, Option.map_none, hl, i2, i12, i13, i14, CP, bq1, bq2, bq3, bq4, hg, Bx.ix22, iu, Bx.lds, ld_ip, ofc1, List.drop_succ_cons, List.drop_zero, e1, hw1]
      exact ⟨_, rfl, by simp [hl], by simp [i2], by simp [i12], by simp [i13], by simp [hl]⟩
    obtain ⟨t, e, tl, t2, t12, t13, t14⟩ := pp
    obtain ⟨t', h', e', H', K'⟩ := ih (p ++ [y]) (by rw [hv]; simp) (acc ++ keyText y) (by rw [List.length_append]; omega) h1 H1 t tl t2 t12 t13 t14
    exact ⟨t', h', by rw [e_loop, e]; exact e', by rw [List.flatMap_cons, ← List.append_assoc]; exact H', K1.trans K'⟩
theorem un22 : Tryz.prog.underlying 22 = some (.slice 9) := rfl
theorem each70 (b : Nat) (l : List UInt8) (xs : List (List UInt8)) (w : AVal) (hw : Sl rS xs w) (hxl : xs.length ≤ 9223372036854775807) (hlen : l.length + (keyEach keyText xs).length ≤ 140737488355328) (h : AHeap) (H : Bld b l h) :
    ∃ h', run Cl 70 [.ptr b 0, w, .fn (.func 71) [.ptr b 0] []] h = some (.ret (.tup []), h') ∧ Bld b (l ++ keyEach keyText xs) h' ∧ Keep b h h' := by
  have hk : keyEach keyText xs = keyN (xs.length : Int) ++ xs.flatMap keyText := rfl
  rw [hk, List.length_append] at hlen
  obtain ⟨h1, e1, H1, K1⟩ := num_run b l (xs.length : Int) (by unfold V64; omega) (by omega) h H
  have lu := fun h => Sl.len hw un22 h
  obtain ⟨a0, ha0⟩ : ∃ a0, a0 = slots Tryz.f70 [.ptr b 0, w, .fn (.func 71) [.ptr b 0] []] := ⟨_, rfl⟩
  have hl : a0.length = 22 := by rw [ha0]; rfl
  have i0 : a0[0]? = some (.ptr b 0) := by rw [ha0]; rfl
  have i1 : a0[1]? = some w := by rw [ha0]; rfl
  have i2 : a0[2]? = some (.fn (.func 71) [.ptr b 0] []) := by rw [ha0]; rfl
  have p1 : ∃ t, ex Cl (Cat [false] (bodyOf Tryz.f70)) ⟨a0, h⟩ = some (.normal, ⟨t, h1⟩) ∧ t.length = 22 ∧ t[1]? = some w ∧ t[2]? = some (.fn (.func 71) [.ptr b 0] []) := by
    simp only [bodyOf, Tryz.f70, Cat, Bool.false_eq_true, e_seq, e_region, e_cond, e_block, ex_skip, ex_exit, ex_ret, o_cons, xops_nil, k_want_none, k_want_false, k_val, k_pan, k_call, k_ret, k_seq, k_seq_exit, k_seq_ret, k_true, k_false, k_block, k_block_exit, k_block_ret, k_loop, k_loop_exit, k_loop_ret, awanted, aoper, evalO, put, Option.getD_some, List.getElem?_set, acallOp, abuiltin, List.map_cons, List.map_nil, Nat.reduceEqDiff, Nat.reduceLT, List.length_set, Option.map_some, Option.bind_some, Option.bind_eq_bind, add_i, sub_i, mul_i, eql_i, neq_i, lss_i, leq_i, gtr_i, geq_i, ofV, ofCell, ↓reduceIte, List.cons_append, List.nil_append, List.append_nil, List.getElem?_toArray, List.getElem?_cons_succ, List.getElem?_cons_zero, e_draw, g_nil, g_cons, g_want, g_skip, g_val, g_call, g_ret, Option.map_none, hl, i0, i1, i2, CP, lu, e1]
    exact ⟨_, rfl, by simp [hl], by simp [i1], by simp [i2]⟩
  obtain ⟨t1, x1, tl1, t11, t12⟩ := p1
  have p2 : ∃ t, ex Cl (Cat [true, false] (bodyOf Tryz.f70)) ⟨t1, h1⟩ = some (.normal, ⟨t, h1⟩) ∧ t.length = 22 ∧ t[2]? = some (.fn (.func 71) [.ptr b 0] []) ∧ t[12]? = some w ∧ t[13]? = some (.int .i64 xs.length) ∧ t[14]? = some (.int .i64 0) := by
    simp only [bodyOf, Tryz.f70, Cat, Bool.false_eq_true, e_seq, e_region, e_cond, e_block, ex_skip, ex_exit, ex_ret, o_cons, xops_nil, k_want_none, k_want_false, k_val, k_pan, k_call, k_ret, k_seq, k_seq_exit, k_seq_ret, k_true, k_false, k_block, k_block_exit, k_block_ret, k_loop, k_loop_exit, k_loop_ret, awanted, aoper, evalO, put, Option.getD_some, List.getElem?_set, acallOp, abuiltin, List.map_cons, List.map_nil, Nat.reduceEqDiff, Nat.reduceLT, List.length_set, Option.map_some, Option.bind_some, Option.bind_eq_bind, add_i, sub_i, mul_i, eql_i, neq_i, lss_i, leq_i, gtr_i, geq_i, ofV, ofCell, ↓reduceIte, List.cons_append, List.nil_append, List.append_nil, List.getElem?_toArray, List.getElem?_cons_succ, List.getElem?_cons_zero, e_draw, g_nil, g_cons, g_want, g_skip, g_val, g_call, g_ret, Option.map_none, tl1, t11, t12, CP, lu]
    exact ⟨_, rfl, by simp [tl1], by simp [t12], by simp [tl1], by simp [tl1], by simp [tl1]⟩
  obtain ⟨t2, x2, tl2, t22, t212, t213, t214⟩ := p2
  obtain ⟨t3, h3, x3, H3, K3⟩ := loop70 b xs w hw hxl xs [] rfl (l ++ keyN (xs.length : Int)) (by rw [List.length_append]; omega) h1 H1 t2 tl2 t22 t212 t213 t214
  have e : ex Cl (bodyOf Tryz.f70) ⟨a0, h⟩ = some (.normal, ⟨t3, h3⟩) := by
    rw [show bodyOf Tryz.f70 = .seq (Cat [false] (bodyOf Tryz.f70)) (.seq (Cat [true, false] (bodyOf Tryz.f70)) (.block 0 (.loop lp70))) from rfl]
    rw [e_seq, x1]
    simp only [k_seq]
    rw [e_seq, x2]
    simp only [k_seq]
    rw [e_block, x3]
    rfl
  refine ⟨h3, fn_run (fn := Tryz.f70) (x := .normal) Tryz.func70 rfl rfl rfl (.inr rfl) (by rw [← ha0]; exact e) (vs := []) rfl, ?_, K1.trans K3⟩
  rw [hk, ← List.append_assoc]; exact H3
end Go.Proofs.Ky
