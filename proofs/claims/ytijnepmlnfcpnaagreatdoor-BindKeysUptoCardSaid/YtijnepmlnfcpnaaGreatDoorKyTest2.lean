/-
  KEYS: the loop over picks, and the walk over a test (printed by a small program).
-/
import Derived.Test.YtijnepmlnfcpnaaGreatDoorKyPick
import Derived.Test.YtijnepmlnfcpnaaGreatDoorKyRefB
set_option linter.unusedVariables false
set_option linter.unusedSimpArgs false
set_option linter.unusedSimpArgs false
set_option linter.unusedVariables false
set_option maxRecDepth 100000
namespace Go.Proofs.Ky
open Go Go.Am Go.Proofs

theorem Bld.no {b : Nat} {l : List UInt8} {h : AHeap} (H : Bld b l h) {j : Nat} (hj : h.next ≤ j) : ∀ c n, h.get b ≠ some (.arr [c, .sl j 0 1 n n true]) := by
  intro c n e
  obtain ⟨_, _, ⟨_, g⟩ | ⟨_, bb, _, hbb, _, g, _⟩⟩ := H
  · rw [g] at e; simp at e
  · rw [g] at e; simp at e; omega
theorem Bld.new {b : Nat} {l : List UInt8} {h : AHeap} (H : Bld b l h) (x : ABlk) : Bld b l (h.new x) := by
  obtain ⟨hb, ht, ⟨e, g⟩ | ⟨e, bb, hne, hbb, htb, g, gb⟩⟩ := H
  · exact ⟨by rw [Heap.new_next]; omega, ht, .inl ⟨e, by rw [Heap.get_new_lt hb]; exact g⟩⟩
  · exact ⟨by rw [Heap.new_next]; omega, ht, .inr ⟨e, bb, hne, by rw [Heap.new_next]; omega, htb, by rw [Heap.get_new_lt hb]; exact g, by rw [Heap.get_new_lt hbb]; exact gb⟩⟩
theorem Bld.put {b : Nat} {l : List UInt8} {h : AHeap} (H : Bld b l h) {i : Nat} (hi : i ≠ b) (hno : ∀ c n, h.get b ≠ some (.arr [c, .sl i 0 1 n n true])) (x : Option ABlk) : Bld b l (h.set i x) := by
  obtain ⟨hb, ht, ⟨e, g⟩ | ⟨e, bb, hne, hbb, htb, g, gb⟩⟩ := H
  · exact ⟨hb, ht, .inl ⟨e, by rw [Heap.get_set_ne (Ne.symm hi)]; exact g⟩⟩
  · have : bb ≠ i := by
      intro e2; subst e2
      exact hno _ _ g
    exact ⟨hb, ht, .inr ⟨e, bb, hne, hbb, htb, by rw [Heap.get_set_ne (Ne.symm hi)]; exact g, by rw [Heap.get_set_ne this]; exact gb⟩⟩
theorem Keep.new {b : Nat} {h : AHeap} (hb : b < h.next) (x : ABlk) : Keep b h (h.new x) :=
  ⟨by rw [Heap.new_next]; omega, fun j hj _ hno => ⟨Heap.get_new_lt hj, rfl, fun c n => by rw [Heap.get_new_lt hb]; exact hno c n⟩⟩
/-- a new block, and one store into it -/
theorem Keep.newput {b : Nat} {h : AHeap} (hb : b < h.next) (x : ABlk) (y : Option ABlk) : Keep b h ((h.new x).set h.next y) :=
  ⟨by rw [Heap.set_next, Heap.new_next]; omega, fun j hj _ hno => ⟨by rw [Heap.get_set_ne (by omega), Heap.get_new_lt hj], rfl, fun c n => by rw [Heap.get_set_ne (by omega), Heap.get_new_lt hb]; exact hno c n⟩⟩
namespace Bx
theorem ix31 (x : AVal) (k : IntKind) (i : Int) : aindexAddr Tryz.prog 31 x (.int k i) = indexAddrA 2 x i := by kernel_rfl
theorem ldp (h : AHeap) (p : AVal) : aload Tryz.prog h 63 p = loadA h true 2 p := by kernel_rfl
theorem stp (h : AHeap) (p v : AVal) : astore Tryz.prog h 63 p v = storeA h 2 p v := by kernel_rfl
theorem ldc (h : AHeap) (x y : AVal) (d : List AVal) : loadA h true 2 (.iptr (x :: y :: d)) = some (.agg [x, y]) := by
  simp [loadA, ofCells]
theorem zp : zeroA Tryz.prog 63 = some (.agg [.int .i64 0, .int .i64 0]) := by kernel_rfl
theorem ow294 : Cl.own "bind.go:294" = false := by kernel_rfl
theorem ow299 : Cl.own "bind.go:299" = false := by kernel_rfl
theorem cb299 : Cl.cbox "bind.go:299" = false := by kernel_rfl
theorem ab2 (h : AHeap) (x y : Int) : abox h (.agg [.int .i64 x, .int .i64 y]) = some (.ptr h.next 0, h.new (.arr [.int .i64 x, .int .i64 y])) := rfl
theorem abp (h : AHeap) (b : Nat) : abox h (.ptr b 0) = some (.ptr h.next 0, h.new (.arr [.ptr b 0])) := rfl
theorem un31 : Tryz.prog.underlying 31 = some (.slice 63) := rfl
end Bx
noncomputable def lp67 : Code := Cat [true, true, true, true] (bodyOf Tryz.f67)
theorem loop67 (b i : Nat) (hib : i ≠ b) (xs : List Pick) (w : AVal) (hw : Sl rPick xs w) (hV : ∀ p ∈ xs, OkP p) (hxl : xs.length ≤ 9223372036854775807) :
    ∀ (q p : List Pick) (hv : xs = p ++ q) (acc : List UInt8) (hlen : acc.length + (q.flatMap keyPick).length ≤ 140737488355328) (h : AHeap) (H : Bld b acc h) (hi : h.get i = some (.arr [.ptr b 0])) (hin : i < h.next) (hno : ∀ c n, h.get b ≠ some (.arr [c, .sl i 0 1 n n true])) (a : List AVal) (hl : a.length = 22)
      (i2 : a[2]? = some (.fn (.func 68) [] [.ptr i 0])) (i12 : a[12]? = some w) (i13 : a[13]? = some (.int .i64 xs.length)) (i14 : a[14]? = some (.int .i64 p.length)),
      ∃ t h', ex Cl (.loop lp67) ⟨a, h⟩ = some (.exit 0, ⟨t, h'⟩) ∧ Bld b (acc ++ q.flatMap keyPick) h' ∧ Keep b h h' := by
  intro q
  induction q with
  | nil =>
    intro p hv acc hlen h H hi hin hno a hl i2 i12 i13 i14
    rw [List.append_nil] at hv
    have hg : decide ((p.length : Int) < (xs.length : Int)) = false := by rw [hv]; simp
    have pp : ∃ t, ex Cl lp67 ⟨a, h⟩ = some (.exit 0, ⟨t, h⟩) := by
      simp only [lp67, bodyOf, Tryz.f67, Cat, Bool.false_eq_true, e_seq, e_region, e_cond, e_block, ex_skip, ex_exit, ex_ret, o_cons, xops_nil, k_want_none, k_want_false, k_val, k_pan, k_call, k_ret, k_seq, k_seq_exit, k_seq_ret, k_true, k_false, k_block, k_block_exit, k_block_ret, k_loop, k_loop_exit, k_loop_ret, awanted, aoper, evalO, put, Option.getD_some, List.getElem?_set, acallOp, abuiltin, List.map_cons, List.map_nil, Nat.reduceEqDiff, Nat.reduceLT, List.length_set, Option.map_some, Option.bind_some, Option.bind_eq_bind, add_i, sub_i, mul_i, eql_i, neq_i, lss_i, leq_i, gtr_i, geq_i, ofV, ofCell, ↓reduceIte, List.cons_append, List.nil_append, List.append_nil, List.getElem?_toArray, List.getElem?_cons_succ, List.getElem?_cons_zero, e_draw, g_nil, g_cons, g_want, g_skip, g_val, g_call, g_ret, Option.map_none, hl, i2, i12, i13, i14, CP, bq1, bq2, bq3, bq4, hg]
      exact ⟨_, rfl⟩
    obtain ⟨t, e⟩ := pp
    exact ⟨t, h, by rw [e_loop, e]; rfl, by simpa using H, Keep.refl b h⟩
  | cons y q ih =>
    intro p hv acc hlen h H hi hin hno a hl i2 i12 i13 i14
    have hl2 : xs.length = p.length + (q.length + 1) := by rw [hv]; simp
    have hg : decide ((p.length : Int) < (xs.length : Int)) = true := by rw [hl2]; simp; omega
    have hw1 : IntKind.i64.wrap ((p.length : Int) + 1) = (((p ++ [y]).length : Nat) : Int) := by rw [wrap64 (by omega) (by omega)]; simp
    have hat : at? xs (p.length : Int) = some y := by rw [hv, at_nat]; simp
    obtain ⟨cu, du, eu, iu, _⟩ := Sl.ix rPick_p hw hat
    rw [eu] at iu
    simp only [List.flatMap_cons, List.length_append] at hlen
    have hb := H.1
    obtain ⟨h1, eh1⟩ : ∃ x : AHeap, x = (h.new (.arr [.int .i64 0, .int .i64 0])).set h.next (some (.arr [.int .i64 y.Kind, .int .i64 y.Index])) := ⟨_, rfl⟩
    have g1 : h1.get h.next = some (.arr [.int .i64 y.Kind, .int .i64 y.Index]) := by rw [eh1]; exact Heap.get_set_eq
    have st : storeA (h.new (.arr [.int .i64 0, .int .i64 0])) 2 (.ptr h.next 0) (.agg [.int .i64 y.Kind, .int .i64 y.Index]) = some h1 := by
      rw [eh1]
      have : (h.new (.arr [.int .i64 0, .int .i64 0])).get h.next = some (.arr [.int .i64 0, .int .i64 0]) := Heap.get_new_eq
      simp [storeA, AVal.cells, this, AVal.isCell, setRange]
    have ld : loadA h1 true 2 (.ptr h.next 0) = some (.agg [.int .i64 y.Kind, .int .i64 y.Index]) := by
      simp [loadA, g1, ofCells]
    have H1 : Bld b acc h1 := by
      rw [eh1]
      exact (H.new _).put (by omega) (fun c n => by rw [Heap.get_new_lt hb]; exact H.no (Nat.le_refl _) c n) _
    have K1 : Keep b h h1 := by rw [eh1]; exact Keep.newput hb _ _
    obtain ⟨gi, _, gn⟩ := K1.2 i hin hib hno
    have hi1 := gi.trans hi
    have hin1 := Nat.lt_of_lt_of_le hin K1.1
    obtain ⟨vk, vx⟩ := hV y (by rw [hv]; simp)
    obtain ⟨h2, e2, H2, K2⟩ := pick_run b i hib acc y vk vx (by omega) h1 hi1 hin1 gn H1
    obtain ⟨gi2, _, gn2⟩ := K2.2 i hin1 hib gn
    have hi2 := gi2.trans hi1
    have hin2 := Nat.lt_of_lt_of_le hin1 K2.1
    have pp : ∃ t, ex Cl lp67 ⟨a, h⟩ = some (.normal, ⟨t, h2⟩) ∧ t.length = 22 ∧ t[2]? = some (.fn (.func 68) [] [.ptr i 0]) ∧ t[12]? = some w ∧ t[13]? = some (.int .i64 xs.length) ∧ t[14]? = some (.int .i64 (p ++ [y]).length) := by
      simp only [lp67, bodyOf, Tryz.f67, Cat, Bool.false_eq_true, e_seq, e_region, e_cond, e_block, ex_skip, ex_exit, ex_ret, o_cons, xops_nil, k_want_none, k_want_false, k_val, k_pan, k_call, k_ret, k_seq, k_seq_exit, k_seq_ret, k_true, k_false, k_block, k_block_exit, k_block_ret, k_loop, k_loop_exit, k_loop_ret, awanted, aoper, evalO, put, Option.getD_some, List.getElem?_set, acallOp, abuiltin, List.map_cons, List.map_nil, Nat.reduceEqDiff, Nat.reduceLT, List.length_set, Option.map_some, Option.bind_some, Option.bind_eq_bind, add_i, sub_i, mul_i, eql_i, neq_i, lss_i, leq_i, gtr_i, geq_i, ofV, ofCell, ↓reduceIte, List.cons_append, List.nil_append, List.append_nil, List.getElem?_toArray, List.getElem?_cons_succ, List.getElem?_cons_zero, e_draw, g_nil, g_cons, g_want, g_skip, g_val, g_call, g_ret, Option.map_none, hl, i2, i12, i13, i14, CP, bq1, bq2, bq3, bq4, hg, Bx.ix31, iu, Bx.ldp, Bx.stp, Bx.zp, Bx.ow294, Bx.ab2, List.cons_append, List.nil_append, Bx.ldc, st, ld, e2, hw1]
      exact ⟨_, rfl, by simp [hl], by simp [i2], by simp [i12], by simp [i13], by simp [hl]⟩
    obtain ⟨t, e, tl, t2, t12, t13, t14⟩ := pp
    obtain ⟨t', h', e', H', K'⟩ := ih (p ++ [y]) (by rw [hv]; simp) (acc ++ keyPick y) (by rw [List.length_append]; omega) h2 H2 hi2 hin2 gn2 t tl t2 t12 t13 t14
    exact ⟨t', h', by rw [e_loop, e]; exact e', by rw [List.flatMap_cons, ← List.append_assoc]; exact H', (K1.trans K2).trans K'⟩
theorem each67 (b i : Nat) (hib : i ≠ b) (l : List UInt8) (xs : List Pick) (w : AVal) (hw : Sl rPick xs w) (hV : ∀ p ∈ xs, OkP p) (hxl : xs.length ≤ 9223372036854775807) (hlen : l.length + (keyEach keyPick xs).length ≤ 140737488355328) (h : AHeap) (H : Bld b l h) (hi : h.get i = some (.arr [.ptr b 0])) (hin : i < h.next) (hno : ∀ c n, h.get b ≠ some (.arr [c, .sl i 0 1 n n true])) :
    ∃ h', run Cl 67 [.ptr b 0, w, .fn (.func 68) [] [.ptr i 0]] h = some (.ret (.tup []), h') ∧ Bld b (l ++ keyEach keyPick xs) h' ∧ Keep b h h' := by
  have hk : keyEach keyPick xs = keyN (xs.length : Int) ++ xs.flatMap keyPick := rfl
  rw [hk, List.length_append] at hlen
  obtain ⟨h1, e1, H1, K1⟩ := num_run b l (xs.length : Int) (by unfold V64; omega) (by omega) h H
  have lu := fun h => Sl.len hw Bx.un31 h
  obtain ⟨gi, _, gn⟩ := K1.2 i hin hib hno
  have hi1 := gi.trans hi
  have hin1 := Nat.lt_of_lt_of_le hin K1.1
  obtain ⟨a0, ha0⟩ : ∃ a0, a0 = slots Tryz.f67 [.ptr b 0, w, .fn (.func 68) [] [.ptr i 0]] := ⟨_, rfl⟩
  have hl : a0.length = 22 := by rw [ha0]; rfl
  have i0 : a0[0]? = some (.ptr b 0) := by rw [ha0]; rfl
  have i1 : a0[1]? = some w := by rw [ha0]; rfl
  have i2 : a0[2]? = some (.fn (.func 68) [] [.ptr i 0]) := by rw [ha0]; rfl
  have p1 : ∃ t, ex Cl (Cat [false] (bodyOf Tryz.f67)) ⟨a0, h⟩ = some (.normal, ⟨t, h1⟩) ∧ t.length = 22 ∧ t[1]? = some w ∧ t[2]? = some (.fn (.func 68) [] [.ptr i 0]) := by
    simp only [bodyOf, Tryz.f67, Cat, Bool.false_eq_true, e_seq, e_region, e_cond, e_block, ex_skip, ex_exit, ex_ret, o_cons, xops_nil, k_want_none, k_want_false, k_val, k_pan, k_call, k_ret, k_seq, k_seq_exit, k_seq_ret, k_true, k_false, k_block, k_block_exit, k_block_ret, k_loop, k_loop_exit, k_loop_ret, awanted, aoper, evalO, put, Option.getD_some, List.getElem?_set, acallOp, abuiltin, List.map_cons, List.map_nil, Nat.reduceEqDiff, Nat.reduceLT, List.length_set, Option.map_some, Option.bind_some, Option.bind_eq_bind, add_i, sub_i, mul_i, eql_i, neq_i, lss_i, leq_i, gtr_i, geq_i, ofV, ofCell, ↓reduceIte, List.cons_append, List.nil_append, List.append_nil, List.getElem?_toArray, List.getElem?_cons_succ, List.getElem?_cons_zero, e_draw, g_nil, g_cons, g_want, g_skip, g_val, g_call, g_ret, Option.map_none, hl, i0, i1, i2, CP, lu, e1]
    exact ⟨_, rfl, by simp [hl], by simp [i1], by simp [i2]⟩
  obtain ⟨t1, x1, tl1, t11, t12⟩ := p1
  have p2 : ∃ t, ex Cl (Cat [true, false] (bodyOf Tryz.f67)) ⟨t1, h1⟩ = some (.normal, ⟨t, h1⟩) ∧ t.length = 22 ∧ t[2]? = some (.fn (.func 68) [] [.ptr i 0]) ∧ t[12]? = some w ∧ t[13]? = some (.int .i64 xs.length) ∧ t[14]? = some (.int .i64 0) := by
    simp only [bodyOf, Tryz.f67, Cat, Bool.false_eq_true, e_seq, e_region, e_cond, e_block, ex_skip, ex_exit, ex_ret, o_cons, xops_nil, k_want_none, k_want_false, k_val, k_pan, k_call, k_ret, k_seq, k_seq_exit, k_seq_ret, k_true, k_false, k_block, k_block_exit, k_block_ret, k_loop, k_loop_exit, k_loop_ret, awanted, aoper, evalO, put, Option.getD_some, List.getElem?_set, acallOp, abuiltin, List.map_cons, List.map_nil, Nat.reduceEqDiff, Nat.reduceLT, List.length_set, Option.map_some, Option.bind_some, Option.bind_eq_bind, add_i, sub_i, mul_i, eql_i, neq_i, lss_i, leq_i, gtr_i, geq_i, ofV, ofCell, ↓reduceIte, List.cons_append, List.nil_append, List.append_nil, List.getElem?_toArray, List.getElem?_cons_succ, List.getElem?_cons_zero, e_draw, g_nil, g_cons, g_want, g_skip, g_val, g_call, g_ret, Option.map_none, tl1, t11, t12, CP, lu]
    exact ⟨_, rfl, by simp [tl1], by simp [t12], by simp [tl1], by simp [tl1], by simp [tl1]⟩
  obtain ⟨t2, x2, tl2, t22, t212, t213, t214⟩ := p2
  obtain ⟨t3, h3, x3, H3, K3⟩ := loop67 b i hib xs w hw hV hxl xs [] rfl (l ++ keyN (xs.length : Int)) (by rw [List.length_append]; omega) h1 H1 hi1 hin1 gn t2 tl2 t22 t212 t213 t214
  have e : ex Cl (bodyOf Tryz.f67) ⟨a0, h⟩ = some (.normal, ⟨t3, h3⟩) := by
    rw [show bodyOf Tryz.f67 = .seq (Cat [false] (bodyOf Tryz.f67)) (.seq (Cat [true, false] (bodyOf Tryz.f67)) (.block 0 (.loop lp67))) from rfl]
    rw [e_seq, x1]
    simp only [k_seq]
    rw [e_seq, x2]
    simp only [k_seq]
    rw [e_block, x3]
    rfl
  refine ⟨h3, fn_run (fn := Tryz.f67) (x := .normal) Tryz.func67 rfl rfl rfl (.inr rfl) (by rw [← ha0]; exact e) (vs := []) rfl, ?_, K1.trans K3⟩
  rw [hk, ← List.append_assoc]; exact H3

namespace Bx
theorem f57_0 (p : AVal) : afieldAddr Tryz.prog 57 p 0 = dropCells 0 p := by kernel_rfl
theorem f57_1 (p : AVal) : afieldAddr Tryz.prog 57 p 1 = dropCells 1 p := by kernel_rfl
theorem f57_2 (p : AVal) : afieldAddr Tryz.prog 57 p 2 = dropCells 2 p := by kernel_rfl
theorem f57_3 (p : AVal) : afieldAddr Tryz.prog 57 p 3 = dropCells 3 p := by kernel_rfl
theorem f57_4 (p : AVal) : afieldAddr Tryz.prog 57 p 4 = dropCells 4 p := by kernel_rfl
theorem f57_5 (p : AVal) : afieldAddr Tryz.prog 57 p 5 = dropCells 5 p := by kernel_rfl
theorem f57_6 (p : AVal) : afieldAddr Tryz.prog 57 p 6 = dropCells 6 p := by kernel_rfl
theorem f57_7 (p : AVal) : afieldAddr Tryz.prog 57 p 7 = dropCells 7 p := by kernel_rfl
theorem ld4 (h : AHeap) (p : AVal) : aload Tryz.prog h 4 p = loadA h false 1 p := by kernel_rfl
theorem ld3 (h : AHeap) (p : AVal) : aload Tryz.prog h 3 p = loadA h false 1 p := by kernel_rfl
theorem ld22 (h : AHeap) (p : AVal) : aload Tryz.prog h 22 p = loadA h false 1 p := by kernel_rfl
theorem ld51 (h : AHeap) (p : AVal) : aload Tryz.prog h 51 p = loadA h false 1 p := by kernel_rfl
theorem ld32 (h : AHeap) (p : AVal) : aload Tryz.prog h 32 p = loadA h false 1 p := by kernel_rfl
end Bx
theorem boolS_ne (m : Bool) : boolS m ≠ [] := by cases m <;> simp [boolS]

theorem t73_4 (b j : Nat) (k : Int) (vl vr : AVal) (m : Bool) (i o : Int) (vt vi : AVal) (h h' : AHeap) (hj : h.get j = some (.arr [.ptr b 0])) (e : run Cl 69 [.ptr b 0, .int .i64 k] h = some (.ret (.tup []), h')) (a : List AVal) (hl : a.length = 68) (i1 : a[1]? = some (.iptr [.int .i64 k, vl, vr, .bool m, .int .i64 i, .int .i64 o, vt, vi])) (i2 : a[2]? = some (.ptr j 0)) :
    ∃ t, ex Cl (Cat [true, true, true, false] (bodyOf Tryz.f73)) ⟨a, h⟩ = some (.normal, ⟨t, h'⟩) ∧ t.length = 68 ∧ t[1]? = some (.iptr [.int .i64 k, vl, vr, .bool m, .int .i64 i, .int .i64 o, vt, vi]) ∧ t[2]? = some (.ptr j 0) := by
  have ld : loadA h false 1 (.ptr j 0) = some (.ptr b 0) := Heap.load_at hj rfl
  simp only [bodyOf, Tryz.f73, Cat, Bool.false_eq_true, e_seq, e_region, e_cond, e_block, ex_skip, ex_exit, ex_ret, o_cons, xops_nil, k_want_none, k_want_false, k_val, k_pan, k_call, k_ret, k_seq, k_seq_exit, k_seq_ret, k_true, k_false, k_block, k_block_exit, k_block_ret, k_loop, k_loop_exit, k_loop_ret, awanted, aoper, evalO, put, Option.getD_some, List.getElem?_set, acallOp, abuiltin, List.map_cons, List.map_nil, Nat.reduceEqDiff, Nat.reduceLT, List.length_set, Option.map_some, Option.bind_some, Option.bind_eq_bind, add_i, sub_i, mul_i, eql_i, neq_i, lss_i, leq_i, gtr_i, geq_i, ofV, ofCell, ↓reduceIte, List.cons_append, List.nil_append, List.append_nil, List.getElem?_toArray, List.getElem?_cons_succ, List.getElem?_cons_zero, e_draw, g_nil, g_cons, g_want, g_skip, g_val, g_call, g_ret, Option.map_none, hl, i1, i2, CP, Bx.ld116, ld, Bx.f57_0, Bx.f57_1, Bx.f57_2, Bx.f57_3, Bx.f57_4, Bx.f57_5, Bx.f57_6, Bx.f57_7, Bx.ld3, Bx.ld4, Bx.ld22, Bx.ld51, Bx.ld32, dropCells, List.drop_succ_cons, List.drop_zero, ld_ip, ofc1, e]
  rw [k_draw _ _ _ (by kernel_rfl)]
  exact ⟨_, rfl, by simp [hl], by simp [i1], by simp [i2]⟩

theorem t73_6 (b j : Nat) (k : Int) (vl vr : AVal) (m : Bool) (i o : Int) (vt vi : AVal) (h h' : AHeap) (hj : h.get j = some (.arr [.ptr b 0])) (e : run Cl 69 [.ptr b 0, .int .i64 i] h = some (.ret (.tup []), h')) (a : List AVal) (hl : a.length = 68) (i1 : a[1]? = some (.iptr [.int .i64 k, vl, vr, .bool m, .int .i64 i, .int .i64 o, vt, vi])) (i2 : a[2]? = some (.ptr j 0)) :
    ∃ t, ex Cl (Cat [true, true, true, true, true, false] (bodyOf Tryz.f73)) ⟨a, h⟩ = some (.normal, ⟨t, h'⟩) ∧ t.length = 68 ∧ t[1]? = some (.iptr [.int .i64 k, vl, vr, .bool m, .int .i64 i, .int .i64 o, vt, vi]) ∧ t[2]? = some (.ptr j 0) := by
  have ld : loadA h false 1 (.ptr j 0) = some (.ptr b 0) := Heap.load_at hj rfl
  simp only [bodyOf, Tryz.f73, Cat, Bool.false_eq_true, e_seq, e_region, e_cond, e_block, ex_skip, ex_exit, ex_ret, o_cons, xops_nil, k_want_none, k_want_false, k_val, k_pan, k_call, k_ret, k_seq, k_seq_exit, k_seq_ret, k_true, k_false, k_block, k_block_exit, k_block_ret, k_loop, k_loop_exit, k_loop_ret, awanted, aoper, evalO, put, Option.getD_some, List.getElem?_set, acallOp, abuiltin, List.map_cons, List.map_nil, Nat.reduceEqDiff, Nat.reduceLT, List.length_set, Option.map_some, Option.bind_some, Option.bind_eq_bind, add_i, sub_i, mul_i, eql_i, neq_i, lss_i, leq_i, gtr_i, geq_i, ofV, ofCell, ↓reduceIte, List.cons_append, List.nil_append, List.append_nil, List.getElem?_toArray, List.getElem?_cons_succ, List.getElem?_cons_zero, e_draw, g_nil, g_cons, g_want, g_skip, g_val, g_call, g_ret, Option.map_none, hl, i1, i2, CP, Bx.ld116, ld, Bx.f57_0, Bx.f57_1, Bx.f57_2, Bx.f57_3, Bx.f57_4, Bx.f57_5, Bx.f57_6, Bx.f57_7, Bx.ld3, Bx.ld4, Bx.ld22, Bx.ld51, Bx.ld32, dropCells, List.drop_succ_cons, List.drop_zero, ld_ip, ofc1, e]
  rw [k_draw _ _ _ (by kernel_rfl)]
  exact ⟨_, rfl, by simp [hl], by simp [i1], by simp [i2]⟩

theorem t73_7 (b j : Nat) (k : Int) (vl vr : AVal) (m : Bool) (i o : Int) (vt vi : AVal) (h h' : AHeap) (hj : h.get j = some (.arr [.ptr b 0])) (e : run Cl 69 [.ptr b 0, .int .i64 o] h = some (.ret (.tup []), h')) (a : List AVal) (hl : a.length = 68) (i1 : a[1]? = some (.iptr [.int .i64 k, vl, vr, .bool m, .int .i64 i, .int .i64 o, vt, vi])) (i2 : a[2]? = some (.ptr j 0)) :
    ∃ t, ex Cl (Cat [true, true, true, true, true, true, false] (bodyOf Tryz.f73)) ⟨a, h⟩ = some (.normal, ⟨t, h'⟩) ∧ t.length = 68 ∧ t[1]? = some (.iptr [.int .i64 k, vl, vr, .bool m, .int .i64 i, .int .i64 o, vt, vi]) ∧ t[2]? = some (.ptr j 0) := by
  have ld : loadA h false 1 (.ptr j 0) = some (.ptr b 0) := Heap.load_at hj rfl
  simp only [bodyOf, Tryz.f73, Cat, Bool.false_eq_true, e_seq, e_region, e_cond, e_block, ex_skip, ex_exit, ex_ret, o_cons, xops_nil, k_want_none, k_want_false, k_val, k_pan, k_call, k_ret, k_seq, k_seq_exit, k_seq_ret, k_true, k_false, k_block, k_block_exit, k_block_ret, k_loop, k_loop_exit, k_loop_ret, awanted, aoper, evalO, put, Option.getD_some, List.getElem?_set, acallOp, abuiltin, List.map_cons, List.map_nil, Nat.reduceEqDiff, Nat.reduceLT, List.length_set, Option.map_some, Option.bind_some, Option.bind_eq_bind, add_i, sub_i, mul_i, eql_i, neq_i, lss_i, leq_i, gtr_i, geq_i, ofV, ofCell, ↓reduceIte, List.cons_append, List.nil_append, List.append_nil, List.getElem?_toArray, List.getElem?_cons_succ, List.getElem?_cons_zero, e_draw, g_nil, g_cons, g_want, g_skip, g_val, g_call, g_ret, Option.map_none, hl, i1, i2, CP, Bx.ld116, ld, Bx.f57_0, Bx.f57_1, Bx.f57_2, Bx.f57_3, Bx.f57_4, Bx.f57_5, Bx.f57_6, Bx.f57_7, Bx.ld3, Bx.ld4, Bx.ld22, Bx.ld51, Bx.ld32, dropCells, List.drop_succ_cons, List.drop_zero, ld_ip, ofc1, e]
  rw [k_draw _ _ _ (by kernel_rfl)]
  exact ⟨_, rfl, by simp [hl], by simp [i1], by simp [i2]⟩

theorem t73_8 (b j : Nat) (k : Int) (vl vr : AVal) (m : Bool) (i o : Int) (vt vi : AVal) (h h' : AHeap) (hj : h.get j = some (.arr [.ptr b 0])) (e : run Cl 70 [.ptr b 0, vt, .fn (.func 71) [.ptr b 0] []] h = some (.ret (.tup []), h')) (a : List AVal) (hl : a.length = 68) (i1 : a[1]? = some (.iptr [.int .i64 k, vl, vr, .bool m, .int .i64 i, .int .i64 o, vt, vi])) (i2 : a[2]? = some (.ptr j 0)) :
    ∃ t, ex Cl (Cat [true, true, true, true, true, true, true, false] (bodyOf Tryz.f73)) ⟨a, h⟩ = some (.normal, ⟨t, h'⟩) ∧ t.length = 68 ∧ t[1]? = some (.iptr [.int .i64 k, vl, vr, .bool m, .int .i64 i, .int .i64 o, vt, vi]) ∧ t[2]? = some (.ptr j 0) := by
  have ld : loadA h false 1 (.ptr j 0) = some (.ptr b 0) := Heap.load_at hj rfl
  simp only [bodyOf, Tryz.f73, Cat, Bool.false_eq_true, e_seq, e_region, e_cond, e_block, ex_skip, ex_exit, ex_ret, o_cons, xops_nil, k_want_none, k_want_false, k_val, k_pan, k_call, k_ret, k_seq, k_seq_exit, k_seq_ret, k_true, k_false, k_block, k_block_exit, k_block_ret, k_loop, k_loop_exit, k_loop_ret, awanted, aoper, evalO, put, Option.getD_some, List.getElem?_set, acallOp, abuiltin, List.map_cons, List.map_nil, Nat.reduceEqDiff, Nat.reduceLT, List.length_set, Option.map_some, Option.bind_some, Option.bind_eq_bind, add_i, sub_i, mul_i, eql_i, neq_i, lss_i, leq_i, gtr_i, geq_i, ofV, ofCell, ↓reduceIte, List.cons_append, List.nil_append, List.append_nil, List.getElem?_toArray, List.getElem?_cons_succ, List.getElem?_cons_zero, e_draw, g_nil, g_cons, g_want, g_skip, g_val, g_call, g_ret, Option.map_none, hl, i1, i2, CP, Bx.ld116, ld, Bx.f57_0, Bx.f57_1, Bx.f57_2, Bx.f57_3, Bx.f57_4, Bx.f57_5, Bx.f57_6, Bx.f57_7, Bx.ld3, Bx.ld4, Bx.ld22, Bx.ld51, Bx.ld32, dropCells, List.drop_succ_cons, List.drop_zero, ld_ip, ofc1, e]
  rw [k_draw _ _ _ (by kernel_rfl)]
  exact ⟨_, rfl, by simp [hl], by simp [i1], by simp [i2]⟩

theorem t73_9 (b j : Nat) (k : Int) (vl vr : AVal) (m : Bool) (i o : Int) (vt vi : AVal) (h h' : AHeap) (hj : h.get j = some (.arr [.ptr b 0])) (e : run Cl 145 [.ptr b 0, vi, .fn (.func 146) [] [.ptr j 0]] h = some (.ret (.tup []), h')) (a : List AVal) (hl : a.length = 68) (i1 : a[1]? = some (.iptr [.int .i64 k, vl, vr, .bool m, .int .i64 i, .int .i64 o, vt, vi])) (i2 : a[2]? = some (.ptr j 0)) :
    ∃ t, ex Cl (Cat [true, true, true, true, true, true, true, true, false] (bodyOf Tryz.f73)) ⟨a, h⟩ = some (.normal, ⟨t, h'⟩) ∧ t.length = 68 ∧ t[1]? = some (.iptr [.int .i64 k, vl, vr, .bool m, .int .i64 i, .int .i64 o, vt, vi]) ∧ t[2]? = some (.ptr j 0) := by
  have ld : loadA h false 1 (.ptr j 0) = some (.ptr b 0) := Heap.load_at hj rfl
  simp only [bodyOf, Tryz.f73, Cat, Bool.false_eq_true, e_seq, e_region, e_cond, e_block, ex_skip, ex_exit, ex_ret, o_cons, xops_nil, k_want_none, k_want_false, k_val, k_pan, k_call, k_ret, k_seq, k_seq_exit, k_seq_ret, k_true, k_false, k_block, k_block_exit, k_block_ret, k_loop, k_loop_exit, k_loop_ret, awanted, aoper, evalO, put, Option.getD_some, List.getElem?_set, acallOp, abuiltin, List.map_cons, List.map_nil, Nat.reduceEqDiff, Nat.reduceLT, List.length_set, Option.map_some, Option.bind_some, Option.bind_eq_bind, add_i, sub_i, mul_i, eql_i, neq_i, lss_i, leq_i, gtr_i, geq_i, ofV, ofCell, ↓reduceIte, List.cons_append, List.nil_append, List.append_nil, List.getElem?_toArray, List.getElem?_cons_succ, List.getElem?_cons_zero, e_draw, g_nil, g_cons, g_want, g_skip, g_val, g_call, g_ret, Option.map_none, hl, i1, i2, CP, Bx.ld116, ld, Bx.f57_0, Bx.f57_1, Bx.f57_2, Bx.f57_3, Bx.f57_4, Bx.f57_5, Bx.f57_6, Bx.f57_7, Bx.ld3, Bx.ld4, Bx.ld22, Bx.ld51, Bx.ld32, dropCells, List.drop_succ_cons, List.drop_zero, ld_ip, ofc1, e]
  rw [k_draw _ _ _ (by kernel_rfl)]
  exact ⟨_, rfl, by simp [hl], by simp [i1], by simp [i2]⟩

theorem t73_10 (b j : Nat) (k : Int) (vl vr : AVal) (m : Bool) (i o : Int) (vt vi : AVal) (h h' : AHeap) (hj : h.get j = some (.arr [.ptr b 0])) (e : run Cl 73 [.ptr b 0, vl] h = some (.ret (.tup []), h')) (a : List AVal) (hl : a.length = 68) (i1 : a[1]? = some (.iptr [.int .i64 k, vl, vr, .bool m, .int .i64 i, .int .i64 o, vt, vi])) (i2 : a[2]? = some (.ptr j 0)) :
    ∃ t, ex Cl (Cat [true, true, true, true, true, true, true, true, true, false] (bodyOf Tryz.f73)) ⟨a, h⟩ = some (.normal, ⟨t, h'⟩) ∧ t.length = 68 ∧ t[1]? = some (.iptr [.int .i64 k, vl, vr, .bool m, .int .i64 i, .int .i64 o, vt, vi]) ∧ t[2]? = some (.ptr j 0) := by
  have ld : loadA h false 1 (.ptr j 0) = some (.ptr b 0) := Heap.load_at hj rfl
  simp only [bodyOf, Tryz.f73, Cat, Bool.false_eq_true, e_seq, e_region, e_cond, e_block, ex_skip, ex_exit, ex_ret, o_cons, xops_nil, k_want_none, k_want_false, k_val, k_pan, k_call, k_ret, k_seq, k_seq_exit, k_seq_ret, k_true, k_false, k_block, k_block_exit, k_block_ret, k_loop, k_loop_exit, k_loop_ret, awanted, aoper, evalO, put, Option.getD_some, List.getElem?_set, acallOp, abuiltin, List.map_cons, List.map_nil, Nat.reduceEqDiff, Nat.reduceLT, List.length_set, Option.map_some, Option.bind_some, Option.bind_eq_bind, add_i, sub_i, mul_i, eql_i, neq_i, lss_i, leq_i, gtr_i, geq_i, ofV, ofCell, ↓reduceIte, List.cons_append, List.nil_append, List.append_nil, List.getElem?_toArray, List.getElem?_cons_succ, List.getElem?_cons_zero, e_draw, g_nil, g_cons, g_want, g_skip, g_val, g_call, g_ret, Option.map_none, hl, i1, i2, CP, Bx.ld116, ld, Bx.f57_0, Bx.f57_1, Bx.f57_2, Bx.f57_3, Bx.f57_4, Bx.f57_5, Bx.f57_6, Bx.f57_7, Bx.ld3, Bx.ld4, Bx.ld22, Bx.ld51, Bx.ld32, dropCells, List.drop_succ_cons, List.drop_zero, ld_ip, ofc1, e]
  rw [k_draw _ _ _ (by kernel_rfl)]
  exact ⟨_, rfl, by simp [hl], by simp [i1], by simp [i2]⟩

theorem t73_5 (b j : Nat) (k : Int) (vl vr : AVal) (m : Bool) (i o : Int) (vt vi : AVal) (h h' : AHeap) (hj : h.get j = some (.arr [.ptr b 0])) (x : AVal) (ef : run Cl 144 [.bool m] h = some (.ret (.str (boolS m)), h)) (e : run Cl 143 [.ptr b 0, .str (boolS m)] h = some (.ret (x), h')) (a : List AVal) (hl : a.length = 68) (i1 : a[1]? = some (.iptr [.int .i64 k, vl, vr, .bool m, .int .i64 i, .int .i64 o, vt, vi])) (i2 : a[2]? = some (.ptr j 0)) :
    ∃ t, ex Cl (Cat [true, true, true, true, false] (bodyOf Tryz.f73)) ⟨a, h⟩ = some (.normal, ⟨t, h'⟩) ∧ t.length = 68 ∧ t[1]? = some (.iptr [.int .i64 k, vl, vr, .bool m, .int .i64 i, .int .i64 o, vt, vi]) ∧ t[2]? = some (.ptr j 0) := by
  have ld : loadA h false 1 (.ptr j 0) = some (.ptr b 0) := Heap.load_at hj rfl
  simp only [bodyOf, Tryz.f73, Cat, Bool.false_eq_true, e_seq, e_region, e_cond, e_block, ex_skip, ex_exit, ex_ret, o_cons, xops_nil, k_want_none, k_want_false, k_val, k_pan, k_call, k_ret, k_seq, k_seq_exit, k_seq_ret, k_true, k_false, k_block, k_block_exit, k_block_ret, k_loop, k_loop_exit, k_loop_ret, awanted, aoper, evalO, put, Option.getD_some, List.getElem?_set, acallOp, abuiltin, List.map_cons, List.map_nil, Nat.reduceEqDiff, Nat.reduceLT, List.length_set, Option.map_some, Option.bind_some, Option.bind_eq_bind, add_i, sub_i, mul_i, eql_i, neq_i, lss_i, leq_i, gtr_i, geq_i, ofV, ofCell, ↓reduceIte, List.cons_append, List.nil_append, List.append_nil, List.getElem?_toArray, List.getElem?_cons_succ, List.getElem?_cons_zero, e_draw, g_nil, g_cons, g_want, g_skip, g_val, g_call, g_ret, Option.map_none, hl, i1, i2, CP, Bx.ld116, ld, Bx.f57_0, Bx.f57_1, Bx.f57_2, Bx.f57_3, Bx.f57_4, Bx.f57_5, Bx.f57_6, Bx.f57_7, Bx.ld3, Bx.ld4, Bx.ld22, Bx.ld51, Bx.ld32, dropCells, List.drop_succ_cons, List.drop_zero, ld_ip, ofc1, ef, Bx.fb0, Nat.add_zero, e]
  rw [k_draw _ _ _ (by kernel_rfl)]
  exact ⟨_, rfl, by simp [hl], by simp [i1], by simp [i2]⟩

theorem t73_11 (b j : Nat) (k : Int) (vl vr : AVal) (m : Bool) (i o : Int) (vt vi : AVal) (h h' : AHeap) (hj : h.get j = some (.arr [.ptr b 0])) (e : run Cl 73 [.ptr b 0, vr] h = some (.ret (.tup []), h')) (a : List AVal) (hl : a.length = 68) (i1 : a[1]? = some (.iptr [.int .i64 k, vl, vr, .bool m, .int .i64 i, .int .i64 o, vt, vi])) (i2 : a[2]? = some (.ptr j 0)) :
    ∃ t, ex Cl (Cat [true, true, true, true, true, true, true, true, true, true] (bodyOf Tryz.f73)) ⟨a, h⟩ = some (.normal, ⟨t, h'⟩) ∧ t.length = 68 ∧ t[1]? = some (.iptr [.int .i64 k, vl, vr, .bool m, .int .i64 i, .int .i64 o, vt, vi]) ∧ t[2]? = some (.ptr j 0) := by
  have ld : loadA h false 1 (.ptr j 0) = some (.ptr b 0) := Heap.load_at hj rfl
  simp only [bodyOf, Tryz.f73, Cat, Bool.false_eq_true, e_seq, e_region, e_cond, e_block, ex_skip, ex_exit, ex_ret, o_cons, xops_nil, k_want_none, k_want_false, k_val, k_pan, k_call, k_ret, k_seq, k_seq_exit, k_seq_ret, k_true, k_false, k_block, k_block_exit, k_block_ret, k_loop, k_loop_exit, k_loop_ret, awanted, aoper, evalO, put, Option.getD_some, List.getElem?_set, acallOp, abuiltin, List.map_cons, List.map_nil, Nat.reduceEqDiff, Nat.reduceLT, List.length_set, Option.map_some, Option.bind_some, Option.bind_eq_bind, add_i, sub_i, mul_i, eql_i, neq_i, lss_i, leq_i, gtr_i, geq_i, ofV, ofCell, ↓reduceIte, List.cons_append, List.nil_append, List.append_nil, List.getElem?_toArray, List.getElem?_cons_succ, List.getElem?_cons_zero, e_draw, g_nil, g_cons, g_want, g_skip, g_val, g_call, g_ret, Option.map_none, hl, i1, i2, CP, Bx.ld116, ld, Bx.f57_0, Bx.f57_1, Bx.f57_2, Bx.f57_3, Bx.f57_4, Bx.f57_5, Bx.f57_6, Bx.f57_7, Bx.ld3, Bx.ld4, Bx.ld22, Bx.ld51, Bx.ld32, dropCells, List.drop_succ_cons, List.drop_zero, ld_ip, ofc1, e]
  rw [k_draw _ _ _ (by kernel_rfl)]
  exact ⟨_, rfl, by simp [hl], by simp [i1], by simp [i2]⟩

theorem test_run : ∀ (x : TestT) (v : AVal) (hx : rTestT x [v]) (hok : OkT x) (b : Nat) (l : List UInt8) (hlen : l.length + (keyTest x).length ≤ 140737488355328) (h : AHeap) (H : Bld b l h),
    ∃ h', run Cl 73 [.ptr b 0, v] h = some (.ret (.tup []), h') ∧ Bld b (l ++ keyTest x) h' ∧ Keep b h h' := by
  intro x
  induction x with
  | nil =>
    intro v hx hok b l hlen h H
    cases hx
    obtain ⟨a0, ha0⟩ : ∃ a0, a0 = slots Tryz.f73 [.ptr b 0, .nilPtr] := ⟨_, rfl⟩
    have hl : a0.length = 68 := by rw [ha0]; rfl
    have i0 : a0[0]? = some (.ptr b 0) := by rw [ha0]; rfl
    have i1 : a0[1]? = some .nilPtr := by rw [ha0]; rfl
    have hb := H.1
    have gj : (h.new (.arr [.ptr b 0])).get h.next = some (.arr [.ptr b 0]) := Heap.get_new_eq
    have ld : loadA (h.new (.arr [.ptr b 0])) false 1 (.ptr h.next 0) = some (.ptr b 0) := Heap.load_at gj rfl
    obtain ⟨h1, e1, H1, K1⟩ := ws_run b l ([45] : List UInt8) (by simp) hlen _ (H.new (.arr [.ptr b 0]))
    have p : ∃ t, ex Cl (bodyOf Tryz.f73) ⟨a0, h⟩ = some (.ret, ⟨t, h1⟩) := by
      simp only [bodyOf, Tryz.f73, Cat, Bool.false_eq_true, e_seq, e_region, e_cond, e_block, ex_skip, ex_exit, ex_ret, o_cons, xops_nil, k_want_none, k_want_false, k_val, k_pan, k_call, k_ret, k_seq, k_seq_exit, k_seq_ret, k_true, k_false, k_block, k_block_exit, k_block_ret, k_loop, k_loop_exit, k_loop_ret, awanted, aoper, evalO, put, Option.getD_some, List.getElem?_set, acallOp, abuiltin, List.map_cons, List.map_nil, Nat.reduceEqDiff, Nat.reduceLT, List.length_set, Option.map_some, Option.bind_some, Option.bind_eq_bind, add_i, sub_i, mul_i, eql_i, neq_i, lss_i, leq_i, gtr_i, geq_i, ofV, ofCell, ↓reduceIte, List.cons_append, List.nil_append, List.append_nil, List.getElem?_toArray, List.getElem?_cons_succ, List.getElem?_cons_zero, e_draw, g_nil, g_cons, g_want, g_skip, g_val, g_call, g_ret, Option.map_none, hl, i0, i1, CP, Bx.cb299, Bx.ow299, Bx.abp, Uy.eqn, bq1, bq2, bq3, bq4, Bx.ld116, ld, Bx.fb0, dropCells, Nat.add_zero, e1]
      exact ⟨_, rfl⟩
    obtain ⟨t, e⟩ := p
    exact ⟨h1, fn_run (fn := Tryz.f73) (x := .ret) Tryz.func73 rfl rfl rfl (.inl rfl) (by rw [← ha0]; exact e) (vs := []) rfl, H1, (Keep.new hb _).trans K1⟩
  | mk k l r m i o ts is ihl ihr =>
    intro v hx hok b acc hlen h H
    obtain ⟨vl, vr, vt, vi, hv, hl0, hr0, ht0, hi0⟩ := hx
    cases hv
    obtain ⟨okl, okr, vk, vvi, vo, lts, lis, vis⟩ := hok
    simp only [keyTest, List.length_append] at hlen
    obtain ⟨a0, ha0⟩ : ∃ a0, a0 = slots Tryz.f73 [.ptr b 0, .iptr [.int .i64 k, vl, vr, .bool m, .int .i64 i, .int .i64 o, vt, vi]] := ⟨_, rfl⟩
    have hl : a0.length = 68 := by rw [ha0]; rfl
    have i0 : a0[0]? = some (.ptr b 0) := by rw [ha0]; rfl
    have i1 : a0[1]? = some (.iptr [.int .i64 k, vl, vr, .bool m, .int .i64 i, .int .i64 o, vt, vi]) := by rw [ha0]; rfl
    have hb := H.1
    obtain ⟨j, hj⟩ : ∃ j, j = h.next := ⟨_, rfl⟩
    have hjb : j ≠ b := by omega
    have g0 : (h.new (.arr [.ptr b 0])).get j = some (.arr [.ptr b 0]) := by rw [hj]; exact Heap.get_new_eq
    have n0 : j < (h.new (.arr [.ptr b 0])).next := by rw [Heap.new_next]; omega
    have H0 := H.new (.arr [.ptr b 0])
    have no0 : ∀ c n, (h.new (.arr [.ptr b 0])).get b ≠ some (.arr [c, .sl j 0 1 n n true]) := fun c n => by rw [Heap.get_new_lt hb]; exact H.no (by omega) c n
    have ld : loadA (h.new (.arr [.ptr b 0])) false 1 (.ptr j 0) = some (.ptr b 0) := Heap.load_at g0 rfl
    have K0 : Keep b h (h.new (.arr [.ptr b 0])) := Keep.new hb _
    obtain ⟨h1, e1, H1, K1⟩ := ws_run b acc ([43] : List UInt8) (by simp) (by omega) _ H0

    obtain ⟨gi1, _, no1⟩ := K1.2 j n0 hjb no0
    have g1 := gi1.trans g0
    have n1 := Nat.lt_of_lt_of_le n0 K1.1
    obtain ⟨A1, hA1⟩ : ∃ A, A = acc ++ ([43] : List UInt8) := ⟨_, rfl⟩
    rw [← hA1] at H1
    have hA1' : A1.length = acc.length + (([43] : List UInt8) : List UInt8).length := by rw [hA1, List.length_append]

    obtain ⟨h2, e2, H2, K2⟩ := num_run b A1 k vk (by omega) h1 H1
    obtain ⟨gi2, _, no2⟩ := K2.2 j n1 hjb no1
    have g2 := gi2.trans g1
    have n2 := Nat.lt_of_lt_of_le n1 K2.1
    obtain ⟨A2, hA2⟩ : ∃ A, A = A1 ++ keyN k := ⟨_, rfl⟩
    rw [← hA2] at H2
    have hA2' : A2.length = A1.length + (keyN k).length := by rw [hA2, List.length_append]

    obtain ⟨h3, e3, H3, K3⟩ := ws_run b A2 (boolS m) (boolS_ne m) (by omega) h2 H2
    obtain ⟨gi3, _, no3⟩ := K3.2 j n2 hjb no2
    have g3 := gi3.trans g2
    have n3 := Nat.lt_of_lt_of_le n2 K3.1
    obtain ⟨A3, hA3⟩ : ∃ A, A = A2 ++ boolS m := ⟨_, rfl⟩
    rw [← hA3] at H3
    have hA3' : A3.length = A2.length + (boolS m).length := by rw [hA3, List.length_append]

    obtain ⟨h4, e4, H4, K4⟩ := num_run b A3 i vvi (by omega) h3 H3
    obtain ⟨gi4, _, no4⟩ := K4.2 j n3 hjb no3
    have g4 := gi4.trans g3
    have n4 := Nat.lt_of_lt_of_le n3 K4.1
    obtain ⟨A4, hA4⟩ : ∃ A, A = A3 ++ keyN i := ⟨_, rfl⟩
    rw [← hA4] at H4
    have hA4' : A4.length = A3.length + (keyN i).length := by rw [hA4, List.length_append]

    obtain ⟨h5, e5, H5, K5⟩ := num_run b A4 o vo (by omega) h4 H4
    obtain ⟨gi5, _, no5⟩ := K5.2 j n4 hjb no4
    have g5 := gi5.trans g4
    have n5 := Nat.lt_of_lt_of_le n4 K5.1
    obtain ⟨A5, hA5⟩ : ∃ A, A = A4 ++ keyN o := ⟨_, rfl⟩
    rw [← hA5] at H5
    have hA5' : A5.length = A4.length + (keyN o).length := by rw [hA5, List.length_append]

    obtain ⟨h6, e6, H6, K6⟩ := each70 b A5 ts vt ht0 lts (by omega) h5 H5
    obtain ⟨gi6, _, no6⟩ := K6.2 j n5 hjb no5
    have g6 := gi6.trans g5
    have n6 := Nat.lt_of_lt_of_le n5 K6.1
    obtain ⟨A6, hA6⟩ : ∃ A, A = A5 ++ keyEach keyText ts := ⟨_, rfl⟩
    rw [← hA6] at H6
    have hA6' : A6.length = A5.length + (keyEach keyText ts).length := by rw [hA6, List.length_append]

    obtain ⟨h7, e7, H7, K7⟩ := each145 b j hjb A6 is vi hi0 vis lis (by omega) h6 H6 g6 n6 no6
    obtain ⟨gi7, _, no7⟩ := K7.2 j n6 hjb no6
    have g7 := gi7.trans g6
    have n7 := Nat.lt_of_lt_of_le n6 K7.1
    obtain ⟨A7, hA7⟩ : ∃ A, A = A6 ++ keyEach keyN is := ⟨_, rfl⟩
    rw [← hA7] at H7
    have hA7' : A7.length = A6.length + (keyEach keyN is).length := by rw [hA7, List.length_append]

    obtain ⟨h8, e8, H8, K8⟩ := ihl vl hl0 okl b A7 (by omega) h7 H7
    obtain ⟨gi8, _, no8⟩ := K8.2 j n7 hjb no7
    have g8 := gi8.trans g7
    have n8 := Nat.lt_of_lt_of_le n7 K8.1
    obtain ⟨A8, hA8⟩ : ∃ A, A = A7 ++ keyTest l := ⟨_, rfl⟩
    rw [← hA8] at H8
    have hA8' : A8.length = A7.length + (keyTest l).length := by rw [hA8, List.length_append]

    obtain ⟨h9, e9, H9, K9⟩ := ihr vr hr0 okr b A8 (by omega) h8 H8
    obtain ⟨gi9, _, no9⟩ := K9.2 j n8 hjb no8
    have g9 := gi9.trans g8
    have n9 := Nat.lt_of_lt_of_le n8 K9.1
    obtain ⟨A9, hA9⟩ : ∃ A, A = A8 ++ keyTest r := ⟨_, rfl⟩
    rw [← hA9] at H9
    have hA9' : A9.length = A8.length + (keyTest r).length := by rw [hA9, List.length_append]

    have ef := G144_spec m _ (g144 m) h2
    have p0 : ∃ t, ex Cl (Cat [false] (bodyOf Tryz.f73)) ⟨a0, h⟩ = some (.normal, ⟨t, h.new (.arr [.ptr b 0])⟩) ∧ t.length = 68 ∧ t[1]? = some (.iptr [.int .i64 k, vl, vr, .bool m, .int .i64 i, .int .i64 o, vt, vi]) ∧ t[2]? = some (.ptr j 0) := by
      simp only [bodyOf, Tryz.f73, Cat, Bool.false_eq_true, e_seq, e_region, e_cond, e_block, ex_skip, ex_exit, ex_ret, o_cons, xops_nil, k_want_none, k_want_false, k_val, k_pan, k_call, k_ret, k_seq, k_seq_exit, k_seq_ret, k_true, k_false, k_block, k_block_exit, k_block_ret, k_loop, k_loop_exit, k_loop_ret, awanted, aoper, evalO, put, Option.getD_some, List.getElem?_set, acallOp, abuiltin, List.map_cons, List.map_nil, Nat.reduceEqDiff, Nat.reduceLT, List.length_set, Option.map_some, Option.bind_some, Option.bind_eq_bind, add_i, sub_i, mul_i, eql_i, neq_i, lss_i, leq_i, gtr_i, geq_i, ofV, ofCell, ↓reduceIte, List.cons_append, List.nil_append, List.append_nil, List.getElem?_toArray, List.getElem?_cons_succ, List.getElem?_cons_zero, e_draw, g_nil, g_cons, g_want, g_skip, g_val, g_call, g_ret, Option.map_none, hl, i0, i1, CP, Bx.cb299, Bx.ow299, Bx.abp]
      exact ⟨_, rfl, by simp [hl], by simp [i1], by simp [hl, hj]⟩
    obtain ⟨t0, x0, tl0, t01, t02⟩ := p0
    have p1 : ∃ t, ex Cl (Cat [true, false] (bodyOf Tryz.f73)) ⟨t0, h.new (.arr [.ptr b 0])⟩ = some (.normal, ⟨t, h.new (.arr [.ptr b 0])⟩) ∧ t.length = 68 ∧ t[1]? = some (.iptr [.int .i64 k, vl, vr, .bool m, .int .i64 i, .int .i64 o, vt, vi]) ∧ t[2]? = some (.ptr j 0) := by
      simp only [bodyOf, Tryz.f73, Cat, Bool.false_eq_true, e_seq, e_region, e_cond, e_block, ex_skip, ex_exit, ex_ret, o_cons, xops_nil, k_want_none, k_want_false, k_val, k_pan, k_call, k_ret, k_seq, k_seq_exit, k_seq_ret, k_true, k_false, k_block, k_block_exit, k_block_ret, k_loop, k_loop_exit, k_loop_ret, awanted, aoper, evalO, put, Option.getD_some, List.getElem?_set, acallOp, abuiltin, List.map_cons, List.map_nil, Nat.reduceEqDiff, Nat.reduceLT, List.length_set, Option.map_some, Option.bind_some, Option.bind_eq_bind, add_i, sub_i, mul_i, eql_i, neq_i, lss_i, leq_i, gtr_i, geq_i, ofV, ofCell, ↓reduceIte, List.cons_append, List.nil_append, List.append_nil, List.getElem?_toArray, List.getElem?_cons_succ, List.getElem?_cons_zero, e_draw, g_nil, g_cons, g_want, g_skip, g_val, g_call, g_ret, Option.map_none, tl0, t01, t02, CP, Uy.eqp, bq1, bq2, bq3, bq4]
      exact ⟨_, rfl, by simp [tl0], by simp [t01], by simp [t02]⟩
    obtain ⟨t1, x1, tl1, t11, t12⟩ := p1
    have p2 : ∃ t, ex Cl (Cat [true, true, false] (bodyOf Tryz.f73)) ⟨t1, h.new (.arr [.ptr b 0])⟩ = some (.normal, ⟨t, h1⟩) ∧ t.length = 68 ∧ t[1]? = some (.iptr [.int .i64 k, vl, vr, .bool m, .int .i64 i, .int .i64 o, vt, vi]) ∧ t[2]? = some (.ptr j 0) := by
      simp only [bodyOf, Tryz.f73, Cat, Bool.false_eq_true, e_seq, e_region, e_cond, e_block, ex_skip, ex_exit, ex_ret, o_cons, xops_nil, k_want_none, k_want_false, k_val, k_pan, k_call, k_ret, k_seq, k_seq_exit, k_seq_ret, k_true, k_false, k_block, k_block_exit, k_block_ret, k_loop, k_loop_exit, k_loop_ret, awanted, aoper, evalO, put, Option.getD_some, List.getElem?_set, acallOp, abuiltin, List.map_cons, List.map_nil, Nat.reduceEqDiff, Nat.reduceLT, List.length_set, Option.map_some, Option.bind_some, Option.bind_eq_bind, add_i, sub_i, mul_i, eql_i, neq_i, lss_i, leq_i, gtr_i, geq_i, ofV, ofCell, ↓reduceIte, List.cons_append, List.nil_append, List.append_nil, List.getElem?_toArray, List.getElem?_cons_succ, List.getElem?_cons_zero, e_draw, g_nil, g_cons, g_want, g_skip, g_val, g_call, g_ret, Option.map_none, tl1, t11, t12, CP, Bx.ld116, ld, Bx.fb0, dropCells, Nat.add_zero, e1]
      exact ⟨_, rfl, by simp [tl1], by simp [t11], by simp [t12]⟩
    obtain ⟨t2, x2, tl2, t21, t22⟩ := p2

    obtain ⟨t3, x3, tl3, t31, t32⟩ := t73_4 b j k vl vr m i o vt vi h1 h2 g1 e2 t2 tl2 t21 t22

    obtain ⟨t4, x4, tl4, t41, t42⟩ := t73_5 b j k vl vr m i o vt vi h2 h3 g2 _ ef e3 t3 tl3 t31 t32

    obtain ⟨t5, x5, tl5, t51, t52⟩ := t73_6 b j k vl vr m i o vt vi h3 h4 g3 e4 t4 tl4 t41 t42

    obtain ⟨t6, x6, tl6, t61, t62⟩ := t73_7 b j k vl vr m i o vt vi h4 h5 g4 e5 t5 tl5 t51 t52

    obtain ⟨t7, x7, tl7, t71, t72⟩ := t73_8 b j k vl vr m i o vt vi h5 h6 g5 e6 t6 tl6 t61 t62

    obtain ⟨t8, x8, tl8, t81, t82⟩ := t73_9 b j k vl vr m i o vt vi h6 h7 g6 e7 t7 tl7 t71 t72

    obtain ⟨t9, x9, tl9, t91, t92⟩ := t73_10 b j k vl vr m i o vt vi h7 h8 g7 e8 t8 tl8 t81 t82

    obtain ⟨t10, x10, tl10, t101, t102⟩ := t73_11 b j k vl vr m i o vt vi h8 h9 g8 e9 t9 tl9 t91 t92

    have e : ex Cl (bodyOf Tryz.f73) ⟨a0, h⟩ = some (.normal, ⟨t10, h9⟩) := by
      rw [show bodyOf Tryz.f73 = .seq (Cat [false] (bodyOf Tryz.f73)) (.seq (Cat [true, false] (bodyOf Tryz.f73)) (.seq (Cat [true, true, false] (bodyOf Tryz.f73)) (.seq (Cat [true, true, true, false] (bodyOf Tryz.f73)) (.seq (Cat [true, true, true, true, false] (bodyOf Tryz.f73)) (.seq (Cat [true, true, true, true, true, false] (bodyOf Tryz.f73)) (.seq (Cat [true, true, true, true, true, true, false] (bodyOf Tryz.f73)) (.seq (Cat [true, true, true, true, true, true, true, false] (bodyOf Tryz.f73)) (.seq (Cat [true, true, true, true, true, true, true, true, false] (bodyOf Tryz.f73)) (.seq (Cat [true, true, true, true, true, true, true, true, true, false] (bodyOf Tryz.f73)) (Cat [true, true, true, true, true, true, true, true, true, true] (bodyOf Tryz.f73))))))))))) from rfl]
      rw [e_seq, x0]
      simp only [k_seq]
      rw [e_seq, x1]
      simp only [k_seq]
      rw [e_seq, x2]
      simp only [k_seq]
      rw [e_seq, x3]
      simp only [k_seq]
      rw [e_seq, x4]
      simp only [k_seq]
      rw [e_seq, x5]
      simp only [k_seq]
      rw [e_seq, x6]
      simp only [k_seq]
      rw [e_seq, x7]
      simp only [k_seq]
      rw [e_seq, x8]
      simp only [k_seq]
      rw [e_seq, x9]
      simp only [k_seq]
      exact x10
    refine ⟨h9, fn_run (fn := Tryz.f73) (x := .normal) Tryz.func73 rfl rfl rfl (.inr rfl) (by rw [← ha0]; exact e) (vs := []) rfl, ?_, K0.trans (K1.trans (K2.trans (K3.trans (K4.trans (K5.trans (K6.trans (K7.trans (K8.trans K9))))))))⟩
    have hfin : acc ++ keyTest (.mk k l r m i o ts is) = A9 := by
      rw [hA9, hA8, hA7, hA6, hA5, hA4, hA3, hA2, hA1]
      simp only [keyTest, List.append_assoc]
    rw [hfin]; exact H9
end Go.Proofs.Ky
