/-
  CUBE: the law's same: are two lists the same?
-/
import Derived.Test.YtgjdlakemaabfaaCubeLatLaw
set_option linter.unusedVariables false
set_option linter.unusedSimpArgs false
set_option linter.unusedSimpArgs false
set_option linter.unusedVariables false
set_option maxRecDepth 100000
namespace Go.Proofs.Cube
open Go Go.Am Go.Proofs Go.RowKit

theorem Ints.ix2 {v : AVal} {xs : List Int} (I : Ints v xs) {i : Nat} {x : Int} (hx : xs[i]? = some x) : ∃ cs, indexAddrA 1 v (i : Int) = some (.iptr (.int .i64 x :: cs)) := by
  have hi : i < xs.length := (List.getElem?_eq_some_iff.1 hx).1
  rcases I with ⟨rfl, rfl⟩ | ⟨cap, rfl⟩
  · cases hx
  · refine ⟨(xs.map (AVal.int .i64)).drop (i + 1), ?_⟩
    rw [ix_lst hi, List.drop_eq_getElem_cons (by simpa using hi), List.getElem_map]
    have := (List.getElem?_eq_some_iff.1 hx).2
    rw [this]
theorem Ints.cont {v : AVal} {xs : List Int} (I : Ints v xs) (hc : ∀ cap r, v = .lst (xs.map (AVal.int .i64)) xs.length cap → cap ≠ .tok r) : contB v = true := by
  rcases I with ⟨rfl, rfl⟩ | ⟨cap, rfl⟩
  · rfl
  · cases cap with
    | tok r => exact absurd rfl (hc _ r rfl)
    | full => simp [contB, contBs_ints]
    | unk => simp [contB, contBs_ints]
noncomputable def LS : Code := Cat [true, true, false, true, true, true] (bodyOf Try.f8)
theorem LS_out (h : AHeap) (k n : Nat) (hlt : ¬ k < n) (xs : List Int) (hn : xs.length = n) (v : AVal) (I : Ints v xs) (tmps : List AVal) (hl : tmps.length = 26) (h0 : tmps[0]? = some v) (h5 : tmps[5]? = some (.int .i64 k)) :
    ∃ t : List AVal, ex Cf LS ⟨tmps, h⟩ = some (.exit 0, ⟨t, h⟩) ∧ t.length = 26 := by
  have hlt' : decide ((k : Int) < (n : Int)) = false := by simp; omega
  have hal : alen Try.prog h 24 v = some (.int .i64 n) := by rw [← hn]; exact I.al h
  simp only [LS, bodyOf, Try.f8, Cat, Bool.false_eq_true, e_seq, e_region, e_cond, e_block, ex_skip, ex_exit, ex_ret, o_cons, xops_nil, k_want_none, k_want_false, k_val, k_pan, k_call, k_ret, k_seq, k_seq_exit, k_seq_ret, k_true, k_false, k_block, k_block_exit, k_block_ret, k_loop, k_loop_exit, k_loop_ret, awanted, aoper, evalO, put, Option.getD_some, List.getElem?_set, acallOp, abuiltin, List.map_cons, List.map_nil, Nat.reduceEqDiff, Nat.reduceLT, List.length_set, Option.map_some, Option.bind_some, Option.bind_eq_bind, add_i, sub_i, mul_i, eql_i, neq_i, lss_i, leq_i, gtr_i, geq_i, ofV, ofCell, ↓reduceIte, List.cons_append, List.nil_append, List.append_nil, List.getElem?_toArray, List.getElem?_cons_succ, List.getElem?_cons_zero, e_draw, g_nil, g_cons, g_want, g_skip, g_val, g_call, g_ret, Option.map_none, hl, h0, h5, hal, CP, hlt']
  exact ⟨_, rfl, by simp [hl]⟩
theorem LS_in (h : AHeap) (k : Nat) (xs ys : List Int) (hx6 : xs.length ≤ 100) (x y : Int) (hx : xs[k]? = some x) (hy : ys[k]? = some y) (v w : AVal) (I : Ints v xs) (J : Ints w ys) (tmps : List AVal) (hl : tmps.length = 26) (h0 : tmps[0]? = some v) (h1 : tmps[1]? = some w) (h5 : tmps[5]? = some (.int .i64 k)) :
    (x ≠ y ∧ ∃ t : List AVal, ex Cf LS ⟨tmps, h⟩ = some (.ret, ⟨t, h⟩) ∧ t[4]? = some (.bool false)) ∨ (x = y ∧ ∃ t : List AVal, ex Cf LS ⟨tmps, h⟩ = some (.normal, ⟨t, h⟩) ∧ t.length = 26 ∧ t[0]? = some v ∧ t[1]? = some w ∧ t[5]? = some (.int .i64 (k + 1 : Nat))) := by
  have hk : k < xs.length := (List.getElem?_eq_some_iff.1 hx).1
  have hlt' : decide ((k : Int) < (xs.length : Int)) = true := by simp; omega
  have hw : IntKind.i64.wrap ((k : Int) + 1) = ((k + 1 : Nat) : Int) := by rw [wrap64 (by omega) (by omega)]; rfl
  have hal : alen Try.prog h 24 v = some (.int .i64 xs.length) := I.al h
  obtain ⟨c1, hix⟩ := I.ix2 hx
  obtain ⟨c2, hiy⟩ := J.ix2 hy
  by_cases hxy : x = y
  · right
    refine ⟨hxy, ?_⟩
    have he : (x != y) = false := by simpa using hxy
    simp only [LS, bodyOf, Try.f8, Cat, Bool.false_eq_true, e_seq, e_region, e_cond, e_block, ex_skip, ex_exit, ex_ret, o_cons, xops_nil, k_want_none, k_want_false, k_val, k_pan, k_call, k_ret, k_seq, k_seq_exit, k_seq_ret, k_true, k_false, k_block, k_block_exit, k_block_ret, k_loop, k_loop_exit, k_loop_ret, awanted, aoper, evalO, put, Option.getD_some, List.getElem?_set, acallOp, abuiltin, List.map_cons, List.map_nil, Nat.reduceEqDiff, Nat.reduceLT, List.length_set, Option.map_some, Option.bind_some, Option.bind_eq_bind, add_i, sub_i, mul_i, eql_i, neq_i, lss_i, leq_i, gtr_i, geq_i, ofV, ofCell, ↓reduceIte, List.cons_append, List.nil_append, List.append_nil, List.getElem?_toArray, List.getElem?_cons_succ, List.getElem?_cons_zero, e_draw, g_nil, g_cons, g_want, g_skip, g_val, g_call, g_ret, Option.map_none, hl, h0, h1, h5, hal, CP, hlt', hw, Ty.ix24, hix, hiy, Ty.ld3, ld_iptr, he]
    rw [k_draw _ _ _ (by kernel_rfl)]
    simp only [Bool.false_eq_true, e_seq, e_region, e_cond, e_block, ex_skip, ex_exit, ex_ret, o_cons, xops_nil, k_want_none, k_want_false, k_val, k_pan, k_call, k_ret, k_seq, k_seq_exit, k_seq_ret, k_true, k_false, k_block, k_block_exit, k_block_ret, k_loop, k_loop_exit, k_loop_ret, awanted, aoper, evalO, put, Option.getD_some, List.getElem?_set, acallOp, abuiltin, List.map_cons, List.map_nil, Nat.reduceEqDiff, Nat.reduceLT, List.length_set, Option.map_some, Option.bind_some, Option.bind_eq_bind, add_i, sub_i, mul_i, eql_i, neq_i, lss_i, leq_i, gtr_i, geq_i, ofV, ofCell, ↓reduceIte, List.cons_append, List.nil_append, List.append_nil, List.getElem?_toArray, List.getElem?_cons_succ, List.getElem?_cons_zero, e_draw, g_nil, g_cons, g_want, g_skip, g_val, g_call, g_ret, Option.map_none, hl, h0, h1, h5, hw, he]
    exact ⟨_, rfl, by simp [hl], by simp [h0], by simp [h1], by simp [hl]⟩
  · left
    refine ⟨hxy, ?_⟩
    have he : (x != y) = true := by simpa using hxy
    simp only [LS, bodyOf, Try.f8, Cat, Bool.false_eq_true, e_seq, e_region, e_cond, e_block, ex_skip, ex_exit, ex_ret, o_cons, xops_nil, k_want_none, k_want_false, k_val, k_pan, k_call, k_ret, k_seq, k_seq_exit, k_seq_ret, k_true, k_false, k_block, k_block_exit, k_block_ret, k_loop, k_loop_exit, k_loop_ret, awanted, aoper, evalO, put, Option.getD_some, List.getElem?_set, acallOp, abuiltin, List.map_cons, List.map_nil, Nat.reduceEqDiff, Nat.reduceLT, List.length_set, Option.map_some, Option.bind_some, Option.bind_eq_bind, add_i, sub_i, mul_i, eql_i, neq_i, lss_i, leq_i, gtr_i, geq_i, ofV, ofCell, ↓reduceIte, List.cons_append, List.nil_append, List.append_nil, List.getElem?_toArray, List.getElem?_cons_succ, List.getElem?_cons_zero, e_draw, g_nil, g_cons, g_want, g_skip, g_val, g_call, g_ret, Option.map_none, hl, h0, h1, h5, hal, CP, hlt', hw, Ty.ix24, hix, hiy, Ty.ld3, ld_iptr, he]
    rw [k_draw _ _ _ (by kernel_rfl)]
    simp only [Bool.false_eq_true, e_seq, e_region, e_cond, e_block, ex_skip, ex_exit, ex_ret, o_cons, xops_nil, k_want_none, k_want_false, k_val, k_pan, k_call, k_ret, k_seq, k_seq_exit, k_seq_ret, k_true, k_false, k_block, k_block_exit, k_block_ret, k_loop, k_loop_exit, k_loop_ret, awanted, aoper, evalO, put, Option.getD_some, List.getElem?_set, acallOp, abuiltin, List.map_cons, List.map_nil, Nat.reduceEqDiff, Nat.reduceLT, List.length_set, Option.map_some, Option.bind_some, Option.bind_eq_bind, add_i, sub_i, mul_i, eql_i, neq_i, lss_i, leq_i, gtr_i, geq_i, ofV, ofCell, ↓reduceIte, List.cons_append, List.nil_append, List.append_nil, List.getElem?_toArray, List.getElem?_cons_succ, List.getElem?_cons_zero, e_draw, g_nil, g_cons, g_want, g_skip, g_val, g_call, g_ret, Option.map_none, hl, h0, h1, h5, hw, he]
    exact ⟨_, rfl, by simp [hl]⟩
theorem LS_loop (h : AHeap) (v w : AVal) : ∀ (rx ry px : List Int) (py : List Int) (hp : px = py) (hlen : rx.length = ry.length) (hx6 : (px ++ rx).length ≤ 100) (I : Ints v (px ++ rx)) (J : Ints w (py ++ ry)) (tmps : List AVal) (hl : tmps.length = 26) (h0 : tmps[0]? = some v) (h1 : tmps[1]? = some w) (h5 : tmps[5]? = some (.int .i64 px.length)),
    ((rx == ry) = false ∧ ∃ t : List AVal, ex Cf (.loop LS) ⟨tmps, h⟩ = some (.ret, ⟨t, h⟩) ∧ t[4]? = some (.bool false)) ∨ ((rx == ry) = true ∧ ∃ t : List AVal, ex Cf (.loop LS) ⟨tmps, h⟩ = some (.exit 0, ⟨t, h⟩) ∧ t.length = 26) := by
  intro rx
  induction rx with
  | nil =>
    intro ry px py hp hlen hx6 I J tmps hl h0 h1 h5
    have hry : ry = [] := List.eq_nil_of_length_eq_zero hlen.symm
    subst hry
    obtain ⟨t, e, l1⟩ := LS_out h px.length px.length (by omega) (px ++ []) (by simp) v I tmps hl h0 h5
    exact .inr ⟨rfl, t, by rw [e_loop, e, k_loop_exit], l1⟩
  | cons x rx ih =>
    intro ry px py hp hlen hx6 I J tmps hl h0 h1 h5
    cases ry with
    | nil => cases hlen
    | cons y ry =>
      subst hp
      rcases LS_in h px.length (px ++ x :: rx) (px ++ y :: ry) hx6 x y (by simp) (by simp) v w I J tmps hl h0 h1 h5 with ⟨hxy, t, e, t4⟩ | ⟨hxy, t, e, l1, t0, t1, t5⟩
      · exact .inl ⟨by simp [hxy], t, by rw [e_loop, e, k_loop_ret], t4⟩
      · subst hxy
        have e1 : px ++ x :: rx = (px ++ [x]) ++ rx := by simp
        have e2 : px ++ x :: ry = (px ++ [x]) ++ ry := by simp
        rw [e1] at hx6 I
        rw [e2] at J
        rcases ih ry (px ++ [x]) (px ++ [x]) rfl (by simpa using hlen) hx6 I J t l1 t0 t1 (by simpa using t5) with ⟨q, t', e', t4⟩ | ⟨q, t', e', l'⟩
        · exact .inl ⟨by simpa using q, t', by rw [e_loop, e, k_loop]; exact e', t4⟩
        · exact .inr ⟨by simpa using q, t', by rw [e_loop, e, k_loop]; exact e', l'⟩
theorem same_run {v w : AVal} {xs ys : List Int} (I : Ints v xs) (J : Ints w ys) (hc : contBs [v, w] = true) (hx6 : xs.length ≤ 100) (h : AHeap) : run Cf 8 [v, w] h = some (.ret (.bool (xs == ys)), h) := by
  obtain ⟨a0, ha0⟩ : ∃ a0, a0 = slots Try.f8 [v, w] := ⟨_, rfl⟩
  have hl : a0.length = 26 := by rw [ha0]; rfl
  have i0 : a0[0]? = some v := by rw [ha0]; rfl
  have i1 : a0[1]? = some w := by rw [ha0]; rfl
  have hbody : bodyOf Try.f8 = .seq (Cat [false] (bodyOf Try.f8)) (.seq (Cat [true, false] (bodyOf Try.f8)) (.seq (.seq (Cat [true, true, false, false] (bodyOf Try.f8)) (.block 0 (.loop LS))) (Cat [true, true, true] (bodyOf Try.f8)))) := rfl
  have p1 : ∃ t, ex Cf (Cat [false] (bodyOf Try.f8)) ⟨a0, bare⟩ = some (.normal, ⟨t, bare⟩) ∧ t.length = 26 ∧ t[0]? = some v ∧ t[1]? = some w := by
    simp only [bodyOf, Try.f8, Cat, Bool.false_eq_true, e_seq, e_region, e_cond, e_block, ex_skip, ex_exit, ex_ret, o_cons, xops_nil, k_want_none, k_want_false, k_val, k_pan, k_call, k_ret, k_seq, k_seq_exit, k_seq_ret, k_true, k_false, k_block, k_block_exit, k_block_ret, k_loop, k_loop_exit, k_loop_ret, awanted, aoper, evalO, put, Option.getD_some, List.getElem?_set, acallOp, abuiltin, List.map_cons, List.map_nil, Nat.reduceEqDiff, Nat.reduceLT, List.length_set, Option.map_some, Option.bind_some, Option.bind_eq_bind, add_i, sub_i, mul_i, eql_i, neq_i, lss_i, leq_i, gtr_i, geq_i, ofV, ofCell, ↓reduceIte, List.cons_append, List.nil_append, List.append_nil, List.getElem?_toArray, List.getElem?_cons_succ, List.getElem?_cons_zero, e_draw, g_nil, g_cons, g_want, g_skip, g_val, g_call, g_ret, Option.map_none, hl]
    exact ⟨_, rfl, by simp [hl], by simp [i0], by simp [i1]⟩
  obtain ⟨t1, e1, l1, t10, t11⟩ := p1
  have a1 := I.al bare
  have a2 := J.al bare
  by_cases hn : xs.length = ys.length
  · have hb : ((xs.length : Int) != (ys.length : Int)) = false := by simp; omega
    have p2 : ∃ t, ex Cf (Cat [true, false] (bodyOf Try.f8)) ⟨t1, bare⟩ = some (.normal, ⟨t, bare⟩) ∧ t.length = 26 ∧ t[0]? = some v ∧ t[1]? = some w := by
      simp only [bodyOf, Try.f8, Cat, Bool.false_eq_true, e_seq, e_region, e_cond, e_block, ex_skip, ex_exit, ex_ret, o_cons, xops_nil, k_want_none, k_want_false, k_val, k_pan, k_call, k_ret, k_seq, k_seq_exit, k_seq_ret, k_true, k_false, k_block, k_block_exit, k_block_ret, k_loop, k_loop_exit, k_loop_ret, awanted, aoper, evalO, put, Option.getD_some, List.getElem?_set, acallOp, abuiltin, List.map_cons, List.map_nil, Nat.reduceEqDiff, Nat.reduceLT, List.length_set, Option.map_some, Option.bind_some, Option.bind_eq_bind, add_i, sub_i, mul_i, eql_i, neq_i, lss_i, leq_i, gtr_i, geq_i, ofV, ofCell, ↓reduceIte, List.cons_append, List.nil_append, List.append_nil, List.getElem?_toArray, List.getElem?_cons_succ, List.getElem?_cons_zero, e_draw, g_nil, g_cons, g_want, g_skip, g_val, g_call, g_ret, Option.map_none, l1, t10, t11, CP, a1, a2, hb]
      exact ⟨_, rfl, by simp [l1], by simp [t10], by simp [t11]⟩
    obtain ⟨t2, e2, l2, t20, t21⟩ := p2
    have p3 : ∃ t, ex Cf (Cat [true, true, false, false] (bodyOf Try.f8)) ⟨t2, bare⟩ = some (.normal, ⟨t, bare⟩) ∧ t.length = 26 ∧ t[0]? = some v ∧ t[1]? = some w ∧ t[5]? = some (.int .i64 0) := by
      simp only [bodyOf, Try.f8, Cat, Bool.false_eq_true, e_seq, e_region, e_cond, e_block, ex_skip, ex_exit, ex_ret, o_cons, xops_nil, k_want_none, k_want_false, k_val, k_pan, k_call, k_ret, k_seq, k_seq_exit, k_seq_ret, k_true, k_false, k_block, k_block_exit, k_block_ret, k_loop, k_loop_exit, k_loop_ret, awanted, aoper, evalO, put, Option.getD_some, List.getElem?_set, acallOp, abuiltin, List.map_cons, List.map_nil, Nat.reduceEqDiff, Nat.reduceLT, List.length_set, Option.map_some, Option.bind_some, Option.bind_eq_bind, add_i, sub_i, mul_i, eql_i, neq_i, lss_i, leq_i, gtr_i, geq_i, ofV, ofCell, ↓reduceIte, List.cons_append, List.nil_append, List.append_nil, List.getElem?_toArray, List.getElem?_cons_succ, List.getElem?_cons_zero, e_draw, g_nil, g_cons, g_want, g_skip, g_val, g_call, g_ret, Option.map_none, l2]
      exact ⟨_, rfl, by simp [l2], by simp [t20], by simp [t21], by simp [l2]⟩
    obtain ⟨t3, e3, l3, t30, t31, t35⟩ := p3
    rcases LS_loop bare v w xs ys [] [] rfl hn (by simpa using hx6) I J t3 l3 t30 t31 t35 with ⟨q, t4, e4, t44⟩ | ⟨q, t4, e4, l4⟩
    · rw [q]
      exact fn_runC (fn := Try.f8) (x := .ret) Try.func8 rfl rfl rfl hc (.inl rfl) (by rw [← ha0, hbody, e_seq, e1, k_seq, e_seq, e2, k_seq, e_seq, e_seq, e3, k_seq, e_block, e4, k_block_ret, k_seq_ret]) (vs := [_]) (by simp only [show Try.f8.results.toList = [ResultVar.tmp 4] from rfl, aresults, ares1, t44]; rfl) rfl h
    · have p5 : ∃ t, ex Cf (Cat [true, true, true] (bodyOf Try.f8)) ⟨t4, bare⟩ = some (.ret, ⟨t, bare⟩) ∧ t[4]? = some (.bool true) := by
        simp only [bodyOf, Try.f8, Cat, Bool.false_eq_true, e_seq, e_region, e_cond, e_block, ex_skip, ex_exit, ex_ret, o_cons, xops_nil, k_want_none, k_want_false, k_val, k_pan, k_call, k_ret, k_seq, k_seq_exit, k_seq_ret, k_true, k_false, k_block, k_block_exit, k_block_ret, k_loop, k_loop_exit, k_loop_ret, awanted, aoper, evalO, put, Option.getD_some, List.getElem?_set, acallOp, abuiltin, List.map_cons, List.map_nil, Nat.reduceEqDiff, Nat.reduceLT, List.length_set, Option.map_some, Option.bind_some, Option.bind_eq_bind, add_i, sub_i, mul_i, eql_i, neq_i, lss_i, leq_i, gtr_i, geq_i, ofV, ofCell, ↓reduceIte, List.cons_append, List.nil_append, List.append_nil, List.getElem?_toArray, List.getElem?_cons_succ, List.getElem?_cons_zero, e_draw, g_nil, g_cons, g_want, g_skip, g_val, g_call, g_ret, Option.map_none, l4]
        exact ⟨_, rfl, by simp [l4]⟩
      obtain ⟨t5, e5, t54⟩ := p5
      rw [q]
      exact fn_runC (fn := Try.f8) (x := .ret) Try.func8 rfl rfl rfl hc (.inl rfl) (by rw [← ha0, hbody, e_seq, e1, k_seq, e_seq, e2, k_seq, e_seq, e_seq, e3, k_seq, e_block, e4, k_block_exit, if_pos rfl, k_seq, e5]) (vs := [_]) (by simp only [show Try.f8.results.toList = [ResultVar.tmp 4] from rfl, aresults, ares1, t54]; rfl) rfl h
  · have hb : ((xs.length : Int) != (ys.length : Int)) = true := by simp; omega
    have hne : (xs == ys) = false := by
      rw [beq_eq_false_iff_ne]
      rintro rfl
      exact hn rfl
    have p2 : ∃ t, ex Cf (Cat [true, false] (bodyOf Try.f8)) ⟨t1, bare⟩ = some (.ret, ⟨t, bare⟩) ∧ t[4]? = some (.bool false) := by
      simp only [bodyOf, Try.f8, Cat, Bool.false_eq_true, e_seq, e_region, e_cond, e_block, ex_skip, ex_exit, ex_ret, o_cons, xops_nil, k_want_none, k_want_false, k_val, k_pan, k_call, k_ret, k_seq, k_seq_exit, k_seq_ret, k_true, k_false, k_block, k_block_exit, k_block_ret, k_loop, k_loop_exit, k_loop_ret, awanted, aoper, evalO, put, Option.getD_some, List.getElem?_set, acallOp, abuiltin, List.map_cons, List.map_nil, Nat.reduceEqDiff, Nat.reduceLT, List.length_set, Option.map_some, Option.bind_some, Option.bind_eq_bind, add_i, sub_i, mul_i, eql_i, neq_i, lss_i, leq_i, gtr_i, geq_i, ofV, ofCell, ↓reduceIte, List.cons_append, List.nil_append, List.append_nil, List.getElem?_toArray, List.getElem?_cons_succ, List.getElem?_cons_zero, e_draw, g_nil, g_cons, g_want, g_skip, g_val, g_call, g_ret, Option.map_none, l1, t10, t11, CP, a1, a2, hb]
      exact ⟨_, rfl, by simp [l1]⟩
    obtain ⟨t2, e2, t24⟩ := p2
    rw [hne]
    exact fn_runC (fn := Try.f8) (x := .ret) Try.func8 rfl rfl rfl hc (.inl rfl) (by rw [← ha0, hbody, e_seq, e1, k_seq, e_seq, e2, k_seq_ret]) (vs := [_]) (by simp only [show Try.f8.results.toList = [ResultVar.tmp 4] from rfl, aresults, ares1, t24]; rfl) rfl h
end Go.Proofs.Cube
