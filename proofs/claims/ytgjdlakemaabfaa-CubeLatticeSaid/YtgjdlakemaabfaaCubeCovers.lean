/-
  CUBE: Covers and Between.
-/
import Derived.Test.YtgjdlakemaabfaaCubeGrows
set_option linter.unusedVariables false
set_option linter.unusedSimpArgs false
set_option linter.unusedSimpArgs false
set_option linter.unusedVariables false
set_option maxRecDepth 100000
namespace Go.Proofs.Cube
open Go Go.Am Go.Proofs Go.RowKit

theorem andNot_i (xo yo : Operand) (h : AHeap) (a b : Int) : abin Cf .andNot 3 xo yo h (.int .i64 a) (.int .i64 b) = some (.int .i64 (bits .andNot .i64 a b)) := by kernel_rfl
def isSetB (x : Int) : Bool := decide (0 ≤ x) && decide (x ≤ 63)
theorem isSet_run (h : AHeap) (x : Int) : run Cf 31 [.int .i64 x] h = some (.ret (.bool (isSetB x)), h) := by
  obtain ⟨a0, ha0⟩ : ∃ a0, a0 = slots Try.f31 [.int .i64 x] := ⟨_, rfl⟩
  have hl : a0.length = 9 := by rw [ha0]; rfl
  have i0 : a0[0]? = some (.int .i64 x) := by rw [ha0]; rfl
  have p : ∃ t, ex Cf (bodyOf Try.f31) ⟨a0, h⟩ = some (.ret, ⟨t, h⟩) ∧ t[2]? = some (.bool (isSetB x)) := by
    cases h0 : decide (0 ≤ x) with
    | true =>
      have h0' : decide (x ≥ 0) = true := h0
      simp only [bodyOf, Try.f31, Cat, Bool.false_eq_true, e_seq, e_region, e_cond, e_block, ex_skip, ex_exit, ex_ret, o_cons, xops_nil, k_want_none, k_want_false, k_val, k_pan, k_call, k_ret, k_seq, k_seq_exit, k_seq_ret, k_true, k_false, k_block, k_block_exit, k_block_ret, k_loop, k_loop_exit, k_loop_ret, awanted, aoper, evalO, put, Option.getD_some, List.getElem?_set, acallOp, abuiltin, List.map_cons, List.map_nil, Nat.reduceEqDiff, Nat.reduceLT, List.length_set, Option.map_some, Option.bind_some, Option.bind_eq_bind, add_i, sub_i, mul_i, eql_i, neq_i, lss_i, leq_i, gtr_i, geq_i, ofV, ofCell, ↓reduceIte, List.cons_append, List.nil_append, List.append_nil, List.getElem?_toArray, List.getElem?_cons_succ, List.getElem?_cons_zero, e_draw, g_nil, g_cons, g_want, g_skip, g_val, g_call, g_ret, Option.map_none, hl, i0, h0', show ((true : Bool) == true) = true from rfl]
      exact ⟨_, rfl, by simp [hl, isSetB, h0]⟩
    | false =>
      have h0' : decide (x ≥ 0) = false := h0
      simp only [bodyOf, Try.f31, Cat, Bool.false_eq_true, e_seq, e_region, e_cond, e_block, ex_skip, ex_exit, ex_ret, o_cons, xops_nil, k_want_none, k_want_false, k_val, k_pan, k_call, k_ret, k_seq, k_seq_exit, k_seq_ret, k_true, k_false, k_block, k_block_exit, k_block_ret, k_loop, k_loop_exit, k_loop_ret, awanted, aoper, evalO, put, Option.getD_some, List.getElem?_set, acallOp, abuiltin, List.map_cons, List.map_nil, Nat.reduceEqDiff, Nat.reduceLT, List.length_set, Option.map_some, Option.bind_some, Option.bind_eq_bind, add_i, sub_i, mul_i, eql_i, neq_i, lss_i, leq_i, gtr_i, geq_i, ofV, ofCell, ↓reduceIte, List.cons_append, List.nil_append, List.append_nil, List.getElem?_toArray, List.getElem?_cons_succ, List.getElem?_cons_zero, e_draw, g_nil, g_cons, g_want, g_skip, g_val, g_call, g_ret, Option.map_none, hl, i0, h0', show ((false : Bool) == true) = false from rfl]
      exact ⟨_, rfl, by simp [hl, isSetB, h0]⟩
  obtain ⟨t, e, t2⟩ := p
  exact fn_run (fn := Try.f31) (x := .ret) Try.func31 rfl rfl rfl (.inl rfl) (by rw [← ha0]; exact e) (vs := [_]) (by simp only [show Try.f31.results.toList = [ResultVar.tmp 2] from rfl, aresults, ares1, t2]; rfl)

def coversI (v n : Int) : Bool := isSetB v && isSetB n && (bits .andNot .i64 n v == 0)
theorem covers_run (h : AHeap) (v n : Int) : run Cf 17 [.int .i64 v, .int .i64 n] h = some (.ret (.bool (coversI v n)), h) := by
  obtain ⟨a0, ha0⟩ : ∃ a0, a0 = slots Try.f17 [.int .i64 v, .int .i64 n] := ⟨_, rfl⟩
  have hl : a0.length = 17 := by rw [ha0]; rfl
  have i0 : a0[0]? = some (.int .i64 v) := by rw [ha0]; rfl
  have i1 : a0[1]? = some (.int .i64 n) := by rw [ha0]; rfl
  have p : ∃ t, ex Cf (bodyOf Try.f17) ⟨a0, bare⟩ = some (.ret, ⟨t, bare⟩) ∧ t[4]? = some (.bool (coversI v n)) := by
    cases h0 : isSetB v with
    | true =>
      cases h1 : isSetB n with
      | true =>
        simp only [bodyOf, Try.f17, Cat, Bool.false_eq_true, e_seq, e_region, e_cond, e_block, ex_skip, ex_exit, ex_ret, o_cons, xops_nil, k_want_none, k_want_false, k_val, k_pan, k_call, k_ret, k_seq, k_seq_exit, k_seq_ret, k_true, k_false, k_block, k_block_exit, k_block_ret, k_loop, k_loop_exit, k_loop_ret, awanted, aoper, evalO, put, Option.getD_some, List.getElem?_set, acallOp, abuiltin, List.map_cons, List.map_nil, Nat.reduceEqDiff, Nat.reduceLT, List.length_set, Option.map_some, Option.bind_some, Option.bind_eq_bind, add_i, sub_i, mul_i, eql_i, neq_i, lss_i, leq_i, gtr_i, geq_i, ofV, ofCell, ↓reduceIte, List.cons_append, List.nil_append, List.append_nil, List.getElem?_toArray, List.getElem?_cons_succ, List.getElem?_cons_zero, e_draw, g_nil, g_cons, g_want, g_skip, g_val, g_call, g_ret, Option.map_none, hl, i0, i1, isSet_run, h0, h1, andNot_i, show ((true : Bool) == true) = true from rfl]
        exact ⟨_, rfl, by simp [hl, coversI, h0, h1]⟩
      | false =>
        simp only [bodyOf, Try.f17, Cat, Bool.false_eq_true, e_seq, e_region, e_cond, e_block, ex_skip, ex_exit, ex_ret, o_cons, xops_nil, k_want_none, k_want_false, k_val, k_pan, k_call, k_ret, k_seq, k_seq_exit, k_seq_ret, k_true, k_false, k_block, k_block_exit, k_block_ret, k_loop, k_loop_exit, k_loop_ret, awanted, aoper, evalO, put, Option.getD_some, List.getElem?_set, acallOp, abuiltin, List.map_cons, List.map_nil, Nat.reduceEqDiff, Nat.reduceLT, List.length_set, Option.map_some, Option.bind_some, Option.bind_eq_bind, add_i, sub_i, mul_i, eql_i, neq_i, lss_i, leq_i, gtr_i, geq_i, ofV, ofCell, ↓reduceIte, List.cons_append, List.nil_append, List.append_nil, List.getElem?_toArray, List.getElem?_cons_succ, List.getElem?_cons_zero, e_draw, g_nil, g_cons, g_want, g_skip, g_val, g_call, g_ret, Option.map_none, hl, i0, i1, isSet_run, h0, h1, andNot_i, show ((true : Bool) == true) = true from rfl, show ((false : Bool) == true) = false from rfl]
        exact ⟨_, rfl, by simp [hl, coversI, h0, h1]⟩
    | false =>
      simp only [bodyOf, Try.f17, Cat, Bool.false_eq_true, e_seq, e_region, e_cond, e_block, ex_skip, ex_exit, ex_ret, o_cons, xops_nil, k_want_none, k_want_false, k_val, k_pan, k_call, k_ret, k_seq, k_seq_exit, k_seq_ret, k_true, k_false, k_block, k_block_exit, k_block_ret, k_loop, k_loop_exit, k_loop_ret, awanted, aoper, evalO, put, Option.getD_some, List.getElem?_set, acallOp, abuiltin, List.map_cons, List.map_nil, Nat.reduceEqDiff, Nat.reduceLT, List.length_set, Option.map_some, Option.bind_some, Option.bind_eq_bind, add_i, sub_i, mul_i, eql_i, neq_i, lss_i, leq_i, gtr_i, geq_i, ofV, ofCell, ↓reduceIte, List.cons_append, List.nil_append, List.append_nil, List.getElem?_toArray, List.getElem?_cons_succ, List.getElem?_cons_zero, e_draw, g_nil, g_cons, g_want, g_skip, g_val, g_call, g_ret, Option.map_none, hl, i0, i1, isSet_run, h0, andNot_i, show ((true : Bool) == true) = true from rfl, show ((false : Bool) == true) = false from rfl]
      exact ⟨_, rfl, by simp [hl, coversI, h0]⟩
  obtain ⟨t, e, t4⟩ := p
  exact fn_runC (fn := Try.f17) (x := .ret) Try.func17 rfl rfl rfl rfl (.inl rfl) (by rw [← ha0]; exact e) (vs := [_]) (by simp only [show Try.f17.results.toList = [ResultVar.tmp 4] from rfl, aresults, ares1, t4]; rfl) rfl h

/-! ### Between -/
theorem own94 : Cf.own "cube.go:94" = false := by kernel_rfl
def betw (low high : Int) (k : Nat) : List Int := ((List.range k).filter fun s : Nat => coversI s low && coversI high s).map fun s : Nat => (s : Int)
theorem betw_succ_in {low high : Int} {k : Nat} (h : (coversI k low && coversI high k) = true) : betw low high (k + 1) = betw low high k ++ [(k : Int)] := by
  unfold betw
  rw [List.range_succ, List.filter_append, List.filter_cons_of_pos (by simpa using h)]
  simp
theorem betw_succ_out {low high : Int} {k : Nat} (h : (coversI k low && coversI high k) = false) : betw low high (k + 1) = betw low high k := by
  unfold betw
  rw [List.range_succ, List.filter_append, List.filter_cons_of_neg (by simpa using h)]
  simp
theorem betw_len (low high : Int) (k : Nat) : (betw low high k).length ≤ k := by
  have := List.length_filter_le (fun s : Nat => coversI s low && coversI high s) (List.range k)
  simpa [betw] using this
noncomputable def LW : Code := Cat [true, true, true, false, true, true, true] (bodyOf Try.f15)
theorem LW_out (h : AHeap) (tmps : List AVal) (hl : tmps.length = 28) (h11 : tmps[11]? = some (.int .i64 64)) :
    ex Cf LW ⟨tmps, h⟩ = some (.exit 0, ⟨tmps.set 12 (.bool false), h⟩) := by
  simp only [LW, bodyOf, Try.f15, Cat, Bool.false_eq_true, e_seq, e_region, e_cond, e_block, ex_skip, ex_exit, ex_ret, o_cons, xops_nil, k_want_none, k_want_false, k_val, k_pan, k_call, k_ret, k_seq, k_seq_exit, k_seq_ret, k_true, k_false, k_block, k_block_exit, k_block_ret, k_loop, k_loop_exit, k_loop_ret, awanted, aoper, evalO, put, Option.getD_some, List.getElem?_set, acallOp, abuiltin, List.map_cons, List.map_nil, Nat.reduceEqDiff, Nat.reduceLT, List.length_set, Option.map_some, Option.bind_some, Option.bind_eq_bind, add_i, sub_i, mul_i, eql_i, neq_i, lss_i, leq_i, gtr_i, geq_i, ofV, ofCell, ↓reduceIte, List.cons_append, List.nil_append, List.append_nil, List.getElem?_toArray, List.getElem?_cons_succ, List.getElem?_cons_zero, e_draw, g_nil, g_cons, g_want, g_skip, g_val, g_call, g_ret, Option.map_none, hl, h11, show decide ((64 : Int) < 64) = false from rfl]
theorem LW_in (h : AHeap) (low high : Int) (k : Nat) (hk : k < 64) (lv : AVal) (A : Acc 1 h lv ((betw low high k).map (AVal.int .i64)) (betw low high k).length) (tmps : List AVal) (hl : tmps.length = 28) (h0 : tmps[0]? = some (.int .i64 low)) (h1 : tmps[1]? = some (.int .i64 high)) (h5 : tmps[5]? = some lv) (h11 : tmps[11]? = some (.int .i64 k)) :
    ∃ t h' v', ex Cf LW ⟨tmps, h⟩ = some (.normal, ⟨t, h'⟩) ∧ t.length = 28 ∧ t[0]? = some (.int .i64 low) ∧ t[1]? = some (.int .i64 high) ∧ t[5]? = some v' ∧ t[11]? = some (.int .i64 (k + 1 : Nat)) ∧ Acc 1 h' v' ((betw low high (k + 1)).map (AVal.int .i64)) (betw low high (k + 1)).length := by
  have hlt' : decide ((k : Int) < 64) = true := by simp; omega
  have hw : IntKind.i64.wrap ((k : Int) + 1) = ((k + 1 : Nat) : Int) := by rw [wrap64 (by omega) (by omega)]; rfl
  have hbl := betw_len low high k
  cases c1 : coversI k low with
  | false =>
    rw [betw_succ_out (by rw [c1]; rfl)]
    refine ⟨_, h, lv, by
      simp only [LW, bodyOf, Try.f15, Cat, Bool.false_eq_true, e_seq, e_region, e_cond, e_block, ex_skip, ex_exit, ex_ret, o_cons, xops_nil, k_want_none, k_want_false, k_val, k_pan, k_call, k_ret, k_seq, k_seq_exit, k_seq_ret, k_true, k_false, k_block, k_block_exit, k_block_ret, k_loop, k_loop_exit, k_loop_ret, awanted, aoper, evalO, put, Option.getD_some, List.getElem?_set, acallOp, abuiltin, List.map_cons, List.map_nil, Nat.reduceEqDiff, Nat.reduceLT, List.length_set, Option.map_some, Option.bind_some, Option.bind_eq_bind, add_i, sub_i, mul_i, eql_i, neq_i, lss_i, leq_i, gtr_i, geq_i, ofV, ofCell, ↓reduceIte, List.cons_append, List.nil_append, List.append_nil, List.getElem?_toArray, List.getElem?_cons_succ, List.getElem?_cons_zero, e_draw, g_nil, g_cons, g_want, g_skip, g_val, g_call, g_ret, Option.map_none, hl, h0, h1, h5, h11, hlt', hw, CP, covers_run, c1, show ((true : Bool) == true) = true from rfl, show ((false : Bool) == true) = false from rfl]
      exact rfl, by simp [hl], by simp [h0], by simp [h1], by simp [h5], by simp [hl], A⟩
  | true =>
    cases c2 : coversI high k with
    | false =>
      rw [betw_succ_out (by rw [c1, c2]; rfl)]
      refine ⟨_, h, lv, by
        simp only [LW, bodyOf, Try.f15, Cat, Bool.false_eq_true, e_seq, e_region, e_cond, e_block, ex_skip, ex_exit, ex_ret, o_cons, xops_nil, k_want_none, k_want_false, k_val, k_pan, k_call, k_ret, k_seq, k_seq_exit, k_seq_ret, k_true, k_false, k_block, k_block_exit, k_block_ret, k_loop, k_loop_exit, k_loop_ret, awanted, aoper, evalO, put, Option.getD_some, List.getElem?_set, acallOp, abuiltin, List.map_cons, List.map_nil, Nat.reduceEqDiff, Nat.reduceLT, List.length_set, Option.map_some, Option.bind_some, Option.bind_eq_bind, add_i, sub_i, mul_i, eql_i, neq_i, lss_i, leq_i, gtr_i, geq_i, ofV, ofCell, ↓reduceIte, List.cons_append, List.nil_append, List.append_nil, List.getElem?_toArray, List.getElem?_cons_succ, List.getElem?_cons_zero, e_draw, g_nil, g_cons, g_want, g_skip, g_val, g_call, g_ret, Option.map_none, hl, h0, h1, h5, h11, hlt', hw, CP, covers_run, c1, c2, show ((true : Bool) == true) = true from rfl, show ((false : Bool) == true) = false from rfl]
        exact rfl, by simp [hl], by simp [h0], by simp [h1], by simp [h5], by simp [hl], A⟩
    | true =>
      rw [betw_succ_in (by rw [c1, c2]; rfl)]
      obtain ⟨v', h', hap, A', _⟩ := append_acc (bytes := 8) (m := 1) (new := [.int .i64 (k : Int)]) (cap := .full) A rfl (by omega) rfl (by omega) (by omega)
      refine ⟨_, h', v', by
        simp only [LW, bodyOf, Try.f15, Cat, Bool.false_eq_true, e_seq, e_region, e_cond, e_block, ex_skip, ex_exit, ex_ret, o_cons, xops_nil, k_want_none, k_want_false, k_val, k_pan, k_call, k_ret, k_seq, k_seq_exit, k_seq_ret, k_true, k_false, k_block, k_block_exit, k_block_ret, k_loop, k_loop_exit, k_loop_ret, awanted, aoper, evalO, put, Option.getD_some, List.getElem?_set, acallOp, abuiltin, List.map_cons, List.map_nil, Nat.reduceEqDiff, Nat.reduceLT, List.length_set, Option.map_some, Option.bind_some, Option.bind_eq_bind, add_i, sub_i, mul_i, eql_i, neq_i, lss_i, leq_i, gtr_i, geq_i, ofV, ofCell, ↓reduceIte, List.cons_append, List.nil_append, List.append_nil, List.getElem?_toArray, List.getElem?_cons_succ, List.getElem?_cons_zero, e_draw, g_nil, g_cons, g_want, g_skip, g_val, g_call, g_ret, Option.map_none, hl, h0, h1, h5, h11, hlt', hw, CP, covers_run, c1, c2, Ty.bs24_1, own94, Ty.ap24, hap, show ((true : Bool) == true) = true from rfl]
        exact rfl, by simp [hl], by simp [h0], by simp [h1], by simp [hl], by simp [hl], by simpa using A'⟩
theorem LW_loop (low high : Int) : ∀ (m k : Nat) (hk : k + m = 64) (h : AHeap) (lv : AVal) (A : Acc 1 h lv ((betw low high k).map (AVal.int .i64)) (betw low high k).length) (tmps : List AVal) (hl : tmps.length = 28) (h0 : tmps[0]? = some (.int .i64 low)) (h1 : tmps[1]? = some (.int .i64 high)) (h5 : tmps[5]? = some lv) (h11 : tmps[11]? = some (.int .i64 k)),
    ∃ (t : List AVal) (h' : AHeap) (v' : AVal), ex Cf (.loop LW) ⟨tmps, h⟩ = some (.exit 0, ⟨t, h'⟩) ∧ t.length = 28 ∧ t[5]? = some v' ∧ Acc 1 h' v' ((betw low high 64).map (AVal.int .i64)) (betw low high 64).length := by
  intro m
  induction m with
  | zero =>
    intro k hk h lv A tmps hl h0 h1 h5 h11
    obtain rfl : k = 64 := by omega
    rw [e_loop, LW_out h tmps hl h11, k_loop_exit]
    exact ⟨_, h, lv, rfl, by simp [hl], by simp [h5], A⟩
  | succ m ih =>
    intro k hk h lv A tmps hl h0 h1 h5 h11
    obtain ⟨t1, g1, v1, e1, l1, t10, t11, t15, t111, A1⟩ := LW_in h low high k (by omega) lv A tmps hl h0 h1 h5 h11
    obtain ⟨t2, g2, v2, e2, q⟩ := ih (k + 1) (by omega) g1 v1 A1 t1 l1 t10 t11 t15 t111
    exact ⟨t2, g2, v2, by rw [e_loop, e1, k_loop]; exact e2, q⟩

theorem contBs_ints (xs : List Int) : contBs (xs.map (AVal.int .i64)) = true := by
  rw [contBs_iff]
  intro v hv
  obtain ⟨x, _, rfl⟩ := List.mem_map.1 hv
  rfl
def betweenL (low high : Int) : List Int := if coversI high low then betw low high 64 else []
/-- A list of numbers, as content. -/
def Ints (v : AVal) (xs : List Int) : Prop := (v = .nilSl ∧ xs = []) ∨ ∃ cap, v = .lst (xs.map (AVal.int .i64)) xs.length cap
theorem ints_V (xs : List Int) : Ints (intsV xs) xs := by
  cases xs with
  | nil => exact .inl ⟨rfl, rfl⟩
  | cons x xs => exact .inr ⟨_, rfl⟩
theorem Ints.al {v : AVal} {xs : List Int} (I : Ints v xs) (h : AHeap) : alen Try.prog h 24 v = some (.int .i64 xs.length) := by
  rcases I with ⟨rfl, rfl⟩ | ⟨cap, rfl⟩
  · kernel_rfl
  · exact Ty.le24 _ _ _ _
theorem Ints.ix {v : AVal} {xs : List Int} (I : Ints v xs) {i : Nat} {x : Int} (hx : xs[i]? = some x) : ∃ a, indexAddrA 1 v (i : Int) = some a ∧ ∀ h, loadA h false 1 a = some (.int .i64 x) := by
  have hi : i < xs.length := (List.getElem?_eq_some_iff.1 hx).1
  rcases I with ⟨rfl, rfl⟩ | ⟨cap, rfl⟩
  · cases hx
  · exact ⟨_, ix_lst hi, fun h => by rw [ld_iptr]; simp [hx]⟩
/-- A list of numbers, as content that may be handed on. -/
def IntsC (v : AVal) (xs : List Int) : Prop := Ints v xs ∧ contB v = true
theorem norm_acc {h : AHeap} {v : AVal} {xs : List Int} (A : Acc 1 h v (xs.map (AVal.int .i64)) xs.length) (hd : AHeap) : ∃ v', normRes (fun _ => false) hd depth (.ret v) = some (.ret v') ∧ IntsC v' xs := by
  rcases A with ⟨rfl, h1, h2⟩ | ⟨r, rfl, hl, _, _⟩
  · obtain rfl : xs = [] := by simpa using h1
    exact ⟨_, rfl, .inl ⟨rfl, rfl⟩, rfl⟩
  · refine ⟨.lst (xs.map (AVal.int .i64)) xs.length .unk, ?_, .inr ⟨_, rfl⟩, by simp [contB, contBs_ints]⟩
    simp only [normRes, norm, normW, normL_cont _ _ _ (contBs_ints xs), Option.map_some]
theorem between_run (low high : Int) : ∃ v, IntsC v (betweenL low high) ∧ ∀ h, run Cf 15 [.int .i64 low, .int .i64 high] h = some (.ret v, h) := by
  obtain ⟨a0, ha0⟩ : ∃ a0, a0 = slots Try.f15 [.int .i64 low, .int .i64 high] := ⟨_, rfl⟩
  have hl : a0.length = 28 := by rw [ha0]; rfl
  have i0 : a0[0]? = some (.int .i64 low) := by rw [ha0]; rfl
  have i1 : a0[1]? = some (.int .i64 high) := by rw [ha0]; rfl
  have hbody : bodyOf Try.f15 = .seq (Cat [false] (bodyOf Try.f15)) (.seq (Cat [true, false] (bodyOf Try.f15)) (.seq (Cat [true, true, false] (bodyOf Try.f15)) (.seq (.seq (Cat [true, true, true, false, false] (bodyOf Try.f15)) (.block 0 (.loop LW))) (Cat [true, true, true, true] (bodyOf Try.f15))))) := rfl
  have p1 : ∃ t, ex Cf (Cat [false] (bodyOf Try.f15)) ⟨a0, bare⟩ = some (.normal, ⟨t, bare⟩) ∧ t.length = 28 ∧ t[0]? = some (.int .i64 low) ∧ t[1]? = some (.int .i64 high) := by
    simp only [bodyOf, Try.f15, Cat, Bool.false_eq_true, e_seq, e_region, e_cond, e_block, ex_skip, ex_exit, ex_ret, o_cons, xops_nil, k_want_none, k_want_false, k_val, k_pan, k_call, k_ret, k_seq, k_seq_exit, k_seq_ret, k_true, k_false, k_block, k_block_exit, k_block_ret, k_loop, k_loop_exit, k_loop_ret, awanted, aoper, evalO, put, Option.getD_some, List.getElem?_set, acallOp, abuiltin, List.map_cons, List.map_nil, Nat.reduceEqDiff, Nat.reduceLT, List.length_set, Option.map_some, Option.bind_some, Option.bind_eq_bind, add_i, sub_i, mul_i, eql_i, neq_i, lss_i, leq_i, gtr_i, geq_i, ofV, ofCell, ↓reduceIte, List.cons_append, List.nil_append, List.append_nil, List.getElem?_toArray, List.getElem?_cons_succ, List.getElem?_cons_zero, e_draw, g_nil, g_cons, g_want, g_skip, g_val, g_call, g_ret, Option.map_none, hl]
    exact ⟨_, rfl, by simp [hl], by simp [i0], by simp [i1]⟩
  obtain ⟨t1, e1, l1, t10, t11⟩ := p1
  have hn1 : aun Cf .not (.bool true) = some (.bool false) := rfl
  have hn2 : aun Cf .not (.bool false) = some (.bool true) := rfl
  cases hc : coversI high low with
  | false =>
    have p2 : ∃ t, ex Cf (Cat [true, false] (bodyOf Try.f15)) ⟨t1, bare⟩ = some (.ret, ⟨t, bare⟩) ∧ t[4]? = some .nilSl := by
      simp only [bodyOf, Try.f15, Cat, Bool.false_eq_true, e_seq, e_region, e_cond, e_block, ex_skip, ex_exit, ex_ret, o_cons, xops_nil, k_want_none, k_want_false, k_val, k_pan, k_call, k_ret, k_seq, k_seq_exit, k_seq_ret, k_true, k_false, k_block, k_block_exit, k_block_ret, k_loop, k_loop_exit, k_loop_ret, awanted, aoper, evalO, put, Option.getD_some, List.getElem?_set, acallOp, abuiltin, List.map_cons, List.map_nil, Nat.reduceEqDiff, Nat.reduceLT, List.length_set, Option.map_some, Option.bind_some, Option.bind_eq_bind, add_i, sub_i, mul_i, eql_i, neq_i, lss_i, leq_i, gtr_i, geq_i, ofV, ofCell, ↓reduceIte, List.cons_append, List.nil_append, List.append_nil, List.getElem?_toArray, List.getElem?_cons_succ, List.getElem?_cons_zero, e_draw, g_nil, g_cons, g_want, g_skip, g_val, g_call, g_ret, Option.map_none, l1, t10, t11, covers_run, hc, hn2]
      exact ⟨_, rfl, by simp [l1]⟩
    obtain ⟨t2, e2, t24⟩ := p2
    refine ⟨.nilSl, ⟨.inl ⟨rfl, by unfold betweenL; rw [hc]; rfl⟩, rfl⟩, fun h => ?_⟩
    exact fn_runC (fn := Try.f15) (x := .ret) Try.func15 rfl rfl rfl rfl (.inl rfl) (by rw [← ha0, hbody, e_seq, e1, k_seq, e_seq, e2, k_seq_ret]) (vs := [_]) (by simp only [show Try.f15.results.toList = [ResultVar.tmp 4] from rfl, aresults, ares1, t24]; rfl) rfl h
  | true =>
    have p2 : ∃ t, ex Cf (Cat [true, false] (bodyOf Try.f15)) ⟨t1, bare⟩ = some (.normal, ⟨t, bare⟩) ∧ t.length = 28 ∧ t[0]? = some (.int .i64 low) ∧ t[1]? = some (.int .i64 high) := by
      simp only [bodyOf, Try.f15, Cat, Bool.false_eq_true, e_seq, e_region, e_cond, e_block, ex_skip, ex_exit, ex_ret, o_cons, xops_nil, k_want_none, k_want_false, k_val, k_pan, k_call, k_ret, k_seq, k_seq_exit, k_seq_ret, k_true, k_false, k_block, k_block_exit, k_block_ret, k_loop, k_loop_exit, k_loop_ret, awanted, aoper, evalO, put, Option.getD_some, List.getElem?_set, acallOp, abuiltin, List.map_cons, List.map_nil, Nat.reduceEqDiff, Nat.reduceLT, List.length_set, Option.map_some, Option.bind_some, Option.bind_eq_bind, add_i, sub_i, mul_i, eql_i, neq_i, lss_i, leq_i, gtr_i, geq_i, ofV, ofCell, ↓reduceIte, List.cons_append, List.nil_append, List.append_nil, List.getElem?_toArray, List.getElem?_cons_succ, List.getElem?_cons_zero, e_draw, g_nil, g_cons, g_want, g_skip, g_val, g_call, g_ret, Option.map_none, l1, t10, t11, covers_run, hc, hn1]
      exact ⟨_, rfl, by simp [l1], by simp [t10], by simp [t11]⟩
    obtain ⟨t2, e2, l2, t20, t21⟩ := p2
    have p3 : ∃ t, ex Cf (Cat [true, true, false] (bodyOf Try.f15)) ⟨t2, bare⟩ = some (.normal, ⟨t, bare⟩) ∧ t.length = 28 ∧ t[0]? = some (.int .i64 low) ∧ t[1]? = some (.int .i64 high) ∧ t[5]? = some .nilSl := by
      simp only [bodyOf, Try.f15, Cat, Bool.false_eq_true, e_seq, e_region, e_cond, e_block, ex_skip, ex_exit, ex_ret, o_cons, xops_nil, k_want_none, k_want_false, k_val, k_pan, k_call, k_ret, k_seq, k_seq_exit, k_seq_ret, k_true, k_false, k_block, k_block_exit, k_block_ret, k_loop, k_loop_exit, k_loop_ret, awanted, aoper, evalO, put, Option.getD_some, List.getElem?_set, acallOp, abuiltin, List.map_cons, List.map_nil, Nat.reduceEqDiff, Nat.reduceLT, List.length_set, Option.map_some, Option.bind_some, Option.bind_eq_bind, add_i, sub_i, mul_i, eql_i, neq_i, lss_i, leq_i, gtr_i, geq_i, ofV, ofCell, ↓reduceIte, List.cons_append, List.nil_append, List.append_nil, List.getElem?_toArray, List.getElem?_cons_succ, List.getElem?_cons_zero, e_draw, g_nil, g_cons, g_want, g_skip, g_val, g_call, g_ret, Option.map_none, l2]
      exact ⟨_, rfl, by simp [l2], by simp [t20], by simp [t21], by simp [l2]⟩
    obtain ⟨t3, e3, l3, t30, t31, t35⟩ := p3
    have p4 : ∃ t, ex Cf (Cat [true, true, true, false, false] (bodyOf Try.f15)) ⟨t3, bare⟩ = some (.normal, ⟨t, bare⟩) ∧ t.length = 28 ∧ t[0]? = some (.int .i64 low) ∧ t[1]? = some (.int .i64 high) ∧ t[5]? = some .nilSl ∧ t[11]? = some (.int .i64 0) := by
      simp only [bodyOf, Try.f15, Cat, Bool.false_eq_true, e_seq, e_region, e_cond, e_block, ex_skip, ex_exit, ex_ret, o_cons, xops_nil, k_want_none, k_want_false, k_val, k_pan, k_call, k_ret, k_seq, k_seq_exit, k_seq_ret, k_true, k_false, k_block, k_block_exit, k_block_ret, k_loop, k_loop_exit, k_loop_ret, awanted, aoper, evalO, put, Option.getD_some, List.getElem?_set, acallOp, abuiltin, List.map_cons, List.map_nil, Nat.reduceEqDiff, Nat.reduceLT, List.length_set, Option.map_some, Option.bind_some, Option.bind_eq_bind, add_i, sub_i, mul_i, eql_i, neq_i, lss_i, leq_i, gtr_i, geq_i, ofV, ofCell, ↓reduceIte, List.cons_append, List.nil_append, List.append_nil, List.getElem?_toArray, List.getElem?_cons_succ, List.getElem?_cons_zero, e_draw, g_nil, g_cons, g_want, g_skip, g_val, g_call, g_ret, Option.map_none, l3]
      exact ⟨_, rfl, by simp [l3], by simp [t30], by simp [t31], by simp [t35], by simp [l3]⟩
    obtain ⟨t4, e4, l4, t40, t41, t45, t411⟩ := p4
    obtain ⟨t5, h5, v, e5, l5, t55, A⟩ := LW_loop low high 64 0 rfl bare .nilSl (Acc.nil 1 bare) t4 l4 t40 t41 t45 t411
    have p6 : ∃ t, ex Cf (Cat [true, true, true, true] (bodyOf Try.f15)) ⟨t5, h5⟩ = some (.ret, ⟨t, h5⟩) ∧ t[4]? = some v := by
      simp only [bodyOf, Try.f15, Cat, Bool.false_eq_true, e_seq, e_region, e_cond, e_block, ex_skip, ex_exit, ex_ret, o_cons, xops_nil, k_want_none, k_want_false, k_val, k_pan, k_call, k_ret, k_seq, k_seq_exit, k_seq_ret, k_true, k_false, k_block, k_block_exit, k_block_ret, k_loop, k_loop_exit, k_loop_ret, awanted, aoper, evalO, put, Option.getD_some, List.getElem?_set, acallOp, abuiltin, List.map_cons, List.map_nil, Nat.reduceEqDiff, Nat.reduceLT, List.length_set, Option.map_some, Option.bind_some, Option.bind_eq_bind, add_i, sub_i, mul_i, eql_i, neq_i, lss_i, leq_i, gtr_i, geq_i, ofV, ofCell, ↓reduceIte, List.cons_append, List.nil_append, List.append_nil, List.getElem?_toArray, List.getElem?_cons_succ, List.getElem?_cons_zero, e_draw, g_nil, g_cons, g_want, g_skip, g_val, g_call, g_ret, Option.map_none, l5, t55]
      exact ⟨_, rfl, by simp [l5]⟩
    obtain ⟨t6, e6, t64⟩ := p6
    obtain ⟨v', hnv, hI⟩ := norm_acc A h5
    refine ⟨v', by unfold betweenL; rw [hc]; exact hI, fun h => ?_⟩
    exact fn_runC (fn := Try.f15) (x := .ret) Try.func15 rfl rfl rfl rfl (.inl rfl) (by rw [← ha0, hbody, e_seq, e1, k_seq, e_seq, e2, k_seq, e_seq, e3, k_seq, e_seq, e_seq, e4, k_seq, e_block, e5, k_block_exit, if_pos rfl, k_seq, e6]) (vs := [v]) (by simp only [show Try.f15.results.toList = [ResultVar.tmp 4] from rfl, aresults, ares1, t64]; rfl) hnv h
end Go.Proofs.Cube
