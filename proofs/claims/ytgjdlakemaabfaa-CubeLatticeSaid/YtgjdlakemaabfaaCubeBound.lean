/-
  CUBE: Bound: how many groups there may be.
-/
import Derived.Test.YtgjdlakemaabfaaCubeRuns
set_option linter.unusedVariables false
set_option linter.unusedSimpArgs false
set_option linter.unusedSimpArgs false
set_option linter.unusedVariables false
set_option maxRecDepth 100000
namespace Go.Proofs.Cube
open Go Go.Am Go.Proofs Go.RowKit

theorem CP : Cf.P = Try.prog := rfl
namespace Ty
theorem ld3 (h : AHeap) (p : AVal) : aload Try.prog h 3 p = loadA h false 1 p := by kernel_rfl
theorem ix24 (x : AVal) (k : IntKind) (i : Int) : aindexAddr Try.prog 24 x (.int k i) = indexAddrA 1 x i := by kernel_rfl
theorem le24 (h : AHeap) (c : List AVal) (n : Nat) (cap : Cap) : alen Try.prog h 24 (.lst c n cap) = some (.int .i64 n) := by kernel_rfl
theorem ap24 (own : Bool) (h : AHeap) (s x : AVal) : aappend Try.prog own h [24, 24] [s, x] = appendA own h 1 8 s x := by kernel_rfl
theorem bs24_1 (x : Int) : abuildSlice Try.prog 24 1 [(0, .int .i64 x)] = some ([.int .i64 x], 1) := by kernel_rfl
end Ty
theorem quo_i (C : Cfg) (t : TypeId) (xo yo : Operand) (h : AHeap) (k : IntKind) (a b : Int) (hb : b ≠ 0) : abin C .quo t xo yo h (.int k a) (.int k b) = some (.int k (k.wrap (a.tdiv b))) := by simp [abin, hb]
theorem max_i (k : IntKind) (a b : Int) : foldMax true (.int k a) [.int k b] = some (.int k (if b > a then b else a)) := rfl
theorem min_i (k : IntKind) (a b : Int) : foldMax false (.int k a) [.int k b] = some (.int k (if b < a then b else a)) := rfl
theorem ld_iptr (h : AHeap) (cs : List AVal) : loadA h false 1 (.iptr cs) = cs[0]? := rfl
theorem ix_lst {cells : List AVal} {len : Nat} {cap : Cap} {i : Nat} (hi : i < len) : indexAddrA 1 (.lst cells len cap) (i : Int) = some (.iptr (cells.drop i)) := by
  simp only [indexAddrA]
  rw [if_pos ⟨by omega, by omega⟩]
  simp

def top : Int := 4611686018427387904
/-- One more dimension, of so many values. -/
def stepB (n c : Int) : Int := if top < n * c then top else n * c
/-- How many groups there may be. -/
def boundL (cs : List Int) (ds : List Nat) (n : Int) : Int := ds.foldl (fun n i => stepB n (cs.getD i 0)) n

noncomputable def LB : Code := Cat [true, true, false, true, true, true] (bodyOf Try.f19)
theorem LB_out (h : AHeap) (k n : Nat) (hlt : ¬ k < n) (tmps : List AVal) (hl : tmps.length = 43) (h13 : tmps[13]? = some (.int .i64 n)) (h14 : tmps[14]? = some (.int .i64 k)) :
    ex Cf LB ⟨tmps, h⟩ = some (.exit 0, ⟨tmps.set 15 (.bool false), h⟩) := by
  have hlt' : decide ((k : Int) < (n : Int)) = false := by simp; omega
  simp only [LB, bodyOf, Try.f19, Cat, Bool.false_eq_true, e_seq, e_region, e_cond, e_block, ex_skip, ex_exit, ex_ret, o_cons, xops_nil, k_want_none, k_want_false, k_val, k_pan, k_call, k_ret, k_seq, k_seq_exit, k_seq_ret, k_true, k_false, k_block, k_block_exit, k_block_ret, k_loop, k_loop_exit, k_loop_ret, awanted, aoper, evalO, put, Option.getD_some, List.getElem?_set, acallOp, abuiltin, List.map_cons, List.map_nil, Nat.reduceEqDiff, Nat.reduceLT, List.length_set, Option.map_some, Option.bind_some, Option.bind_eq_bind, add_i, sub_i, mul_i, eql_i, neq_i, lss_i, leq_i, gtr_i, geq_i, ofV, ofCell, ↓reduceIte, List.cons_append, List.nil_append, List.append_nil, List.getElem?_toArray, List.getElem?_cons_succ, List.getElem?_cons_zero, e_draw, g_nil, g_cons, g_want, g_skip, g_val, g_call, g_ret, Option.map_none, hl, h14, h13, hlt']
theorem LB_in (h : AHeap) (cs : List Int) (lv : AVal) (A : Acc 1 h lv (cs.map (AVal.int .i64)) cs.length) (ds : List Nat) (k d : Nat) (hk : ds[k]? = some d) (hk6 : k < 64) (c : Int) (hc : cs[d]? = some c) (hd6 : d < 64) (hc1 : 1 ≤ c) (hc2 : c ≤ 1000000) (n : Int) (hn1 : 1 ≤ n) (hn2 : n ≤ top)
    (tmps : List AVal) (hl : tmps.length = 43) (h1 : tmps[1]? = some lv) (h7 : tmps[7]? = some (.int .i64 n)) (h12 : tmps[12]? = some (natsV ds)) (h13 : tmps[13]? = some (.int .i64 ds.length)) (h14 : tmps[14]? = some (.int .i64 k)) :
    ∃ t, ex Cf LB ⟨tmps, h⟩ = some (.normal, ⟨t, h⟩) ∧ t.length = 43 ∧ t[1]? = some lv ∧ t[2]? = tmps[2]? ∧ t[7]? = some (.int .i64 (stepB n c)) ∧ t[12]? = some (natsV ds) ∧ t[13]? = some (.int .i64 ds.length) ∧ t[14]? = some (.int .i64 (k + 1 : Nat)) := by
  have hkl : k < ds.length := (List.getElem?_eq_some_iff.1 hk).1
  have hdl : d < cs.length := (List.getElem?_eq_some_iff.1 hc).1
  have hlt' : decide ((k : Int) < (ds.length : Int)) = true := by simp; omega
  have hw : IntKind.i64.wrap ((k : Int) + 1) = ((k + 1 : Nat) : Int) := by rw [wrap64 (by omega) (by omega)]; rfl
  have hix1 : indexAddrA 1 (natsV ds) (k : Int) = some (.iptr ((ds.map fun i : Nat => AVal.int .i64 (i : Int)).drop k)) := ix_lst hkl
  have hld1 : loadA h false 1 (.iptr ((ds.map fun i : Nat => AVal.int .i64 (i : Int)).drop k)) = some (.int .i64 d) := by rw [ld_iptr]; simp [hk]
  have hal : alen Try.prog h 24 lv = some (.int .i64 cs.length) := A.alen (e := 3) (by kernel_rfl) h
  have hdc : decide ((d : Int) < (cs.length : Int)) = true := by simp; omega
  have hix2 : indexAddrA 1 lv (d : Int) = some (.iptr ((cs.map (AVal.int .i64)).drop (d * 1))) := A.index hdl
  have hld2 : loadA h false 1 (.iptr ((cs.map (AVal.int .i64)).drop (d * 1))) = some (.int .i64 c) := by rw [ld_iptr]; simp [hc]
  have hmx : (if (0 : Int) > c then (0 : Int) else c) = c := if_neg (by omega)
  have hg0 : decide (c > 0) = true := by simp; omega
  have hq : IntKind.i64.wrap (Int.tdiv 4611686018427387904 c) = 4611686018427387904 / c := by
    rw [Int.tdiv_eq_ediv_of_nonneg (by omega)]
    have h0 := Int.ediv_nonneg (a := 4611686018427387904) (b := c) (by omega) (by omega)
    have h1 : (4611686018427387904 : Int) / c ≤ 4611686018427387904 := Int.ediv_le_self _ (by omega)
    exact wrap64 (by omega) (by omega)
  have hgt : (decide (n > 4611686018427387904 / c)) = decide (top < n * c) := by
    exact decide_eq_decide.2 (Int.ediv_lt_iff_lt_mul (by omega))
  have hcn : c ≠ 0 := by omega
  by_cases hb : top < n * c
  · have hs : stepB n c = top := if_pos hb
    have hb' : decide (top < n * c) = true := by simpa using hb
    refine ⟨_, by
      simp only [LB, bodyOf, Try.f19, Cat, Bool.false_eq_true, e_seq, e_region, e_cond, e_block, ex_skip, ex_exit, ex_ret, o_cons, xops_nil, k_want_none, k_want_false, k_val, k_pan, k_call, k_ret, k_seq, k_seq_exit, k_seq_ret, k_true, k_false, k_block, k_block_exit, k_block_ret, k_loop, k_loop_exit, k_loop_ret, awanted, aoper, evalO, put, Option.getD_some, List.getElem?_set, acallOp, abuiltin, List.map_cons, List.map_nil, Nat.reduceEqDiff, Nat.reduceLT, List.length_set, Option.map_some, Option.bind_some, Option.bind_eq_bind, add_i, sub_i, mul_i, eql_i, neq_i, lss_i, leq_i, gtr_i, geq_i, ofV, ofCell, ↓reduceIte, List.cons_append, List.nil_append, List.append_nil, List.getElem?_toArray, List.getElem?_cons_succ, List.getElem?_cons_zero, e_draw, g_nil, g_cons, g_want, g_skip, g_val, g_call, g_ret, Option.map_none, hl, h1, h7, h12, h13, h14, hlt', hw, CP, Ty.ix24, hix1, Ty.ld3, hld1, hal, hdc, hix2, hld2, max_i, hmx, hg0, quo_i, ne_eq, hcn, not_false_eq_true, hq, hgt, hb', show ((true : Bool) == true) = true from rfl, show ((true : Bool) == false) = false from rfl]
      exact rfl, by simp [hl], by simp [h1], by simp, by simp [hl, hs, top], by simp [h12], by simp [h13], by simp [hl]⟩
  · have hs : stepB n c = n * c := if_neg hb
    have hb' : decide (top < n * c) = false := by simpa using hb
    have hnc : IntKind.i64.wrap (n * c) = n * c := by
      have : 0 ≤ n * c := Int.mul_nonneg (by omega) (by omega)
      unfold top at hb
      exact wrap64 (by omega) (by omega)
    refine ⟨_, by
      simp only [LB, bodyOf, Try.f19, Cat, Bool.false_eq_true, e_seq, e_region, e_cond, e_block, ex_skip, ex_exit, ex_ret, o_cons, xops_nil, k_want_none, k_want_false, k_val, k_pan, k_call, k_ret, k_seq, k_seq_exit, k_seq_ret, k_true, k_false, k_block, k_block_exit, k_block_ret, k_loop, k_loop_exit, k_loop_ret, awanted, aoper, evalO, put, Option.getD_some, List.getElem?_set, acallOp, abuiltin, List.map_cons, List.map_nil, Nat.reduceEqDiff, Nat.reduceLT, List.length_set, Option.map_some, Option.bind_some, Option.bind_eq_bind, add_i, sub_i, mul_i, eql_i, neq_i, lss_i, leq_i, gtr_i, geq_i, ofV, ofCell, ↓reduceIte, List.cons_append, List.nil_append, List.append_nil, List.getElem?_toArray, List.getElem?_cons_succ, List.getElem?_cons_zero, e_draw, g_nil, g_cons, g_want, g_skip, g_val, g_call, g_ret, Option.map_none, hl, h1, h7, h12, h13, h14, hlt', hw, CP, Ty.ix24, hix1, Ty.ld3, hld1, hal, hdc, hix2, hld2, max_i, hmx, hg0, quo_i, ne_eq, hcn, not_false_eq_true, hq, hgt, hb', hnc, show ((true : Bool) == true) = true from rfl, show ((true : Bool) == false) = false from rfl]
      exact rfl, by simp [hl], by simp [h1], by simp, by simp [hl, hs], by simp [h12], by simp [h13], by simp [hl]⟩
theorem stepB_le {n c : Int} (hn : 1 ≤ n) (hc : 1 ≤ c) : 1 ≤ stepB n c ∧ stepB n c ≤ top := by
  unfold stepB
  split
  · unfold top; omega
  · have := Int.mul_le_mul hn hc (by omega) (by omega)
    omega
def Good (cs : List Int) (ds : List Nat) : Prop := ∀ d ∈ ds, d < 64 ∧ ∃ c, cs[d]? = some c ∧ 1 ≤ c ∧ c ≤ 1000000

theorem LB_loop (h : AHeap) (cs : List Int) (lv : AVal) (A : Acc 1 h lv (cs.map (AVal.int .i64)) cs.length) : ∀ (rest pre : List Nat) (hg : Good cs rest) (hb : (pre ++ rest).length < 64) (n : Int) (hn1 : 1 ≤ n) (hn2 : n ≤ top)
    (tmps : List AVal) (hl : tmps.length = 43) (h1 : tmps[1]? = some lv) (h7 : tmps[7]? = some (.int .i64 n)) (h12 : tmps[12]? = some (natsV (pre ++ rest))) (h13 : tmps[13]? = some (.int .i64 (pre ++ rest).length)) (h14 : tmps[14]? = some (.int .i64 pre.length)),
    ∃ t, ex Cf (.loop LB) ⟨tmps, h⟩ = some (.exit 0, ⟨t, h⟩) ∧ t.length = 43 ∧ t[2]? = tmps[2]? ∧ t[7]? = some (.int .i64 (boundL cs rest n)) := by
  intro rest
  induction rest with
  | nil =>
    intro pre hg hb n hn1 hn2 tmps hl h1 h7 h12 h13 h14
    rw [e_loop, LB_out h pre.length (pre ++ []).length (by simp) tmps hl h13 h14, k_loop_exit]
    exact ⟨_, rfl, by simp [hl], by simp, by simp [h7, boundL]⟩
  | cons d rest ih =>
    intro pre hg hb n hn1 hn2 tmps hl h1 h7 h12 h13 h14
    obtain ⟨hd, c, hc, hc1, hc2⟩ := hg d List.mem_cons_self
    obtain ⟨t1, e1, l1, t11, t12, t17, t112, t113, t114⟩ := LB_in h cs lv A (pre ++ d :: rest) pre.length d (by simp) (by simp at hb; omega) c hc hd hc1 hc2 n hn1 hn2 tmps hl h1 h7 h12 h13 h14
    have happ : pre ++ d :: rest = (pre ++ [d]) ++ rest := by simp
    rw [happ] at t112 t113
    obtain ⟨b1, b2⟩ := stepB_le hn1 hc1
    obtain ⟨t2, e2, l2, t22, t27⟩ := ih (pre ++ [d]) (fun x hx => hg x (List.mem_cons_of_mem _ hx)) (by rw [← happ]; exact hb) _ b1 b2 t1 l1 t11 t17 t112 t113 (by simpa using t114)
    refine ⟨t2, by rw [e_loop, e1, k_loop]; exact e2, l2, t22.trans t12, ?_⟩
    rw [t27]
    simp only [boundL, List.foldl_cons]
    rw [List.getD_eq_getElem?_getD, hc]
    rfl

theorem bound_run (h : AHeap) (cs : List Int) (lv : AVal) (A : Acc 1 h lv (cs.map (AVal.int .i64)) cs.length) {x : Nat} (hx : x < 64) (hg : Good cs (dims x)) (F : Int) (hF : 0 ≤ F) :
    run Cf 19 [.int .i64 x, lv, .int .i64 F] h = some (.ret (.int .i64 (if F < boundL cs (dims x) 1 then F else boundL cs (dims x) 1)), h) := by
  obtain ⟨a0, ha0⟩ : ∃ a0, a0 = slots Try.f19 [.int .i64 x, lv, .int .i64 F] := ⟨_, rfl⟩
  have hl : a0.length = 43 := by rw [ha0]; rfl
  have i0 : a0[0]? = some (.int .i64 x) := by rw [ha0]; rfl
  have i1 : a0[1]? = some lv := by rw [ha0]; rfl
  have i2 : a0[2]? = some (.int .i64 F) := by rw [ha0]; rfl
  have hbody : bodyOf Try.f19 = .seq (Cat [false] (bodyOf Try.f19)) (.seq (Cat [true, false] (bodyOf Try.f19)) (.seq (.seq (Cat [true, true, false, false] (bodyOf Try.f19)) (.block 0 (.loop LB))) (Cat [true, true, true] (bodyOf Try.f19)))) := rfl
  have hdl : (dims x).length ≤ 6 := by
    have := List.length_filter_le (fun i => x.testBit i) (List.range 6)
    simpa [dims] using this
  have hal : alen Try.prog h 24 (natsV (dims x)) = some (.int .i64 (dims x).length) := Ty.le24 _ _ _ _
  have p1 : ∃ t, ex Cf (Cat [false] (bodyOf Try.f19)) ⟨a0, h⟩ = some (.normal, ⟨t, h⟩) ∧ t.length = 43 ∧ t[0]? = some (.int .i64 x) ∧ t[1]? = some lv ∧ t[2]? = some (.int .i64 F) := by
    simp only [bodyOf, Try.f19, Cat, Bool.false_eq_true, e_seq, e_region, e_cond, e_block, ex_skip, ex_exit, ex_ret, o_cons, xops_nil, k_want_none, k_want_false, k_val, k_pan, k_call, k_ret, k_seq, k_seq_exit, k_seq_ret, k_true, k_false, k_block, k_block_exit, k_block_ret, k_loop, k_loop_exit, k_loop_ret, awanted, aoper, evalO, put, Option.getD_some, List.getElem?_set, acallOp, abuiltin, List.map_cons, List.map_nil, Nat.reduceEqDiff, Nat.reduceLT, List.length_set, Option.map_some, Option.bind_some, Option.bind_eq_bind, add_i, sub_i, mul_i, eql_i, neq_i, lss_i, leq_i, gtr_i, geq_i, ofV, ofCell, ↓reduceIte, List.cons_append, List.nil_append, List.append_nil, List.getElem?_toArray, List.getElem?_cons_succ, List.getElem?_cons_zero, e_draw, g_nil, g_cons, g_want, g_skip, g_val, g_call, g_ret, Option.map_none, hl]
    exact ⟨_, rfl, by simp [hl], by simp [i0], by simp [i1], by simp [i2]⟩
  obtain ⟨t1, e1, l1, t10, t11, t12⟩ := p1
  have p2 : ∃ t, ex Cf (Cat [true, false] (bodyOf Try.f19)) ⟨t1, h⟩ = some (.normal, ⟨t, h⟩) ∧ t.length = 43 ∧ t[0]? = some (.int .i64 x) ∧ t[1]? = some lv ∧ t[2]? = some (.int .i64 F) ∧ t[7]? = some (.int .i64 1) := by
    simp only [bodyOf, Try.f19, Cat, Bool.false_eq_true, e_seq, e_region, e_cond, e_block, ex_skip, ex_exit, ex_ret, o_cons, xops_nil, k_want_none, k_want_false, k_val, k_pan, k_call, k_ret, k_seq, k_seq_exit, k_seq_ret, k_true, k_false, k_block, k_block_exit, k_block_ret, k_loop, k_loop_exit, k_loop_ret, awanted, aoper, evalO, put, Option.getD_some, List.getElem?_set, acallOp, abuiltin, List.map_cons, List.map_nil, Nat.reduceEqDiff, Nat.reduceLT, List.length_set, Option.map_some, Option.bind_some, Option.bind_eq_bind, add_i, sub_i, mul_i, eql_i, neq_i, lss_i, leq_i, gtr_i, geq_i, ofV, ofCell, ↓reduceIte, List.cons_append, List.nil_append, List.append_nil, List.getElem?_toArray, List.getElem?_cons_succ, List.getElem?_cons_zero, e_draw, g_nil, g_cons, g_want, g_skip, g_val, g_call, g_ret, Option.map_none, l1]
    exact ⟨_, rfl, by simp [l1], by simp [t10], by simp [t11], by simp [t12], by simp [l1]⟩
  obtain ⟨t2, e2, l2, t20, t21, t22, t27⟩ := p2
  have p3 : ∃ t, ex Cf (Cat [true, true, false, false] (bodyOf Try.f19)) ⟨t2, h⟩ = some (.normal, ⟨t, h⟩) ∧ t.length = 43 ∧ t[1]? = some lv ∧ t[2]? = some (.int .i64 F) ∧ t[7]? = some (.int .i64 1) ∧ t[12]? = some (natsV (dims x)) ∧ t[13]? = some (.int .i64 (dims x).length) ∧ t[14]? = some (.int .i64 0) := by
    simp only [bodyOf, Try.f19, Cat, Bool.false_eq_true, e_seq, e_region, e_cond, e_block, ex_skip, ex_exit, ex_ret, o_cons, xops_nil, k_want_none, k_want_false, k_val, k_pan, k_call, k_ret, k_seq, k_seq_exit, k_seq_ret, k_true, k_false, k_block, k_block_exit, k_block_ret, k_loop, k_loop_exit, k_loop_ret, awanted, aoper, evalO, put, Option.getD_some, List.getElem?_set, acallOp, abuiltin, List.map_cons, List.map_nil, Nat.reduceEqDiff, Nat.reduceLT, List.length_set, Option.map_some, Option.bind_some, Option.bind_eq_bind, add_i, sub_i, mul_i, eql_i, neq_i, lss_i, leq_i, gtr_i, geq_i, ofV, ofCell, ↓reduceIte, List.cons_append, List.nil_append, List.append_nil, List.getElem?_toArray, List.getElem?_cons_succ, List.getElem?_cons_zero, e_draw, g_nil, g_cons, g_want, g_skip, g_val, g_call, g_ret, Option.map_none, l2, t20, CP, list_run h hx, hal]
    exact ⟨_, rfl, by simp [l2], by simp [t21], by simp [t22], by simp [t27], by simp [l2], by simp [l2], by simp [l2]⟩
  obtain ⟨t3, e3, l3, t31, t32, t37, t312, t313, t314⟩ := p3
  obtain ⟨t4, e4, l4, t42, t47⟩ := LB_loop h cs lv A (dims x) [] hg (by simp; omega) 1 (by omega) (by unfold top; omega) t3 l3 t31 t37 t312 t313 t314
  have hmx : (if (0 : Int) > F then (0 : Int) else F) = F := if_neg (by omega)
  have p5 : ∃ t, ex Cf (Cat [true, true, true] (bodyOf Try.f19)) ⟨t4, h⟩ = some (.ret, ⟨t, h⟩) ∧ t[6]? = some (.int .i64 (if F < boundL cs (dims x) 1 then F else boundL cs (dims x) 1)) := by
    rw [t32] at t42
    simp only [bodyOf, Try.f19, Cat, Bool.false_eq_true, e_seq, e_region, e_cond, e_block, ex_skip, ex_exit, ex_ret, o_cons, xops_nil, k_want_none, k_want_false, k_val, k_pan, k_call, k_ret, k_seq, k_seq_exit, k_seq_ret, k_true, k_false, k_block, k_block_exit, k_block_ret, k_loop, k_loop_exit, k_loop_ret, awanted, aoper, evalO, put, Option.getD_some, List.getElem?_set, acallOp, abuiltin, List.map_cons, List.map_nil, Nat.reduceEqDiff, Nat.reduceLT, List.length_set, Option.map_some, Option.bind_some, Option.bind_eq_bind, add_i, sub_i, mul_i, eql_i, neq_i, lss_i, leq_i, gtr_i, geq_i, ofV, ofCell, ↓reduceIte, List.cons_append, List.nil_append, List.append_nil, List.getElem?_toArray, List.getElem?_cons_succ, List.getElem?_cons_zero, e_draw, g_nil, g_cons, g_want, g_skip, g_val, g_call, g_ret, Option.map_none, l4, t42, t47, max_i, min_i, hmx]
    exact ⟨_, rfl, by simp [l4]⟩
  obtain ⟨t5, e5, t56⟩ := p5
  refine fn_run (fn := Try.f19) (x := .ret) Try.func19 rfl rfl rfl (.inl rfl) (by rw [← ha0, hbody, e_seq, e1, k_seq, e_seq, e2, k_seq, e_seq, e_seq, e3, k_seq, e_block, e4, k_block_exit, if_pos rfl, k_seq, e5]) (vs := [_]) (by simp only [show Try.f19.results.toList = [ResultVar.tmp 6] from rfl, aresults, ares1, t56]; rfl)
end Go.Proofs.Cube
