/-
  CUBE: CubeGrows's law.
-/
import Derived.Test.YtgjdlakemaabfaaCubeBound
set_option linter.unusedVariables false
set_option linter.unusedSimpArgs false
set_option linter.unusedSimpArgs false
set_option linter.unusedVariables false
set_option maxRecDepth 100000
namespace Go.Proofs.Cube
open Go Go.Am Go.Proofs Go.RowKit

theorem and_i (xo yo : Operand) (h : AHeap) (a b : Int) : abin Cf .and 3 xo yo h (.int .i64 a) (.int .i64 b) = some (.int .i64 (bits .and .i64 a b)) := by kernel_rfl
theorem or_i (xo yo : Operand) (h : AHeap) (a b : Int) : abin Cf .or 3 xo yo h (.int .i64 a) (.int .i64 b) = some (.int .i64 (bits .or .i64 a b)) := by kernel_rfl
theorem and63 (a : Int) : ∃ x : Nat, x < 64 ∧ bits .and .i64 a 63 = (x : Int) := by
  refine ⟨(BitVec.ofInt 64 a).toNat &&& 63, ?_, ?_⟩
  · exact Nat.and_lt_two_pow (n := 6) _ (by decide)
  · have h : (BitVec.ofInt 64 a &&& BitVec.ofInt 64 63).toNat = (BitVec.ofInt 64 a).toNat &&& 63 := by
      rw [BitVec.toNat_and]; rfl
    have hlt : (BitVec.ofInt 64 a).toNat &&& 63 < 2 ^ 6 := Nat.and_lt_two_pow (n := 6) _ (by decide)
    show IntKind.i64.wrap ((BitVec.ofInt 64 a &&& BitVec.ofInt 64 63).toNat : Int) = _
    rw [h, wrap64 (by omega) (by omega)]
theorem ofInt_nat {x : Nat} (h : x < 64) : (BitVec.ofInt 64 (x : Int)).toNat = x := by
  rw [BitVec.toNat_ofInt]
  omega
theorem or_nat {x w : Nat} (hx : x < 64) (hw : w < 64) : bits .or .i64 x w = ((x ||| w : Nat) : Int) := by
  have hlt : x ||| w < 2 ^ 6 := Nat.or_lt_two_pow hx hw
  show IntKind.i64.wrap ((BitVec.ofInt 64 (x : Int) ||| BitVec.ofInt 64 (w : Int)).toNat : Int) = _
  rw [BitVec.toNat_or, ofInt_nat hx, ofInt_nat hw, wrap64 (by omega) (by omega)]
theorem rem_i (C : Cfg) (t : TypeId) (xo yo : Operand) (h : AHeap) (k : IntKind) (a b : Int) (hb : b ≠ 0) : abin C .rem t xo yo h (.int k a) (.int k b) = some (.int k (a.tmod b)) := by simp [abin, hb]
theorem neg_i (C : Cfg) (k : IntKind) (n : Int) : aun C .neg (.int k n) = some (.int k (k.wrap (0 - n))) := rfl

/-! ### the plain law -/
theorem stepB_mono {n m c : Int} (h : n ≤ m) (hc : 1 ≤ c) : stepB n c ≤ stepB m c := by
  have h1 : n * c ≤ m * c := Int.mul_le_mul_of_nonneg_right h (by omega)
  unfold stepB
  split <;> split <;> omega
theorem stepB_grow {n c : Int} (hn : 1 ≤ n) (hn2 : n ≤ top) (hc : 1 ≤ c) : n ≤ stepB n c := by
  have h1 : n * 1 ≤ n * c := Int.mul_le_mul_of_nonneg_left hc (by omega)
  unfold stepB
  split <;> omega
theorem boundL_le (cs : List Int) : ∀ (ds : List Nat) (n : Int), Good cs ds → 1 ≤ n → n ≤ top → 1 ≤ boundL cs ds n ∧ boundL cs ds n ≤ top := by
  intro ds
  induction ds with
  | nil => intro n _ h1 h2; exact ⟨h1, h2⟩
  | cons d ds ih =>
    intro n hg h1 h2
    obtain ⟨_, c, hc, hc1, hc2⟩ := hg d List.mem_cons_self
    simp only [boundL, List.foldl_cons]
    obtain ⟨b1, b2⟩ := stepB_le h1 (show 1 ≤ cs.getD d 0 by rw [List.getD_eq_getElem?_getD, hc]; exact hc1)
    exact ih _ (fun x hx => hg x (List.mem_cons_of_mem _ hx)) b1 b2
theorem boundL_mono (cs : List Int) (p q : Nat → Bool) (hpq : ∀ i, p i = true → q i = true) : ∀ (L : List Nat) (n m : Int), Good cs L → 1 ≤ n → n ≤ m → m ≤ top → boundL cs (L.filter p) n ≤ boundL cs (L.filter q) m := by
  intro L
  induction L with
  | nil => intro n m _ _ h _; exact h
  | cons d L ih =>
    intro n m hg h1 h2 h3
    obtain ⟨_, c, hc, hc1, hc2⟩ := hg d List.mem_cons_self
    have hc' : 1 ≤ cs.getD d 0 := by rw [List.getD_eq_getElem?_getD, hc]; exact hc1
    have hg' : Good cs L := fun x hx => hg x (List.mem_cons_of_mem _ hx)
    obtain ⟨a1, a2⟩ := stepB_le h1 hc'
    obtain ⟨b1, b2⟩ := stepB_le (show 1 ≤ m by omega) hc'
    cases hp : p d with
    | true =>
      rw [List.filter_cons_of_pos hp, List.filter_cons_of_pos (hpq d hp)]
      exact ih _ _ hg' a1 (stepB_mono h2 hc') b2
    | false =>
      rw [List.filter_cons_of_neg (by simp [hp])]
      cases hq : q d with
      | true =>
        rw [List.filter_cons_of_pos hq]
        exact ih _ _ hg' h1 (Int.le_trans h2 (stepB_grow (by omega) h3 hc')) b2
      | false =>
        rw [List.filter_cons_of_neg (by simp [hq])]
        exact ih _ _ hg' h1 h2 h3

/-! ### the walk -/
theorem own106 : Cf.own "law.go:106" = false := by kernel_rfl
/-- What is counted on: the argument. -/
structure Counts (h : AHeap) (cv : AVal) (len : Nat) : Prop where
  al : ∀ h2, alen Try.prog h2 24 cv = some (.int .i64 len)
  ix : ∀ i, i < len → ∃ a q, indexAddrA 1 cv (i : Nat) = some a ∧ ∀ h2, loadA h2 false 1 a = some (.int .i64 q)
noncomputable def LG : Code := Cat [true, true, true, false, true, true, true] (bodyOf Try.f5)
theorem LG_out (h : AHeap) (tmps : List AVal) (hl : tmps.length = 65) (h9 : tmps[9]? = some (.int .i64 6)) :
    ex Cf LG ⟨tmps, h⟩ = some (.exit 0, ⟨(tmps.set 14 (.int .i64 6)).set 15 (.bool false), h⟩) := by
  simp only [LG, bodyOf, Try.f5, Cat, Bool.false_eq_true, e_seq, e_region, e_cond, e_block, ex_skip, ex_exit, ex_ret, o_cons, xops_nil, k_want_none, k_want_false, k_val, k_pan, k_call, k_ret, k_seq, k_seq_exit, k_seq_ret, k_true, k_false, k_block, k_block_exit, k_block_ret, k_loop, k_loop_exit, k_loop_ret, awanted, aoper, evalO, put, Option.getD_some, List.getElem?_set, acallOp, abuiltin, List.map_cons, List.map_nil, Nat.reduceEqDiff, Nat.reduceLT, List.length_set, Option.map_some, Option.bind_some, Option.bind_eq_bind, add_i, sub_i, mul_i, eql_i, neq_i, lss_i, leq_i, gtr_i, geq_i, ofV, ofCell, ↓reduceIte, List.cons_append, List.nil_append, List.append_nil, List.getElem?_toArray, List.getElem?_cons_succ, List.getElem?_cons_zero, e_draw, g_nil, g_cons, g_want, g_skip, g_val, g_call, g_ret, Option.map_none, hl, h9, show decide ((6 : Int) < 6) = false from rfl]
theorem LG_in (h : AHeap) (cv : AVal) (len : Nat) (K : Counts h cv len) (lv : AVal) (cs : List Int) (A : Acc 1 h lv (cs.map (AVal.int .i64)) cs.length) (hcs : cs.length < 6) (tmps : List AVal) (hl : tmps.length = 65) (h2 : tmps[2]? = some cv) (h8 : tmps[8]? = some lv) (h9 : tmps[9]? = some (.int .i64 cs.length)) :
    ∃ t h' v' c, ex Cf LG ⟨tmps, h⟩ = some (.normal, ⟨t, h'⟩) ∧ 1 ≤ c ∧ c ≤ 1000000 ∧ t.length = 65 ∧ t[0]? = tmps[0]? ∧ t[1]? = tmps[1]? ∧ t[2]? = some cv ∧ t[7]? = tmps[7]? ∧ t[8]? = some v' ∧ t[9]? = some (.int .i64 (cs.length + 1 : Nat)) ∧ Acc 1 h' v' ((cs ++ [c]).map (AVal.int .i64)) (cs.length + 1) := by
  have hlt' : decide ((cs.length : Int) < 6) = true := by simp; omega
  have hw : IntKind.i64.wrap ((cs.length : Int) + 1) = ((cs.length + 1 : Nat) : Int) := by rw [wrap64 (by omega) (by omega)]; rfl
  have hw0 : IntKind.i64.wrap ((0 : Int) + 1) = 1 := by rw [wrap64 (by omega) (by omega)]; rfl
  have happ : ∀ c : Int, ∃ v' h', appendA false h 1 8 lv (.lst [.int .i64 c] 1 .full) = some (v', h') ∧ Acc 1 h' v' ((cs ++ [c]).map (AVal.int .i64)) (cs.length + 1) := fun c => by
    obtain ⟨v', h', hap, A', _⟩ := append_acc (bytes := 8) (m := 1) (new := [.int .i64 c]) (cap := .full) A rfl (by omega) rfl (by omega) (by omega)
    exact ⟨v', h', hap, by simpa using A'⟩
  by_cases hi : cs.length < len
  · have hdc : decide ((cs.length : Int) < (len : Int)) = true := by simp; omega
    obtain ⟨a, q, hix, hld⟩ := K.ix cs.length hi
    have hr1 : -1000000 < q.tmod 1000000 := Int.lt_tmod_of_pos q (by omega)
    have hr2 : q.tmod 1000000 < 1000000 := Int.tmod_lt_of_pos q (by omega)
    obtain ⟨r, hr⟩ : ∃ r, r = q.tmod 1000000 := ⟨_, rfl⟩
    rw [← hr] at hr1 hr2
    by_cases hneg : r < 0
    · have hnd : decide (r < 0) = true := by simpa using hneg
      have hn1 : IntKind.i64.wrap (0 - r) = 0 - r := wrap64 (by omega) (by omega)
      have hn2 : IntKind.i64.wrap (0 - r + 1) = 0 - r + 1 := wrap64 (by omega) (by omega)
      obtain ⟨v', h', hap, A'⟩ := happ (0 - r + 1)
      refine ⟨_, h', v', 0 - r + 1, by
        simp only [LG, bodyOf, Try.f5, Cat, Bool.false_eq_true, e_seq, e_region, e_cond, e_block, ex_skip, ex_exit, ex_ret, o_cons, xops_nil, k_want_none, k_want_false, k_val, k_pan, k_call, k_ret, k_seq, k_seq_exit, k_seq_ret, k_true, k_false, k_block, k_block_exit, k_block_ret, k_loop, k_loop_exit, k_loop_ret, awanted, aoper, evalO, put, Option.getD_some, List.getElem?_set, acallOp, abuiltin, List.map_cons, List.map_nil, Nat.reduceEqDiff, Nat.reduceLT, List.length_set, Option.map_some, Option.bind_some, Option.bind_eq_bind, add_i, sub_i, mul_i, eql_i, neq_i, lss_i, leq_i, gtr_i, geq_i, ofV, ofCell, ↓reduceIte, List.cons_append, List.nil_append, List.append_nil, List.getElem?_toArray, List.getElem?_cons_succ, List.getElem?_cons_zero, e_draw, g_nil, g_cons, g_want, g_skip, g_val, g_call, g_ret, Option.map_none, hl, h2, h8, h9, hlt', hw, CP, K.al, hdc, Ty.ix24, hix, Ty.ld3, hld, rem_i, ne_eq, show (1000000 : Int) ≠ 0 by omega, not_false_eq_true, ← hr, hnd, neg_i, hn1, hn2, Ty.bs24_1, own106, Ty.ap24, hap]
        exact rfl, by omega, by omega, by simp [hl], by simp, by simp, by simp [h2], by simp, by simp [hl], by simp [hl], A'⟩
    · have hnd : decide (r < 0) = false := by simpa using hneg
      have hn2 : IntKind.i64.wrap (r + 1) = r + 1 := wrap64 (by omega) (by omega)
      obtain ⟨v', h', hap, A'⟩ := happ (r + 1)
      refine ⟨_, h', v', r + 1, by
        simp only [LG, bodyOf, Try.f5, Cat, Bool.false_eq_true, e_seq, e_region, e_cond, e_block, ex_skip, ex_exit, ex_ret, o_cons, xops_nil, k_want_none, k_want_false, k_val, k_pan, k_call, k_ret, k_seq, k_seq_exit, k_seq_ret, k_true, k_false, k_block, k_block_exit, k_block_ret, k_loop, k_loop_exit, k_loop_ret, awanted, aoper, evalO, put, Option.getD_some, List.getElem?_set, acallOp, abuiltin, List.map_cons, List.map_nil, Nat.reduceEqDiff, Nat.reduceLT, List.length_set, Option.map_some, Option.bind_some, Option.bind_eq_bind, add_i, sub_i, mul_i, eql_i, neq_i, lss_i, leq_i, gtr_i, geq_i, ofV, ofCell, ↓reduceIte, List.cons_append, List.nil_append, List.append_nil, List.getElem?_toArray, List.getElem?_cons_succ, List.getElem?_cons_zero, e_draw, g_nil, g_cons, g_want, g_skip, g_val, g_call, g_ret, Option.map_none, hl, h2, h8, h9, hlt', hw, CP, K.al, hdc, Ty.ix24, hix, Ty.ld3, hld, rem_i, ne_eq, show (1000000 : Int) ≠ 0 by omega, not_false_eq_true, ← hr, hnd, hn2, Ty.bs24_1, own106, Ty.ap24, hap]
        exact rfl, by omega, by omega, by simp [hl], by simp, by simp, by simp [h2], by simp, by simp [hl], by simp [hl], A'⟩
  · have hdc : decide ((cs.length : Int) < (len : Int)) = false := by simp; omega
    obtain ⟨v', h', hap, A'⟩ := happ 1
    refine ⟨_, h', v', 1, by
      simp only [LG, bodyOf, Try.f5, Cat, Bool.false_eq_true, e_seq, e_region, e_cond, e_block, ex_skip, ex_exit, ex_ret, o_cons, xops_nil, k_want_none, k_want_false, k_val, k_pan, k_call, k_ret, k_seq, k_seq_exit, k_seq_ret, k_true, k_false, k_block, k_block_exit, k_block_ret, k_loop, k_loop_exit, k_loop_ret, awanted, aoper, evalO, put, Option.getD_some, List.getElem?_set, acallOp, abuiltin, List.map_cons, List.map_nil, Nat.reduceEqDiff, Nat.reduceLT, List.length_set, Option.map_some, Option.bind_some, Option.bind_eq_bind, add_i, sub_i, mul_i, eql_i, neq_i, lss_i, leq_i, gtr_i, geq_i, ofV, ofCell, ↓reduceIte, List.cons_append, List.nil_append, List.append_nil, List.getElem?_toArray, List.getElem?_cons_succ, List.getElem?_cons_zero, e_draw, g_nil, g_cons, g_want, g_skip, g_val, g_call, g_ret, Option.map_none, hl, h2, h8, h9, hlt', hw, CP, K.al, hdc, Ty.bs24_1, own106, Ty.ap24, hap]
      exact rfl, by omega, by omega, by simp [hl], by simp, by simp, by simp [h2], by simp, by simp [hl], by simp [hl], A'⟩
theorem LG_loop (cv : AVal) (len : Nat) : ∀ (k : Nat) (h : AHeap) (K : Counts h cv len) (lv : AVal) (cs : List Int) (A : Acc 1 h lv (cs.map (AVal.int .i64)) cs.length) (hcs : cs.length + k = 6) (hin : ∀ c ∈ cs, 1 ≤ c ∧ c ≤ 1000000) (tmps : List AVal) (hl : tmps.length = 65) (h2 : tmps[2]? = some cv) (h8 : tmps[8]? = some lv) (h9 : tmps[9]? = some (.int .i64 cs.length)),
    ∃ (t : List AVal) (h' : AHeap) (v' : AVal) (cs' : List Int), ex Cf (.loop LG) ⟨tmps, h⟩ = some (.exit 0, ⟨t, h'⟩) ∧ cs'.length = 6 ∧ (∀ c ∈ cs', 1 ≤ c ∧ c ≤ 1000000) ∧ t.length = 65 ∧ t[0]? = tmps[0]? ∧ t[1]? = tmps[1]? ∧ t[7]? = tmps[7]? ∧ t[8]? = some v' ∧ Acc 1 h' v' (cs'.map (AVal.int .i64)) cs'.length := by
  intro k
  induction k with
  | zero =>
    intro h K lv cs A hcs hin tmps hl h2 h8 h9
    rw [show ((cs.length : Nat) : Int) = 6 by omega] at h9
    rw [e_loop, LG_out h tmps hl h9, k_loop_exit]
    exact ⟨_, h, lv, cs, rfl, by omega, hin, by simp [hl], by simp, by simp, by simp, by simp [h8], A⟩
  | succ k ih =>
    intro h K lv cs A hcs hin tmps hl h2 h8 h9
    obtain ⟨t1, h1, v1, c, e1, hc1, hc2, l1, t10, t11, t12, t17, t18, t19, A1⟩ := LG_in h cv len K lv cs A (by omega) tmps hl h2 h8 h9
    obtain ⟨t2, h2', v2, cs', e2, q1, q2, l2, t20, t21, t27, t28, A2⟩ := ih h1 ⟨K.al, K.ix⟩ v1 (cs ++ [c]) (by simpa using A1) (by simp; omega) (fun x hx => by
        rcases List.mem_append.1 hx with hx | hx
        · exact hin x hx
        · obtain rfl := List.mem_singleton.1 hx; exact ⟨hc1, hc2⟩) t1 l1 t12 t18 (by simpa using t19)
    exact ⟨t2, h2', v2, cs', by rw [e_loop, e1, k_loop]; exact e2, q1, q2, l2, t20.trans t10, t21.trans t11, t27.trans t17, t28, A2⟩

theorem good_of {cs : List Int} (hl : cs.length = 6) (hin : ∀ c ∈ cs, 1 ≤ c ∧ c ≤ 1000000) {ds : List Nat} (hd : ∀ d ∈ ds, d < 6) : Good cs ds := fun d hm => by
  have h6 := hd d hm
  have hlt : d < cs.length := by omega
  exact ⟨by omega, cs[d], List.getElem?_eq_getElem hlt, hin _ (List.getElem_mem hlt)⟩
theorem dims_lt {x d : Nat} (h : d ∈ dims x) : d < 6 := by
  have := (List.mem_filter.1 h).1
  simpa using this

/-- A SET WITH MORE DIMENSIONS MAY HAVE AS MANY GROUPS AT LEAST. -/
theorem grows_run (h : AHeap) (a b : Int) (cv : AVal) (len : Nat) (K : Counts h cv len) : ∃ h', run Cf 5 [.int .i64 a, .int .i64 b, cv] h = some (.ret (.bool true), h') := by
  obtain ⟨a0, ha0⟩ : ∃ a0, a0 = slots Try.f5 [.int .i64 a, .int .i64 b, cv] := ⟨_, rfl⟩
  have hl : a0.length = 65 := by rw [ha0]; rfl
  have i0 : a0[0]? = some (.int .i64 a) := by rw [ha0]; rfl
  have i1 : a0[1]? = some (.int .i64 b) := by rw [ha0]; rfl
  have i2 : a0[2]? = some cv := by rw [ha0]; rfl
  have hbody : bodyOf Try.f5 = .seq (Cat [false] (bodyOf Try.f5)) (.seq (Cat [true, false] (bodyOf Try.f5)) (.seq (Cat [true, true, false] (bodyOf Try.f5)) (.seq (.seq (Cat [true, true, true, false, false] (bodyOf Try.f5)) (.block 0 (.loop LG))) (.seq (Cat [true, true, true, true, false] (bodyOf Try.f5)) (.seq (Cat [true, true, true, true, true, false] (bodyOf Try.f5)) (Cat [true, true, true, true, true, true] (bodyOf Try.f5))))))) := rfl
  have p1 : ∃ t, ex Cf (Cat [false] (bodyOf Try.f5)) ⟨a0, h⟩ = some (.normal, ⟨t, h⟩) ∧ t.length = 65 ∧ t[0]? = some (.int .i64 a) ∧ t[1]? = some (.int .i64 b) ∧ t[2]? = some cv := by
    simp only [bodyOf, Try.f5, Cat, Bool.false_eq_true, e_seq, e_region, e_cond, e_block, ex_skip, ex_exit, ex_ret, o_cons, xops_nil, k_want_none, k_want_false, k_val, k_pan, k_call, k_ret, k_seq, k_seq_exit, k_seq_ret, k_true, k_false, k_block, k_block_exit, k_block_ret, k_loop, k_loop_exit, k_loop_ret, awanted, aoper, evalO, put, Option.getD_some, List.getElem?_set, acallOp, abuiltin, List.map_cons, List.map_nil, Nat.reduceEqDiff, Nat.reduceLT, List.length_set, Option.map_some, Option.bind_some, Option.bind_eq_bind, add_i, sub_i, mul_i, eql_i, neq_i, lss_i, leq_i, gtr_i, geq_i, ofV, ofCell, ↓reduceIte, List.cons_append, List.nil_append, List.append_nil, List.getElem?_toArray, List.getElem?_cons_succ, List.getElem?_cons_zero, e_draw, g_nil, g_cons, g_want, g_skip, g_val, g_call, g_ret, Option.map_none, hl]
    exact ⟨_, rfl, by simp [hl], by simp [i0], by simp [i1], by simp [i2]⟩
  obtain ⟨t1, e1, l1, t10, t11, t12⟩ := p1
  have p2 : ∃ t, ex Cf (Cat [true, false] (bodyOf Try.f5)) ⟨t1, h⟩ = some (.normal, ⟨t, h⟩) ∧ t.length = 65 ∧ t[0]? = some (.int .i64 a) ∧ t[1]? = some (.int .i64 b) ∧ t[2]? = some cv ∧ t[7]? = some (.bool true) := by
    simp only [bodyOf, Try.f5, Cat, Bool.false_eq_true, e_seq, e_region, e_cond, e_block, ex_skip, ex_exit, ex_ret, o_cons, xops_nil, k_want_none, k_want_false, k_val, k_pan, k_call, k_ret, k_seq, k_seq_exit, k_seq_ret, k_true, k_false, k_block, k_block_exit, k_block_ret, k_loop, k_loop_exit, k_loop_ret, awanted, aoper, evalO, put, Option.getD_some, List.getElem?_set, acallOp, abuiltin, List.map_cons, List.map_nil, Nat.reduceEqDiff, Nat.reduceLT, List.length_set, Option.map_some, Option.bind_some, Option.bind_eq_bind, add_i, sub_i, mul_i, eql_i, neq_i, lss_i, leq_i, gtr_i, geq_i, ofV, ofCell, ↓reduceIte, List.cons_append, List.nil_append, List.append_nil, List.getElem?_toArray, List.getElem?_cons_succ, List.getElem?_cons_zero, e_draw, g_nil, g_cons, g_want, g_skip, g_val, g_call, g_ret, Option.map_none, l1, awake_run]
    exact ⟨_, rfl, by simp [l1], by simp [t10], by simp [t11], by simp [t12], by simp [l1]⟩
  obtain ⟨t2, e2, l2, t20, t21, t22, t27⟩ := p2
  have p3 : ∃ t, ex Cf (Cat [true, true, false] (bodyOf Try.f5)) ⟨t2, h⟩ = some (.normal, ⟨t, h⟩) ∧ t.length = 65 ∧ t[0]? = some (.int .i64 a) ∧ t[1]? = some (.int .i64 b) ∧ t[2]? = some cv ∧ t[7]? = some (.bool true) ∧ t[8]? = some .nilSl := by
    simp only [bodyOf, Try.f5, Cat, Bool.false_eq_true, e_seq, e_region, e_cond, e_block, ex_skip, ex_exit, ex_ret, o_cons, xops_nil, k_want_none, k_want_false, k_val, k_pan, k_call, k_ret, k_seq, k_seq_exit, k_seq_ret, k_true, k_false, k_block, k_block_exit, k_block_ret, k_loop, k_loop_exit, k_loop_ret, awanted, aoper, evalO, put, Option.getD_some, List.getElem?_set, acallOp, abuiltin, List.map_cons, List.map_nil, Nat.reduceEqDiff, Nat.reduceLT, List.length_set, Option.map_some, Option.bind_some, Option.bind_eq_bind, add_i, sub_i, mul_i, eql_i, neq_i, lss_i, leq_i, gtr_i, geq_i, ofV, ofCell, ↓reduceIte, List.cons_append, List.nil_append, List.append_nil, List.getElem?_toArray, List.getElem?_cons_succ, List.getElem?_cons_zero, e_draw, g_nil, g_cons, g_want, g_skip, g_val, g_call, g_ret, Option.map_none, l2]
    exact ⟨_, rfl, by simp [l2], by simp [t20], by simp [t21], by simp [t22], by simp [t27], by simp [l2]⟩
  obtain ⟨t3, e3, l3, t30, t31, t32, t37, t38⟩ := p3
  have p4 : ∃ t, ex Cf (Cat [true, true, true, false, false] (bodyOf Try.f5)) ⟨t3, h⟩ = some (.normal, ⟨t, h⟩) ∧ t.length = 65 ∧ t[0]? = some (.int .i64 a) ∧ t[1]? = some (.int .i64 b) ∧ t[2]? = some cv ∧ t[7]? = some (.bool true) ∧ t[8]? = some .nilSl ∧ t[9]? = some (.int .i64 0) := by
    simp only [bodyOf, Try.f5, Cat, Bool.false_eq_true, e_seq, e_region, e_cond, e_block, ex_skip, ex_exit, ex_ret, o_cons, xops_nil, k_want_none, k_want_false, k_val, k_pan, k_call, k_ret, k_seq, k_seq_exit, k_seq_ret, k_true, k_false, k_block, k_block_exit, k_block_ret, k_loop, k_loop_exit, k_loop_ret, awanted, aoper, evalO, put, Option.getD_some, List.getElem?_set, acallOp, abuiltin, List.map_cons, List.map_nil, Nat.reduceEqDiff, Nat.reduceLT, List.length_set, Option.map_some, Option.bind_some, Option.bind_eq_bind, add_i, sub_i, mul_i, eql_i, neq_i, lss_i, leq_i, gtr_i, geq_i, ofV, ofCell, ↓reduceIte, List.cons_append, List.nil_append, List.append_nil, List.getElem?_toArray, List.getElem?_cons_succ, List.getElem?_cons_zero, e_draw, g_nil, g_cons, g_want, g_skip, g_val, g_call, g_ret, Option.map_none, l3]
    exact ⟨_, rfl, by simp [l3], by simp [t30], by simp [t31], by simp [t32], by simp [t37], by simp [t38], by simp [l3]⟩
  obtain ⟨t4, e4, l4, t40, t41, t42, t47, t48, t49⟩ := p4
  obtain ⟨t5, h5, lv, cs, e5, c6, cin, l5, t50, t51, t57, t58, A5⟩ := LG_loop cv len 6 h K .nilSl [] (Acc.nil 1 h) rfl (fun c hc => by cases hc) t4 l4 t42 t48 t49
  rw [t40] at t50; rw [t41] at t51; rw [t47] at t57
  obtain ⟨x, hx, hxe⟩ := and63 a
  obtain ⟨w, hw, hwe⟩ := and63 b
  have hy : x ||| w < 64 := Nat.or_lt_two_pow (n := 6) hx hw
  have p6 : ∃ t, ex Cf (Cat [true, true, true, true, false] (bodyOf Try.f5)) ⟨t5, h5⟩ = some (.normal, ⟨t, h5⟩) ∧ t.length = 65 ∧ t[1]? = some (.int .i64 b) ∧ t[7]? = some (.bool true) ∧ t[8]? = some lv ∧ t[11]? = some (.int .i64 x) := by
    simp only [bodyOf, Try.f5, Cat, Bool.false_eq_true, e_seq, e_region, e_cond, e_block, ex_skip, ex_exit, ex_ret, o_cons, xops_nil, k_want_none, k_want_false, k_val, k_pan, k_call, k_ret, k_seq, k_seq_exit, k_seq_ret, k_true, k_false, k_block, k_block_exit, k_block_ret, k_loop, k_loop_exit, k_loop_ret, awanted, aoper, evalO, put, Option.getD_some, List.getElem?_set, acallOp, abuiltin, List.map_cons, List.map_nil, Nat.reduceEqDiff, Nat.reduceLT, List.length_set, Option.map_some, Option.bind_some, Option.bind_eq_bind, add_i, sub_i, mul_i, eql_i, neq_i, lss_i, leq_i, gtr_i, geq_i, ofV, ofCell, ↓reduceIte, List.cons_append, List.nil_append, List.append_nil, List.getElem?_toArray, List.getElem?_cons_succ, List.getElem?_cons_zero, e_draw, g_nil, g_cons, g_want, g_skip, g_val, g_call, g_ret, Option.map_none, l5, t50, and_i, hxe]
    exact ⟨_, rfl, by simp [l5], by simp [t51], by simp [t57], by simp [t58], by simp [l5]⟩
  obtain ⟨t6, e6, l6, t61, t67, t68, t611⟩ := p6
  have p7 : ∃ t, ex Cf (Cat [true, true, true, true, true, false] (bodyOf Try.f5)) ⟨t6, h5⟩ = some (.normal, ⟨t, h5⟩) ∧ t.length = 65 ∧ t[7]? = some (.bool true) ∧ t[8]? = some lv ∧ t[11]? = some (.int .i64 x) ∧ t[12]? = some (.int .i64 (x ||| w : Nat)) := by
    simp only [bodyOf, Try.f5, Cat, Bool.false_eq_true, e_seq, e_region, e_cond, e_block, ex_skip, ex_exit, ex_ret, o_cons, xops_nil, k_want_none, k_want_false, k_val, k_pan, k_call, k_ret, k_seq, k_seq_exit, k_seq_ret, k_true, k_false, k_block, k_block_exit, k_block_ret, k_loop, k_loop_exit, k_loop_ret, awanted, aoper, evalO, put, Option.getD_some, List.getElem?_set, acallOp, abuiltin, List.map_cons, List.map_nil, Nat.reduceEqDiff, Nat.reduceLT, List.length_set, Option.map_some, Option.bind_some, Option.bind_eq_bind, add_i, sub_i, mul_i, eql_i, neq_i, lss_i, leq_i, gtr_i, geq_i, ofV, ofCell, ↓reduceIte, List.cons_append, List.nil_append, List.append_nil, List.getElem?_toArray, List.getElem?_cons_succ, List.getElem?_cons_zero, e_draw, g_nil, g_cons, g_want, g_skip, g_val, g_call, g_ret, Option.map_none, l6, t61, t611, and_i, or_i, hwe, or_nat hx hw]
    exact ⟨_, rfl, by simp [l6], by simp [t67], by simp [t68], by simp [t611], by simp [l6]⟩
  obtain ⟨t7, e7, l7, t77, t78, t711, t712⟩ := p7
  have g6 : Good cs (List.range 6) := good_of c6 cin fun d hd => by simpa using hd
  have gx : Good cs (dims x) := good_of c6 cin fun d hd => dims_lt hd
  have gy : Good cs (dims (x ||| w)) := good_of c6 cin fun d hd => dims_lt hd
  obtain ⟨bx, hbx⟩ : ∃ bx, bx = boundL cs (dims x) 1 := ⟨_, rfl⟩
  obtain ⟨bw, hbw⟩ : ∃ bw, bw = boundL cs (dims (x ||| w)) 1 := ⟨_, rfl⟩
  have hb1 := boundL_le cs (dims x) 1 gx (by omega) (by unfold top; omega)
  have hb2 := boundL_le cs (dims (x ||| w)) 1 gy (by omega) (by unfold top; omega)
  have hb3 : boundL cs (dims x) 1 ≤ boundL cs (dims (x ||| w)) 1 := boundL_mono cs _ _ (fun i hi => by simp [Nat.testBit_or, hi]) (List.range 6) 1 1 g6 (by omega) (by omega) (by unfold top; omega)
  have r1 := bound_run h5 cs lv A5 hx gx 4611686018427387904 (by omega)
  have r2 := bound_run h5 cs lv A5 hy gy 4611686018427387904 (by omega)
  have r3 := bound_run h5 cs lv A5 hx gx 5 (by omega)
  rw [← hbx] at r1 r3 hb1 hb3
  rw [← hbw] at r2 hb2 hb3
  unfold top at hb1 hb2
  rw [if_neg (by omega)] at r1 r2
  obtain ⟨bz, hbz⟩ : ∃ bz, bz = (if 5 < bx then 5 else bx) := ⟨_, rfl⟩
  rw [← hbz] at r3
  have hz : bz ≤ 5 := by rw [hbz]; split <;> omega
  have d1 : decide (bx ≤ bw) = true := by simpa using hb3
  have d2 : decide (bz ≤ 5) = true := by simpa using hz
  have d3 : decide (bx ≥ 1) = true := by simpa using hb1.1
  have p8 : ∃ t, ex Cf (Cat [true, true, true, true, true, true] (bodyOf Try.f5)) ⟨t7, h5⟩ = some (.ret, ⟨t, h5⟩) ∧ t[6]? = some (.bool true) := by
    simp only [bodyOf, Try.f5, Cat, Bool.false_eq_true, e_seq, e_region, e_cond, e_block, ex_skip, ex_exit, ex_ret, o_cons, xops_nil, k_want_none, k_want_false, k_val, k_pan, k_call, k_ret, k_seq, k_seq_exit, k_seq_ret, k_true, k_false, k_block, k_block_exit, k_block_ret, k_loop, k_loop_exit, k_loop_ret, awanted, aoper, evalO, put, Option.getD_some, List.getElem?_set, acallOp, abuiltin, List.map_cons, List.map_nil, Nat.reduceEqDiff, Nat.reduceLT, List.length_set, Option.map_some, Option.bind_some, Option.bind_eq_bind, add_i, sub_i, mul_i, eql_i, neq_i, lss_i, leq_i, gtr_i, geq_i, ofV, ofCell, ↓reduceIte, List.cons_append, List.nil_append, List.append_nil, List.getElem?_toArray, List.getElem?_cons_succ, List.getElem?_cons_zero, e_draw, g_nil, g_cons, g_want, g_skip, g_val, g_call, g_ret, Option.map_none, l7, t77, t78, t711, t712, r1, r2, r3, d1, d2, d3, show ((true : Bool) == true) = true from rfl]
    exact ⟨_, rfl, by simp [l7]⟩
  obtain ⟨t8, e8, t86⟩ := p8
  refine ⟨h5, fn_run (fn := Try.f5) (x := .ret) Try.func5 rfl rfl rfl (.inl rfl) (by rw [← ha0, hbody, e_seq, e1, k_seq, e_seq, e2, k_seq, e_seq, e3, k_seq, e_seq, e_seq, e4, k_seq, e_block, e5, k_block_exit, if_pos rfl, k_seq, e_seq, e6, k_seq, e_seq, e7, k_seq, e8]) (vs := [_]) (by simp only [show Try.f5.results.toList = [ResultVar.tmp 6] from rfl, aresults, ares1, t86]; rfl)⟩
end Go.Proofs.Cube
