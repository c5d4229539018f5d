/-
  CACHE: the order list: Index, by the abstract machine.
-/
import Derived.Test.YtgjjmngcmbpjjaaCacheNil
set_option linter.unusedVariables false
set_option linter.unusedSimpArgs false
set_option maxRecDepth 100000
namespace Go.Am.Cache
open Go Go.Am Go.Proofs

/-- a slice of pointers to entries -/
def SlP (h : AHeap) (v : AVal) (ps : List Nat) : Prop := (v = .nilSl ∧ ps = []) ∨
  ∃ oi off cap op cells, v = .sl oi off 1 ps.length cap op ∧ h.get oi = some (.arr cells) ∧ ps.length ≤ cap ∧ off + cap ≤ cells.length ∧ (cells.drop off).take ps.length = ps.map (.ptr · 0)
/-- a block that is an entry's -/
def IsEnt (h : AHeap) (p : Nat) : Prop := ∃ v vs, h.get p = some (.arr (v :: vs))

theorem ld_66 (h : AHeap) (p : AVal) : aload Try.prog h 66 p = loadA h false 1 p := by kernel_rfl
theorem ix_52 (x : AVal) (k : IntKind) (i : Int) : aindexAddr Try.prog 52 x (.int k i) = indexAddrA 1 x i := by kernel_rfl
theorem eq_ptrs {h : AHeap} {i j : Nat} (xo yo : Operand) (hi : IsEnt h i) (hj : IsEnt h j) : abin Cf .eql 66 xo yo h (.ptr i 0) (.ptr j 0) = some (.bool (decide (i = j))) := by
  obtain ⟨v, vs, hi⟩ := hi
  obtain ⟨u, us, hj⟩ := hj
  simp only [abin, hi, hj]
  rw [if_pos (show abin.P2 Cf 66 = true by kernel_rfl)]
  simp
theorem alen_p {h : AHeap} {v : AVal} {ps : List Nat} (hv : SlP h v ps) (h2 : AHeap) : alen Try.prog h2 52 v = some (.int .i64 ps.length) := by
  rcases hv with ⟨rfl, rfl⟩ | ⟨oi, off, cap, op, cells, rfl, _⟩ <;> simp [alen, Try.underlying52]
theorem at_p {h : AHeap} {v : AVal} {ps : List Nat} (hv : SlP h v ps) {i : Nat} {p : Nat} (hp : ps[i]? = some p) : ∃ a, indexAddrA 1 v i = some a ∧ loadA h false 1 a = some (.ptr p 0) := by
  have hlt := (List.getElem?_eq_some_iff.1 hp).1
  rcases hv with ⟨rfl, rfl⟩ | ⟨oi, off, cap, op, cells, rfl, hg, h1, h2, h3⟩
  · simp at hp
  · refine ⟨.ptr oi (off + i), ?_, ?_⟩
    · simp only [indexAddrA]
      rw [if_pos ⟨trivial, by omega, by omega⟩]
      simp
    · simp only [loadA, hg, ofCells]
      rw [if_pos (by omega)]
      have : ((cells.drop off).take ps.length)[i]? = some (.ptr p 0) := by rw [h3]; simp [hp]
      rw [List.getElem?_take, if_pos hlt] at this
      simp only [Bool.false_eq_true, if_false]
      simpa [Nat.add_comm] using this

/-- the place of the first one -/
def place (x : Nat) : List Nat → Nat → Int
  | [], _ => -1
  | p :: ps, i => if x = p then i else place x ps (i + 1)

noncomputable def L50 : Code := Cat [true, false, true, true, true] (bodyOf Try.f50)
theorem L50_out (h : AHeap) (i n : Nat) (hlt : ¬ i < n) (tmps : List AVal) (hl : tmps.length = 19) (h7 : tmps[7]? = some (.int .i64 n)) (h8 : tmps[8]? = some (.int .i64 i)) :
    ex Cf L50 ⟨tmps, h⟩ = some (.exit 0, ⟨tmps.set 9 (.bool false), h⟩) := by
  have hlt' : decide ((i : Int) < (n : Int)) = false := by simp; omega
  simp only [L50, bodyOf, Try.f50, Cat, Bool.false_eq_true, e_seq, e_region, e_cond, e_block, ex_skip, ex_exit, ex_ret, o_cons, xops_nil, k_want_none, k_want_false, k_val, k_pan, k_call, k_ret, k_seq, k_seq_exit, k_seq_ret, k_true, k_false, k_block, k_block_exit, k_block_ret, k_loop, k_loop_exit, k_loop_ret, awanted, aoper, evalO, put, Option.getD_some, List.getElem?_set, acallOp, abuiltin, List.map_cons, List.map_nil, Nat.reduceEqDiff, Nat.reduceLT, List.length_set, Option.map_some, Option.bind_some, Option.bind_eq_bind, add_i, sub_i, mul_i, eql_i, neq_i, lss_i, leq_i, gtr_i, geq_i, ofV, ofCell, ↓reduceIte, loadA, ofCells, List.cons_append, List.nil_append, List.append_nil, List.getElem?_toArray, List.getElem?_cons_succ, List.getElem?_cons_zero, e_draw, g_nil, g_cons, g_want, g_skip, g_val, g_call, g_ret, Option.map_none, hl, h7, h8, hlt']
theorem L50_in (h : AHeap) (i n p x : Nat) (hlt : i < n) (hi : i < 4611686018427387904) (v a : AVal) (hix : indexAddrA 1 v i = some a) (hld : loadA h false 1 a = some (.ptr p 0)) (hx : IsEnt h x) (hp : IsEnt h p)
    (tmps : List AVal) (hl : tmps.length = 19) (h0 : tmps[0]? = some v) (h1 : tmps[1]? = some (.ptr x 0)) (h7 : tmps[7]? = some (.int .i64 n)) (h8 : tmps[8]? = some (.int .i64 i)) :
    (x = p ∧ ∃ t, ex Cf L50 ⟨tmps, h⟩ = some (.ret, ⟨t, h⟩) ∧ t[4]? = some (.int .i64 i)) ∨
    (x ≠ p ∧ ∃ t, ex Cf L50 ⟨tmps, h⟩ = some (.normal, ⟨t, h⟩) ∧ t.length = 19 ∧ t[0]? = some v ∧ t[1]? = some (.ptr x 0) ∧ t[7]? = some (.int .i64 n) ∧ t[8]? = some (.int .i64 (i + 1 : Nat))) := by
  have hlt' : decide ((i : Int) < (n : Int)) = true := by simp; omega
  have hq := fun xo yo => eq_ptrs xo yo hx hp
  have hld' : aload Try.prog h 66 a = some (.ptr p 0) := by rw [ld_66]; exact hld
  by_cases hxp : x = p
  · refine .inl ⟨hxp, ?_⟩
    have hd : decide (x = p) = true := by simp [hxp]
    simp only [L50, bodyOf, Try.f50, Cat, Bool.false_eq_true, e_seq, e_region, e_cond, e_block, ex_skip, ex_exit, ex_ret, o_cons, xops_nil, k_want_none, k_want_false, k_val, k_pan, k_call, k_ret, k_seq, k_seq_exit, k_seq_ret, k_true, k_false, k_block, k_block_exit, k_block_ret, k_loop, k_loop_exit, k_loop_ret, awanted, aoper, evalO, put, Option.getD_some, List.getElem?_set, acallOp, abuiltin, List.map_cons, List.map_nil, Nat.reduceEqDiff, Nat.reduceLT, List.length_set, Option.map_some, Option.bind_some, Option.bind_eq_bind, add_i, sub_i, mul_i, eql_i, neq_i, lss_i, leq_i, gtr_i, geq_i, ofV, ofCell, ↓reduceIte, loadA, ofCells, List.cons_append, List.nil_append, List.append_nil, List.getElem?_toArray, List.getElem?_cons_succ, List.getElem?_cons_zero, e_draw, g_nil, g_cons, g_want, g_skip, g_val, g_call, g_ret, Option.map_none, hl, h0, h1, h7, h8, hlt', ix_52, hix, CP, hld', hq, hd]
    exact ⟨_, rfl, by simp [hl]⟩
  · refine .inr ⟨hxp, ?_⟩
    have hd : decide (x = p) = false := by simp [hxp]
    simp only [L50, bodyOf, Try.f50, Cat, Bool.false_eq_true, e_seq, e_region, e_cond, e_block, ex_skip, ex_exit, ex_ret, o_cons, xops_nil, k_want_none, k_want_false, k_val, k_pan, k_call, k_ret, k_seq, k_seq_exit, k_seq_ret, k_true, k_false, k_block, k_block_exit, k_block_ret, k_loop, k_loop_exit, k_loop_ret, awanted, aoper, evalO, put, Option.getD_some, List.getElem?_set, acallOp, abuiltin, List.map_cons, List.map_nil, Nat.reduceEqDiff, Nat.reduceLT, List.length_set, Option.map_some, Option.bind_some, Option.bind_eq_bind, add_i, sub_i, mul_i, eql_i, neq_i, lss_i, leq_i, gtr_i, geq_i, ofV, ofCell, ↓reduceIte, loadA, ofCells, List.cons_append, List.nil_append, List.append_nil, List.getElem?_toArray, List.getElem?_cons_succ, List.getElem?_cons_zero, e_draw, g_nil, g_cons, g_want, g_skip, g_val, g_call, g_ret, Option.map_none, hl, h0, h1, h7, h8, hlt', ix_52, hix, CP, hld', hq, hd]
    rw [wrap64 (x := (i : Int) + 1) (by omega) (by omega)]
    exact ⟨_, rfl, by simp [hl], by simp [h0], by simp [h1], by simp [h7], by simp [hl]⟩

theorem L50_loop (h : AHeap) (v : AVal) (all : List Nat) (x : Nat) (hv : SlP h v all) (hx : IsEnt h x) (hall : ∀ p ∈ all, IsEnt h p) (hb : all.length ≤ 4611686018427387904) : ∀ (rest pre : List Nat), all = pre ++ rest → ∀ (tmps : List AVal), tmps.length = 19 →
    tmps[0]? = some v → tmps[1]? = some (.ptr x 0) → tmps[7]? = some (.int .i64 all.length) → tmps[8]? = some (.int .i64 pre.length) →
    ∃ t, (ex Cf (.loop L50) ⟨tmps, h⟩ = some (.ret, ⟨t, h⟩) ∧ t[4]? = some (.int .i64 (place x rest pre.length))) ∨ (ex Cf (.loop L50) ⟨tmps, h⟩ = some (.exit 0, ⟨t, h⟩) ∧ place x rest pre.length = -1 ∧ t.length = 19) := by
  intro rest
  induction rest with
  | nil =>
    intro pre hp tmps hl h0 h1 h7 h8
    refine ⟨tmps.set 9 (.bool false), .inr ⟨?_, rfl, by simp [hl]⟩⟩
    rw [e_loop, L50_out h pre.length all.length (by rw [hp]; simp) tmps hl h7 h8, k_loop_exit]
  | cons p rest ih =>
    intro pre hp tmps hl h0 h1 h7 h8
    have hpi : all[pre.length]? = some p := by rw [hp]; simp
    obtain ⟨a, hix, hld⟩ := at_p hv hpi
    have hlt := (List.getElem?_eq_some_iff.1 hpi).1
    rcases L50_in h pre.length all.length p x hlt (by omega) v a hix hld hx (hall p (List.mem_of_getElem? hpi)) tmps hl h0 h1 h7 h8 with ⟨hxp, t, he, h4⟩ | ⟨hxp, t, he, g, g0, g1, g7, g8⟩
    · refine ⟨t, .inl ⟨by rw [e_loop, he, k_loop_ret], ?_⟩⟩
      rw [h4]; simp only [place, if_pos hxp]
    · obtain ⟨t2, hor⟩ := ih (pre ++ [p]) (by simp [hp]) t g g0 g1 g7 (by simpa using g8)
      simp only [List.length_append, List.length_cons, List.length_nil, Nat.zero_add] at hor
      refine ⟨t2, ?_⟩
      rw [e_loop, he, k_loop]
      simp only [place, if_neg hxp]
      exact hor

/-- WHERE A THING LIES. -/
theorem index_run (h : AHeap) (v : AVal) (all : List Nat) (x : Nat) (hv : SlP h v all) (hx : IsEnt h x) (hall : ∀ p ∈ all, IsEnt h p) (hb : all.length ≤ 4611686018427387904) : run Cf 50 [v, .ptr x 0] h = some (.ret (.int .i64 (place x all 0)), h) := by
  obtain ⟨a0, ha0⟩ : ∃ a0, a0 = slots Try.f50 [v, .ptr x 0] := ⟨_, rfl⟩
  have hl : a0.length = 19 := by rw [ha0]; rfl
  have h0 : a0[0]? = some v := by rw [ha0]; rfl
  have h1 : a0[1]? = some (.ptr x 0) := by rw [ha0]; rfl
  have hbody : bodyOf Try.f50 = .seq (Cat [false] (bodyOf Try.f50)) (.seq (.seq (Cat [true, false, false] (bodyOf Try.f50)) (.block 0 (.loop L50))) (Cat [true, true] (bodyOf Try.f50))) := rfl
  have hlen := alen_p hv
  have p0 : ∃ t, ex Cf (Cat [false] (bodyOf Try.f50)) ⟨a0, h⟩ = some (.normal, ⟨t, h⟩) ∧ t.length = 19 ∧ t[0]? = some v ∧ t[1]? = some (.ptr x 0) := by
    simp only [bodyOf, Try.f50, Cat, Bool.false_eq_true, e_seq, e_region, e_cond, e_block, ex_skip, ex_exit, ex_ret, o_cons, xops_nil, k_want_none, k_want_false, k_val, k_pan, k_call, k_ret, k_seq, k_seq_exit, k_seq_ret, k_true, k_false, k_block, k_block_exit, k_block_ret, k_loop, k_loop_exit, k_loop_ret, awanted, aoper, evalO, put, Option.getD_some, List.getElem?_set, acallOp, abuiltin, List.map_cons, List.map_nil, Nat.reduceEqDiff, Nat.reduceLT, List.length_set, Option.map_some, Option.bind_some, Option.bind_eq_bind, add_i, sub_i, mul_i, eql_i, neq_i, lss_i, leq_i, gtr_i, geq_i, ofV, ofCell, ↓reduceIte, loadA, ofCells, List.cons_append, List.nil_append, List.append_nil, List.getElem?_toArray, List.getElem?_cons_succ, List.getElem?_cons_zero, e_draw, g_nil, g_cons, g_want, g_skip, g_val, g_call, g_ret, Option.map_none]
    exact ⟨_, rfl, by simp [hl], by simp [h0], by simp [h1]⟩
  obtain ⟨t0, e0, l0, t00, t01⟩ := p0
  have p1 : ∃ t, ex Cf (Cat [true, false, false] (bodyOf Try.f50)) ⟨t0, h⟩ = some (.normal, ⟨t, h⟩) ∧ t.length = 19 ∧ t[0]? = some v ∧ t[1]? = some (.ptr x 0) ∧ t[7]? = some (.int .i64 all.length) ∧ t[8]? = some (.int .i64 0) := by
    simp only [bodyOf, Try.f50, Cat, Bool.false_eq_true, e_seq, e_region, e_cond, e_block, ex_skip, ex_exit, ex_ret, o_cons, xops_nil, k_want_none, k_want_false, k_val, k_pan, k_call, k_ret, k_seq, k_seq_exit, k_seq_ret, k_true, k_false, k_block, k_block_exit, k_block_ret, k_loop, k_loop_exit, k_loop_ret, awanted, aoper, evalO, put, Option.getD_some, List.getElem?_set, acallOp, abuiltin, List.map_cons, List.map_nil, Nat.reduceEqDiff, Nat.reduceLT, List.length_set, Option.map_some, Option.bind_some, Option.bind_eq_bind, add_i, sub_i, mul_i, eql_i, neq_i, lss_i, leq_i, gtr_i, geq_i, ofV, ofCell, ↓reduceIte, loadA, ofCells, List.cons_append, List.nil_append, List.append_nil, List.getElem?_toArray, List.getElem?_cons_succ, List.getElem?_cons_zero, e_draw, g_nil, g_cons, g_want, g_skip, g_val, g_call, g_ret, Option.map_none, l0, t00, CP, hlen]
    exact ⟨_, rfl, by simp [l0], by simp [t00], by simp [t01], by simp [l0], by simp [l0]⟩
  obtain ⟨t1, e1, l1, t10, t11, t17, t18⟩ := p1
  obtain ⟨t2, hor⟩ := L50_loop h v all x hv hx hall hb all [] rfl t1 l1 t10 t11 t17 t18
  rcases hor with ⟨e2, t24⟩ | ⟨e2, hm, l2⟩
  · refine fn_run (fn := Try.f50) (t := t2) (x := .ret) Try.func50 rfl rfl rfl (.inl rfl) ?_ (vs := [.int .i64 (place x all 0)]) (by simp [show Try.f50.results.toList = [ResultVar.tmp 4] from rfl, aresults, ares1, t24])
    rw [← ha0, hbody, e_seq, e0, k_seq, e_seq, e_seq, e1, k_seq, e_block, e2, k_block_ret, k_seq_ret]
  · have p3 : ∃ t, ex Cf (Cat [true, true] (bodyOf Try.f50)) ⟨t2, h⟩ = some (.ret, ⟨t, h⟩) ∧ t[4]? = some (.int .i64 (-1)) := by
      simp only [bodyOf, Try.f50, Cat, Bool.false_eq_true, e_seq, e_region, e_cond, e_block, ex_skip, ex_exit, ex_ret, o_cons, xops_nil, k_want_none, k_want_false, k_val, k_pan, k_call, k_ret, k_seq, k_seq_exit, k_seq_ret, k_true, k_false, k_block, k_block_exit, k_block_ret, k_loop, k_loop_exit, k_loop_ret, awanted, aoper, evalO, put, Option.getD_some, List.getElem?_set, acallOp, abuiltin, List.map_cons, List.map_nil, Nat.reduceEqDiff, Nat.reduceLT, List.length_set, Option.map_some, Option.bind_some, Option.bind_eq_bind, add_i, sub_i, mul_i, eql_i, neq_i, lss_i, leq_i, gtr_i, geq_i, ofV, ofCell, ↓reduceIte, loadA, ofCells, List.cons_append, List.nil_append, List.append_nil, List.getElem?_toArray, List.getElem?_cons_succ, List.getElem?_cons_zero, e_draw, g_nil, g_cons, g_want, g_skip, g_val, g_call, g_ret, Option.map_none]
      exact ⟨_, rfl, by simp [l2]⟩
    obtain ⟨t3, e3, t34⟩ := p3
    refine fn_run (fn := Try.f50) (t := t3) (x := .ret) Try.func50 rfl rfl rfl (.inl rfl) ?_ (vs := [.int .i64 (place x all 0)]) (by rw [show place x all 0 = -1 from hm]; simp [show Try.f50.results.toList = [ResultVar.tmp 4] from rfl, aresults, ares1, t34])
    rw [← ha0, hbody, e_seq, e0, k_seq, e_seq, e_seq, e1, k_seq, e_block, e2, k_block_exit, if_pos rfl, k_seq, e3]

theorem sl_52 (h : AHeap) (x : AVal) (lo hi mx : Option AVal) (hx : ∀ s, x ≠ .str s) : aslice Try.prog h 52 x lo hi mx = sliceA 1 x lo hi mx := by
  unfold aslice
  rw [Try.underlying52]
  cases x <;> first | rfl | exact absurd rfl (hx _)

theorem slice_own {id off len cap l h : Nat} {op : Bool} (k k2 : IntKind) (h1 : l ≤ h) (h2 : h ≤ cap) : sliceA 1 (.sl id off 1 len cap op) (some (.int k l)) (some (.int k2 h)) none = some (.sl id (off + l) 1 (h - l) (cap - l) op) := by
  simp only [sliceA, bnd, asNat, Option.bind_eq_bind]
  rw [if_pos (by omega), if_pos (by omega)]
  simp [h1, h2]
theorem slice_own_to {id off len cap h : Nat} {op : Bool} (k2 : IntKind) (h2 : h ≤ cap) : sliceA 1 (.sl id off 1 len cap op) none (some (.int k2 h)) none = some (.sl id off 1 h cap op) := by
  simp only [sliceA, bnd, asNat, Option.bind_eq_bind]
  rw [if_pos (by omega)]
  simp [h2]
theorem slice_own_from {id off len cap l : Nat} {op : Bool} (k : IntKind) (h1 : l ≤ len) (h2 : len ≤ cap) : sliceA 1 (.sl id off 1 len cap op) (some (.int k l)) none none = some (.sl id (off + l) 1 (len - l) (cap - l) op) := by
  simp only [sliceA, bnd, asNat, Option.bind_eq_bind]
  rw [if_pos (by omega)]
  simp [h1, h2]
theorem slice_own3 {id off len cap l h m : Nat} {op : Bool} (k k2 k3 : IntKind) (h1 : l ≤ h) (h2 : h ≤ m) (h3 : m ≤ cap) : sliceA 1 (.sl id off 1 len cap op) (some (.int k l)) (some (.int k2 h)) (some (.int k3 m)) = some (.sl id (off + l) 1 (h - l) (m - l) false) := by
  simp only [sliceA, bnd, asNat, Option.bind_eq_bind]
  rw [if_pos (by omega), if_pos (by omega), if_pos (by omega)]
  simp [h1, h2, h3]

theorem append_52 (own : Bool) (h : AHeap) (s x : AVal) : aappend Try.prog own h [52, 52] [s, x] = appendA own h 1 8 s x := by kernel_rfl
theorem append_own {own : Bool} {h : AHeap} {id off off2 i m cap c2 : Nat} {op op2 : Bool} {cells : List AVal} (hg : h.get id = some (.arr cells)) (h1 : off + cap ≤ cells.length) (h2 : i + m ≤ cap) (h3 : off2 + m ≤ cells.length) (h4 : ((cells.drop off2).take m).all AVal.isCell = true) :
    appendA own h 1 8 (.sl id off 1 i cap op) (.sl id off2 1 m c2 op2) = some (.sl id off 1 (i + m) cap op, h.set id (some (.arr (setRange cells (off + i) ((cells.drop off2).take m))))) := by
  simp only [appendA, lenA, srcCells, hg, Option.bind_eq_bind, Option.bind_some, Nat.mul_one, Nat.le_refl, true_and, h3, if_true, h4]
  rw [if_pos ⟨h1, by omega⟩, if_pos h2]
theorem ze_66 : zeroA Try.prog 66 = some .nilPtr := by kernel_rfl
theorem size_66 : (Try.prog.info? 66).map (·.size) = some 1 := by kernel_rfl
theorem clear_own {h : AHeap} {id off c : Nat} {op : Bool} {cells : List AVal} (hg : h.get id = some (.arr cells)) (h1 : off + 1 ≤ cells.length) : aclear Try.prog h 52 (.sl id off 1 1 c op) = some (h.set id (some (.arr (setRange cells off [.nilPtr])))) := by
  unfold aclear
  obtain ⟨i, hi, hs⟩ := Option.map_eq_some_iff.1 size_66
  simp only [Try.underlying52, ze_66, hi, Option.bind_eq_bind, Option.bind_some, hg, hs, zerosA, AVal.cells, List.append_nil, List.length_cons, List.length_nil, List.all_cons, List.all_nil, AVal.isCell, Bool.and_true, Nat.mul_one]
  simp [h1]
theorem set_set (h : AHeap) (i : Nat) (b c : Option ABlk) : (h.set i b).set i c = h.set i c := by
  simp only [AHeap.set, AHeap.mk.injEq, and_true]
  funext j
  split <;> rfl
theorem setRange_get (vs : List AVal) : ∀ (cs : List AVal) (off j : Nat), (j < off ∨ off + vs.length ≤ j) → (setRange cs off vs)[j]? = cs[j]? := by
  induction vs with
  | nil => intro cs off j _; rfl
  | cons v vs ih =>
    intro cs off j hj
    simp only [setRange]
    rw [ih _ _ _ (by simp only [List.length_cons] at hj; omega), List.getElem?_set_ne (by simp only [List.length_cons] at hj; omega)]
theorem setRange_in (vs : List AVal) : ∀ (cs : List AVal) (off j : Nat), j < vs.length → off + vs.length ≤ cs.length → (setRange cs off vs)[off + j]? = vs[j]? := by
  induction vs with
  | nil => intro cs off j h; simp at h
  | cons v vs ih =>
    intro cs off j hj hl
    simp only [setRange]
    simp only [List.length_cons] at hj hl
    cases j with
    | zero =>
      rw [setRange_get _ _ _ _ (.inl (by omega))]
      simp only [Nat.add_zero]
      rw [List.getElem?_set_self (by omega)]; rfl
    | succ j =>
      have := ih (cs.set off v) (off + 1) j (by omega) (by simp; omega)
      rw [show off + (j + 1) = off + 1 + j from by omega, this]; rfl
/-- ONE OF THE LIST GOES: behind Delete the array holds the rest. -/
theorem delete_run (h : AHeap) (oi off cap : Nat) (op : Bool) (cells : List AVal) (pre post : List Nat) (x : Nat) (hg : h.get oi = some (.arr cells)) (hcap : (pre ++ x :: post).length ≤ cap) (hoff : off + cap ≤ cells.length)
    (hc : (cells.drop off).take (pre ++ x :: post).length = (pre ++ x :: post).map (.ptr · 0)) (hb : cap ≤ 4611686018427387904) :
    ∃ h' cells', run Cf 51 [.sl oi off 1 (pre ++ x :: post).length cap op, .int .i64 pre.length, .int .i64 (pre.length + 1 : Nat)] h = some (.ret (.sl oi off 1 (pre ++ post).length cap op), h') ∧
      h' = h.set oi (some (.arr cells')) ∧ cells'.length = cells.length ∧ (cells'.drop off).take (pre ++ post).length = (pre ++ post).map (.ptr · 0) := by
  obtain ⟨a0, ha0⟩ : ∃ a0, a0 = slots Try.f51 [.sl oi off 1 (pre ++ x :: post).length cap op, .int .i64 pre.length, .int .i64 (pre.length + 1 : Nat)] := ⟨_, rfl⟩
  have hl : a0.length = 33 := by rw [ha0]; rfl
  have h0 : a0[0]? = some (.sl oi off 1 (pre ++ x :: post).length cap op) := by rw [ha0]; rfl
  have h1 : a0[1]? = some (.int .i64 pre.length) := by rw [ha0]; rfl
  have h2 : a0[2]? = some (.int .i64 (pre.length + 1 : Nat)) := by rw [ha0]; rfl
  have hlen : (pre ++ x :: post).length = pre.length + post.length + 1 := by simp; omega
  rw [hlen] at h0 hcap hc
  have sl : ∀ (hh : AHeap) (len c : Nat) (o : Bool) (of : Nat) (lo hi mx : Option AVal), aslice Try.prog hh 52 (.sl oi of 1 len c o) lo hi mx = sliceA 1 (.sl oi of 1 len c o) lo hi mx := fun hh len c o of lo hi mx => sl_52 hh _ lo hi mx (fun s => by simp)
  have p0 : ∃ t, ex Cf (Cat [false] (bodyOf Try.f51)) ⟨a0, h⟩ = some (.normal, ⟨t, h⟩) ∧ t.length = 33 ∧ t[0]? = a0[0]? ∧ t[1]? = a0[1]? ∧ t[2]? = a0[2]? := by
    simp only [bodyOf, Try.f51, Cat, Bool.false_eq_true, e_seq, e_region, e_cond, e_block, ex_skip, ex_exit, ex_ret, o_cons, xops_nil, k_want_none, k_want_false, k_val, k_pan, k_call, k_ret, k_seq, k_seq_exit, k_seq_ret, k_true, k_false, k_block, k_block_exit, k_block_ret, k_loop, k_loop_exit, k_loop_ret, awanted, aoper, evalO, put, Option.getD_some, List.getElem?_set, acallOp, abuiltin, List.map_cons, List.map_nil, Nat.reduceEqDiff, Nat.reduceLT, List.length_set, Option.map_some, Option.bind_some, Option.bind_eq_bind, add_i, sub_i, mul_i, eql_i, neq_i, lss_i, leq_i, gtr_i, geq_i, ofV, ofCell, ↓reduceIte, loadA, ofCells, List.cons_append, List.nil_append, List.append_nil, List.getElem?_toArray, List.getElem?_cons_succ, List.getElem?_cons_zero, e_draw, g_nil, g_cons, g_want, g_skip, g_val, g_call, g_ret, Option.map_none]
    exact ⟨_, rfl, by simp [hl], by simp, by simp, by simp⟩
  obtain ⟨t0, e0, l0, t00, t01, t02⟩ := p0
  rw [h0] at t00; rw [h1] at t01; rw [h2] at t02
  have p1 : ∃ t, ex Cf (Cat [true, false] (bodyOf Try.f51)) ⟨t0, h⟩ = some (.normal, ⟨t, h⟩) ∧ t.length = 33 ∧ t[0]? = t0[0]? ∧ t[1]? = t0[1]? ∧ t[2]? = t0[2]? := by
    simp only [bodyOf, Try.f51, Cat, Bool.false_eq_true, e_seq, e_region, e_cond, e_block, ex_skip, ex_exit, ex_ret, o_cons, xops_nil, k_want_none, k_want_false, k_val, k_pan, k_call, k_ret, k_seq, k_seq_exit, k_seq_ret, k_true, k_false, k_block, k_block_exit, k_block_ret, k_loop, k_loop_exit, k_loop_ret, awanted, aoper, evalO, put, Option.getD_some, List.getElem?_set, acallOp, abuiltin, List.map_cons, List.map_nil, Nat.reduceEqDiff, Nat.reduceLT, List.length_set, Option.map_some, Option.bind_some, Option.bind_eq_bind, add_i, sub_i, mul_i, eql_i, neq_i, lss_i, leq_i, gtr_i, geq_i, ofV, ofCell, ↓reduceIte, loadA, ofCells, List.cons_append, List.nil_append, List.append_nil, List.getElem?_toArray, List.getElem?_cons_succ, List.getElem?_cons_zero, e_draw, g_nil, g_cons, g_want, g_skip, g_val, g_call, g_ret, Option.map_none, l0, t00, t01, t02, CP, alen, Try.underlying52, sl, slice_own3 (l := pre.length) (h := pre.length + 1) (m := pre.length + post.length + 1) (cap := cap) .i64 .i64 .i64 (by omega) (by omega) hcap]
    exact ⟨_, rfl, by simp [l0], by simp [t00], by simp [t01], by simp [t02]⟩
  obtain ⟨t1, e1, l1, t10, t11, t12⟩ := p1
  rw [t00] at t10; rw [t01] at t11; rw [t02] at t12
  have hne : (((pre.length : Nat) : Int) == ((pre.length + 1 : Nat) : Int)) = false := by simp; omega
  have p2 : ∃ t, ex Cf (Cat [true, true, false] (bodyOf Try.f51)) ⟨t1, h⟩ = some (.normal, ⟨t, h⟩) ∧ t.length = 33 ∧ t[0]? = t1[0]? ∧ t[1]? = t1[1]? ∧ t[2]? = t1[2]? := by
    simp only [bodyOf, Try.f51, Cat, Bool.false_eq_true, e_seq, e_region, e_cond, e_block, ex_skip, ex_exit, ex_ret, o_cons, xops_nil, k_want_none, k_want_false, k_val, k_pan, k_call, k_ret, k_seq, k_seq_exit, k_seq_ret, k_true, k_false, k_block, k_block_exit, k_block_ret, k_loop, k_loop_exit, k_loop_ret, awanted, aoper, evalO, put, Option.getD_some, List.getElem?_set, acallOp, abuiltin, List.map_cons, List.map_nil, Nat.reduceEqDiff, Nat.reduceLT, List.length_set, Option.map_some, Option.bind_some, Option.bind_eq_bind, add_i, sub_i, mul_i, eql_i, neq_i, lss_i, leq_i, gtr_i, geq_i, ofV, ofCell, ↓reduceIte, loadA, ofCells, List.cons_append, List.nil_append, List.append_nil, List.getElem?_toArray, List.getElem?_cons_succ, List.getElem?_cons_zero, e_draw, g_nil, g_cons, g_want, g_skip, g_val, g_call, g_ret, Option.map_none, l1, t10, t11, t12, hne]
    exact ⟨_, rfl, by simp [l1], by simp [t10], by simp [t11], by simp [t12]⟩
  obtain ⟨t2, e2, l2, t20, t21, t22⟩ := p2
  rw [t10] at t20; rw [t11] at t21; rw [t12] at t22
  have p3 : ∃ t, ex Cf (Cat [true, true, true, false] (bodyOf Try.f51)) ⟨t2, h⟩ = some (.normal, ⟨t, h⟩) ∧ t.length = 33 ∧ t[0]? = t2[0]? ∧ t[1]? = t2[1]? ∧ t[2]? = t2[2]? ∧ t[7]? = some (.int .i64 (pre.length + post.length + 1 : Nat)) := by
    simp only [bodyOf, Try.f51, Cat, Bool.false_eq_true, e_seq, e_region, e_cond, e_block, ex_skip, ex_exit, ex_ret, o_cons, xops_nil, k_want_none, k_want_false, k_val, k_pan, k_call, k_ret, k_seq, k_seq_exit, k_seq_ret, k_true, k_false, k_block, k_block_exit, k_block_ret, k_loop, k_loop_exit, k_loop_ret, awanted, aoper, evalO, put, Option.getD_some, List.getElem?_set, acallOp, abuiltin, List.map_cons, List.map_nil, Nat.reduceEqDiff, Nat.reduceLT, List.length_set, Option.map_some, Option.bind_some, Option.bind_eq_bind, add_i, sub_i, mul_i, eql_i, neq_i, lss_i, leq_i, gtr_i, geq_i, ofV, ofCell, ↓reduceIte, loadA, ofCells, List.cons_append, List.nil_append, List.append_nil, List.getElem?_toArray, List.getElem?_cons_succ, List.getElem?_cons_zero, e_draw, g_nil, g_cons, g_want, g_skip, g_val, g_call, g_ret, Option.map_none, l2, t20, CP, alen, Try.underlying52]
    exact ⟨_, rfl, by simp [l2], by simp [t20], by simp [t21], by simp [t22], by simp [l2]⟩
  obtain ⟨t3, e3, l3, t30, t31, t32, t37⟩ := p3
  rw [t20] at t30; rw [t21] at t31; rw [t22] at t32
  -- what lies behind it
  have hget : ∀ j, j < pre.length + post.length + 1 → cells[off + j]? = ((pre ++ x :: post).map (AVal.ptr · 0))[j]? := by
    intro j hj
    have := congrArg (fun l => l[j]?) hc
    simp only [List.getElem?_take, if_pos hj, List.getElem?_drop] at this
    exact this
  have hmv : (cells.drop (off + (pre.length + 1))).take post.length = post.map (AVal.ptr · 0) := by
    refine List.ext_getElem? fun j => ?_
    rw [List.getElem?_take]
    split
    · rename_i hj
      rw [List.getElem?_drop, Nat.add_assoc, hget _ (by omega), List.getElem?_map, List.getElem?_map, List.getElem?_append_right (by omega)]
      rw [show pre.length + 1 + j - pre.length = j + 1 from by omega]; rfl
    · rename_i hj
      rw [List.getElem?_eq_none (by simp; omega)]
  have hcellp : (post.map (AVal.ptr · 0)).all AVal.isCell = true := by simp [AVal.isCell]
  obtain ⟨cells1, hc1⟩ : ∃ c, c = setRange cells (off + pre.length) (post.map (AVal.ptr · 0)) := ⟨_, rfl⟩
  have hap : appendA false h 1 8 (.sl oi off 1 pre.length cap op) (.sl oi (off + (pre.length + 1)) 1 post.length (cap - (pre.length + 1)) op) = some (.sl oi off 1 (pre.length + post.length) cap op, h.set oi (some (.arr cells1))) := by
    have := append_own (own := false) (off := off) (off2 := off + (pre.length + 1)) (i := pre.length) (m := post.length) (cap := cap) (c2 := cap - (pre.length + 1)) (op := op) (op2 := op) hg hoff (by omega) (by omega) (by rw [hmv]; exact hcellp)
    rw [hmv] at this; rw [hc1]; exact this
  have p4 : ∃ t, ex Cf (Cat [true, true, true, true, false] (bodyOf Try.f51)) ⟨t3, h⟩ = some (.normal, ⟨t, h.set oi (some (.arr cells1))⟩) ∧ t.length = 33 ∧ t[0]? = some (.sl oi off 1 (pre.length + post.length) cap op) ∧ t[7]? = t3[7]? := by
    have hsub : pre.length + post.length + 1 - (pre.length + 1) = post.length := by omega
    simp only [bodyOf, Try.f51, Cat, Bool.false_eq_true, e_seq, e_region, e_cond, e_block, ex_skip, ex_exit, ex_ret, o_cons, xops_nil, k_want_none, k_want_false, k_val, k_pan, k_call, k_ret, k_seq, k_seq_exit, k_seq_ret, k_true, k_false, k_block, k_block_exit, k_block_ret, k_loop, k_loop_exit, k_loop_ret, awanted, aoper, evalO, put, Option.getD_some, List.getElem?_set, acallOp, abuiltin, List.map_cons, List.map_nil, Nat.reduceEqDiff, Nat.reduceLT, List.length_set, Option.map_some, Option.bind_some, Option.bind_eq_bind, add_i, sub_i, mul_i, eql_i, neq_i, lss_i, leq_i, gtr_i, geq_i, ofV, ofCell, ↓reduceIte, loadA, ofCells, List.cons_append, List.nil_append, List.append_nil, List.getElem?_toArray, List.getElem?_cons_succ, List.getElem?_cons_zero, e_draw, g_nil, g_cons, g_want, g_skip, g_val, g_call, g_ret, Option.map_none, l3, t30, t31, t32, CP, sl, slice_own_to (h := pre.length) (cap := cap) .i64 (by omega), slice_own_from (l := pre.length + 1) (len := pre.length + post.length + 1) (cap := cap) .i64 (by omega) hcap, hsub, append_52, show Cf.own "slices.go:232" = false from by kernel_rfl, hap]
    rw [k_draw _ _ _ (by kernel_rfl)]
    exact ⟨_, rfl, by simp [l3], by simp [l3], by simp⟩
  obtain ⟨t4, e4, l4, t40, t47⟩ := p4
  rw [t37] at t47
  have hlc1 : cells1.length = cells.length := by rw [hc1, setRange_length]
  obtain ⟨cells2, hc2⟩ : ∃ c, c = setRange cells1 (off + (pre.length + post.length)) [.nilPtr] := ⟨_, rfl⟩
  have hcl : aclear Try.prog (h.set oi (some (.arr cells1))) 52 (.sl oi (off + (pre.length + post.length)) 1 1 (cap - (pre.length + post.length)) op) = some (h.set oi (some (.arr cells2))) := by
    rw [clear_own (set_get _ _ _) (by omega), set_set, hc2]
  have p5 : ∃ t, ex Cf (Cat [true, true, true, true, true, false] (bodyOf Try.f51)) ⟨t4, h.set oi (some (.arr cells1))⟩ = some (.normal, ⟨t, h.set oi (some (.arr cells2))⟩) ∧ t.length = 33 ∧ t[0]? = t4[0]? := by
    have hsub : pre.length + post.length + 1 - (pre.length + post.length) = 1 := by omega
    simp only [bodyOf, Try.f51, Cat, Bool.false_eq_true, e_seq, e_region, e_cond, e_block, ex_skip, ex_exit, ex_ret, o_cons, xops_nil, k_want_none, k_want_false, k_val, k_pan, k_call, k_ret, k_seq, k_seq_exit, k_seq_ret, k_true, k_false, k_block, k_block_exit, k_block_ret, k_loop, k_loop_exit, k_loop_ret, awanted, aoper, evalO, put, Option.getD_some, List.getElem?_set, acallOp, abuiltin, List.map_cons, List.map_nil, Nat.reduceEqDiff, Nat.reduceLT, List.length_set, Option.map_some, Option.bind_some, Option.bind_eq_bind, add_i, sub_i, mul_i, eql_i, neq_i, lss_i, leq_i, gtr_i, geq_i, ofV, ofCell, ↓reduceIte, loadA, ofCells, List.cons_append, List.nil_append, List.append_nil, List.getElem?_toArray, List.getElem?_cons_succ, List.getElem?_cons_zero, e_draw, g_nil, g_cons, g_want, g_skip, g_val, g_call, g_ret, Option.map_none, l4, t40, t47, CP, alen, Try.underlying52, sl, slice_own (l := pre.length + post.length) (h := pre.length + post.length + 1) (cap := cap) .i64 .i64 (by omega) (by omega), hsub, hcl]
    exact ⟨_, rfl, by simp [l4], by simp [t40]⟩
  obtain ⟨t5, e5, l5, t50⟩ := p5
  rw [t40] at t50
  have p6 : ∃ t, ex Cf (Cat [true, true, true, true, true, true] (bodyOf Try.f51)) ⟨t5, h.set oi (some (.arr cells2))⟩ = some (.ret, ⟨t, h.set oi (some (.arr cells2))⟩) ∧ t[6]? = some (.sl oi off 1 (pre.length + post.length) cap op) := by
    simp only [bodyOf, Try.f51, Cat, Bool.false_eq_true, e_seq, e_region, e_cond, e_block, ex_skip, ex_exit, ex_ret, o_cons, xops_nil, k_want_none, k_want_false, k_val, k_pan, k_call, k_ret, k_seq, k_seq_exit, k_seq_ret, k_true, k_false, k_block, k_block_exit, k_block_ret, k_loop, k_loop_exit, k_loop_ret, awanted, aoper, evalO, put, Option.getD_some, List.getElem?_set, acallOp, abuiltin, List.map_cons, List.map_nil, Nat.reduceEqDiff, Nat.reduceLT, List.length_set, Option.map_some, Option.bind_some, Option.bind_eq_bind, add_i, sub_i, mul_i, eql_i, neq_i, lss_i, leq_i, gtr_i, geq_i, ofV, ofCell, ↓reduceIte, loadA, ofCells, List.cons_append, List.nil_append, List.append_nil, List.getElem?_toArray, List.getElem?_cons_succ, List.getElem?_cons_zero, e_draw, g_nil, g_cons, g_want, g_skip, g_val, g_call, g_ret, Option.map_none, l5, t50]
    exact ⟨_, rfl, by simp [l5]⟩
  obtain ⟨t6, e6, t66⟩ := p6
  have hbody : bodyOf Try.f51 = .seq (Cat [false] (bodyOf Try.f51)) (.seq (Cat [true, false] (bodyOf Try.f51)) (.seq (Cat [true, true, false] (bodyOf Try.f51)) (.seq (Cat [true, true, true, false] (bodyOf Try.f51)) (.seq (Cat [true, true, true, true, false] (bodyOf Try.f51)) (.seq (Cat [true, true, true, true, true, false] (bodyOf Try.f51)) (Cat [true, true, true, true, true, true] (bodyOf Try.f51))))))) := rfl
  have hl2 : (pre ++ post).length = pre.length + post.length := by simp
  refine ⟨_, cells2, fn_run (fn := Try.f51) (t := t6) (x := .ret) (h' := h.set oi (some (.arr cells2))) Try.func51 rfl rfl rfl (.inl rfl) ?_ (vs := [.sl oi off 1 (pre.length + post.length) cap op]) (by simp [show Try.f51.results.toList = [ResultVar.tmp 6] from rfl, aresults, ares1, t66]) |>.trans (by rw [hl2]; rfl), rfl, by rw [hc2, setRange_length, hlc1], ?_⟩
  · rw [← ha0, hbody, e_seq, e0, k_seq, e_seq, e1, k_seq, e_seq, e2, k_seq, e_seq, e3, k_seq, e_seq, e4, k_seq, e_seq, e5, k_seq, e6]
  · rw [hl2]
    refine List.ext_getElem? fun j => ?_
    rw [List.getElem?_take]
    split
    · rename_i hj
      rw [List.getElem?_drop, hc2, setRange_get _ _ _ _ (.inl (by omega)), hc1]
      rcases Nat.lt_or_ge j pre.length with h5 | h5
      · rw [setRange_get _ _ _ _ (.inl (by omega)), hget j (by omega)]
        simp only [List.map_append, List.getElem?_append_left (l₁ := pre.map (AVal.ptr · 0)) (by simpa using h5)]
      · rw [show off + j = (off + pre.length) + (j - pre.length) from by omega, setRange_in _ _ _ _ (by simp; omega) (by simp; omega), List.map_append, List.getElem?_append_right (by simpa using h5)]
        simp
    · rename_i hj
      rw [List.getElem?_eq_none (by simp; omega)]
end Go.Am.Cache
