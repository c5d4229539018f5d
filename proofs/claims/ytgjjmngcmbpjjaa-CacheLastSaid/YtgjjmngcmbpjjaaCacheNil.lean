/-
  CACHE: CacheNil is true of any content.
-/
import Derived.Test.YtgjjmngcmbpjjaaCacheSize
set_option linter.unusedVariables false
set_option linter.unusedSimpArgs false
set_option maxRecDepth 100000
namespace Go.Am.Cache
open Go Go.Am Go.Proofs

def isTrue : Option (ARes × AHeap) → Bool
  | some (.ret (.bool true), _) => true
  | _ => false
theorem awake_closed : isTrue (arun Cf 60 7 [] AHeap.empty) = true := by kernel_rfl
theorem awake_run (h : AHeap) : run Cf 7 [] h = some (.ret (.bool true), h) := by
  have h1 := awake_closed
  cases hr : arun Cf 60 7 [] AHeap.empty with
  | none => rw [hr] at h1; cases h1
  | some q =>
    rw [hr] at h1
    obtain ⟨r, h'⟩ := q
    cases r with
    | pan v => cases h1
    | ret v =>
      have hv : v = .bool true := by
        revert h1
        cases v <;> simp [isTrue]
        rename_i b; cases b <;> simp [isTrue]
      subst hv
      exact run_of ((run_pure 60 7 [] AHeap.empty _ _ rfl hr).2 h)

theorem limit_nil (n : Int) (h : AHeap) : run Cf 20 [.nilPtr, .int .i64 n] h = some (.ret (.tup []), h) := run_of (n := 5) (by kernel_rfl)
theorem forget_nil (n : Int) (h : AHeap) : run Cf 21 [.nilPtr, .int .i64 n] h = some (.ret (.int .i64 0), h) := run_of (n := 5) (by kernel_rfl)
theorem bytes_nil (h : AHeap) : run Cf 16 [.nilPtr] h = some (.ret (.int .i64 0), h) := run_of (n := 5) (by kernel_rfl)
theorem len_nil (h : AHeap) : run Cf 15 [.nilPtr] h = some (.ret (.int .i64 0), h) := run_of (n := 5) (by kernel_rfl)
theorem keys_nil (h : AHeap) : run Cf 12 [.nilPtr] h = some (.ret .nilSl, h) := run_of (n := 5) (by kernel_rfl)
theorem hits_nil (h : AHeap) : run Cf 18 [.nilPtr] h = some (.ret (.int .i64 0), h) := run_of (n := 5) (by kernel_rfl)
theorem misses_nil (h : AHeap) : run Cf 19 [.nilPtr] h = some (.ret (.int .i64 0), h) := run_of (n := 5) (by kernel_rfl)

theorem ld_31 (h : AHeap) (p : AVal) : aload Try.prog h 31 p = loadA h true 2 p := by kernel_rfl
theorem st_31 (h : AHeap) (p v : AVal) : astore Try.prog h 31 p v = storeA h 2 p v := by kernel_rfl
theorem ld_51 (h : AHeap) (p : AVal) : aload Try.prog h 51 p = loadA h false 1 p := by kernel_rfl
theorem ld_3 (h : AHeap) (p : AVal) : aload Try.prog h 3 p = loadA h false 1 p := by kernel_rfl
theorem ze_31 : zeroA Try.prog 31 = some (.agg [.nilSl, .nilSl]) := by kernel_rfl
theorem bu_31 : abuild Try.prog 31 [] = some (.agg [.nilSl, .nilSl]) := by kernel_rfl
theorem bu_61 : abuild Try.prog 61 [] = some (.agg [.int .i64 0, .int .i64 0, .nilMap, .nilSl, .int .i64 0, .int .i64 0]) := by kernel_rfl
theorem fa_61_0 (p : AVal) : afieldAddr Try.prog 61 p 0 = dropCells 0 p := by kernel_rfl
theorem fa_61_2 (p : AVal) : afieldAddr Try.prog 61 p 2 = dropCells 2 p := by kernel_rfl
theorem fa_61_5 (p : AVal) : afieldAddr Try.prog 61 p 5 = dropCells 5 p := by kernel_rfl
theorem fa_59_2 (p : AVal) : afieldAddr Try.prog 59 p 2 = dropCells 0 p := by kernel_rfl
theorem eq_nil (h : AHeap) (xo : Operand) : abin Cf .eql 26 xo (.const (.pointer none)) h .nilPtr .nilPtr = some (.bool true) := by kernel_rfl
theorem eq_nil66 (h : AHeap) (xo : Operand) : abin Cf .eql 66 xo (.const (.pointer none)) h .nilPtr .nilPtr = some (.bool true) := by kernel_rfl
theorem eq_ptr (h : AHeap) (xo yo : Operand) (id off : Nat) : abin Cf .eql 26 xo yo h (.ptr id off) .nilPtr = some (.bool false) := by kernel_rfl

theorem get_nil (key : List UInt8) (seq : Int) (h : AHeap) : ∃ h', run Cf 10 [.nilPtr, .str key, .int .i64 seq] h = some (.ret (.tup [.agg [.nilSl, .nilSl], .int .i64 0, .bool false]), h') ∧ (∀ j, j < h.next → h'.get j = h.get j) ∧ h.next ≤ h'.next := by
  obtain ⟨a0, ha0⟩ : ∃ a0, a0 = slots Try.f10 [.nilPtr, .str key, .int .i64 seq] := ⟨_, rfl⟩
  have hl : a0.length = 52 := by rw [ha0]; rfl
  have h0 : a0[0]? = some .nilPtr := by rw [ha0]; rfl
  have hb : ∃ t h', ex Cf (bodyOf Try.f10) ⟨a0, h⟩ = some (.ret, ⟨t, h'⟩) ∧ aresults Cf Try.f10.results.toList ⟨t, h'⟩ = some [.agg [.nilSl, .nilSl], .int .i64 0, .bool false] ∧ (∀ j, j < h.next → h'.get j = h.get j) ∧ h.next ≤ h'.next := by
    simp only [bodyOf, Try.f10, Bool.false_eq_true, e_seq, e_region, e_cond, e_block, ex_skip, ex_exit, ex_ret, o_cons, xops_nil, k_want_none, k_want_false, k_val, k_pan, k_call, k_ret, k_seq, k_seq_exit, k_seq_ret, k_true, k_false, k_block, k_block_exit, k_block_ret, k_loop, k_loop_exit, k_loop_ret, awanted, aoper, evalO, put, Option.getD_some, List.getElem?_set, acallOp, abuiltin, List.map_cons, List.map_nil, Nat.reduceEqDiff, Nat.reduceLT, List.length_set, Option.map_some, Option.bind_some, Option.bind_eq_bind, add_i, sub_i, mul_i, eql_i, neq_i, lss_i, leq_i, gtr_i, geq_i, ofV, ofCell, ↓reduceIte, loadA, ofCells, List.cons_append, List.nil_append, List.append_nil, List.getElem?_toArray, List.getElem?_cons_succ, List.getElem?_cons_zero, e_draw, g_nil, g_cons, g_want, g_skip, g_val, g_call, g_ret, Option.map_none, hl, h0, CP, ze_31, bu_31, st_31, abox, AVal.boxable, AVal.cells, AVal.isCell, List.all_cons, List.all_nil, Bool.and_true, Bool.and_self, eq_nil, storeA, new_get, List.length_cons, List.length_nil, Nat.zero_add, Nat.reduceAdd, and_self, Nat.reduceLeDiff, Nat.le_refl]
    refine ⟨_, _, rfl, ?_, fun j hj => set_new_get _ _ _ _ hj, by simp [AHeap.set, AHeap.new]⟩
    simp [aresults, ares1, CP, ld_31, List.getElem?_set, hl, loadA, set_get, ofCells, setRange]
  obtain ⟨t, h', he, hr, hk⟩ := hb
  exact ⟨h', fn_run (fn := Try.f10) Try.func10 rfl rfl rfl (.inl rfl) (by rw [← ha0]; exact he) hr, hk⟩

theorem lk_nil (h : AHeap) (key : List UInt8) : alookup Try.prog h 51 .nilMap (.str key) false = some .nilPtr := by kernel_rfl
theorem drop_get {cells : List AVal} {off : Nat} {v : AVal} (h : cells[off]? = some v) : off ≤ cells.length ∧ off + 1 ≤ cells.length ∧ (cells.drop off)[0]? = some v := by
  have hlt := (List.getElem?_eq_some_iff.1 h).1
  exact ⟨by omega, by omega, by simpa using h⟩
theorem nil_check (id off : Nat) (h : AHeap) : (match (AVal.ptr id off) with
    | .nilPtr | .nilI | .nilFn | .top => none
    | .fn (.func g) a b => some (AOut.val (.fn (.func g) a b) h)
    | .fn _ _ _ => none
    | v => some (AOut.val v h)) = some (AOut.val (.ptr id off) h) := rfl

/-- ONE MORE, told. -/
theorem add_run (id off : Nat) (cells : List AVal) (n d : Int) (h : AHeap) (hg : h.get id = some (.arr cells)) (hn : cells[off]? = some (.int .i64 n)) :
    run Cf 24 [.ptr id off, .int .i64 d] h = some (.ret (.int .i64 (IntKind.i64.wrap (n + d))), h.set id (some (.arr (cells.set off (.int .i64 (IntKind.i64.wrap (n + d))))))) := by
  obtain ⟨d1, d2, d3⟩ := drop_get hn
  obtain ⟨a0, ha0⟩ : ∃ a0, a0 = slots Try.f24 [.ptr id off, .int .i64 d] := ⟨_, rfl⟩
  have hl : a0.length = 10 := by rw [ha0]; rfl
  have h0 : a0[0]? = some (.ptr id off) := by rw [ha0]; rfl
  have h1 : a0[1]? = some (.int .i64 d) := by rw [ha0]; rfl
  have hext : run Cf 43 [.ptr id off, .int .i64 d] h = some (.ret (.int .i64 (IntKind.i64.wrap (n + d))), h.set id (some (.arr (cells.set off (.int .i64 (IntKind.i64.wrap (n + d))))))) := by
    rw [run_ext (fn := Try.f43) Try.func43 rfl rfl]
    simp only [show Try.f43.name = "sync/atomic.AddInt64" from rfl, aextern, if_true, loadA, hg, if_pos d1, ofCells, Bool.false_eq_true, if_false, d3, Option.bind_eq_bind, Option.bind_some, storeA, AVal.cells, List.length_cons, List.length_nil, List.all_cons, List.all_nil, AVal.isCell, Bool.and_true, Nat.zero_add, d2, and_self, setRange, Option.map_some]
  have hb : ∃ t, ex Cf (bodyOf Try.f24) ⟨a0, h⟩ = some (.ret, ⟨t, h.set id (some (.arr (cells.set off (.int .i64 (IntKind.i64.wrap (n + d))))))⟩) ∧ t[4]? = some (.int .i64 (IntKind.i64.wrap (n + d))) := by
    simp only [bodyOf, Try.f24, Bool.false_eq_true, e_seq, e_region, e_cond, e_block, ex_skip, ex_exit, ex_ret, o_cons, xops_nil, k_want_none, k_want_false, k_val, k_pan, k_call, k_ret, k_seq, k_seq_exit, k_seq_ret, k_true, k_false, k_block, k_block_exit, k_block_ret, k_loop, k_loop_exit, k_loop_ret, awanted, aoper, evalO, put, Option.getD_some, List.getElem?_set, acallOp, abuiltin, List.map_cons, List.map_nil, Nat.reduceEqDiff, Nat.reduceLT, List.length_set, Option.map_some, Option.bind_some, Option.bind_eq_bind, add_i, sub_i, mul_i, eql_i, neq_i, lss_i, leq_i, gtr_i, geq_i, ofV, ofCell, ↓reduceIte, loadA, ofCells, List.cons_append, List.nil_append, List.append_nil, List.getElem?_toArray, List.getElem?_cons_succ, List.getElem?_cons_zero, e_draw, g_nil, g_cons, g_want, g_skip, g_val, g_call, g_ret, Option.map_none, hl, h0, h1, CP, fa_59_2, dropCells, Nat.add_zero, hext]
    exact ⟨_, rfl, by simp [hl]⟩
  obtain ⟨t, he, h4⟩ := hb
  exact fn_run (fn := Try.f24) Try.func24 rfl rfl rfl (.inl rfl) (by rw [← ha0]; exact he) (vs := [.int .i64 (IntKind.i64.wrap (n + d))]) (by simp [show Try.f24.results.toList = [ResultVar.tmp 4] from rfl, aresults, ares1, h4])

def zcells (m : Int) : List AVal := [.int .i64 0, .int .i64 0, .nilMap, .nilSl, .int .i64 0, .int .i64 m]
theorem get_z (key : List UInt8) (seq : Int) (id : Nat) (h : AHeap) (hid : id < h.next) (hg : h.get id = some (.arr (zcells 0))) : ∃ h', run Cf 10 [.ptr id 0, .str key, .int .i64 seq] h = some (.ret (.tup [.agg [.nilSl, .nilSl], .int .i64 0, .bool false]), h') ∧ h'.get id = some (.arr (zcells 1)) ∧ (∀ j, j < h.next → j ≠ id → h'.get j = h.get j) ∧ h.next ≤ h'.next := by
  obtain ⟨a0, ha0⟩ : ∃ a0, a0 = slots Try.f10 [.ptr id 0, .str key, .int .i64 seq] := ⟨_, rfl⟩
  have hl : a0.length = 52 := by rw [ha0]; rfl
  have h0 : a0[0]? = some (.ptr id 0) := by rw [ha0]; rfl
  have h1 : a0[1]? = some (.str key) := by rw [ha0]; rfl
  have i2 : a0[2]? = some (.int .i64 seq) := by rw [ha0]; rfl
  obtain ⟨hn, hhn⟩ : ∃ hn, hn = h.new (.arr [.nilSl, .nilSl]) := ⟨_, rfl⟩
  have hgn : hn.get id = some (.arr (zcells 0)) := by rw [hhn]; simp only [AHeap.new]; rw [if_neg (by omega)]; exact hg
  have hadd0 := add_run id 5 (zcells 0) 0 1 hn hgn rfl
  obtain ⟨h2, hh2⟩ : ∃ h2, h2 = hn.set id (some (.arr ((zcells 0).set 5 (.int .i64 (IntKind.i64.wrap (0 + 1)))))) := ⟨_, rfl⟩
  rw [← hh2] at hadd0
  have hw : IntKind.i64.wrap (0 + 1) = 1 := rfl
  rw [hw] at hadd0 hh2
  have g1 : h2.get h.next = some (.arr [.nilSl, .nilSl]) := by
    rw [hh2, hhn]; simp only [AHeap.set, AHeap.new]; rw [if_neg (by omega)]; simp
  have g2 : h2.get id = some (.arr (zcells 1)) := by rw [hh2]; simp only [AHeap.set, if_true]; rfl
  have g3 : ∀ j, j < h.next → j ≠ id → h2.get j = h.get j := by
    intro j hj hji
    rw [hh2, hhn]; simp only [AHeap.set, AHeap.new]; rw [if_neg hji, if_neg (by omega)]
  have g4 : h2.next = h.next + 1 := by rw [hh2, hhn]; rfl
  have hb : ∃ t h', ex Cf (bodyOf Try.f10) ⟨a0, h⟩ = some (.ret, ⟨t, h'⟩) ∧ aresults Cf Try.f10.results.toList ⟨t, h'⟩ = some [.agg [.nilSl, .nilSl], .int .i64 0, .bool false] ∧ h'.get id = some (.arr (zcells 1)) ∧ (∀ j, j < h.next → j ≠ id → h'.get j = h.get j) ∧ h.next ≤ h'.next := by
    have hgn' := hgn
    simp only [zcells] at hgn'
    simp only [bodyOf, Try.f10, Bool.false_eq_true, e_seq, e_region, e_cond, e_block, ex_skip, ex_exit, ex_ret, o_cons, xops_nil, k_want_none, k_want_false, k_val, k_pan, k_call, k_ret, k_seq, k_seq_exit, k_seq_ret, k_true, k_false, k_block, k_block_exit, k_block_ret, k_loop, k_loop_exit, k_loop_ret, awanted, aoper, evalO, put, Option.getD_some, List.getElem?_set, acallOp, abuiltin, List.map_cons, List.map_nil, Nat.reduceEqDiff, Nat.reduceLT, List.length_set, Option.map_some, Option.bind_some, Option.bind_eq_bind, add_i, sub_i, mul_i, eql_i, neq_i, lss_i, leq_i, gtr_i, geq_i, ofV, ofCell, ↓reduceIte, loadA, ofCells, List.cons_append, List.nil_append, List.append_nil, List.getElem?_toArray, List.getElem?_cons_succ, List.getElem?_cons_zero, e_draw, g_nil, g_cons, g_want, g_skip, g_val, g_call, g_ret, Option.map_none, hl, h0, h1, i2, CP, ze_31, bu_31, st_31, abox, AVal.boxable, AVal.cells, AVal.isCell, List.all_cons, List.all_nil, Bool.and_true, Bool.and_self, eq_ptr, storeA, new_get, List.length_cons, List.length_nil, Nat.zero_add, Nat.reduceAdd, and_self, Nat.reduceLeDiff, Nat.le_refl,
      fa_61_2, fa_61_5, ld_51, dropCells, ← hhn, hgn', List.drop_succ_cons, List.drop_zero, lk_nil, eq_nil66, hadd0, show ((true : Bool) == false) = false from rfl, g1]
    refine ⟨_, _, rfl, ?_, ?_, ?_, ?_⟩
    · simp [aresults, ares1, CP, ld_31, List.getElem?_set, hl, loadA, set_get, ofCells, setRange]
    · simp only [AHeap.set]; rw [if_neg (by omega)]; exact g2
    · intro j hj hji; simp only [AHeap.set]; rw [if_neg (by omega)]; exact g3 j hj hji
    · simp only [AHeap.set]; omega
  obtain ⟨t, h', he, hr, hk⟩ := hb
  exact ⟨h', fn_run (fn := Try.f10) Try.func10 rfl rfl rfl (.inl rfl) (by rw [← ha0]; exact he) hr, hk⟩

theorem misses_z (m : Int) (id : Nat) (h : AHeap) (hg : h.get id = some (.arr (zcells m))) : run Cf 19 [.ptr id 0] h = some (.ret (.int .i64 m), h) := by
  obtain ⟨a0, ha0⟩ : ∃ a0, a0 = slots Try.f19 [.ptr id 0] := ⟨_, rfl⟩
  have hl : a0.length = 9 := by rw [ha0]; rfl
  have h0 : a0[0]? = some (.ptr id 0) := by rw [ha0]; rfl
  have hext : run Cf 49 [.ptr id 5] h = some (.ret (.int .i64 m), h) := by
    rw [run_ext (fn := Try.f49) Try.func49 rfl rfl]
    simp only [show Try.f49.name = "sync/atomic.LoadInt64" from rfl, aextern, show ("sync/atomic.LoadInt64" = "sync/atomic.AddInt64") = False from by simp, if_false, if_true, loadA, hg, zcells, List.length_cons, List.length_nil, Nat.zero_add, Nat.reduceAdd, Nat.reduceLeDiff, ofCells, Bool.false_eq_true, List.drop_succ_cons, List.drop_zero, List.getElem?_cons_zero, Option.bind_eq_bind, Option.bind_some, Option.map_some]
  have hld : run Cf 37 [.ptr id 5] h = some (.ret (.int .i64 m), h) := by
    obtain ⟨b0, hb0⟩ : ∃ b0, b0 = slots Try.f37 [.ptr id 5] := ⟨_, rfl⟩
    have hl : b0.length = 7 := by rw [hb0]; rfl
    have h0 : b0[0]? = some (.ptr id 5) := by rw [hb0]; rfl
    have hb : ∃ t, ex Cf (bodyOf Try.f37) ⟨b0, h⟩ = some (.ret, ⟨t, h⟩) ∧ t[2]? = some (.int .i64 m) := by
      simp only [bodyOf, Try.f37, Bool.false_eq_true, e_seq, e_region, e_cond, e_block, ex_skip, ex_exit, ex_ret, o_cons, xops_nil, k_want_none, k_want_false, k_val, k_pan, k_call, k_ret, k_seq, k_seq_exit, k_seq_ret, k_true, k_false, k_block, k_block_exit, k_block_ret, k_loop, k_loop_exit, k_loop_ret, awanted, aoper, evalO, put, Option.getD_some, List.getElem?_set, acallOp, abuiltin, List.map_cons, List.map_nil, Nat.reduceEqDiff, Nat.reduceLT, List.length_set, Option.map_some, Option.bind_some, Option.bind_eq_bind, add_i, sub_i, mul_i, eql_i, neq_i, lss_i, leq_i, gtr_i, geq_i, ofV, ofCell, ↓reduceIte, loadA, ofCells, List.cons_append, List.nil_append, List.append_nil, List.getElem?_toArray, List.getElem?_cons_succ, List.getElem?_cons_zero, e_draw, g_nil, g_cons, g_want, g_skip, g_val, g_call, g_ret, Option.map_none, hl, h0, CP, fa_59_2, dropCells, Nat.add_zero, hext]
      exact ⟨_, rfl, by simp [hl]⟩
    obtain ⟨t, he, h4⟩ := hb
    exact fn_run (fn := Try.f37) Try.func37 rfl rfl rfl (.inl rfl) (by rw [← hb0]; exact he) (vs := [.int .i64 m]) (by simp [show Try.f37.results.toList = [ResultVar.tmp 2] from rfl, aresults, ares1, h4])
  have hb : ∃ t, ex Cf (bodyOf Try.f19) ⟨a0, h⟩ = some (.ret, ⟨t, h⟩) ∧ t[2]? = some (.int .i64 m) := by
    simp only [bodyOf, Try.f19, Bool.false_eq_true, e_seq, e_region, e_cond, e_block, ex_skip, ex_exit, ex_ret, o_cons, xops_nil, k_want_none, k_want_false, k_val, k_pan, k_call, k_ret, k_seq, k_seq_exit, k_seq_ret, k_true, k_false, k_block, k_block_exit, k_block_ret, k_loop, k_loop_exit, k_loop_ret, awanted, aoper, evalO, put, Option.getD_some, List.getElem?_set, acallOp, abuiltin, List.map_cons, List.map_nil, Nat.reduceEqDiff, Nat.reduceLT, List.length_set, Option.map_some, Option.bind_some, Option.bind_eq_bind, add_i, sub_i, mul_i, eql_i, neq_i, lss_i, leq_i, gtr_i, geq_i, ofV, ofCell, ↓reduceIte, loadA, ofCells, List.cons_append, List.nil_append, List.append_nil, List.getElem?_toArray, List.getElem?_cons_succ, List.getElem?_cons_zero, e_draw, g_nil, g_cons, g_want, g_skip, g_val, g_call, g_ret, Option.map_none, hl, h0, CP, eq_ptr, fa_61_5, dropCells, Nat.zero_add, hld]
    exact ⟨_, rfl, by simp [hl]⟩
  obtain ⟨t, he, h4⟩ := hb
  exact fn_run (fn := Try.f19) Try.func19 rfl rfl rfl (.inl rfl) (by rw [← ha0]; exact he) (vs := [.int .i64 m]) (by simp [show Try.f19.results.toList = [ResultVar.tmp 2] from rfl, aresults, ares1, h4])

theorem sizeOf_pos (key : List UInt8) (r : ResT) : 0 < sizeOf key r := by
  have hc := sum_nonneg (fun s : List UInt8 => (8 + s.length : Int)) (fun s => by omega) r.cols
  have hr := sum_nonneg RowT.size RowT.size_nonneg r.rows
  simp only [sizeOf]; omega
/-- Put refuses: of no cache, and of one without room. -/
theorem put_no (key : List UInt8) (seq : Int) (r : ResT) (hs : r.Small key) (hcont : contB r.cv = true ∧ contB r.rv = true) (h : AHeap) (c : AVal) (hc : c = .nilPtr ∨ ∃ id m, c = .ptr id 0 ∧ id < h.next ∧ h.get id = some (.arr (zcells m))) :
    ∃ h', run Cf 11 [c, .str key, .int .i64 seq, .agg [r.cv, r.rv], .int .i64 0] h = some (.ret (.bool false), h') ∧ (∀ j, j < h.next → h'.get j = h.get j) ∧ h.next ≤ h'.next := by
  obtain ⟨a0, ha0⟩ : ∃ a0, a0 = slots Try.f11 [c, .str key, .int .i64 seq, .agg [r.cv, r.rv], .int .i64 0] := ⟨_, rfl⟩
  have hl : a0.length = 77 := by rw [ha0]; rfl
  have h0 : a0[0]? = some c := by rw [ha0]; rfl
  have h1 : a0[1]? = some (.str key) := by rw [ha0]; rfl
  have h3 : a0[3]? = some (.agg [r.cv, r.rv]) := by rw [ha0]; rfl
  have hcell : r.cv.isCell = true ∧ r.rv.isCell = true := by
    constructor
    · rcases r.okc with ⟨h, _⟩ | ⟨c, h⟩ <;> rw [h] <;> rfl
    · rcases r.okr with ⟨h, _⟩ | ⟨c, h⟩ <;> rw [h] <;> rfl
  obtain ⟨hn, hhn⟩ : ∃ hn, hn = h.new (.arr [r.cv, r.rv]) := ⟨_, rfl⟩
  have g1 : hn.get h.next = some (.arr [r.cv, r.rv]) := by rw [hhn]; exact new_get _ _
  have g2 : ∀ j, j < h.next → hn.get j = h.get j := by intro j hj; rw [hhn]; simp only [AHeap.new]; rw [if_neg (by omega)]
  have hsz := size_run key r hs hcont hn
  have hpos : decide (sizeOf key r > 0) = true := by simp; exact sizeOf_pos key r
  have hb : ∃ t, ex Cf (bodyOf Try.f11) ⟨a0, h⟩ = some (.ret, ⟨t, hn⟩) ∧ t[10]? = some (.bool false) := by
    rcases hc with rfl | ⟨id, m, rfl, hid, hg⟩
    · simp only [bodyOf, Try.f11, Bool.false_eq_true, e_seq, e_region, e_cond, e_block, ex_skip, ex_exit, ex_ret, o_cons, xops_nil, k_want_none, k_want_false, k_val, k_pan, k_call, k_ret, k_seq, k_seq_exit, k_seq_ret, k_true, k_false, k_block, k_block_exit, k_block_ret, k_loop, k_loop_exit, k_loop_ret, awanted, aoper, evalO, put, Option.getD_some, List.getElem?_set, acallOp, abuiltin, List.map_cons, List.map_nil, Nat.reduceEqDiff, Nat.reduceLT, List.length_set, Option.map_some, Option.bind_some, Option.bind_eq_bind, add_i, sub_i, mul_i, eql_i, neq_i, lss_i, leq_i, gtr_i, geq_i, ofV, ofCell, ↓reduceIte, loadA, ofCells, List.cons_append, List.nil_append, List.append_nil, List.getElem?_toArray, List.getElem?_cons_succ, List.getElem?_cons_zero, e_draw, g_nil, g_cons, g_want, g_skip, g_val, g_call, g_ret, Option.map_none, hl, h0, h1, h3, CP, abox, AVal.boxable, AVal.cells, hcell.1, hcell.2, List.all_cons, List.all_nil, Bool.and_true, Bool.and_self, ← hhn, ld_31, g1, List.length_cons, List.length_nil, Nat.zero_add, Nat.reduceAdd, Nat.zero_le, List.drop_zero, Nat.le_refl, List.take_succ_cons, List.take_zero, hsz, eq_nil, show ((true : Bool) == false) = false from rfl]
      exact ⟨_, rfl, by simp [hl]⟩
    · have hg' : hn.get id = some (.arr (zcells m)) := by rw [g2 id hid]; exact hg
      simp only [zcells] at hg'
      simp only [bodyOf, Try.f11, Bool.false_eq_true, e_seq, e_region, e_cond, e_block, ex_skip, ex_exit, ex_ret, o_cons, xops_nil, k_want_none, k_want_false, k_val, k_pan, k_call, k_ret, k_seq, k_seq_exit, k_seq_ret, k_true, k_false, k_block, k_block_exit, k_block_ret, k_loop, k_loop_exit, k_loop_ret, awanted, aoper, evalO, put, Option.getD_some, List.getElem?_set, acallOp, abuiltin, List.map_cons, List.map_nil, Nat.reduceEqDiff, Nat.reduceLT, List.length_set, Option.map_some, Option.bind_some, Option.bind_eq_bind, add_i, sub_i, mul_i, eql_i, neq_i, lss_i, leq_i, gtr_i, geq_i, ofV, ofCell, ↓reduceIte, loadA, ofCells, List.cons_append, List.nil_append, List.append_nil, List.getElem?_toArray, List.getElem?_cons_succ, List.getElem?_cons_zero, e_draw, g_nil, g_cons, g_want, g_skip, g_val, g_call, g_ret, Option.map_none, hl, h0, h1, h3, CP, abox, AVal.boxable, AVal.cells, hcell.1, hcell.2, List.all_cons, List.all_nil, Bool.and_true, Bool.and_self, ← hhn, ld_31, g1, List.length_cons, List.length_nil, Nat.zero_add, Nat.reduceAdd, Nat.zero_le, List.drop_zero, Nat.le_refl, List.take_succ_cons, List.take_zero, hsz, eq_ptr, show ((false : Bool) == false) = true from rfl, fa_61_0, dropCells, ld_3, hg', hpos]
      exact ⟨_, rfl, by simp [hl]⟩
  obtain ⟨t, he, h4⟩ := hb
  exact ⟨hn, fn_run (fn := Try.f11) Try.func11 rfl rfl rfl (.inl rfl) (by rw [← ha0]; exact he) (vs := [.bool false]) (by simp [show Try.f11.results.toList = [ResultVar.tmp 10] from rfl, aresults, ares1, h4]), g2, by rw [hhn]; simp [AHeap.new]⟩

/-- THE LAW, of any content that is small enough. -/
theorem law_run (key : List UInt8) (seq : Int) (r : ResT) (hs : r.Small key) (hcont : contB r.cv = true ∧ contB r.rv = true) : ∃ h', run Cf 5 [.str key, .int .i64 seq, .agg [r.cv, r.rv]] AHeap.empty = some (.ret (.bool true), h') := by
  have hcell : r.cv.isCell = true ∧ r.rv.isCell = true := by
    constructor
    · rcases r.okc with ⟨h, _⟩ | ⟨c, h⟩ <;> rw [h] <;> rfl
    · rcases r.okr with ⟨h, _⟩ | ⟨c, h⟩ <;> rw [h] <;> rfl
  have hbody : bodyOf Try.f5 = .seq (Cat [false] (bodyOf Try.f5)) (.seq (Cat [true, false] (bodyOf Try.f5)) (.seq (Cat [true, true, false] (bodyOf Try.f5)) (.seq (Cat [true, true, true, false] (bodyOf Try.f5)) (.seq (Cat [true, true, true, true, false] (bodyOf Try.f5)) (.seq (Cat [true, true, true, true, true, false] (bodyOf Try.f5)) (Cat [true, true, true, true, true, true] (bodyOf Try.f5))))))) := rfl
  obtain ⟨a0, ha0⟩ : ∃ a0, a0 = slots Try.f5 [.str key, .int .i64 seq, .agg [r.cv, r.rv]] := ⟨_, rfl⟩
  have hl : a0.length = 88 := by rw [ha0]; rfl
  have h0 : a0[0]? = some (.str key) := by rw [ha0]; rfl
  have h1 : a0[1]? = some (.int .i64 seq) := by rw [ha0]; rfl
  have h2 : a0[2]? = some (.agg [r.cv, r.rv]) := by rw [ha0]; rfl
  obtain ⟨b0, hb0⟩ : ∃ b0, b0 = AHeap.empty.new (.arr [r.cv, r.rv]) := ⟨_, rfl⟩
  obtain ⟨b1, hb1⟩ : ∃ b1, b1 = b0.new (.arr (zcells 0)) := ⟨_, rfl⟩
  have n0 : b0.next = 1 := by rw [hb0]; rfl
  have n1 : b1.next = 2 := by rw [hb1, hb0]; rfl
  have g0 : b1.get 0 = some (.arr [r.cv, r.rv]) := by rw [hb1, hb0]; rfl
  have g1 : b1.get 1 = some (.arr (zcells 0)) := by rw [hb1, hb0]; rfl
  -- ahead of the calls
  have p0 : ∃ t, ex Cf (Cat [false] (bodyOf Try.f5)) ⟨a0, AHeap.empty⟩ = some (.normal, ⟨t, b0⟩) ∧ t.length = 88 ∧ t[0]? = some (.str key) ∧ t[1]? = some (.int .i64 seq) ∧ t[5]? = some (.ptr 0 0) := by
    simp only [bodyOf, Try.f5, Cat, Bool.false_eq_true, e_seq, e_region, e_cond, e_block, ex_skip, ex_exit, ex_ret, o_cons, xops_nil, k_want_none, k_want_false, k_val, k_pan, k_call, k_ret, k_seq, k_seq_exit, k_seq_ret, k_true, k_false, k_block, k_block_exit, k_block_ret, k_loop, k_loop_exit, k_loop_ret, awanted, aoper, evalO, put, Option.getD_some, List.getElem?_set, acallOp, abuiltin, List.map_cons, List.map_nil, Nat.reduceEqDiff, Nat.reduceLT, List.length_set, Option.map_some, Option.bind_some, Option.bind_eq_bind, add_i, sub_i, mul_i, eql_i, neq_i, lss_i, leq_i, gtr_i, geq_i, ofV, ofCell, ↓reduceIte, loadA, ofCells, List.cons_append, List.nil_append, List.append_nil, List.getElem?_toArray, List.getElem?_cons_succ, List.getElem?_cons_zero, e_draw, g_nil, g_cons, g_want, g_skip, g_val, g_call, g_ret, Option.map_none, hl, h2, abox, AVal.boxable, AVal.cells, hcell.1, hcell.2, List.all_cons, List.all_nil, Bool.and_true, Bool.and_self, ← hb0]
    exact ⟨_, rfl, by simp [hl], by simp [h0], by simp [h1], by simp [hl, AHeap.empty]⟩
  obtain ⟨t0, e0, l0, t00, t01, t05⟩ := p0
  have p1 : ∃ t, ex Cf (Cat [true, false] (bodyOf Try.f5)) ⟨t0, b0⟩ = some (.normal, ⟨t, b0⟩) ∧ t.length = 88 ∧ t[0]? = some (.str key) ∧ t[1]? = some (.int .i64 seq) ∧ t[5]? = some (.ptr 0 0) ∧ t[7]? = some .nilPtr := by
    simp only [bodyOf, Try.f5, Cat, Bool.false_eq_true, e_seq, e_region, e_cond, e_block, ex_skip, ex_exit, ex_ret, o_cons, xops_nil, k_want_none, k_want_false, k_val, k_pan, k_call, k_ret, k_seq, k_seq_exit, k_seq_ret, k_true, k_false, k_block, k_block_exit, k_block_ret, k_loop, k_loop_exit, k_loop_ret, awanted, aoper, evalO, put, Option.getD_some, List.getElem?_set, acallOp, abuiltin, List.map_cons, List.map_nil, Nat.reduceEqDiff, Nat.reduceLT, List.length_set, Option.map_some, Option.bind_some, Option.bind_eq_bind, add_i, sub_i, mul_i, eql_i, neq_i, lss_i, leq_i, gtr_i, geq_i, ofV, ofCell, ↓reduceIte, loadA, ofCells, List.cons_append, List.nil_append, List.append_nil, List.getElem?_toArray, List.getElem?_cons_succ, List.getElem?_cons_zero, e_draw, g_nil, g_cons, g_want, g_skip, g_val, g_call, g_ret, Option.map_none]
    exact ⟨_, rfl, by simp [l0], by simp [t00], by simp [t01], by simp [t05], by simp [l0]⟩
  obtain ⟨t1, e1, l1, t10, t11, t15, t17⟩ := p1
  have p2 : ∃ t, ex Cf (Cat [true, true, false] (bodyOf Try.f5)) ⟨t1, b0⟩ = some (.normal, ⟨t, b1⟩) ∧ t.length = 88 ∧ t[0]? = some (.str key) ∧ t[1]? = some (.int .i64 seq) ∧ t[5]? = some (.ptr 0 0) ∧ t[7]? = some .nilPtr ∧ t[8]? = some (.ptr 1 0) := by
    simp only [bodyOf, Try.f5, Cat, Bool.false_eq_true, e_seq, e_region, e_cond, e_block, ex_skip, ex_exit, ex_ret, o_cons, xops_nil, k_want_none, k_want_false, k_val, k_pan, k_call, k_ret, k_seq, k_seq_exit, k_seq_ret, k_true, k_false, k_block, k_block_exit, k_block_ret, k_loop, k_loop_exit, k_loop_ret, awanted, aoper, evalO, put, Option.getD_some, List.getElem?_set, acallOp, abuiltin, List.map_cons, List.map_nil, Nat.reduceEqDiff, Nat.reduceLT, List.length_set, Option.map_some, Option.bind_some, Option.bind_eq_bind, add_i, sub_i, mul_i, eql_i, neq_i, lss_i, leq_i, gtr_i, geq_i, ofV, ofCell, ↓reduceIte, loadA, ofCells, List.cons_append, List.nil_append, List.append_nil, List.getElem?_toArray, List.getElem?_cons_succ, List.getElem?_cons_zero, e_draw, g_nil, g_cons, g_want, g_skip, g_val, g_call, g_ret, Option.map_none, l1, CP, bu_61, abox, AVal.boxable, AVal.cells, AVal.isCell, List.all_cons, List.all_nil, Bool.and_true, Bool.and_self, n0]
    exact ⟨_, by rw [hb1]; rfl, by simp [l1], by simp [t10], by simp [t11], by simp [t15], by simp [t17], by simp [l1]⟩
  obtain ⟨t2, e2, l2, t20, t21, t25, t27, t28⟩ := p2
  have p3 : ∃ t, ex Cf (Cat [true, true, true, false] (bodyOf Try.f5)) ⟨t2, b1⟩ = some (.normal, ⟨t, b1⟩) ∧ t.length = 88 ∧ t[0]? = some (.str key) ∧ t[1]? = some (.int .i64 seq) ∧ t[5]? = some (.ptr 0 0) ∧ t[7]? = some .nilPtr ∧ t[8]? = some (.ptr 1 0) := by
    simp only [bodyOf, Try.f5, Cat, Bool.false_eq_true, e_seq, e_region, e_cond, e_block, ex_skip, ex_exit, ex_ret, o_cons, xops_nil, k_want_none, k_want_false, k_val, k_pan, k_call, k_ret, k_seq, k_seq_exit, k_seq_ret, k_true, k_false, k_block, k_block_exit, k_block_ret, k_loop, k_loop_exit, k_loop_ret, awanted, aoper, evalO, put, Option.getD_some, List.getElem?_set, acallOp, abuiltin, List.map_cons, List.map_nil, Nat.reduceEqDiff, Nat.reduceLT, List.length_set, Option.map_some, Option.bind_some, Option.bind_eq_bind, add_i, sub_i, mul_i, eql_i, neq_i, lss_i, leq_i, gtr_i, geq_i, ofV, ofCell, ↓reduceIte, loadA, ofCells, List.cons_append, List.nil_append, List.append_nil, List.getElem?_toArray, List.getElem?_cons_succ, List.getElem?_cons_zero, e_draw, g_nil, g_cons, g_want, g_skip, g_val, g_call, g_ret, Option.map_none, l2, t20, t21, t27, limit_nil]
    exact ⟨_, rfl, by simp [l2], by simp [t20], by simp [t21], by simp [t25], by simp [t27], by simp [t28]⟩
  obtain ⟨t3, e3, l3, t30, t31, t35, t37, t38⟩ := p3
  -- Get of no cache
  have p4 : ∃ t b, ex Cf (Cat [true, true, true, true, false] (bodyOf Try.f5)) ⟨t3, b1⟩ = some (.normal, ⟨t, b⟩) ∧ t.length = 88 ∧ t[0]? = some (.str key) ∧ t[1]? = some (.int .i64 seq) ∧ t[5]? = some (.ptr 0 0) ∧ t[7]? = some .nilPtr ∧ t[8]? = some (.ptr 1 0) ∧ t[11]? = some (.bool false) ∧ b.get 0 = some (.arr [r.cv, r.rv]) ∧ b.get 1 = some (.arr (zcells 0)) ∧ 2 ≤ b.next := by
    obtain ⟨k, hk, k1, k2⟩ := get_nil key seq b1
    obtain ⟨k', hk'⟩ : ∃ k', k' = k.new (.arr [.nilSl, .nilSl]) := ⟨_, rfl⟩
    have g1' : k'.get k.next = some (.arr [.nilSl, .nilSl]) := by rw [hk']; exact new_get _ _
    simp only [bodyOf, Try.f5, Cat, Bool.false_eq_true, e_seq, e_region, e_cond, e_block, ex_skip, ex_exit, ex_ret, o_cons, xops_nil, k_want_none, k_want_false, k_val, k_pan, k_call, k_ret, k_seq, k_seq_exit, k_seq_ret, k_true, k_false, k_block, k_block_exit, k_block_ret, k_loop, k_loop_exit, k_loop_ret, awanted, aoper, evalO, put, Option.getD_some, List.getElem?_set, acallOp, abuiltin, List.map_cons, List.map_nil, Nat.reduceEqDiff, Nat.reduceLT, List.length_set, Option.map_some, Option.bind_some, Option.bind_eq_bind, add_i, sub_i, mul_i, eql_i, neq_i, lss_i, leq_i, gtr_i, geq_i, ofV, ofCell, ↓reduceIte, loadA, ofCells, List.cons_append, List.nil_append, List.append_nil, List.getElem?_toArray, List.getElem?_cons_succ, List.getElem?_cons_zero, e_draw, g_nil, g_cons, g_want, g_skip, g_val, g_call, g_ret, Option.map_none, l3, t30, t31, t37, hk, extractA, CP, ze_31, st_31, abox, AVal.boxable, AVal.cells, AVal.isCell, List.all_cons, List.all_nil, Bool.and_true, Bool.and_self, ← hk', storeA, g1', List.length_cons, List.length_nil, Nat.zero_add, Nat.reduceAdd, and_self, Nat.le_refl]
    refine ⟨_, _, rfl, by simp [l3], by simp [t30], by simp [t31], by simp [t35], by simp [t37], by simp [t38], by simp [l3], ?_, ?_, ?_⟩
    · rw [hk', set_new_get _ _ _ _ (by omega), k1 _ (by omega)]; exact g0
    · rw [hk', set_new_get _ _ _ _ (by omega), k1 _ (by omega)]; exact g1
    · rw [hk']; simp only [AHeap.set, AHeap.new]; omega
  obtain ⟨t4, b4, e4, l4, t40, t41, t45, t47, t48, t411, q0, q1, q2⟩ := p4
  -- Get of a zero one
  have p5 : ∃ t b, ex Cf (Cat [true, true, true, true, true, false] (bodyOf Try.f5)) ⟨t4, b4⟩ = some (.normal, ⟨t, b⟩) ∧ t.length = 88 ∧ t[0]? = some (.str key) ∧ t[1]? = some (.int .i64 seq) ∧ t[5]? = some (.ptr 0 0) ∧ t[7]? = some .nilPtr ∧ t[8]? = some (.ptr 1 0) ∧ t[11]? = some (.bool false) ∧ t[14]? = some (.bool false) ∧ b.get 0 = some (.arr [r.cv, r.rv]) ∧ b.get 1 = some (.arr (zcells 1)) ∧ 2 ≤ b.next := by
    obtain ⟨k, hk, k0, k1, k2⟩ := get_z key seq 1 b4 (by omega) q1
    obtain ⟨k', hk'⟩ : ∃ k', k' = k.new (.arr [.nilSl, .nilSl]) := ⟨_, rfl⟩
    have g1' : k'.get k.next = some (.arr [.nilSl, .nilSl]) := by rw [hk']; exact new_get _ _
    simp only [bodyOf, Try.f5, Cat, Bool.false_eq_true, e_seq, e_region, e_cond, e_block, ex_skip, ex_exit, ex_ret, o_cons, xops_nil, k_want_none, k_want_false, k_val, k_pan, k_call, k_ret, k_seq, k_seq_exit, k_seq_ret, k_true, k_false, k_block, k_block_exit, k_block_ret, k_loop, k_loop_exit, k_loop_ret, awanted, aoper, evalO, put, Option.getD_some, List.getElem?_set, acallOp, abuiltin, List.map_cons, List.map_nil, Nat.reduceEqDiff, Nat.reduceLT, List.length_set, Option.map_some, Option.bind_some, Option.bind_eq_bind, add_i, sub_i, mul_i, eql_i, neq_i, lss_i, leq_i, gtr_i, geq_i, ofV, ofCell, ↓reduceIte, loadA, ofCells, List.cons_append, List.nil_append, List.append_nil, List.getElem?_toArray, List.getElem?_cons_succ, List.getElem?_cons_zero, e_draw, g_nil, g_cons, g_want, g_skip, g_val, g_call, g_ret, Option.map_none, l4, t40, t41, t48, hk, extractA, CP, ze_31, st_31, abox, AVal.boxable, AVal.cells, AVal.isCell, List.all_cons, List.all_nil, Bool.and_true, Bool.and_self, ← hk', storeA, g1', List.length_cons, List.length_nil, Nat.zero_add, Nat.reduceAdd, and_self, Nat.le_refl]
    refine ⟨_, _, rfl, by simp [l4], by simp [t40], by simp [t41], by simp [t45], by simp [t47], by simp [t48], by simp [t411], by simp [l4], ?_, ?_, ?_⟩
    · rw [hk', set_new_get _ _ _ _ (by omega), k1 _ (by omega) (by omega)]; exact q0
    · rw [hk', set_new_get _ _ _ _ (by omega)]; exact k0
    · rw [hk']; simp only [AHeap.set, AHeap.new]; omega
  obtain ⟨t5, b5, e5, l5, t50, t51, t55, t57, t58, t511, t514, q50, q51, q52⟩ := p5
  -- the long line
  obtain ⟨k6, hk6, k61, k62⟩ := put_no key seq r hs hcont b5 .nilPtr (.inl rfl)
  obtain ⟨k7, hk7, k71, k72⟩ := put_no key seq r hs hcont k6 (.ptr 1 0) (.inr ⟨1, 1, rfl, by omega, by rw [k61 _ (by omega)]; exact q51⟩)
  have hk60 : k6.get 0 = some (.arr [r.cv, r.rv]) := by rw [k61 _ (by omega)]; exact q50
  have hmz := misses_z 1 1 k7 (by rw [k71 _ (by omega), k61 _ (by omega)]; exact q51)
  have hw : IntKind.i64.wrap (0 + 0) = 0 := rfl
  have p6 : ∃ t, ex Cf (Cat [true, true, true, true, true, true] (bodyOf Try.f5)) ⟨t5, b5⟩ = some (.ret, ⟨t, k7⟩) ∧ t[6]? = some (.bool true) := by
    simp only [bodyOf, Try.f5, Cat, Bool.false_eq_true, e_seq, e_region, e_cond, e_block, ex_skip, ex_exit, ex_ret, o_cons, xops_nil, k_want_none, k_want_false, k_val, k_pan, k_call, k_ret, k_seq, k_seq_exit, k_seq_ret, k_true, k_false, k_block, k_block_exit, k_block_ret, k_loop, k_loop_exit, k_loop_ret, awanted, aoper, evalO, put, Option.getD_some, List.getElem?_set, acallOp, abuiltin, List.map_cons, List.map_nil, Nat.reduceEqDiff, Nat.reduceLT, List.length_set, Option.map_some, Option.bind_some, Option.bind_eq_bind, add_i, sub_i, mul_i, eql_i, neq_i, lss_i, leq_i, gtr_i, geq_i, ofV, ofCell, ↓reduceIte, loadA, ofCells, List.cons_append, List.nil_append, List.append_nil, List.getElem?_toArray, List.getElem?_cons_succ, List.getElem?_cons_zero, e_draw, g_nil, g_cons, g_want, g_skip, g_val, g_call, g_ret, Option.map_none, l5, t50, t51, t55, t57, t58, t511, t514, CP, awake_run, aun, Bool.not_false, show ((true : Bool) == true) = true from rfl, ld_31, q50, hk60, List.length_cons, List.length_nil, Nat.zero_add, Nat.reduceAdd, Nat.zero_le, List.drop_zero, Nat.le_refl, List.take_succ_cons, List.take_zero, hk6, hk7, forget_nil, bytes_nil, len_nil, keys_nil, hits_nil, misses_nil, hmz, alen, Try.underlying28, hw, show ((0 : Int) == 0) = true from rfl, show ((1 : Int) == 1) = true from rfl, show (((0 : Nat) : Int)) = 0 from rfl]
    exact ⟨_, rfl, by simp [l5]⟩
  obtain ⟨t6, e6, t66⟩ := p6
  refine ⟨k7, fn_run (fn := Try.f5) (x := .ret) (t := t6) Try.func5 rfl rfl rfl (.inl rfl) ?_ (vs := [.bool true]) (by simp [show Try.f5.results.toList = [ResultVar.tmp 6] from rfl, aresults, ares1, t66])⟩
  rw [← ha0, hbody, e_seq, e0, k_seq, e_seq, e1, k_seq, e_seq, e2, k_seq, e_seq, e3, k_seq, e_seq, e4, k_seq, e_seq, e5, k_seq, e6]
end Go.Am.Cache
