/-
  CACHE: New, Get.
-/
import Derived.Test.YtgjjmngcmbpjjaaCacheKeys
import Derived.Test.YtgjjmngcmbpjjaaAmObl
set_option linter.unusedSimpArgs false
set_option linter.unusedVariables false
set_option maxRecDepth 100000
namespace Go.Am.Cache
open Go Go.Am Go.Proofs

theorem new_run (room : Int) (h : AHeap) : ∃ h' m, run Cf 9 [.int .i64 room] h = some (.ret (.ptr h.next 0), h') ∧ m = max room 0 ∧ CInv 0 h' h.next ⟨m, 0, .nilMap, .nilSl, 0, 0, []⟩ ∧ h'.next = h.next + 1 ∧ ∀ j, j < h.next → h'.get j = h.get j := by
  have hrun : ∃ m, m = max room 0 ∧ run Cf 9 [.int .i64 room] h = some (.ret (.ptr h.next 0), h.new (.arr [.int .i64 m, .int .i64 0, .nilMap, .nilSl, .int .i64 0, .int .i64 0])) := by
    by_cases hr : (0 : Int) > room
    · refine ⟨0, by omega, ?_⟩
      obtain ⟨a0, ha0⟩ : ∃ a0, a0 = slots Try.f9 [.int .i64 room] := ⟨_, rfl⟩
      have hl : a0.length = 7 := by rw [ha0]; rfl
      have i0 : a0[0]? = some (.int .i64 room) := by rw [ha0]; rfl
      have hb : abuild Try.prog 61 [(0, .int .i64 0)] = some (.agg [.int .i64 0, .int .i64 0, .nilMap, .nilSl, .int .i64 0, .int .i64 0]) := by kernel_rfl
      have he : ∃ t, ex Cf (bodyOf Try.f9) ⟨a0, h⟩ = some (.ret, ⟨t, h.new (.arr [.int .i64 0, .int .i64 0, .nilMap, .nilSl, .int .i64 0, .int .i64 0])⟩) ∧ t[2]? = some (.ptr h.next 0) := by
        simp only [bodyOf, Try.f9, Bool.false_eq_true, e_seq, e_region, e_cond, e_block, ex_skip, ex_exit, ex_ret, o_cons, xops_nil, k_want_none, k_want_false, k_val, k_pan, k_call, k_ret, k_seq, k_seq_exit, k_seq_ret, k_true, k_false, k_block, k_block_exit, k_block_ret, k_loop, k_loop_exit, k_loop_ret, awanted, aoper, evalO, put, Option.getD_some, List.getElem?_set, acallOp, abuiltin, List.map_cons, List.map_nil, Nat.reduceEqDiff, Nat.reduceLT, List.length_set, Option.map_some, Option.bind_some, Option.bind_eq_bind, add_i, sub_i, mul_i, eql_i, neq_i, lss_i, leq_i, gtr_i, geq_i, ofV, ofCell, ↓reduceIte, List.cons_append, List.nil_append, List.append_nil, List.getElem?_toArray, List.getElem?_cons_succ, List.getElem?_cons_zero, e_draw, g_nil, g_cons, g_want, g_skip, g_val, g_call, g_ret, Option.map_none, hl, i0, foldMax, max2A, if_true, hr, CP, hb, abox, AVal.boxable, AVal.isCell, List.all_cons, List.all_nil, Bool.and_self, AVal.cells]
        exact ⟨_, rfl, by simp [hl]⟩
      obtain ⟨t, he, ht⟩ := he
      exact fn_run (fn := Try.f9) (x := .ret) Try.func9 rfl rfl rfl (.inl rfl) (by rw [← ha0]; exact he) (vs := [.ptr h.next 0]) (by simp [show Try.f9.results.toList = [ResultVar.tmp 2] from rfl, aresults, ares1, ht])
    · refine ⟨room, by omega, ?_⟩
      obtain ⟨a0, ha0⟩ : ∃ a0, a0 = slots Try.f9 [.int .i64 room] := ⟨_, rfl⟩
      have hl : a0.length = 7 := by rw [ha0]; rfl
      have i0 : a0[0]? = some (.int .i64 room) := by rw [ha0]; rfl
      have hb : abuild Try.prog 61 [(0, .int .i64 room)] = some (.agg [.int .i64 room, .int .i64 0, .nilMap, .nilSl, .int .i64 0, .int .i64 0]) := by kernel_rfl
      have he : ∃ t, ex Cf (bodyOf Try.f9) ⟨a0, h⟩ = some (.ret, ⟨t, h.new (.arr [.int .i64 room, .int .i64 0, .nilMap, .nilSl, .int .i64 0, .int .i64 0])⟩) ∧ t[2]? = some (.ptr h.next 0) := by
        simp only [bodyOf, Try.f9, Bool.false_eq_true, e_seq, e_region, e_cond, e_block, ex_skip, ex_exit, ex_ret, o_cons, xops_nil, k_want_none, k_want_false, k_val, k_pan, k_call, k_ret, k_seq, k_seq_exit, k_seq_ret, k_true, k_false, k_block, k_block_exit, k_block_ret, k_loop, k_loop_exit, k_loop_ret, awanted, aoper, evalO, put, Option.getD_some, List.getElem?_set, acallOp, abuiltin, List.map_cons, List.map_nil, Nat.reduceEqDiff, Nat.reduceLT, List.length_set, Option.map_some, Option.bind_some, Option.bind_eq_bind, add_i, sub_i, mul_i, eql_i, neq_i, lss_i, leq_i, gtr_i, geq_i, ofV, ofCell, ↓reduceIte, List.cons_append, List.nil_append, List.append_nil, List.getElem?_toArray, List.getElem?_cons_succ, List.getElem?_cons_zero, e_draw, g_nil, g_cons, g_want, g_skip, g_val, g_call, g_ret, Option.map_none, hl, i0, foldMax, max2A, if_true, hr, CP, hb, abox, AVal.boxable, AVal.isCell, List.all_cons, List.all_nil, Bool.and_self, AVal.cells, if_false]
        exact ⟨_, rfl, by simp [hl]⟩
      obtain ⟨t, he, ht⟩ := he
      exact fn_run (fn := Try.f9) (x := .ret) Try.func9 rfl rfl rfl (.inl rfl) (by rw [← ha0]; exact he) (vs := [.ptr h.next 0]) (by simp [show Try.f9.results.toList = [ResultVar.tmp 2] from rfl, aresults, ares1, ht])
  obtain ⟨m, hm, hrun⟩ := hrun
  refine ⟨_, m, hrun, hm, ⟨?_, .inl ⟨rfl, rfl⟩, .inl ⟨rfl, rfl⟩, fun e he => (by cases he), List.nodup_nil, ?_, ?_, rfl, fun e he => (by cases he), Nat.le_refl _, by omega⟩, rfl, fun j hj => Heap.get_new_lt hj⟩
  · exact Heap.get_new_eq
  · simp [foot, ordId, mapId]
  · intro i hi
    simp [foot, ordId, mapId] at hi
    rw [hi, Heap.new_next]; omega

/-- A number more, in a cell of a cache. -/
theorem cell_set {h : AHeap} {c i : Nat} {cells : List AVal} (hg : h.get c = some (.arr cells)) (n : Int) (hn : cells[i]? = some (.int .i64 n)) : run Cf 24 [.ptr c i, .int .i64 1] h = some (.ret (.int .i64 (IntKind.i64.wrap (n + 1))), h.set c (some (.arr (cells.set i (.int .i64 (IntKind.i64.wrap (n + 1))))))) :=
  add_run c i cells n 1 h hg hn

/-- what touches no block of a cache keeps it -/
theorem CInv.congr {K : Nat} {h h' : AHeap} {c : Nat} {s : Cst} (I : CInv K h c s) (hn : h.next ≤ h'.next) (he : ∀ i ∈ foot c s, h'.get i = h.get i) : CInv K h' c s where
  cell := by rw [he c (by simp [foot])]; exact I.cell
  ord := I.ord.congr fun i hi => he i (by simp [foot, hi])
  map := I.map.congr fun i hi => he i (by simp [foot, hi])
  ent := fun e hm => by rw [he e.p (by simp only [foot, List.mem_cons, List.mem_append]; exact .inr (.inr (.inr (List.mem_map_of_mem hm))))]; exact I.ent e hm
  keys := I.keys
  ids := I.ids
  lt := fun i hi => Nat.lt_of_lt_of_le (I.lt i hi) hn
  sum := I.sum
  small := I.small
  len := I.len
  le := I.le
/-- the numbers in the cache's own cells are turned -/
theorem CInv.turn {K : Nat} {h : AHeap} {c : Nat} {s : Cst} (I : CInv K h c s) (s' : Cst) (hb : s'.bytes = s.bytes) (hm : s'.mv = s.mv) (ho : s'.ov = s.ov) (hL : s'.L = s.L) : CInv K (h.set c (some (.arr s'.cells))) c s' := by
  obtain ⟨f1, f2, f3, f4, f5, f6⟩ := foot_split I.ids
  have hf : foot c s' = foot c s := by simp only [foot, hm, ho, hL]
  refine ⟨Heap.get_set_eq, ?_, ?_, ?_, by rw [hL]; exact I.keys, by rw [hf]; exact I.ids, by rw [hf]; exact I.lt, by rw [hb, hL]; exact I.sum, by rw [hL]; exact I.small, by rw [hL]; exact I.len, I.le⟩
  · rw [ho, hL]; exact I.ord.congr fun i hi => Heap.get_set_ne (fun e => f1 (e ▸ hi))
  · rw [hm, hL]; exact I.map.congr fun i hi => Heap.get_set_ne (fun e => f2 (e ▸ hi))
  · rw [hL]; intro e he; rw [Heap.get_set_ne (Ne.symm (f3 e he))]; exact I.ent e he

/-- NOTHING IS THERE. -/
theorem get_miss {K : Nat} (h : AHeap) (c : Nat) (s : Cst) (I : CInv K h c s) (key : List UInt8) (seq : Int) (hno : ∀ e ∈ s.L, e.key = key → e.seq ≠ seq) :
    ∃ h' , run Cf 10 [.ptr c 0, .str key, .int .i64 seq] h = some (.ret (.tup [.agg [.nilSl, .nilSl], .int .i64 0, .bool false]), h') ∧ CInv K h' c { s with misses := IntKind.i64.wrap (s.misses + 1) } ∧ Stp (foot c s) (foot c s) h h' := by
  obtain ⟨a0, ha0⟩ : ∃ a0, a0 = slots Try.f10 [.ptr c 0, .str key, .int .i64 seq] := ⟨_, rfl⟩
  have hl : a0.length = 52 := by rw [ha0]; rfl
  have h0 : a0[0]? = some (.ptr c 0) := by rw [ha0]; rfl
  have h1 : a0[1]? = some (.str key) := by rw [ha0]; rfl
  have i2 : a0[2]? = some (.int .i64 seq) := by rw [ha0]; rfl
  have hcn : c < h.next := I.lt c (by simp [foot])
  obtain ⟨b, hb⟩ : ∃ b, b = h.new (.arr [.nilSl, .nilSl]) := ⟨_, rfl⟩
  have I1 : CInv K b c s := by rw [hb]; exact I.congr (by rw [Heap.new_next]; omega) fun i hi => Heap.get_new_lt (I.lt i hi)
  have gb : b.get h.next = some (.arr [.nilSl, .nilSl]) := by rw [hb]; exact Heap.get_new_eq
  have hld2 : loadA b false 1 (.ptr c 2) = some s.mv := Heap.load_at I1.cell rfl
  have hadd := cell_set I1.cell s.misses (i := 5) rfl
  obtain ⟨b2, hb2⟩ : ∃ b2, b2 = b.set c (some (.arr (s.cells.set 5 (.int .i64 (IntKind.i64.wrap (s.misses + 1)))))) := ⟨_, rfl⟩
  rw [← hb2] at hadd
  have I2 : CInv K b2 c { s with misses := IntKind.i64.wrap (s.misses + 1) } := by rw [hb2]; exact I1.turn { s with misses := IntKind.i64.wrap (s.misses + 1) } rfl rfl rfl rfl
  have gb2 : b2.get h.next = some (.arr [.nilSl, .nilSl]) := by rw [hb2, Heap.get_set_ne (by omega)]; exact gb
  obtain ⟨b3, hb3⟩ : ∃ b3, b3 = b2.set h.next (some (.arr [.nilSl, .nilSl])) := ⟨_, rfl⟩
  have hst : storeA b2 2 (.ptr h.next 0) (.agg [.nilSl, .nilSl]) = some b3 := by rw [hb3]; exact Heap.store_two gb2 rfl rfl
  have key_out : ∃ t, ex Cf (bodyOf Try.f10) ⟨a0, h⟩ = some (.ret, ⟨t, b3⟩) ∧ t[6]? = some (.ptr h.next 0) ∧ t[7]? = some (.int .i64 0) ∧ t[8]? = some (.bool false) := by
    by_cases hm : key ∈ s.L.map CEnt.key
    · obtain ⟨e, he, hk⟩ := List.mem_map.1 hm
      have hlk : alookup Try.prog b 51 s.mv (.str key) false = some (.ptr e.p 0) := lookup_some I1.map (by rw [List.map_map]; exact I.keys) (by rw [← hk]; exact List.mem_map_of_mem he)
      have hne : (e.seq != seq) = true := by simpa using hno e he hk
      have hld1 : loadA b false 1 (.ptr e.p 1) = some (.int .i64 e.seq) := Heap.load_at (I1.ent e he) rfl
      simp only [bodyOf, Try.f10, Bool.false_eq_true, e_seq, e_region, e_cond, e_block, ex_skip, ex_exit, ex_ret, o_cons, xops_nil, k_want_none, k_want_false, k_val, k_pan, k_call, k_ret, k_seq, k_seq_exit, k_seq_ret, k_true, k_false, k_block, k_block_exit, k_block_ret, k_loop, k_loop_exit, k_loop_ret, awanted, aoper, evalO, put, Option.getD_some, List.getElem?_set, acallOp, abuiltin, List.map_cons, List.map_nil, Nat.reduceEqDiff, Nat.reduceLT, List.length_set, Option.map_some, Option.bind_some, Option.bind_eq_bind, add_i, sub_i, mul_i, eql_i, neq_i, lss_i, leq_i, gtr_i, geq_i, ofV, ofCell, ↓reduceIte, List.cons_append, List.nil_append, List.append_nil, List.getElem?_toArray, List.getElem?_cons_succ, List.getElem?_cons_zero, e_draw, g_nil, g_cons, g_want, g_skip, g_val, g_call, g_ret, Option.map_none, hl, h0, h1, i2, CP, Ty.ze31, abox, AVal.boxable, AVal.cells, AVal.isCell, List.all_cons, List.all_nil, Bool.and_self, ← hb, Ty.eq26_0, Ty.fa61_2, Ty.fa61_5, Ty.fa68_1, dropCells, Nat.zero_add, Nat.add_zero, Ty.ld51, Ty.ld3, hld2, hlk, Ty.eq66_0, show ((false : Bool) == false) = true from rfl, hld1, hne, hadd, Ty.bu31, Ty.st31, hst]
      exact ⟨_, rfl, by simp [hl], by simp [hl], by simp [hl]⟩
    · have hlk : alookup Try.prog b 51 s.mv (.str key) false = some .nilPtr := lookup_none I1.map (by rw [List.map_map]; exact hm)
      simp only [bodyOf, Try.f10, Bool.false_eq_true, e_seq, e_region, e_cond, e_block, ex_skip, ex_exit, ex_ret, o_cons, xops_nil, k_want_none, k_want_false, k_val, k_pan, k_call, k_ret, k_seq, k_seq_exit, k_seq_ret, k_true, k_false, k_block, k_block_exit, k_block_ret, k_loop, k_loop_exit, k_loop_ret, awanted, aoper, evalO, put, Option.getD_some, List.getElem?_set, acallOp, abuiltin, List.map_cons, List.map_nil, Nat.reduceEqDiff, Nat.reduceLT, List.length_set, Option.map_some, Option.bind_some, Option.bind_eq_bind, add_i, sub_i, mul_i, eql_i, neq_i, lss_i, leq_i, gtr_i, geq_i, ofV, ofCell, ↓reduceIte, List.cons_append, List.nil_append, List.append_nil, List.getElem?_toArray, List.getElem?_cons_succ, List.getElem?_cons_zero, e_draw, g_nil, g_cons, g_want, g_skip, g_val, g_call, g_ret, Option.map_none, hl, h0, h1, i2, CP, Ty.ze31, abox, AVal.boxable, AVal.cells, AVal.isCell, List.all_cons, List.all_nil, Bool.and_self, ← hb, Ty.eq26_0, Ty.fa61_2, Ty.fa61_5, Ty.fa68_1, dropCells, Nat.zero_add, Nat.add_zero, Ty.ld51, Ty.ld3, hld2, hlk, Ty.eq66_n, show ((true : Bool) == false) = false from rfl, hadd, Ty.bu31, Ty.st31, hst]
      exact ⟨_, rfl, by simp [hl], by simp [hl], by simp [hl]⟩
  obtain ⟨t, he, t6, t7, t8⟩ := key_out
  have hld6 : aload Try.prog b3 31 (.ptr h.next 0) = some (.agg [.nilSl, .nilSl]) := by
    rw [Ty.ld31]; simp only [loadA, hb3, Heap.get_set_eq]; rfl
  refine ⟨b3, fn_run (fn := Try.f10) (x := .ret) Try.func10 rfl rfl rfl (.inl rfl) (by rw [← ha0]; exact he) (vs := [.agg [.nilSl, .nilSl], .int .i64 0, .bool false]) (by simp [show Try.f10.results.toList = [ResultVar.cell 6 31, .tmp 7, .tmp 8] from rfl, aresults, ares1, t6, t7, t8, CP, hld6]), ?_, ?_, ?_, fun j hj => .inl hj⟩
  · rw [hb3]; exact I2.congr (Nat.le_refl _) fun i hi => Heap.get_set_ne (by have := I.lt i hi; omega)
  · rw [hb3, hb2, hb]; simp only [Heap.set_next, Heap.new_next]; omega
  · intro j hj hjf
    rw [hb3, Heap.get_set_ne (by omega), hb2, Heap.get_set_ne (by intro e; exact hjf (by simp [foot, e])), hb, Heap.get_new_lt hj]

theorem perm_sum {l l' : List Int} (h : l.Perm l') : l.sum = l'.sum := by
  induction h with
  | nil => rfl
  | cons x _ ih => simp only [List.sum_cons, ih]
  | swap x y l => simp only [List.sum_cons]; omega
  | trans _ _ i1 i2 => exact i1.trans i2
theorem apure_copied {cv rv : AVal} (h : contB cv = true ∧ contB rv = true) : apure Cf 26 [.agg [cv, rv]] = true := by
  have hr : refsL [AVal.agg [cv, rv]] = [] := refsL_cont _ (by simp [contBs, contB, h])
  have : apure Cf 26 [AVal.agg [cv, rv]] = ((Cf.summ 26).isSome || (Cf.foc 26 && true && ((Cf.P.funcs[26]?).bind (·.body)).isSome)) := by simp only [apure, hr, List.isEmpty_nil]
  exact this.trans (by kernel_rfl)
theorem isCell_of {cells : List AVal} {n : Nat} {v : AVal} (h : IsSl cells n v) : v.isCell = true := by
  rcases h with ⟨rfl, _⟩ | ⟨c, rfl⟩ <;> rfl

/-- AN ENTRY IS THERE. -/
theorem get_hit {K : Nat} (h : AHeap) (c : Nat) (s : Cst) (I : CInv K h c s) (pre post : List CEnt) (e : CEnt) (hL : s.L = pre ++ e :: post) (hK : K + 1 ≤ 1000000) (hcont : contB e.cv = true ∧ contB e.rv = true) {cv rv : AVal} (hcell : cv.isCell = true ∧ rv.isCell = true)
    (heq : eqAs e.cells e.cells = true) (hcp : ∀ h, run Cf 26 [.agg [e.cv, e.rv]] h = some (.ret (.agg [cv, rv]), h)) :
    ∃ h' ov', run Cf 10 [.ptr c 0, .str e.key, .int .i64 e.seq] h = some (.ret (.tup [.agg [cv, rv], .int .i64 e.err, .bool true]), h') ∧ CInv (K + 1) h' c { s with hits := IntKind.i64.wrap (s.hits + 1), ov := ov', L := pre ++ post ++ [e] } ∧ Stp (foot c s) (foot c { s with hits := IntKind.i64.wrap (s.hits + 1), ov := ov', L := pre ++ post ++ [e] }) h h' := by
  have he : e ∈ s.L := by rw [hL]; simp
  obtain ⟨a0, ha0⟩ : ∃ a0, a0 = slots Try.f10 [.ptr c 0, .str e.key, .int .i64 e.seq] := ⟨_, rfl⟩
  have hl : a0.length = 52 := by rw [ha0]; rfl
  have h0 : a0[0]? = some (.ptr c 0) := by rw [ha0]; rfl
  have h1 : a0[1]? = some (.str e.key) := by rw [ha0]; rfl
  have i2 : a0[2]? = some (.int .i64 e.seq) := by rw [ha0]; rfl
  have hcn : c < h.next := I.lt c (by simp [foot])
  obtain ⟨f1, f2, f3, f4, f5, f6⟩ := foot_split I.ids
  obtain ⟨b, hb⟩ : ∃ b, b = h.new (.arr [.nilSl, .nilSl]) := ⟨_, rfl⟩
  have I1 : CInv K b c s := by rw [hb]; exact I.congr (by rw [Heap.new_next]; omega) fun i hi => Heap.get_new_lt (I.lt i hi)
  have gb : b.get h.next = some (.arr [.nilSl, .nilSl]) := by rw [hb]; exact Heap.get_new_eq
  have hld2 : loadA b false 1 (.ptr c 2) = some s.mv := Heap.load_at I1.cell rfl
  have hlk : alookup Try.prog b 51 s.mv (.str e.key) false = some (.ptr e.p 0) := lookup_some I1.map (by rw [List.map_map]; exact I.keys) (List.mem_map_of_mem (f := fun e : CEnt => (e.key, e.p)) he)
  have hne : (e.seq != e.seq) = false := by simp
  have hld1 : loadA b false 1 (.ptr e.p 1) = some (.int .i64 e.seq) := Heap.load_at (I1.ent e he) rfl
  have hadd := cell_set I1.cell s.hits (i := 4) rfl
  obtain ⟨b2, hb2⟩ : ∃ b2, b2 = b.set c (some (.arr (s.cells.set 4 (.int .i64 (IntKind.i64.wrap (s.hits + 1)))))) := ⟨_, rfl⟩
  rw [← hb2] at hadd
  obtain ⟨s2, hs2⟩ : ∃ s2 : Cst, s2 = { s with hits := IntKind.i64.wrap (s.hits + 1) } := ⟨_, rfl⟩
  have I2 : CInv K b2 c s2 := by rw [hb2, hs2]; exact I1.turn { s with hits := IntKind.i64.wrap (s.hits + 1) } rfl rfl rfl rfl
  have nb2 : b2.next = h.next + 1 := by rw [hb2, hb]; rfl
  have gb2 : b2.get h.next = some (.arr [.nilSl, .nilSl]) := by rw [hb2, Heap.get_set_ne (by omega)]; exact gb
  have hs2L : s2.L = s.L := by rw [hs2]
  have hs2o : s2.ov = s.ov := by rw [hs2]
  obtain ⟨b3, ov', hu, hc3, o3, id3, n3, g3⟩ := use_run b2 c e.p s2.ov (s2.L.map CEnt.p) s2.cells I2.cell rfl I2.ord ⟨_, _, I2.ent e (by rw [hs2L]; exact he)⟩ I2.isEnt I2.le (by rw [hs2o]; exact f1) (by rw [nb2]; omega) (fun i hi => I2.lt i (by simp [foot, hi]))
  have g3' : ∀ j, j < h.next + 1 → j ≠ c → j ∉ ordId s.ov → b3.get j = b2.get j := fun j hj hjc hjo => g3 j (by rw [nb2]; exact hj) hjc (by rw [hs2o]; exact hjo)
  have e3 : ∀ x ∈ s.L, b3.get x.p = some (.arr x.cells) := fun x hx => by
    have hx2 : x ∈ s2.L := by rw [hs2L]; exact hx
    rw [g3' x.p (by have := I.lt x.p (by simp only [foot, List.mem_cons, List.mem_append]; exact .inr (.inr (.inr (List.mem_map_of_mem hx)))); omega) (Ne.symm (f3 x hx)) (fun hio => (f4 _ hio).2 x hx rfl)]
    exact I2.ent x hx2
  have gb3 : b3.get h.next = some (.arr [.nilSl, .nilSl]) := by
    rw [g3' h.next (by omega) (by omega) (fun hio => by have := I.lt h.next (by simp [foot, hio]); omega)]; exact gb2
  have hldr : loadA b3 true 2 (.ptr e.p 2) = some (.agg [e.cv, e.rv]) := by
    simp only [loadA, e3 e he, CEnt.cells]; rfl
  have hlde : loadA b3 false 1 (.ptr e.p 4) = some (.int .i64 e.err) := Heap.load_at (e3 e he) rfl
  obtain ⟨b4, hb4⟩ : ∃ b4, b4 = b3.set h.next (some (.arr [cv, rv])) := ⟨_, rfl⟩
  have hst : storeA b3 2 (.ptr h.next 0) (.agg [cv, rv]) = some b4 := by rw [hb4]; exact Heap.store_two gb3 hcell.1 hcell.2
  have hap := apure_copied hcont
  have key_out : ∃ t, ex Cf (bodyOf Try.f10) ⟨a0, h⟩ = some (.ret, ⟨t, b4⟩) ∧ t[6]? = some (.ptr h.next 0) ∧ t[7]? = some (.int .i64 e.err) ∧ t[8]? = some (.bool true) := by
    simp only [bodyOf, Try.f10, Bool.false_eq_true, e_seq, e_region, e_cond, e_block, ex_skip, ex_exit, ex_ret, o_cons, xops_nil, k_want_none, k_want_false, k_val, k_pan, k_call, k_ret, k_seq, k_seq_exit, k_seq_ret, k_true, k_false, k_block, k_block_exit, k_block_ret, k_loop, k_loop_exit, k_loop_ret, awanted, aoper, evalO, put, Option.getD_some, List.getElem?_set, acallOp, abuiltin, List.map_cons, List.map_nil, Nat.reduceEqDiff, Nat.reduceLT, List.length_set, Option.map_some, Option.bind_some, Option.bind_eq_bind, add_i, sub_i, mul_i, eql_i, neq_i, lss_i, leq_i, gtr_i, geq_i, ofV, ofCell, ↓reduceIte, List.cons_append, List.nil_append, List.append_nil, List.getElem?_toArray, List.getElem?_cons_succ, List.getElem?_cons_zero, e_draw, g_nil, g_cons, g_want, g_skip, g_val, g_call, g_ret, Option.map_none, hl, h0, h1, i2, CP, Ty.ze31, abox, AVal.boxable, AVal.cells, AVal.isCell, List.all_cons, List.all_nil, Bool.and_self, ← hb, Ty.eq26_0, Ty.fa61_2, Ty.fa61_4, Ty.fa61_3, Ty.fa68_1, Ty.fa68_2, Ty.fa68_3, dropCells, Nat.zero_add, Nat.add_zero, Ty.ld51, Ty.ld3, Ty.ld31, Ty.ld32, hld2, hlk, Ty.eq66_0, show ((false : Bool) == false) = true from rfl, hld1, hne, hadd, hu, hldr, hlde, hcp, hap, if_true, Ty.st31, hst]
    subst ha0
    rw [k_owes [(b3, b4, e.p)] (by kernel_rfl) (by
      intro o ho
      rw [List.mem_singleton] at ho; subst ho
      refine sameBlk_of (e3 e he) ?_ heq
      have hlt := I.lt e.p (by simp only [foot, List.mem_cons, List.mem_append]; exact .inr (.inr (.inr (List.mem_map_of_mem he))))
      rw [hb4]; exact Heap.get_set_ne (Nat.ne_of_lt hlt))]
    simp only [Bool.false_eq_true, e_seq, e_region, e_cond, e_block, ex_skip, ex_exit, ex_ret, o_cons, xops_nil, k_want_none, k_want_false, k_val, k_pan, k_call, k_ret, k_seq, k_seq_exit, k_seq_ret, k_true, k_false, k_block, k_block_exit, k_block_ret, k_loop, k_loop_exit, k_loop_ret, awanted, aoper, evalO, put, Option.getD_some, List.getElem?_set, acallOp, abuiltin, List.map_cons, List.map_nil, Nat.reduceEqDiff, Nat.reduceLT, List.length_set, Option.map_some, Option.bind_some, Option.bind_eq_bind, add_i, sub_i, mul_i, eql_i, neq_i, lss_i, leq_i, gtr_i, geq_i, ofV, ofCell, ↓reduceIte, List.cons_append, List.nil_append, List.append_nil, List.getElem?_toArray, List.getElem?_cons_succ, List.getElem?_cons_zero, e_draw, g_nil, g_cons, g_want, g_skip, g_val, g_call, g_ret, Option.map_none, hl]
    exact ⟨_, rfl, by simp [hl], by simp [hl], by simp [hl]⟩
  obtain ⟨t, hex, t6, t7, t8⟩ := key_out
  have hld6 : aload Try.prog b4 31 (.ptr h.next 0) = some (.agg [cv, rv]) := by
    rw [Ty.ld31]; simp only [loadA, hb4, Heap.get_set_eq]; rfl
  have hnin : ∀ i ∈ ordId ov', i ≠ h.next := fun i hi e => by
    rcases (id3 i hi).1 with h5 | h5
    · rw [hs2o] at h5; have := I.lt i (by simp [foot, h5]); omega
    · rw [nb2] at h5; omega
  have hps : (s2.L.map CEnt.p).erase e.p ++ [e.p] = (pre ++ post ++ [e]).map CEnt.p := by
    rw [hs2L, hL, List.map_append, List.map_cons, erase_at]
    · simp
    · rw [hL, List.map_append, List.map_cons, List.nodup_append] at f6
      exact fun hm => f6.2.2 _ hm _ List.mem_cons_self rfl
  rw [hps] at o3
  have hsub : ∀ x ∈ pre ++ post ++ [e], x ∈ s.L := fun x hx => by rw [hL]; simp at hx ⊢; rcases hx with hx | hx | hx <;> simp [hx]
  have hperm : (pre ++ post ++ [e]).Perm s.L := by
    rw [hL, List.append_assoc]
    exact List.Perm.append_left _ (List.perm_append_singleton e post)
  have hfoot : ∀ j ∈ foot c { s with hits := IntKind.i64.wrap (s.hits + 1), ov := ov', L := pre ++ post ++ [e] }, (j ∈ foot c s ∨ h.next ≤ j) ∧ j < b3.next := by
    intro j hj
    simp only [foot, List.mem_cons, List.mem_append] at hj
    rcases hj with hj | hj | hj | hj
    · exact ⟨.inl (by simp [foot, hj]), by rw [hj]; omega⟩
    · obtain ⟨h5, h6⟩ := id3 j hj
      rw [hs2o, nb2] at h5
      refine ⟨?_, h6⟩
      rcases h5 with h5 | h5
      · exact .inl (by simp [foot, h5])
      · right; omega
    · exact ⟨.inl (by simp [foot, hj]), by have := I.lt j (by simp [foot, hj]); omega⟩
    · obtain ⟨x, hx, rfl⟩ := List.mem_map.1 hj
      have hm : x.p ∈ foot c s := by simp only [foot, List.mem_cons, List.mem_append]; exact .inr (.inr (.inr (List.mem_map_of_mem (hsub x hx))))
      exact ⟨.inl hm, by have := I.lt _ hm; omega⟩
  refine ⟨b4, ov', fn_run (fn := Try.f10) (x := .ret) Try.func10 rfl rfl rfl (.inl rfl) (by rw [← ha0]; exact hex) (vs := [.agg [cv, rv], .int .i64 e.err, .bool true]) (by simp [show Try.f10.results.toList = [ResultVar.cell 6 31, .tmp 7, .tmp 8] from rfl, aresults, ares1, t6, t7, t8, CP, hld6]), ⟨?_, ?_, ?_, ?_, ?_, ?_, ?_, ?_, ?_, ?_, hK⟩, ?_, ?_, fun j hj => (hfoot j hj).1⟩
  · rw [hb4, Heap.get_set_ne (by omega), hc3, hs2]; rfl
  · refine o3.congr fun i hi => ?_
    rw [hb4, Heap.get_set_ne (hnin i hi)]
  · rw [hb4]
    have m3 : MapP b3 s.mv (s.L.map fun e => (e.key, e.p)) := I2.map |> fun m => by
      rw [hs2] at m
      exact m.congr fun i hi => g3' i (by have := I.lt i (by simp [foot, hi]); omega) (fun e => f2 (e ▸ hi)) (fun hio => (f4 i hio).1 hi)
    have m4 : MapP (b3.set h.next (some (.arr [cv, rv]))) s.mv (s.L.map fun e => (e.key, e.p)) := m3.congr fun i hi => Heap.get_set_ne (by have := I.lt i (by simp [foot, hi]); omega)
    rcases m4 with ⟨q1, q2⟩ | ⟨mid, es, clk, q1, q2, q3⟩
    · exact .inl ⟨q1, by rw [hL] at q2; simp at q2⟩
    · exact .inr ⟨mid, es, clk, q1, q2, q3.trans (hperm.symm.map _)⟩
  · intro x hx
    rw [hb4, Heap.get_set_ne (by have := I.lt x.p (by simp only [foot, List.mem_cons, List.mem_append]; exact .inr (.inr (.inr (List.mem_map_of_mem (hsub x hx))))); omega)]
    exact e3 x (hsub x hx)
  · exact (hperm.map _).nodup_iff.2 I.keys
  · have hids := I.ids
    simp only [foot] at hids ⊢
    rw [List.nodup_cons, List.nodup_append] at hids ⊢
    obtain ⟨q1, q2, q3, q4⟩ := hids
    have hps2 : ∀ j, j ∈ (pre ++ post ++ [e]).map CEnt.p ↔ j ∈ s.L.map CEnt.p := fun j => (hperm.map _).mem_iff
    refine ⟨?_, ?_, ?_, ?_⟩
    · simp only [List.mem_append, not_or] at q1 ⊢
      refine ⟨fun hm => ?_, q1.2.1, fun hm => q1.2.2 ((hps2 c).1 (by simpa using hm))⟩
      rcases (id3 c hm).1 with h5 | h5
      · rw [hs2o] at h5; exact f1 h5
      · rw [nb2] at h5; omega
    · rcases o3 with ⟨q, _⟩ | ⟨oi, cs, q, _⟩ <;> rw [q] <;> simp [ordId]
    · rw [List.nodup_append] at q3 ⊢
      exact ⟨q3.1, (hperm.map _).nodup_iff.2 q3.2.1, fun a ha b hb => q3.2.2 a ha b ((hps2 b).1 hb)⟩
    · intro a ha b' hb' hab
      subst hab
      have hb2' : a ∈ foot c s ∧ (a ∈ mapId s.mv ++ s.L.map CEnt.p) := by
        rw [List.mem_append] at hb'
        rcases hb' with hb' | hb'
        · exact ⟨by simp [foot, hb'], List.mem_append_left _ hb'⟩
        · have := (hps2 a).1 hb'
          exact ⟨by simp only [foot, List.mem_cons, List.mem_append]; exact .inr (.inr (.inr this)), List.mem_append_right _ this⟩
      rcases (id3 a ha).1 with h5 | h5
      · rw [hs2o] at h5; exact q4 a h5 a hb2'.2 rfl
      · rw [nb2] at h5; have := I.lt a hb2'.1; omega
  · intro i hi
    rw [hb4, Heap.set_next]; exact (hfoot i hi).2
  · rw [I.sum]
    exact (perm_sum (hperm.map CEnt.n)).symm
  · exact fun x hx => I.small x (hsub x hx)
  · have := I.len; rw [← hperm.length_eq] at this; exact Nat.le_trans this (Nat.le_succ K)
  · rw [hb4, Heap.set_next]; omega
  · intro j hj hjf
    have q1 : j ≠ c := fun e => hjf (by simp [foot, e])
    have q2 : j ∉ ordId s.ov := fun e => hjf (by simp [foot, e])
    rw [hb4, Heap.get_set_ne (by omega), g3' j (by omega) q1 q2, hb2, Heap.get_set_ne q1, hb, Heap.get_new_lt hj]
end Go.Am.Cache
