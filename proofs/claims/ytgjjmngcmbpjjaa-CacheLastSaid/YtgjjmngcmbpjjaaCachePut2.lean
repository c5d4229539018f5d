/-
  CACHE: Put as a whole.
-/
import Derived.Test.YtgjjmngcmbpjjaaCachePut
set_option linter.unusedSimpArgs false
set_option linter.unusedVariables false
set_option maxRecDepth 100000
namespace Go.Am.Cache
open Go Go.Am Go.Proofs

theorem shrink_sub {room more : Int} : ∀ {L : List CEnt} {e : CEnt}, e ∈ shrinkL room more L → e ∈ L := by
  intro L
  induction L with
  | nil => intro e h; exact h
  | cons x L ih =>
    intro e h
    simp only [shrinkL] at h
    split at h
    · exact List.mem_cons_of_mem _ (ih h)
    · exact h

/-- AN ANSWER IS LAID DOWN. -/
theorem put_run {K : Nat} (h : AHeap) (c : Nat) (s : Cst) (I : CInv K h c s) (key : List UInt8) (seq : Int) (cv rv : AVal) (err n : Int) (hcell : cv.isCell = true ∧ rv.isCell = true) (hn : 0 ≤ n ∧ n ≤ 1099511627776) (hroom : n ≤ s.room) (hK : K + 1 ≤ 1000000)
    (hsz : ∀ h, run Cf 23 [.str key, .agg [cv, rv]] h = some (.ret (.int .i64 n), h)) {cv' rv' : AVal} (hcell' : cv'.isCell = true ∧ rv'.isCell = true) (hcp : ∀ h, run Cf 26 [.agg [cv, rv]] h = some (.ret (.agg [cv', rv']), h)) :
    ∃ h' s' p, run Cf 11 [.ptr c 0, .str key, .int .i64 seq, .agg [cv, rv], .int .i64 err] h = some (.ret (.bool true), h') ∧ CInv (K + 1) h' c s' ∧ s'.L = shrinkL s.room n (without key s.L) ++ [⟨p, key, seq, cv', rv', err, n⟩] ∧ s'.room = s.room ∧ s'.hits = s.hits ∧ s'.misses = s.misses ∧ Stp (foot c s) (foot c s') h h' := by
  obtain ⟨a0, ha0⟩ : ∃ a0, a0 = slots Try.f11 [.ptr c 0, .str key, .int .i64 seq, .agg [cv, rv], .int .i64 err] := ⟨_, rfl⟩
  have hl : a0.length = 77 := by rw [ha0]; rfl
  have i0 : a0[0]? = some (.ptr c 0) := by rw [ha0]; rfl
  have i1 : a0[1]? = some (.str key) := by rw [ha0]; rfl
  have i2 : a0[2]? = some (.int .i64 seq) := by rw [ha0]; rfl
  have i3 : a0[3]? = some (.agg [cv, rv]) := by rw [ha0]; rfl
  have i4 : a0[4]? = some (.int .i64 err) := by rw [ha0]; rfl
  have hcn : c < h.next := I.lt c (by simp [foot])
  obtain ⟨h1, hh1⟩ : ∃ h1, h1 = h.new (.arr [cv, rv]) := ⟨_, rfl⟩
  have n1 : h1.next = h.next + 1 := by rw [hh1]; rfl
  have I1 : CInv K h1 c s := by rw [hh1]; exact I.congr (by rw [Heap.new_next]; omega) fun i hi => Heap.get_new_lt (I.lt i hi)
  have gr1 : h1.get h.next = some (.arr [cv, rv]) := by rw [hh1]; exact Heap.get_new_eq
  have rnot : h.next ∉ foot c s := fun hm => by have := I.lt _ hm; omega
  have S1 : Stp (foot c s) (foot c s) h h1 := ⟨by omega, fun j hj _ => by rw [hh1]; exact Heap.get_new_lt hj, fun j hj => .inl hj⟩
  have ldr : ∀ {hh : AHeap}, hh.get h.next = some (.arr [cv, rv]) → loadA hh true 2 (.ptr h.next 0) = some (.agg [cv, rv]) := fun hg => by simp only [loadA, hg]; rfl
  -- regions 0 to 2
  have hld0 : loadA h1 false 1 (.ptr c 0) = some (.int .i64 s.room) := Heap.load_at I1.cell rfl
  have hgt := gt_no hroom
  have pA : ∃ t, ex Cf (Cat [false] (bodyOf Try.f11)) ⟨a0, h⟩ = some (.normal, ⟨t, h1⟩) ∧ t.length = 77 ∧ t[0]? = some (.ptr c 0) ∧ t[1]? = some (.str key) ∧ t[2]? = some (.int .i64 seq) ∧ t[4]? = some (.int .i64 err) ∧ t[8]? = some (.ptr h.next 0) := by
    simp only [bodyOf, Try.f11, Cat, Bool.false_eq_true, e_seq, e_region, e_cond, e_block, ex_skip, ex_exit, ex_ret, o_cons, xops_nil, k_want_none, k_want_false, k_val, k_pan, k_call, k_ret, k_seq, k_seq_exit, k_seq_ret, k_true, k_false, k_block, k_block_exit, k_block_ret, k_loop, k_loop_exit, k_loop_ret, awanted, aoper, evalO, put, Option.getD_some, List.getElem?_set, acallOp, abuiltin, List.map_cons, List.map_nil, Nat.reduceEqDiff, Nat.reduceLT, List.length_set, Option.map_some, Option.bind_some, Option.bind_eq_bind, add_i, sub_i, mul_i, eql_i, neq_i, lss_i, leq_i, gtr_i, geq_i, ofV, ofCell, ↓reduceIte, List.cons_append, List.nil_append, List.append_nil, List.getElem?_toArray, List.getElem?_cons_succ, List.getElem?_cons_zero, e_draw, g_nil, g_cons, g_want, g_skip, g_val, g_call, g_ret, Option.map_none, hl, i0, i1, i2, i3, i4, abox, AVal.boxable, AVal.cells, hcell.1, hcell.2, List.all_cons, List.all_nil, Bool.and_true, Bool.and_self, ← hh1]
    exact ⟨_, rfl, by simp [hl], by simp [i0], by simp [i1], by simp [i2], by simp [i4], by simp [hl]⟩
  obtain ⟨tA, eA, lA, tA0, tA1, tA2, tA4, tA8⟩ := pA
  have pB : ∃ t, ex Cf (Cat [true, false] (bodyOf Try.f11)) ⟨tA, h1⟩ = some (.normal, ⟨t, h1⟩) ∧ t.length = 77 ∧ t[0]? = some (.ptr c 0) ∧ t[1]? = some (.str key) ∧ t[2]? = some (.int .i64 seq) ∧ t[4]? = some (.int .i64 err) ∧ t[8]? = some (.ptr h.next 0) ∧ t[11]? = some (.int .i64 n) := by
    simp only [bodyOf, Try.f11, Cat, Bool.false_eq_true, e_seq, e_region, e_cond, e_block, ex_skip, ex_exit, ex_ret, o_cons, xops_nil, k_want_none, k_want_false, k_val, k_pan, k_call, k_ret, k_seq, k_seq_exit, k_seq_ret, k_true, k_false, k_block, k_block_exit, k_block_ret, k_loop, k_loop_exit, k_loop_ret, awanted, aoper, evalO, put, Option.getD_some, List.getElem?_set, acallOp, abuiltin, List.map_cons, List.map_nil, Nat.reduceEqDiff, Nat.reduceLT, List.length_set, Option.map_some, Option.bind_some, Option.bind_eq_bind, add_i, sub_i, mul_i, eql_i, neq_i, lss_i, leq_i, gtr_i, geq_i, ofV, ofCell, ↓reduceIte, List.cons_append, List.nil_append, List.append_nil, List.getElem?_toArray, List.getElem?_cons_succ, List.getElem?_cons_zero, e_draw, g_nil, g_cons, g_want, g_skip, g_val, g_call, g_ret, Option.map_none, lA, tA1, tA8, CP, Ty.ld31, ldr gr1, hsz]
    exact ⟨_, rfl, by simp [lA], by simp [tA0], by simp [tA1], by simp [tA2], by simp [tA4], by simp [tA8], by simp [lA]⟩
  obtain ⟨tB, eB, lB, tB0, tB1, tB2, tB4, tB8, tB11⟩ := pB
  have pC : ∃ t, ex Cf (Cat [true, true, false] (bodyOf Try.f11)) ⟨tB, h1⟩ = some (.normal, ⟨t, h1⟩) ∧ t.length = 77 ∧ t[0]? = some (.ptr c 0) ∧ t[1]? = some (.str key) ∧ t[2]? = some (.int .i64 seq) ∧ t[4]? = some (.int .i64 err) ∧ t[8]? = some (.ptr h.next 0) ∧ t[11]? = some (.int .i64 n) := by
    simp only [bodyOf, Try.f11, Cat, Bool.false_eq_true, e_seq, e_region, e_cond, e_block, ex_skip, ex_exit, ex_ret, o_cons, xops_nil, k_want_none, k_want_false, k_val, k_pan, k_call, k_ret, k_seq, k_seq_exit, k_seq_ret, k_true, k_false, k_block, k_block_exit, k_block_ret, k_loop, k_loop_exit, k_loop_ret, awanted, aoper, evalO, put, Option.getD_some, List.getElem?_set, acallOp, abuiltin, List.map_cons, List.map_nil, Nat.reduceEqDiff, Nat.reduceLT, List.length_set, Option.map_some, Option.bind_some, Option.bind_eq_bind, add_i, sub_i, mul_i, eql_i, neq_i, lss_i, leq_i, gtr_i, geq_i, ofV, ofCell, ↓reduceIte, List.cons_append, List.nil_append, List.append_nil, List.getElem?_toArray, List.getElem?_cons_succ, List.getElem?_cons_zero, e_draw, g_nil, g_cons, g_want, g_skip, g_val, g_call, g_ret, Option.map_none, lB, tB0, tB11, CP, Ty.eq26_0, show ((false : Bool) == false) = true from rfl, Ty.fa61_0, dropCells, Nat.zero_add, Ty.ld3, hld0, hgt]
    exact ⟨_, rfl, by simp [lB], by simp [tB0], by simp [tB1], by simp [tB2], by simp [tB4], by simp [tB8], by simp [tB11]⟩
  obtain ⟨tC, eC, lC, tC0, tC1, tC2, tC4, tC8, tC11⟩ := pC
  -- the map is there
  have pD : ∃ t h2 s2 mid, ex Cf (Cat [true, true, true, false] (bodyOf Try.f11)) ⟨tC, h1⟩ = some (.normal, ⟨t, h2⟩) ∧ t.length = 77 ∧ t[0]? = some (.ptr c 0) ∧ t[1]? = some (.str key) ∧ t[2]? = some (.int .i64 seq) ∧ t[4]? = some (.int .i64 err) ∧ t[8]? = some (.ptr h.next 0) ∧ t[11]? = some (.int .i64 n) ∧
      CInv K h2 c s2 ∧ s2.mv = .map mid ∧ s2.L = s.L ∧ s2.room = s.room ∧ s2.hits = s.hits ∧ s2.misses = s.misses ∧ Stp (foot c s) (foot c s2) h1 h2 ∧ h.next ∉ foot c s2 := by
    have hld2 : loadA h1 false 1 (.ptr c 2) = some s.mv := Heap.load_at I1.cell rfl
    rcases I.map with ⟨hm0, hL0⟩ | ⟨mid, es, clk, hm0, _⟩
    · obtain ⟨s2, hs2⟩ : ∃ s2 : Cst, s2 = { s with mv := .map h1.next } := ⟨_, rfl⟩
      obtain ⟨h2, hh2⟩ : ∃ h2, h2 = (h1.new (.map [] 0)).set c (some (.arr (s.cells.set 2 (.map h1.next)))) := ⟨_, rfl⟩
      have gc : (h1.new (.map [] 0)).get c = some (.arr s.cells) := by rw [Heap.get_new_lt (by omega)]; exact I1.cell
      have hst : storeA (h1.new (.map [] 0)) 1 (.ptr c 2) (.map h1.next) = some h2 := by rw [hh2]; exact Heap.store_at gc rfl (by simp [Cst.cells])
      have hLn : s.L = [] := by simpa using hL0
      have hov : s.ov = .nilSl ∨ True := .inr trivial
      obtain ⟨f1, f2, f3, f4, f5, f6⟩ := foot_split I.ids
      refine ⟨_, h2, s2, h1.next, by
        simp only [bodyOf, Try.f11, Cat, Bool.false_eq_true, e_seq, e_region, e_cond, e_block, ex_skip, ex_exit, ex_ret, o_cons, xops_nil, k_want_none, k_want_false, k_val, k_pan, k_call, k_ret, k_seq, k_seq_exit, k_seq_ret, k_true, k_false, k_block, k_block_exit, k_block_ret, k_loop, k_loop_exit, k_loop_ret, awanted, aoper, evalO, put, Option.getD_some, List.getElem?_set, acallOp, abuiltin, List.map_cons, List.map_nil, Nat.reduceEqDiff, Nat.reduceLT, List.length_set, Option.map_some, Option.bind_some, Option.bind_eq_bind, add_i, sub_i, mul_i, eql_i, neq_i, lss_i, leq_i, gtr_i, geq_i, ofV, ofCell, ↓reduceIte, List.cons_append, List.nil_append, List.append_nil, List.getElem?_toArray, List.getElem?_cons_succ, List.getElem?_cons_zero, e_draw, g_nil, g_cons, g_want, g_skip, g_val, g_call, g_ret, Option.map_none, lC, tC0, CP, Ty.fa61_2, dropCells, Nat.zero_add, Ty.ld51, hld2, hm0, Ty.eq51_n, Ty.st51, hst]
        exact rfl, by simp [lC], by simp [tC0], by simp [tC1], by simp [tC2], by simp [tC4], by simp [tC8], by simp [tC11], ⟨?_, ?_, ?_, ?_, ?_, ?_, ?_, ?_, ?_, ?_, I.le⟩, by rw [hs2], by rw [hs2], by rw [hs2], by rw [hs2], by rw [hs2], ⟨?_, ?_, ?_⟩, ?_⟩
      · rw [hh2, Heap.get_set_eq, hs2]; rfl
      · rw [hs2]; exact I1.ord.congr fun i hi => by
          rw [hh2, Heap.get_set_ne (fun q => f1 (by rw [← q]; exact hi)), Heap.get_new_lt (by have := I.lt i (by simp [foot, hi]); omega)]
      · rw [hs2]; refine .inr ⟨h1.next, [], 0, rfl, ?_, by simp [hLn]⟩
        rw [hh2, Heap.get_set_ne (by omega), Heap.get_new_eq]; rfl
      · rw [hs2]; intro e he; rw [show ({ s with mv := AVal.map h1.next } : Cst).L = s.L from rfl, hLn] at he; cases he
      · rw [hs2]; exact I.keys
      · rw [hs2]
        have hids := I.ids
        simp only [foot, hm0, mapId, hLn, List.map_nil, List.append_nil] at hids ⊢
        rw [List.nodup_cons] at hids ⊢
        refine ⟨by simp only [List.mem_append, not_or, List.mem_singleton]; exact ⟨hids.1, by omega⟩, ?_⟩
        rw [List.nodup_append]
        refine ⟨hids.2, by simp, fun a ha b hb hab => ?_⟩
        simp only [List.mem_singleton] at hb
        have := I.lt a (by simp [foot, ha]); omega
      · rw [hs2]; intro i hi
        simp only [foot, mapId, hLn, List.map_nil, List.append_nil, List.mem_cons, List.mem_append, List.not_mem_nil, or_false] at hi
        rw [hh2, Heap.set_next, Heap.new_next]
        rcases hi with hi | hi | hi
        · omega
        · have := I.lt i (by simp [foot, hi]); omega
        · omega
      · rw [hs2]; exact I.sum
      · rw [hs2]; exact I.small
      · rw [hs2]; exact I.len
      · rw [hh2, Heap.set_next, Heap.new_next]; omega
      · intro j hj hjf
        rw [hh2, Heap.get_set_ne (fun e => hjf (by simp [foot, e])), Heap.get_new_lt hj]
      · rw [hs2]; intro i hi
        simp only [foot, mapId, List.mem_cons, List.mem_append, List.not_mem_nil, or_false] at hi ⊢
        rcases hi with hi | hi | hi | hi
        · exact .inl (.inl hi)
        · exact .inl (.inr (.inl hi))
        · exact .inr (by omega)
        · exact .inl (.inr (.inr (.inr hi)))
      · rw [hs2]
        simp only [foot, mapId, hLn, List.map_nil, List.append_nil, List.mem_cons, List.mem_append, List.not_mem_nil, or_false, not_or]
        exact ⟨by omega, fun hi => by have := I.lt _ (show h.next ∈ foot c s by simp [foot, hi]); omega, by omega⟩
    · refine ⟨_, h1, s, mid, by
        simp only [bodyOf, Try.f11, Cat, Bool.false_eq_true, e_seq, e_region, e_cond, e_block, ex_skip, ex_exit, ex_ret, o_cons, xops_nil, k_want_none, k_want_false, k_val, k_pan, k_call, k_ret, k_seq, k_seq_exit, k_seq_ret, k_true, k_false, k_block, k_block_exit, k_block_ret, k_loop, k_loop_exit, k_loop_ret, awanted, aoper, evalO, put, Option.getD_some, List.getElem?_set, acallOp, abuiltin, List.map_cons, List.map_nil, Nat.reduceEqDiff, Nat.reduceLT, List.length_set, Option.map_some, Option.bind_some, Option.bind_eq_bind, add_i, sub_i, mul_i, eql_i, neq_i, lss_i, leq_i, gtr_i, geq_i, ofV, ofCell, ↓reduceIte, List.cons_append, List.nil_append, List.append_nil, List.getElem?_toArray, List.getElem?_cons_succ, List.getElem?_cons_zero, e_draw, g_nil, g_cons, g_want, g_skip, g_val, g_call, g_ret, Option.map_none, lC, tC0, CP, Ty.fa61_2, dropCells, Nat.zero_add, Ty.ld51, hld2, hm0, Ty.eq51_0]
        exact rfl, by simp [lC], by simp [tC0], by simp [tC1], by simp [tC2], by simp [tC4], by simp [tC8], by simp [tC11], I1, hm0, rfl, rfl, rfl, rfl, Stp.refl _ _, rnot⟩
  obtain ⟨tD, h2, s2, mid, eD, lD, tD0, tD1, tD2, tD4, tD8, tD11, I2, mv2, L2, r2, hi2, mi2, S2, rn2⟩ := pD
  have n2 := S2.next
  have gr2 : h2.get h.next = some (.arr [cv, rv]) := by rw [S2.same _ (by omega) rnot]; exact gr1
  -- the one that was there
  have pE : ∃ t h3 s3, ex Cf (.seq (Cat [true, true, true, true, false] (bodyOf Try.f11)) (Cat [true, true, true, true, true, false] (bodyOf Try.f11))) ⟨tD, h2⟩ = some (.normal, ⟨t, h3⟩) ∧ t.length = 77 ∧ t[0]? = some (.ptr c 0) ∧ t[1]? = some (.str key) ∧ t[2]? = some (.int .i64 seq) ∧ t[4]? = some (.int .i64 err) ∧ t[8]? = some (.ptr h.next 0) ∧ t[11]? = some (.int .i64 n) ∧
      CInv K h3 c s3 ∧ s3.mv = .map mid ∧ s3.L = without key s2.L ∧ s3.room = s2.room ∧ s3.hits = s2.hits ∧ s3.misses = s2.misses ∧ Stp (foot c s2) (foot c s3) h2 h3 ∧ key ∉ s3.L.map CEnt.key := by
    have hld2 : loadA h2 false 1 (.ptr c 2) = some s2.mv := Heap.load_at I2.cell rfl
    by_cases hm : key ∈ s2.L.map CEnt.key
    · obtain ⟨e, he, hk⟩ := List.mem_map.1 hm
      obtain ⟨pre, post, hL⟩ := List.append_of_mem he
      have hlk : alookup Try.prog h2 51 s2.mv (.str key) false = some (.ptr e.p 0) := lookup_some I2.map (by rw [List.map_map]; exact I2.keys) (by rw [← hk]; exact List.mem_map_of_mem (f := fun e : CEnt => (e.key, e.p)) he)
      obtain ⟨h3, ov3, hlv, I3, _, S3, _⟩ := leave_run h2 c s2 I2 pre post e hL
      have hnd := I2.keys
      rw [hL] at hnd
      have hwo : without key s2.L = pre ++ post := by rw [hL, ← hk]; exact without_at hnd
      refine ⟨_, h3, { s2 with bytes := s2.bytes - e.n, ov := ov3, L := pre ++ post }, by
        simp only [bodyOf, Try.f11, Cat, Bool.false_eq_true, e_seq, e_region, e_cond, e_block, ex_skip, ex_exit, ex_ret, o_cons, xops_nil, k_want_none, k_want_false, k_val, k_pan, k_call, k_ret, k_seq, k_seq_exit, k_seq_ret, k_true, k_false, k_block, k_block_exit, k_block_ret, k_loop, k_loop_exit, k_loop_ret, awanted, aoper, evalO, put, Option.getD_some, List.getElem?_set, acallOp, abuiltin, List.map_cons, List.map_nil, Nat.reduceEqDiff, Nat.reduceLT, List.length_set, Option.map_some, Option.bind_some, Option.bind_eq_bind, add_i, sub_i, mul_i, eql_i, neq_i, lss_i, leq_i, gtr_i, geq_i, ofV, ofCell, ↓reduceIte, List.cons_append, List.nil_append, List.append_nil, List.getElem?_toArray, List.getElem?_cons_succ, List.getElem?_cons_zero, e_draw, g_nil, g_cons, g_want, g_skip, g_val, g_call, g_ret, Option.map_none, lD, tD0, tD1, CP, Ty.fa61_2, dropCells, Nat.zero_add, Ty.ld51, hld2, hlk, Ty.ne66_0, hlv]
        exact rfl, by simp [lD], by simp [tD0], by simp [tD1], by simp [tD2], by simp [tD4], by simp [tD8], by simp [tD11], I3, mv2, hwo.symm, rfl, rfl, rfl, S3, ?_⟩
      intro hm2
      obtain ⟨x, hx, hxk⟩ := List.mem_map.1 hm2
      have hx2 : x ∈ without key s2.L := by rw [hwo]; exact hx
      unfold without at hx2
      rw [List.mem_filter] at hx2
      simp [hxk] at hx2
    · have hlk : alookup Try.prog h2 51 s2.mv (.str key) false = some .nilPtr := lookup_none I2.map (by rw [List.map_map]; exact hm)
      exact ⟨_, h2, s2, by
        simp only [bodyOf, Try.f11, Cat, Bool.false_eq_true, e_seq, e_region, e_cond, e_block, ex_skip, ex_exit, ex_ret, o_cons, xops_nil, k_want_none, k_want_false, k_val, k_pan, k_call, k_ret, k_seq, k_seq_exit, k_seq_ret, k_true, k_false, k_block, k_block_exit, k_block_ret, k_loop, k_loop_exit, k_loop_ret, awanted, aoper, evalO, put, Option.getD_some, List.getElem?_set, acallOp, abuiltin, List.map_cons, List.map_nil, Nat.reduceEqDiff, Nat.reduceLT, List.length_set, Option.map_some, Option.bind_some, Option.bind_eq_bind, add_i, sub_i, mul_i, eql_i, neq_i, lss_i, leq_i, gtr_i, geq_i, ofV, ofCell, ↓reduceIte, List.cons_append, List.nil_append, List.append_nil, List.getElem?_toArray, List.getElem?_cons_succ, List.getElem?_cons_zero, e_draw, g_nil, g_cons, g_want, g_skip, g_val, g_call, g_ret, Option.map_none, lD, tD0, tD1, CP, Ty.fa61_2, dropCells, Nat.zero_add, Ty.ld51, hld2, hlk, Ty.ne66_n]
        exact rfl, by simp [lD], by simp [tD0], by simp [tD1], by simp [tD2], by simp [tD4], by simp [tD8], by simp [tD11], I2, mv2, (without_no hm).symm, rfl, rfl, rfl, Stp.refl _ _, hm⟩
  obtain ⟨tE, h3, s3, eE, lE, tE0, tE1, tE2, tE4, tE8, tE11, I3, mv3, L3, r3, hi3, mi3, S3, kn3⟩ := pE
  have n3 := S3.next
  have gr3 : h3.get h.next = some (.arr [cv, rv]) := by rw [S3.same _ (by omega) rn2]; exact gr2
  have rn3 : h.next ∉ foot c s3 := fun hm => by
    rcases S3.own _ hm with h5 | h5
    · exact rn2 h5
    · omega
  -- room
  obtain ⟨h4, s4, hsh, I4, L4, r4, hi4, mi4, mv4, S4⟩ := shrink_run h3 c s3 I3 n hn
  have n4 := S4.next
  have gr4 : h4.get h.next = some (.arr [cv, rv]) := by rw [S4.same _ (by omega) rn3]; exact gr3
  rw [mv3] at mv4
  have pF : ∃ t, ex Cf (Cat [true, true, true, true, true, true, false] (bodyOf Try.f11)) ⟨tE, h3⟩ = some (.normal, ⟨t, h4⟩) ∧ t.length = 77 ∧ t[0]? = some (.ptr c 0) ∧ t[1]? = some (.str key) ∧ t[2]? = some (.int .i64 seq) ∧ t[4]? = some (.int .i64 err) ∧ t[8]? = some (.ptr h.next 0) ∧ t[11]? = some (.int .i64 n) := by
    simp only [bodyOf, Try.f11, Cat, Bool.false_eq_true, e_seq, e_region, e_cond, e_block, ex_skip, ex_exit, ex_ret, o_cons, xops_nil, k_want_none, k_want_false, k_val, k_pan, k_call, k_ret, k_seq, k_seq_exit, k_seq_ret, k_true, k_false, k_block, k_block_exit, k_block_ret, k_loop, k_loop_exit, k_loop_ret, awanted, aoper, evalO, put, Option.getD_some, List.getElem?_set, acallOp, abuiltin, List.map_cons, List.map_nil, Nat.reduceEqDiff, Nat.reduceLT, List.length_set, Option.map_some, Option.bind_some, Option.bind_eq_bind, add_i, sub_i, mul_i, eql_i, neq_i, lss_i, leq_i, gtr_i, geq_i, ofV, ofCell, ↓reduceIte, List.cons_append, List.nil_append, List.append_nil, List.getElem?_toArray, List.getElem?_cons_succ, List.getElem?_cons_zero, e_draw, g_nil, g_cons, g_want, g_skip, g_val, g_call, g_ret, Option.map_none, lE, tE0, tE11, hsh]
    exact ⟨_, rfl, by simp [lE], by simp [tE0], by simp [tE1], by simp [tE2], by simp [tE4], by simp [tE8], by simp [tE11]⟩
  obtain ⟨tF, eF, lF, tF0, tF1, tF2, tF4, tF8, tF11⟩ := pF
  -- the new one
  obtain ⟨e, hee⟩ : ∃ e : CEnt, e = ⟨h4.next, key, seq, cv', rv', err, n⟩ := ⟨_, rfl⟩
  have kn4 : e.key ∉ s4.L.map CEnt.key := by
    rw [hee]; intro hm
    obtain ⟨x, hx, hxk⟩ := List.mem_map.1 hm
    rw [L4] at hx
    exact kn3 (List.mem_map.2 ⟨x, shrink_sub hx, hxk⟩)
  obtain ⟨h6, h7, h8, ov8, hmu, hc6, hh7, hus, I8, S8⟩ := lay_run h4 c mid s4 I4 mv4 e (by rw [hee]) kn4 (by rw [hee]; exact hn) hK
  have hcells : e.cells = [.str key, .int .i64 seq, cv', rv', .int .i64 err, .int .i64 n] := by rw [hee]; rfl
  have hep : e.p = h4.next := by rw [hee]
  have hen : e.n = n := by rw [hee]
  have hek : e.key = key := by rw [hee]
  rw [hep] at hmu hus
  rw [hek] at hmu
  rw [hcells] at hmu
  rw [hen] at hh7
  have hcn4 : c < h4.next := I4.lt c (by simp [foot])
  have hbox : (cv'.isCell && (rv'.isCell && true)) = true := by rw [hcell'.1, hcell'.2]; rfl
  have hld2 : loadA (h4.new (.arr [.str key, .int .i64 seq, cv', rv', .int .i64 err, .int .i64 n])) false 1 (.ptr c 2) = some (.map mid) := by
    rw [← mv4]; exact Heap.load_at (by rw [Heap.get_new_lt hcn4]; exact I4.cell) rfl
  have hld1 : loadA h6 false 1 (.ptr c 1) = some (.int .i64 s4.bytes) := Heap.load_at hc6 rfl
  have hst7 : storeA h6 1 (.ptr c 1) (.int .i64 (s4.bytes + n)) = some h7 := by rw [hh7]; exact Heap.store_at hc6 rfl (by simp [Cst.cells])
  obtain ⟨b1, b2⟩ := I4.bytes
  have hw : IntKind.i64.wrap (s4.bytes + n) = s4.bytes + n := wrap64 (by omega) (by omega)
  have pG : ∃ t, ex Cf (Cat [true, true, true, true, true, true, true] (bodyOf Try.f11)) ⟨tF, h4⟩ = some (.ret, ⟨t, h8⟩) ∧ t[10]? = some (.bool true) := by
    simp only [bodyOf, Try.f11, Cat, Bool.false_eq_true, e_seq, e_region, e_cond, e_block, ex_skip, ex_exit, ex_ret, o_cons, xops_nil, k_want_none, k_want_false, k_val, k_pan, k_call, k_ret, k_seq, k_seq_exit, k_seq_ret, k_true, k_false, k_block, k_block_exit, k_block_ret, k_loop, k_loop_exit, k_loop_ret, awanted, aoper, evalO, put, Option.getD_some, List.getElem?_set, acallOp, abuiltin, List.map_cons, List.map_nil, Nat.reduceEqDiff, Nat.reduceLT, List.length_set, Option.map_some, Option.bind_some, Option.bind_eq_bind, add_i, sub_i, mul_i, eql_i, neq_i, lss_i, leq_i, gtr_i, geq_i, ofV, ofCell, ↓reduceIte, List.cons_append, List.nil_append, List.append_nil, List.getElem?_toArray, List.getElem?_cons_succ, List.getElem?_cons_zero, e_draw, g_nil, g_cons, g_want, g_skip, g_val, g_call, g_ret, Option.map_none, lF, tF0, tF1, tF2, tF4, tF8, tF11, CP, Ty.ld31, ldr gr4, hcp, bu68 key seq cv' rv' err n hcell'.1 hcell'.2, abox, AVal.boxable, AVal.cells, show ∀ s, (AVal.str s).isCell = true from fun _ => rfl, show ∀ k n, (AVal.int k n).isCell = true from fun _ _ => rfl, List.all_cons, List.all_nil, hcell'.1, hcell'.2, Bool.and_self, Ty.fa61_2, Ty.fa61_1, Ty.fa61_3, dropCells, Nat.zero_add, Ty.ld51, Ty.ld3, Ty.st3, hld2, hmu, hld1, hw, hst7, hus]
    exact ⟨_, rfl, by simp [lF]⟩
  obtain ⟨tG, eG, tG10⟩ := pG
  have hbody : bodyOf Try.f11 = .seq (Cat [false] (bodyOf Try.f11)) (.seq (Cat [true, false] (bodyOf Try.f11)) (.seq (Cat [true, true, false] (bodyOf Try.f11)) (.seq (Cat [true, true, true, false] (bodyOf Try.f11)) (.seq (Cat [true, true, true, true, false] (bodyOf Try.f11)) (.seq (Cat [true, true, true, true, true, false] (bodyOf Try.f11)) (.seq (Cat [true, true, true, true, true, true, false] (bodyOf Try.f11)) (Cat [true, true, true, true, true, true, true] (bodyOf Try.f11)))))))) := rfl
  have eE' : ∃ st, ex Cf (Cat [true, true, true, true, false] (bodyOf Try.f11)) ⟨tD, h2⟩ = some (.normal, st) ∧ ex Cf (Cat [true, true, true, true, true, false] (bodyOf Try.f11)) st = some (.normal, ⟨tE, h3⟩) := by
    rw [e_seq] at eE
    cases hx : ex Cf (Cat [true, true, true, true, false] (bodyOf Try.f11)) ⟨tD, h2⟩ with
    | none => rw [hx] at eE; simp [seqK] at eE
    | some q =>
      obtain ⟨x, st⟩ := q
      rw [hx] at eE
      cases x with
      | normal => exact ⟨st, rfl, eE⟩
      | _ => simp [seqK] at eE
  obtain ⟨stE, eE1, eE2⟩ := eE'
  refine ⟨h8, { s4 with bytes := s4.bytes + e.n, ov := ov8, L := s4.L ++ [e] }, h4.next, fn_run (fn := Try.f11) (x := .ret) Try.func11 rfl rfl rfl (.inl rfl) (by rw [← ha0, hbody, e_seq, eA, k_seq, e_seq, eB, k_seq, e_seq, eC, k_seq, e_seq, eD, k_seq, e_seq, eE1, k_seq, e_seq, eE2, k_seq, e_seq, eF, k_seq, eG]) (vs := [.bool true]) (by simp [show Try.f11.results.toList = [ResultVar.tmp 10] from rfl, aresults, ares1, tG10]), I8, ?_, ?_, ?_, ?_, ?_⟩
  · show s4.L ++ [e] = _
    rw [L4, r3, r2, L3, L2, hee]
  · show s4.room = _
    rw [r4, r3, r2]
  · show s4.hits = _
    rw [hi4, hi3, hi2]
  · show s4.misses = _
    rw [mi4, mi3, mi2]
  · exact S1.trans (S2.trans (S3.trans (S4.trans S8)))
end Go.Am.Cache
