/-
  CACHE: Keys tells the keys, from the one that was used longest ago on.
-/
import Derived.Test.YtgjjmngcmbpjjaaCacheShrink
import Derived.Test.YtgjjmngcmbpjjaaAmAcc
set_option linter.unusedSimpArgs false
set_option linter.unusedVariables false
set_option maxRecDepth 100000
namespace Go.Am.Cache
open Go Go.Am Go.Proofs

theorem bs28_1 (s : List UInt8) : abuildSlice Try.prog 28 1 [(0, .str s)] = some ([.str s], 1) := by kernel_rfl
theorem own167 : Cf.own "cache.go:167" = false := by kernel_rfl
noncomputable def L12 : Code := Cat [true, true, true, false, true, true, true] (bodyOf Try.f12)

theorem L12_out (h : AHeap) (i n : Nat) (hlt : ¬ i < n) (tmps : List AVal) (hl : tmps.length = 28) (h14 : tmps[14]? = some (.int .i64 n)) (h15 : tmps[15]? = some (.int .i64 i)) :
    ex Cf L12 ⟨tmps, h⟩ = some (.exit 0, ⟨tmps.set 16 (.bool false), h⟩) := by
  have hlt' : decide ((i : Int) < (n : Int)) = false := by simp; omega
  simp only [L12, bodyOf, Try.f12, Cat, Bool.false_eq_true, e_seq, e_region, e_cond, e_block, ex_skip, ex_exit, ex_ret, o_cons, xops_nil, k_want_none, k_want_false, k_val, k_pan, k_call, k_ret, k_seq, k_seq_exit, k_seq_ret, k_true, k_false, k_block, k_block_exit, k_block_ret, k_loop, k_loop_exit, k_loop_ret, awanted, aoper, evalO, put, Option.getD_some, List.getElem?_set, acallOp, abuiltin, List.map_cons, List.map_nil, Nat.reduceEqDiff, Nat.reduceLT, List.length_set, Option.map_some, Option.bind_some, Option.bind_eq_bind, add_i, sub_i, mul_i, eql_i, neq_i, lss_i, leq_i, gtr_i, geq_i, ofV, ofCell, ↓reduceIte, List.cons_append, List.nil_append, List.append_nil, List.getElem?_toArray, List.getElem?_cons_succ, List.getElem?_cons_zero, e_draw, g_nil, g_cons, g_want, g_skip, g_val, g_call, g_ret, Option.map_none, hl, h14, h15, hlt']
theorem L12_in (h : AHeap) (i n : Nat) (hlt : i < n) (hi : i < 1000000) (ov a : AVal) (p : Nat) (key : List UInt8) (vs : List AVal) (hix : indexAddrA 1 ov i = some a) (hld : loadA h false 1 a = some (.ptr p 0)) (hp : h.get p = some (.arr (.str key :: vs)))
    (v : AVal) (cells : List AVal) (A : Acc 1 h v cells i) (tmps : List AVal) (hl : tmps.length = 28) (h3 : tmps[3]? = some v) (h13 : tmps[13]? = some ov) (h14 : tmps[14]? = some (.int .i64 n)) (h15 : tmps[15]? = some (.int .i64 i)) :
    ∃ t h' v', ex Cf L12 ⟨tmps, h⟩ = some (.normal, ⟨t, h'⟩) ∧ t.length = 28 ∧ t[3]? = some v' ∧ t[13]? = some ov ∧ t[14]? = some (.int .i64 n) ∧ t[15]? = some (.int .i64 (i + 1 : Nat)) ∧ Acc 1 h' v' (cells ++ [.str key]) (i + 1) ∧ h'.next = h.next + 1 ∧ accId v' = [h.next] ∧ ∀ j, j < h.next → j ∉ accId v → h'.get j = h.get j := by
  have hlt' : decide ((i : Int) < (n : Int)) = true := by simp; omega
  have hld0 : loadA h false 1 (.ptr p 0) = some (.str key) := Heap.load_at hp rfl
  have hw : IntKind.i64.wrap ((i : Int) + 1) = ((i + 1 : Nat) : Int) := by rw [wrap64 (by omega) (by omega)]; rfl
  obtain ⟨v', h', hap, A', hn, hid, hs, _⟩ := append_acc (bytes := 16) (m := 1) (new := [.str key]) (cap := .full) A rfl (by omega) rfl (by omega) (by omega)
  refine ⟨_, h', v', by
    simp only [L12, bodyOf, Try.f12, Cat, Bool.false_eq_true, e_seq, e_region, e_cond, e_block, ex_skip, ex_exit, ex_ret, o_cons, xops_nil, k_want_none, k_want_false, k_val, k_pan, k_call, k_ret, k_seq, k_seq_exit, k_seq_ret, k_true, k_false, k_block, k_block_exit, k_block_ret, k_loop, k_loop_exit, k_loop_ret, awanted, aoper, evalO, put, Option.getD_some, List.getElem?_set, acallOp, abuiltin, List.map_cons, List.map_nil, Nat.reduceEqDiff, Nat.reduceLT, List.length_set, Option.map_some, Option.bind_some, Option.bind_eq_bind, add_i, sub_i, mul_i, eql_i, neq_i, lss_i, leq_i, gtr_i, geq_i, ofV, ofCell, ↓reduceIte, List.cons_append, List.nil_append, List.append_nil, List.getElem?_toArray, List.getElem?_cons_succ, List.getElem?_cons_zero, e_draw, g_nil, g_cons, g_want, g_skip, g_val, g_call, g_ret, Option.map_none, hl, h3, h13, h14, h15, hlt', hw, CP, Ty.ix52, hix, Ty.ld66, hld, Ty.fa68_0, dropCells, Nat.zero_add, Nat.add_zero, Ty.ld9, hld0, bs28_1, own167, Ty.ap28, hap]
    exact rfl, by simp [hl], by simp [hl], by simp [h13], by simp [h14], by simp [hl], A', hn, hid, hs⟩

theorem L12_loop (ov : AVal) (F : List Nat) : ∀ (rest : List CEnt) (pre : List CEnt) (h : AHeap) (v : AVal) (hord : ∀ (i p : Nat), ((pre ++ rest).map CEnt.p)[i]? = some p → ∃ a, indexAddrA 1 ov i = some a ∧ ∀ h2 : AHeap, (∀ j ∈ F, h2.get j = h.get j) → loadA h2 false 1 a = some (.ptr p 0))
    (hent : ∀ e ∈ rest, ∀ h2 : AHeap, (∀ j ∈ F, h2.get j = h.get j) → h2.get e.p = some (.arr e.cells)) (hF : ∀ j ∈ F, j < h.next ∧ j ∉ accId v) (hb : (pre ++ rest).length ≤ 1000000) (A : Acc 1 h v (pre.map fun e => .str e.key) pre.length) (tmps : List AVal), tmps.length = 28 → tmps[3]? = some v → tmps[13]? = some ov → tmps[14]? = some (.int .i64 (pre ++ rest).length) → tmps[15]? = some (.int .i64 pre.length) →
    ∃ t h' v', ex Cf (.loop L12) ⟨tmps, h⟩ = some (.exit 0, ⟨t, h'⟩) ∧ t.length = 28 ∧ t[3]? = some v' ∧ Acc 1 h' v' ((pre ++ rest).map fun e => .str e.key) (pre ++ rest).length ∧ h.next ≤ h'.next ∧ (∀ j, j < h.next → j ∉ accId v → h'.get j = h.get j) ∧ ∀ j ∈ accId v', j ∈ accId v ∨ h.next ≤ j := by
  intro rest
  induction rest with
  | nil =>
    intro pre h v hord hent hF hb A tmps hl h3 h13 h14 h15
    rw [e_loop, L12_out h pre.length (pre ++ []).length (by simp) tmps hl h14 h15, k_loop_exit]
    exact ⟨_, h, v, rfl, by simp [hl], by simp [h3], by simpa using A, Nat.le_refl _, fun _ _ _ => rfl, fun j hj => .inl hj⟩
  | cons e rest ih =>
    intro pre h v hord hent hF hb A tmps hl h3 h13 h14 h15
    obtain ⟨a, hix, hld⟩ := hord pre.length e.p (by simp)
    have hg := hent e List.mem_cons_self h (fun _ _ => rfl)
    obtain ⟨t1, h1, v1, he, l1, t13, t113, t114, t115, A1, n1, id1, s1⟩ := L12_in h pre.length (pre ++ e :: rest).length (by simp) (by simp at hb; omega) ov a e.p e.key _ hix (hld h (fun _ _ => rfl)) hg v _ A tmps hl h3 h13 h14 h15
    have hsame : ∀ j ∈ F, h1.get j = h.get j := fun j hj => s1 j (hF j hj).1 (hF j hj).2
    have happ : pre ++ e :: rest = (pre ++ [e]) ++ rest := by simp
    obtain ⟨t2, h2, v2, he2, l2, t23, A2, n2, s2, id2⟩ := ih (pre ++ [e]) h1 v1
      (fun i p hp => by
        rw [← happ] at hp
        obtain ⟨a, q1, q2⟩ := hord i p hp
        exact ⟨a, q1, fun h2 hh => q2 h2 fun j hj => (hh j hj).trans (hsame j hj)⟩)
      (fun x hx h2 hh => hent x (List.mem_cons_of_mem _ hx) h2 fun j hj => (hh j hj).trans (hsame j hj))
      (fun j hj => ⟨by have := (hF j hj).1; omega, by rw [id1]; simp; have := (hF j hj).1; omega⟩) (by rw [← happ]; exact hb) (by simpa using A1) t1 l1 t13 t113 (by rw [← happ]; exact t114) (by simpa using t115)
    refine ⟨t2, h2, v2, by rw [e_loop, he, k_loop]; exact he2, l2, t23, by rw [happ]; exact A2, by omega, fun j hj hjv => (s2 j (by omega) (by rw [id1]; simp; omega)).trans (s1 j hj hjv), fun j hj => ?_⟩
    rcases id2 j hj with h5 | h5
    · rw [id1] at h5; simp at h5; right; omega
    · right; omega

/-- THE KEYS. -/
theorem keys_run {K : Nat} (h : AHeap) (c : Nat) (s : Cst) (I : CInv K h c s) :
    ∃ h' v, run Cf 12 [.ptr c 0] h = some (.ret v, h') ∧ Acc 1 h' v (s.L.map fun e => .str e.key) s.L.length ∧ h.next ≤ h'.next ∧ (∀ j, j < h.next → h'.get j = h.get j) ∧ ∀ j ∈ accId v, h.next ≤ j := by
  obtain ⟨a0, ha0⟩ : ∃ a0, a0 = slots Try.f12 [.ptr c 0] := ⟨_, rfl⟩
  have hl : a0.length = 28 := by rw [ha0]; rfl
  have i0 : a0[0]? = some (.ptr c 0) := by rw [ha0]; rfl
  have hld3 : loadA h false 1 (.ptr c 3) = some s.ov := Heap.load_at I.cell rfl
  have hlen : ∀ h2, alen Try.prog h2 52 s.ov = some (.int .i64 (s.L.map CEnt.p).length) := fun h2 => alen_p I.ord.sl h2
  have hbody : bodyOf Try.f12 = .seq (Cat [false] (bodyOf Try.f12)) (.seq (Cat [true, false] (bodyOf Try.f12)) (.seq (Cat [true, true, false] (bodyOf Try.f12)) (.seq (.seq (Cat [true, true, true, false, false] (bodyOf Try.f12)) (.block 0 (.loop L12))) (Cat [true, true, true, true] (bodyOf Try.f12))))) := rfl
  have p0 : ∃ t, ex Cf (Cat [false] (bodyOf Try.f12)) ⟨a0, h⟩ = some (.normal, ⟨t, h⟩) ∧ t.length = 28 ∧ t[0]? = some (.ptr c 0) := by
    simp only [bodyOf, Try.f12, Cat, Bool.false_eq_true, e_seq, e_region, e_cond, e_block, ex_skip, ex_exit, ex_ret, o_cons, xops_nil, k_want_none, k_want_false, k_val, k_pan, k_call, k_ret, k_seq, k_seq_exit, k_seq_ret, k_true, k_false, k_block, k_block_exit, k_block_ret, k_loop, k_loop_exit, k_loop_ret, awanted, aoper, evalO, put, Option.getD_some, List.getElem?_set, acallOp, abuiltin, List.map_cons, List.map_nil, Nat.reduceEqDiff, Nat.reduceLT, List.length_set, Option.map_some, Option.bind_some, Option.bind_eq_bind, add_i, sub_i, mul_i, eql_i, neq_i, lss_i, leq_i, gtr_i, geq_i, ofV, ofCell, ↓reduceIte, List.cons_append, List.nil_append, List.append_nil, List.getElem?_toArray, List.getElem?_cons_succ, List.getElem?_cons_zero, e_draw, g_nil, g_cons, g_want, g_skip, g_val, g_call, g_ret, Option.map_none, hl, i0]
    exact ⟨_, rfl, by simp [hl], by simp [i0]⟩
  obtain ⟨t0, e0, l0, t00⟩ := p0
  have p1 : ∃ t, ex Cf (Cat [true, false] (bodyOf Try.f12)) ⟨t0, h⟩ = some (.normal, ⟨t, h⟩) ∧ t.length = 28 ∧ t[0]? = some (.ptr c 0) ∧ t[3]? = some .nilSl := by
    simp only [bodyOf, Try.f12, Cat, Bool.false_eq_true, e_seq, e_region, e_cond, e_block, ex_skip, ex_exit, ex_ret, o_cons, xops_nil, k_want_none, k_want_false, k_val, k_pan, k_call, k_ret, k_seq, k_seq_exit, k_seq_ret, k_true, k_false, k_block, k_block_exit, k_block_ret, k_loop, k_loop_exit, k_loop_ret, awanted, aoper, evalO, put, Option.getD_some, List.getElem?_set, acallOp, abuiltin, List.map_cons, List.map_nil, Nat.reduceEqDiff, Nat.reduceLT, List.length_set, Option.map_some, Option.bind_some, Option.bind_eq_bind, add_i, sub_i, mul_i, eql_i, neq_i, lss_i, leq_i, gtr_i, geq_i, ofV, ofCell, ↓reduceIte, List.cons_append, List.nil_append, List.append_nil, List.getElem?_toArray, List.getElem?_cons_succ, List.getElem?_cons_zero, e_draw, g_nil, g_cons, g_want, g_skip, g_val, g_call, g_ret, Option.map_none]
    exact ⟨_, rfl, by simp [l0], by simp [t00], by simp [l0]⟩
  obtain ⟨t1, e1, l1, t10, t13⟩ := p1
  have p2 : ∃ t, ex Cf (Cat [true, true, false] (bodyOf Try.f12)) ⟨t1, h⟩ = some (.normal, ⟨t, h⟩) ∧ t.length = 28 ∧ t[0]? = some (.ptr c 0) ∧ t[3]? = some .nilSl := by
    simp only [bodyOf, Try.f12, Cat, Bool.false_eq_true, e_seq, e_region, e_cond, e_block, ex_skip, ex_exit, ex_ret, o_cons, xops_nil, k_want_none, k_want_false, k_val, k_pan, k_call, k_ret, k_seq, k_seq_exit, k_seq_ret, k_true, k_false, k_block, k_block_exit, k_block_ret, k_loop, k_loop_exit, k_loop_ret, awanted, aoper, evalO, put, Option.getD_some, List.getElem?_set, acallOp, abuiltin, List.map_cons, List.map_nil, Nat.reduceEqDiff, Nat.reduceLT, List.length_set, Option.map_some, Option.bind_some, Option.bind_eq_bind, add_i, sub_i, mul_i, eql_i, neq_i, lss_i, leq_i, gtr_i, geq_i, ofV, ofCell, ↓reduceIte, List.cons_append, List.nil_append, List.append_nil, List.getElem?_toArray, List.getElem?_cons_succ, List.getElem?_cons_zero, e_draw, g_nil, g_cons, g_want, g_skip, g_val, g_call, g_ret, Option.map_none, l1, t10, Ty.eq26_0]
    exact ⟨_, rfl, by simp [l1], by simp [t10], by simp [t13]⟩
  obtain ⟨t2, e2, l2, t20, t23⟩ := p2
  have p3 : ∃ t, ex Cf (Cat [true, true, true, false, false] (bodyOf Try.f12)) ⟨t2, h⟩ = some (.normal, ⟨t, h⟩) ∧ t.length = 28 ∧ t[3]? = some .nilSl ∧ t[13]? = some s.ov ∧ t[14]? = some (.int .i64 s.L.length) ∧ t[15]? = some (.int .i64 0) := by
    simp only [bodyOf, Try.f12, Cat, Bool.false_eq_true, e_seq, e_region, e_cond, e_block, ex_skip, ex_exit, ex_ret, o_cons, xops_nil, k_want_none, k_want_false, k_val, k_pan, k_call, k_ret, k_seq, k_seq_exit, k_seq_ret, k_true, k_false, k_block, k_block_exit, k_block_ret, k_loop, k_loop_exit, k_loop_ret, awanted, aoper, evalO, put, Option.getD_some, List.getElem?_set, acallOp, abuiltin, List.map_cons, List.map_nil, Nat.reduceEqDiff, Nat.reduceLT, List.length_set, Option.map_some, Option.bind_some, Option.bind_eq_bind, add_i, sub_i, mul_i, eql_i, neq_i, lss_i, leq_i, gtr_i, geq_i, ofV, ofCell, ↓reduceIte, List.cons_append, List.nil_append, List.append_nil, List.getElem?_toArray, List.getElem?_cons_succ, List.getElem?_cons_zero, e_draw, g_nil, g_cons, g_want, g_skip, g_val, g_call, g_ret, Option.map_none, l2, t20, CP, Ty.fa61_3, Ty.fa54_0, dropCells, Nat.zero_add, Nat.add_zero, Ty.ld52, hld3, hlen]
    exact ⟨_, rfl, by simp [l2], by simp [t23], by simp [l2], by simp [l2], by simp [l2]⟩
  obtain ⟨t3, e3, l3, t33, t313, t314, t315⟩ := p3
  obtain ⟨t4, h4, v, e4, l4, t43, A, n4, s4, id4⟩ := L12_loop s.ov (foot c s) s.L [] h .nilSl (fun i p hp => by
      obtain ⟨a, q1, q2⟩ := at_p I.ord.sl hp
      refine ⟨a, q1, fun h2 hh => ?_⟩
      have o2 : OrdP K h2 s.ov (s.L.map CEnt.p) := I.ord.congr fun i hi => hh i (by simp [foot, hi])
      obtain ⟨a', r1, r2⟩ := at_p o2.sl hp
      rw [q1] at r1; cases r1; exact r2)
    (fun e he h2 hh => by rw [hh e.p (by simp only [foot, List.mem_cons, List.mem_append]; exact .inr (.inr (.inr (List.mem_map_of_mem he))))]; exact I.ent e he)
    (fun j hj => ⟨I.lt j hj, by simp [accId]⟩) (by have := I.len; have := I.le; simp; omega) (Acc.nil 1 h) t3 l3 t33 t313 t314 t315
  have p5 : ∃ t, ex Cf (Cat [true, true, true, true] (bodyOf Try.f12)) ⟨t4, h4⟩ = some (.ret, ⟨t, h4⟩) ∧ t[2]? = some v := by
    simp only [bodyOf, Try.f12, Cat, Bool.false_eq_true, e_seq, e_region, e_cond, e_block, ex_skip, ex_exit, ex_ret, o_cons, xops_nil, k_want_none, k_want_false, k_val, k_pan, k_call, k_ret, k_seq, k_seq_exit, k_seq_ret, k_true, k_false, k_block, k_block_exit, k_block_ret, k_loop, k_loop_exit, k_loop_ret, awanted, aoper, evalO, put, Option.getD_some, List.getElem?_set, acallOp, abuiltin, List.map_cons, List.map_nil, Nat.reduceEqDiff, Nat.reduceLT, List.length_set, Option.map_some, Option.bind_some, Option.bind_eq_bind, add_i, sub_i, mul_i, eql_i, neq_i, lss_i, leq_i, gtr_i, geq_i, ofV, ofCell, ↓reduceIte, List.cons_append, List.nil_append, List.append_nil, List.getElem?_toArray, List.getElem?_cons_succ, List.getElem?_cons_zero, e_draw, g_nil, g_cons, g_want, g_skip, g_val, g_call, g_ret, Option.map_none, l4, t43]
    exact ⟨_, rfl, by simp [l4]⟩
  obtain ⟨t5, e5, t52⟩ := p5
  refine ⟨h4, v, fn_run (fn := Try.f12) (x := .ret) Try.func12 rfl rfl rfl (.inl rfl) (by rw [← ha0, hbody, e_seq, e0, k_seq, e_seq, e1, k_seq, e_seq, e2, k_seq, e_seq, e_seq, e3, k_seq, e_block, e4, k_block_exit, if_pos rfl, k_seq, e5]) (vs := [v]) (by simp [show Try.f12.results.toList = [ResultVar.tmp 2] from rfl, aresults, ares1, t52]), by simpa using A, n4, fun j hj => s4 j hj (by simp [accId]), fun j hj => (id4 j hj).resolve_left (by simp [accId])⟩
end Go.Am.Cache
