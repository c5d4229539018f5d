/-
  CACHE: shrink lets entries go till so many bytes more fit.
-/
import Derived.Test.YtgjjmngcmbpjjaaCacheLeave
set_option linter.unusedSimpArgs false
set_option linter.unusedVariables false
set_option maxRecDepth 100000
namespace Go.Am.Cache
open Go Go.Am Go.Proofs

def shrinkL (room more : Int) : List CEnt → List CEnt
  | [] => []
  | e :: L => if ((e :: L).map CEnt.n).sum + more > room then shrinkL room more L else e :: L

noncomputable def L28 : Code := Cat [true, true] (bodyOf Try.f28)

theorem L28_out {K : Nat} {h : AHeap} {c : Nat} {s : Cst} (I : CInv K h c s) (more : Int) (hm : 0 ≤ more ∧ more ≤ 1099511627776) (hno : ¬ (s.bytes + more > s.room) ∨ s.L = []) (tmps : List AVal) (hl : tmps.length = 33) (h0 : tmps[0]? = some (.ptr c 0)) (h1 : tmps[1]? = some (.int .i64 more)) :
    ∃ t, ex Cf L28 ⟨tmps, h⟩ = some (.exit 0, ⟨t, h⟩) := by
  obtain ⟨b1, b2⟩ := I.bytes
  have hld1 : loadA h false 1 (.ptr c 1) = some (.int .i64 s.bytes) := Heap.load_at I.cell rfl
  have hld0 : loadA h false 1 (.ptr c 0) = some (.int .i64 s.room) := Heap.load_at I.cell rfl
  have hld3 : loadA h false 1 (.ptr c 3) = some s.ov := Heap.load_at I.cell rfl
  have hlen : ∀ h2, alen Try.prog h2 52 s.ov = some (.int .i64 (s.L.map CEnt.p).length) := fun h2 => alen_p I.ord.sl h2
  have hw : IntKind.i64.wrap (s.bytes + more) = s.bytes + more := wrap64 (by omega) (by omega)
  by_cases hg : s.bytes + more > s.room
  · have hnil : s.L = [] := hno.resolve_left (fun h => h hg)
    have hgt : decide (s.bytes + more > s.room) = true := by simpa using hg
    have hz : decide (((s.L.map CEnt.p).length : Int) > 0) = false := by rw [hnil]; rfl
    simp only [L28, bodyOf, Try.f28, Cat, Bool.false_eq_true, e_seq, e_region, e_cond, e_block, ex_skip, ex_exit, ex_ret, o_cons, xops_nil, k_want_none, k_want_false, k_val, k_pan, k_call, k_ret, k_seq, k_seq_exit, k_seq_ret, k_true, k_false, k_block, k_block_exit, k_block_ret, k_loop, k_loop_exit, k_loop_ret, awanted, aoper, evalO, put, Option.getD_some, List.getElem?_set, acallOp, abuiltin, List.map_cons, List.map_nil, Nat.reduceEqDiff, Nat.reduceLT, List.length_set, Option.map_some, Option.bind_some, Option.bind_eq_bind, add_i, sub_i, mul_i, eql_i, neq_i, lss_i, leq_i, gtr_i, geq_i, ofV, ofCell, ↓reduceIte, List.cons_append, List.nil_append, List.append_nil, List.getElem?_toArray, List.getElem?_cons_succ, List.getElem?_cons_zero, e_draw, g_nil, g_cons, g_want, g_skip, g_val, g_call, g_ret, Option.map_none, hl, h0, h1, CP, Ty.fa61_0, Ty.fa61_1, Ty.fa61_3, Ty.fa54_0, dropCells, Nat.zero_add, Nat.add_zero, Ty.ld3, Ty.ld52, hld0, hld1, hld3, hw, hgt, hlen, hz, show ((true : Bool) == true) = true from rfl]
    rw [k_draw _ _ _ (by kernel_rfl)]
    simp only [Bool.false_eq_true, e_seq, e_region, e_cond, e_block, ex_skip, ex_exit, ex_ret, o_cons, xops_nil, k_want_none, k_want_false, k_val, k_pan, k_call, k_ret, k_seq, k_seq_exit, k_seq_ret, k_true, k_false, k_block, k_block_exit, k_block_ret, k_loop, k_loop_exit, k_loop_ret, awanted, aoper, evalO, put, Option.getD_some, List.getElem?_set, acallOp, abuiltin, List.map_cons, List.map_nil, Nat.reduceEqDiff, Nat.reduceLT, List.length_set, Option.map_some, Option.bind_some, Option.bind_eq_bind, add_i, sub_i, mul_i, eql_i, neq_i, lss_i, leq_i, gtr_i, geq_i, ofV, ofCell, ↓reduceIte, List.cons_append, List.nil_append, List.append_nil, List.getElem?_toArray, List.getElem?_cons_succ, List.getElem?_cons_zero, e_draw, g_nil, g_cons, g_want, g_skip, g_val, g_call, g_ret, Option.map_none, hl]
    exact ⟨_, rfl⟩
  · have hgt : decide (s.bytes + more > s.room) = false := by simpa using hg
    simp only [L28, bodyOf, Try.f28, Cat, Bool.false_eq_true, e_seq, e_region, e_cond, e_block, ex_skip, ex_exit, ex_ret, o_cons, xops_nil, k_want_none, k_want_false, k_val, k_pan, k_call, k_ret, k_seq, k_seq_exit, k_seq_ret, k_true, k_false, k_block, k_block_exit, k_block_ret, k_loop, k_loop_exit, k_loop_ret, awanted, aoper, evalO, put, Option.getD_some, List.getElem?_set, acallOp, abuiltin, List.map_cons, List.map_nil, Nat.reduceEqDiff, Nat.reduceLT, List.length_set, Option.map_some, Option.bind_some, Option.bind_eq_bind, add_i, sub_i, mul_i, eql_i, neq_i, lss_i, leq_i, gtr_i, geq_i, ofV, ofCell, ↓reduceIte, List.cons_append, List.nil_append, List.append_nil, List.getElem?_toArray, List.getElem?_cons_succ, List.getElem?_cons_zero, e_draw, g_nil, g_cons, g_want, g_skip, g_val, g_call, g_ret, Option.map_none, hl, h0, h1, CP, Ty.fa61_0, Ty.fa61_1, Ty.fa61_3, Ty.fa54_0, dropCells, Nat.zero_add, Nat.add_zero, Ty.ld3, Ty.ld52, hld0, hld1, hld3, hw, hgt, hlen, show ((false : Bool) == true) = false from rfl]
    rw [k_draw _ _ _ (by kernel_rfl)]
    simp only [Bool.false_eq_true, e_seq, e_region, e_cond, e_block, ex_skip, ex_exit, ex_ret, o_cons, xops_nil, k_want_none, k_want_false, k_val, k_pan, k_call, k_ret, k_seq, k_seq_exit, k_seq_ret, k_true, k_false, k_block, k_block_exit, k_block_ret, k_loop, k_loop_exit, k_loop_ret, awanted, aoper, evalO, put, Option.getD_some, List.getElem?_set, acallOp, abuiltin, List.map_cons, List.map_nil, Nat.reduceEqDiff, Nat.reduceLT, List.length_set, Option.map_some, Option.bind_some, Option.bind_eq_bind, add_i, sub_i, mul_i, eql_i, neq_i, lss_i, leq_i, gtr_i, geq_i, ofV, ofCell, ↓reduceIte, List.cons_append, List.nil_append, List.append_nil, List.getElem?_toArray, List.getElem?_cons_succ, List.getElem?_cons_zero, e_draw, g_nil, g_cons, g_want, g_skip, g_val, g_call, g_ret, Option.map_none, hl]
    exact ⟨_, rfl⟩

theorem L28_in {K : Nat} {h : AHeap} {c : Nat} {s : Cst} (I : CInv K h c s) (more : Int) (hm : 0 ≤ more ∧ more ≤ 1099511627776) (hg : s.bytes + more > s.room) (e : CEnt) (L : List CEnt) (hL : s.L = e :: L) (tmps : List AVal) (hl : tmps.length = 33) (h0 : tmps[0]? = some (.ptr c 0)) (h1 : tmps[1]? = some (.int .i64 more)) :
    ∃ t h' ov', ex Cf L28 ⟨tmps, h⟩ = some (.normal, ⟨t, h'⟩) ∧ t.length = 33 ∧ t[0]? = some (.ptr c 0) ∧ t[1]? = some (.int .i64 more) ∧ CInv K h' c { s with bytes := s.bytes - e.n, ov := ov', L := L } ∧ Stp (foot c s) (foot c { s with bytes := s.bytes - e.n, ov := ov', L := L }) h h' := by
  obtain ⟨b1, b2⟩ := I.bytes
  have hld1 : loadA h false 1 (.ptr c 1) = some (.int .i64 s.bytes) := Heap.load_at I.cell rfl
  have hld0 : loadA h false 1 (.ptr c 0) = some (.int .i64 s.room) := Heap.load_at I.cell rfl
  have hld3 : loadA h false 1 (.ptr c 3) = some s.ov := Heap.load_at I.cell rfl
  have hlen : ∀ h2, alen Try.prog h2 52 s.ov = some (.int .i64 (s.L.map CEnt.p).length) := fun h2 => alen_p I.ord.sl h2
  have hw : IntKind.i64.wrap (s.bytes + more) = s.bytes + more := wrap64 (by omega) (by omega)
  have hgt : decide (s.bytes + more > s.room) = true := by simpa using hg
  have hz : decide (((s.L.map CEnt.p).length : Int) > 0) = true := by rw [hL]; simp
  obtain ⟨a, hix, hlda⟩ := at_p I.ord.sl (i := 0) (p := e.p) (by rw [hL]; rfl)
  have hix' : indexAddrA 1 s.ov 0 = some a := hix
  obtain ⟨h', ov', hlv, I', _, st, _⟩ := leave_run h c s I [] L e hL
  refine ⟨_, h', ov', by
    simp only [L28, bodyOf, Try.f28, Cat, Bool.false_eq_true, e_seq, e_region, e_cond, e_block, ex_skip, ex_exit, ex_ret, o_cons, xops_nil, k_want_none, k_want_false, k_val, k_pan, k_call, k_ret, k_seq, k_seq_exit, k_seq_ret, k_true, k_false, k_block, k_block_exit, k_block_ret, k_loop, k_loop_exit, k_loop_ret, awanted, aoper, evalO, put, Option.getD_some, List.getElem?_set, acallOp, abuiltin, List.map_cons, List.map_nil, Nat.reduceEqDiff, Nat.reduceLT, List.length_set, Option.map_some, Option.bind_some, Option.bind_eq_bind, add_i, sub_i, mul_i, eql_i, neq_i, lss_i, leq_i, gtr_i, geq_i, ofV, ofCell, ↓reduceIte, List.cons_append, List.nil_append, List.append_nil, List.getElem?_toArray, List.getElem?_cons_succ, List.getElem?_cons_zero, e_draw, g_nil, g_cons, g_want, g_skip, g_val, g_call, g_ret, Option.map_none, hl, h0, h1, CP, Ty.fa61_0, Ty.fa61_1, Ty.fa61_3, Ty.fa54_0, dropCells, Nat.zero_add, Nat.add_zero, Ty.ld3, Ty.ld52, hld0, hld1, hld3, hw, hgt, hlen, hz, show ((true : Bool) == true) = true from rfl]
    rw [k_draw _ _ _ (by kernel_rfl)]
    simp only [Bool.false_eq_true, e_seq, e_region, e_cond, e_block, ex_skip, ex_exit, ex_ret, o_cons, xops_nil, k_want_none, k_want_false, k_val, k_pan, k_call, k_ret, k_seq, k_seq_exit, k_seq_ret, k_true, k_false, k_block, k_block_exit, k_block_ret, k_loop, k_loop_exit, k_loop_ret, awanted, aoper, evalO, put, Option.getD_some, List.getElem?_set, acallOp, abuiltin, List.map_cons, List.map_nil, Nat.reduceEqDiff, Nat.reduceLT, List.length_set, Option.map_some, Option.bind_some, Option.bind_eq_bind, add_i, sub_i, mul_i, eql_i, neq_i, lss_i, leq_i, gtr_i, geq_i, ofV, ofCell, ↓reduceIte, List.cons_append, List.nil_append, List.append_nil, List.getElem?_toArray, List.getElem?_cons_succ, List.getElem?_cons_zero, e_draw, g_nil, g_cons, g_want, g_skip, g_val, g_call, g_ret, Option.map_none, hl, h0, h1, CP, Ty.fa61_3, Ty.fa54_0, dropCells, Nat.zero_add, Nat.add_zero, Ty.ld52, hld3, Ty.ix52, hix', Ty.ld66, hlda, hlv]
    exact rfl, by simp [hl], by simp [h0], by simp [h1], I', st⟩

theorem L28_loop (c : Nat) (more : Int) (hm : 0 ≤ more ∧ more ≤ 1099511627776) : ∀ (L : List CEnt) (K : Nat) (h : AHeap) (s : Cst), CInv K h c s → s.L = L → ∀ (tmps : List AVal), tmps.length = 33 → tmps[0]? = some (.ptr c 0) → tmps[1]? = some (.int .i64 more) →
    ∃ t h' s', ex Cf (.loop L28) ⟨tmps, h⟩ = some (.exit 0, ⟨t, h'⟩) ∧ CInv K h' c s' ∧ s'.L = shrinkL s.room more L ∧ s'.room = s.room ∧ s'.hits = s.hits ∧ s'.misses = s.misses ∧ s'.mv = s.mv ∧ Stp (foot c s) (foot c s') h h' := by
  intro L
  induction L with
  | nil =>
    intro K h s I hL tmps hl h0 h1
    obtain ⟨t, he⟩ := L28_out I more hm (.inr hL) tmps hl h0 h1
    exact ⟨t, h, s, by rw [e_loop, he, k_loop_exit], I, hL, rfl, rfl, rfl, rfl, Stp.refl _ _⟩
  | cons e L ih =>
    intro K h s I hL tmps hl h0 h1
    have hs : s.bytes = ((e :: L).map CEnt.n).sum := by rw [I.sum, hL]
    by_cases hg : s.bytes + more > s.room
    · obtain ⟨t1, h', ov', he, l1, t10, t11, I', st⟩ := L28_in I more hm hg e L hL tmps hl h0 h1
      obtain ⟨t2, h'', s', he2, I'', hL', r1, r2, r3, r4, st2⟩ := ih K h' _ I' rfl t1 l1 t10 t11
      refine ⟨t2, h'', s', by rw [e_loop, he, k_loop]; exact he2, I'', ?_, r1, r2, r3, r4, st.trans st2⟩
      rw [hL']; simp only [shrinkL]; rw [if_pos (by rw [← hs]; exact hg)]
    · obtain ⟨t, he⟩ := L28_out I more hm (.inl hg) tmps hl h0 h1
      refine ⟨t, h, s, by rw [e_loop, he, k_loop_exit], I, ?_, rfl, rfl, rfl, rfl, Stp.refl _ _⟩
      rw [hL]; simp only [shrinkL]; rw [if_neg (by rw [← hs]; exact hg)]

/-- ENTRIES GO TILL THERE IS ROOM. -/
theorem shrink_run {K : Nat} (h : AHeap) (c : Nat) (s : Cst) (I : CInv K h c s) (more : Int) (hm : 0 ≤ more ∧ more ≤ 1099511627776) :
    ∃ h' s', run Cf 28 [.ptr c 0, .int .i64 more] h = some (.ret (.tup []), h') ∧ CInv K h' c s' ∧ s'.L = shrinkL s.room more s.L ∧ s'.room = s.room ∧ s'.hits = s.hits ∧ s'.misses = s.misses ∧ s'.mv = s.mv ∧ Stp (foot c s) (foot c s') h h' := by
  obtain ⟨a0, ha0⟩ : ∃ a0, a0 = slots Try.f28 [.ptr c 0, .int .i64 more] := ⟨_, rfl⟩
  have hl : a0.length = 33 := by rw [ha0]; rfl
  have i0 : a0[0]? = some (.ptr c 0) := by rw [ha0]; rfl
  have i1 : a0[1]? = some (.int .i64 more) := by rw [ha0]; rfl
  obtain ⟨t, h', s', he, rest⟩ := L28_loop c more hm s.L K h s I rfl a0 hl i0 i1
  have hbody : bodyOf Try.f28 = .block 0 (.loop L28) := rfl
  exact ⟨h', s', fn_run (fn := Try.f28) (x := .normal) Try.func28 rfl rfl rfl (.inr rfl) (by rw [← ha0, hbody, e_block, he, k_block_exit, if_pos rfl]) (vs := []) rfl, rest⟩
end Go.Am.Cache
