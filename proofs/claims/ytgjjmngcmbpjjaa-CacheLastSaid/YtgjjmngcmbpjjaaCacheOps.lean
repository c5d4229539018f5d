/-
  CACHE: the order list, and what lets an entry go: drop, use, by the abstract machine.
-/
import Derived.Test.YtgjjmngcmbpjjaaCacheTy
import Derived.Test.YtgjjmngcmbpjjaaAmHeap
set_option linter.unusedSimpArgs false
set_option linter.unusedVariables false
set_option maxRecDepth 100000
namespace Go.Am.Cache
open Go Go.Am Go.Proofs

/-- the order list: nothing, or an own array -/
def OrdP (K : Nat) (h : AHeap) (v : AVal) (ps : List Nat) : Prop := (v = .nilSl ∧ ps = []) ∨
  ∃ oi cells, v = .sl oi 0 1 ps.length cells.length true ∧ h.get oi = some (.arr cells) ∧ ps.length ≤ cells.length ∧ cells.length ≤ K ∧ cells.take ps.length = ps.map (.ptr · 0)
def ordId : AVal → List Nat
  | .sl oi _ _ _ _ _ => [oi]
  | _ => []
theorem OrdP.sl {K : Nat} {h : AHeap} {v : AVal} {ps : List Nat} (hv : OrdP K h v ps) : SlP h v ps := by
  rcases hv with ⟨rfl, rfl⟩ | ⟨oi, cells, rfl, hg, h1, h2, h3⟩
  · exact .inl ⟨rfl, rfl⟩
  · exact .inr ⟨oi, 0, cells.length, true, cells, rfl, hg, h1, by omega, by simpa using h3⟩
theorem OrdP.congr {K : Nat} {h h' : AHeap} {v : AVal} {ps : List Nat} (hv : OrdP K h v ps) (he : ∀ i ∈ ordId v, h'.get i = h.get i) : OrdP K h' v ps := by
  rcases hv with ⟨rfl, rfl⟩ | ⟨oi, cells, rfl, hg, h1, h2, h3⟩
  · exact .inl ⟨rfl, rfl⟩
  · exact .inr ⟨oi, cells, rfl, by rw [he oi (by simp [ordId])]; exact hg, h1, h2, h3⟩
theorem OrdP.mono {K K' : Nat} {h : AHeap} {v : AVal} {ps : List Nat} (hv : OrdP K h v ps) (hk : K ≤ K') : OrdP K' h v ps := by
  rcases hv with h | ⟨oi, cells, rfl, hg, h1, h2, h3⟩
  · exact .inl h
  · exact .inr ⟨oi, cells, rfl, hg, h1, by omega, h3⟩
theorem OrdP.isCell {K : Nat} {h : AHeap} {v : AVal} {ps : List Nat} (hv : OrdP K h v ps) : v.isCell = true := by
  rcases hv with ⟨rfl, _⟩ | ⟨oi, cells, rfl, _⟩ <;> rfl

theorem place_no {x : Nat} : ∀ {ps : List Nat} {i : Nat}, x ∉ ps → place x ps i = -1 := by
  intro ps
  induction ps with
  | nil => intro i _; rfl
  | cons p ps ih =>
    intro i h
    simp only [List.mem_cons, not_or] at h
    simp only [place, if_neg h.1]; exact ih h.2
theorem place_at {x : Nat} {post : List Nat} : ∀ {pre : List Nat} {i : Nat}, x ∉ pre → place x (pre ++ x :: post) i = (i + pre.length : Nat) := by
  intro pre
  induction pre with
  | nil => intro i _; simp [place]
  | cons p pre ih =>
    intro i h
    simp only [List.mem_cons, not_or] at h
    simp only [List.cons_append, place, if_neg h.1, ih h.2, List.length_cons]
    congr 1; omega
theorem split_at {x : Nat} {ps : List Nat} (h : x ∈ ps) : ∃ pre post, ps = pre ++ x :: post ∧ x ∉ pre := by
  induction ps with
  | nil => cases h
  | cons p ps ih =>
    by_cases e : x = p
    · exact ⟨[], ps, by rw [e]; rfl, by simp⟩
    · obtain ⟨pre, post, rfl, hn⟩ := ih ((List.mem_cons.1 h).resolve_left e)
      exact ⟨p :: pre, post, rfl, by simp [e, hn]⟩
theorem erase_at {x : Nat} {pre post : List Nat} (h : x ∉ pre) : (pre ++ x :: post).erase x = pre ++ post := by
  rw [List.erase_append_right _ h, List.erase_cons_head]

theorem set_self {cells : List AVal} {i : Nat} {v : AVal} (h : cells[i]? = some v) : cells.set i v = cells := by
  refine List.ext_getElem? fun j => ?_
  rw [List.getElem?_set]
  split
  · rename_i e; subst e
    split
    · exact h.symm
    · rename_i hn; rw [List.getElem?_eq_none (by omega)]
  · rfl
/-- ONE OF THE ORDER LIST GOES, if it is there. -/
theorem drop_run {K : Nat} (h : AHeap) (c x : Nat) (ov : AVal) (ps : List Nat) (cells : List AVal) (hc : h.get c = some (.arr cells)) (h3 : cells[3]? = some ov) (hv : OrdP K h ov ps) (hx : IsEnt h x) (hall : ∀ p ∈ ps, IsEnt h p) (hK : K ≤ 1000000) (hco : c ∉ ordId ov) :
    ∃ h' ov', run Cf 44 [.ptr c 3, .ptr x 0] h = some (.ret (.tup []), h') ∧ h'.get c = some (.arr (cells.set 3 ov')) ∧ OrdP K h' ov' (ps.erase x) ∧ ordId ov' = ordId ov ∧ h'.next = h.next ∧ ∀ j, j ≠ c → j ∉ ordId ov → h'.get j = h.get j := by
  obtain ⟨a0, ha0⟩ : ∃ a0, a0 = slots Try.f44 [.ptr c 3, .ptr x 0] := ⟨_, rfl⟩
  have hl : a0.length = 24 := by rw [ha0]; rfl
  have i0 : a0[0]? = some (.ptr c 3) := by rw [ha0]; rfl
  have i1 : a0[1]? = some (.ptr x 0) := by rw [ha0]; rfl
  have hlen : ps.length ≤ 1000000 := by
    rcases hv with ⟨_, rfl⟩ | ⟨oi, cs, rfl, _, h1, h2, _⟩
    · simp
    · omega
  have hix := index_run h ov ps x hv.sl hx hall (by omega)
  have hld := Heap.load_at hc h3
  have h3l := (List.getElem?_eq_some_iff.1 h3).1
  have hres : Try.f44.results.toList = [] := rfl
  by_cases hm : x ∈ ps
  · obtain ⟨pre, post, rfl, hn⟩ := split_at hm
    rw [place_at hn, Nat.zero_add] at hix
    rcases hv with ⟨_, hh⟩ | ⟨oi, cs, rfl, hg, h1, h2, h4⟩
    · simp at hh
    simp only [ordId, List.mem_singleton] at hco
    obtain ⟨h1', cs', hdel, rfl, hcl, hct⟩ := delete_run h oi 0 cs.length true cs pre post x hg h1 (by omega) (by simpa using h4) (by omega)
    have hgc : (h.set oi (some (.arr cs'))).get c = some (.arr cells) := by simp only [Heap.set_get, if_neg hco]; exact hc
    have hst := Heap.store_at (v := .sl oi 0 1 (pre ++ post).length cs.length true) hgc rfl h3l
    obtain ⟨H, hH⟩ : ∃ H, H = (h.set oi (some (ABlk.arr cs'))).set c (some (.arr (cells.set 3 (.sl oi 0 1 (pre ++ post).length cs.length true)))) := ⟨_, rfl⟩
    rw [← hH] at hst
    have hge : decide ((pre.length : Int) ≥ 0) = true := by simp
    have hw : IntKind.i64.wrap ((pre.length : Int) + 1) = ((pre.length + 1 : Nat) : Int) := by
      rw [wrap64 (by omega) (by simp at hlen; omega)]; rfl
    have he : ∃ t, ex Cf (bodyOf Try.f44) ⟨a0, h⟩ = some (.normal, ⟨t, H⟩) := by
      simp only [bodyOf, Try.f44, Bool.false_eq_true, e_seq, e_region, e_cond, e_block, ex_skip, ex_exit, ex_ret, o_cons, xops_nil, k_want_none, k_want_false, k_val, k_pan, k_call, k_ret, k_seq, k_seq_exit, k_seq_ret, k_true, k_false, k_block, k_block_exit, k_block_ret, k_loop, k_loop_exit, k_loop_ret, awanted, aoper, evalO, put, Option.getD_some, List.getElem?_set, acallOp, abuiltin, List.map_cons, List.map_nil, Nat.reduceEqDiff, Nat.reduceLT, List.length_set, Option.map_some, Option.bind_some, Option.bind_eq_bind, add_i, sub_i, mul_i, eql_i, neq_i, lss_i, leq_i, gtr_i, geq_i, ofV, ofCell, ↓reduceIte, List.cons_append, List.nil_append, List.append_nil, List.getElem?_toArray, List.getElem?_cons_succ, List.getElem?_cons_zero, e_draw, g_nil, g_cons, g_want, g_skip, g_val, g_call, g_ret, Option.map_none, hl, i0, i1, CP, Ty.fa54_0, dropCells, Nat.add_zero, Ty.ld52, Ty.st52, hld, hix, hge, hw, hdel, hst]
      exact ⟨_, rfl⟩
    obtain ⟨t, he⟩ := he
    refine ⟨H, .sl oi 0 1 (pre ++ post).length cs.length true, fn_run (fn := Try.f44) (x := .normal) Try.func44 rfl rfl rfl (.inr rfl) (by rw [← ha0]; exact he) (vs := []) (by rw [hres]; rfl), ?_, .inr ⟨oi, cs', ?_, ?_, ?_, by omega, ?_⟩, rfl, by rw [hH]; rfl, ?_⟩
    · simp only [hH, Heap.set_get, if_true]
    · rw [erase_at hn, hcl]
    · simp only [hH, Heap.set_get, if_neg (Ne.symm hco), if_true]
    · rw [erase_at hn, hcl]; simp at h1 ⊢; omega
    · rw [erase_at hn]; simpa using hct
    · intro j hj hjo
      simp only [ordId, List.mem_singleton] at hjo
      simp only [hH, Heap.set_get, if_neg hj, if_neg hjo]
  · rw [place_no hm] at hix
    have hge : decide ((-1 : Int) ≥ 0) = false := by decide
    have he : ∃ t, ex Cf (bodyOf Try.f44) ⟨a0, h⟩ = some (.normal, ⟨t, h⟩) := by
      simp only [bodyOf, Try.f44, Bool.false_eq_true, e_seq, e_region, e_cond, e_block, ex_skip, ex_exit, ex_ret, o_cons, xops_nil, k_want_none, k_want_false, k_val, k_pan, k_call, k_ret, k_seq, k_seq_exit, k_seq_ret, k_true, k_false, k_block, k_block_exit, k_block_ret, k_loop, k_loop_exit, k_loop_ret, awanted, aoper, evalO, put, Option.getD_some, List.getElem?_set, acallOp, abuiltin, List.map_cons, List.map_nil, Nat.reduceEqDiff, Nat.reduceLT, List.length_set, Option.map_some, Option.bind_some, Option.bind_eq_bind, add_i, sub_i, mul_i, eql_i, neq_i, lss_i, leq_i, gtr_i, geq_i, ofV, ofCell, ↓reduceIte, List.cons_append, List.nil_append, List.append_nil, List.getElem?_toArray, List.getElem?_cons_succ, List.getElem?_cons_zero, e_draw, g_nil, g_cons, g_want, g_skip, g_val, g_call, g_ret, Option.map_none, hl, i0, i1, CP, Ty.fa54_0, dropCells, Nat.add_zero, Ty.ld52, Ty.st52, hld, hix, hge]
      exact ⟨_, rfl⟩
    obtain ⟨t, he⟩ := he
    refine ⟨h, ov, fn_run (fn := Try.f44) (x := .normal) Try.func44 rfl rfl rfl (.inr rfl) (by rw [← ha0]; exact he) (vs := []) (by rw [hres]; rfl), ?_, ?_, rfl, rfl, fun _ _ _ => rfl⟩
    · rw [hc, set_self h3]
    · rw [List.erase_of_not_mem hm]; exact hv
end Go.Am.Cache
