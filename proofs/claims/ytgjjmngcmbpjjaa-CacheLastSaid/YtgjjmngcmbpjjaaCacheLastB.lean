/-
  CACHE: CacheLast: a round.
-/
import Derived.Test.YtgjjmngcmbpjjaaCacheLastA
set_option linter.unusedSimpArgs false
set_option linter.unusedVariables false
set_option maxRecDepth 100000
namespace Go.Am.Cache
open Go Go.Am Go.Proofs

theorem LJ_out (h : AHeap) (i n : Nat) (hlt : ¬ i < n) (tmps : List AVal) (hl : tmps.length = 133) (lv : AVal) (hlen : alen Try.prog h 28 lv = some (.int .i64 n)) (h19 : tmps[19]? = some lv) (h20 : tmps[20]? = some (.int .i64 i)) :
    ∃ t, ex Cf LJ ⟨tmps, h⟩ = some (.exit 4, ⟨t, h⟩) ∧ t.length = 133 ∧ ∀ j, j < 115 → t[j]? = tmps[j]? := by
  have hlt' : decide ((i : Int) < (n : Int)) = false := by simp; omega
  simp only [LJ, LB, LM, bodyOf, Try.f3, Cat, Bool.false_eq_true, e_seq, e_region, e_cond, e_block, ex_skip, ex_exit, ex_ret, o_cons, xops_nil, k_want_none, k_want_false, k_val, k_pan, k_call, k_ret, k_seq, k_seq_exit, k_seq_ret, k_true, k_false, k_block, k_block_exit, k_block_ret, k_loop, k_loop_exit, k_loop_ret, awanted, aoper, evalO, put, Option.getD_some, List.getElem?_set, acallOp, abuiltin, List.map_cons, List.map_nil, Nat.reduceEqDiff, Nat.reduceLT, List.length_set, Option.map_some, Option.bind_some, Option.bind_eq_bind, add_i, sub_i, mul_i, eql_i, neq_i, lss_i, leq_i, gtr_i, geq_i, ofV, ofCell, ↓reduceIte, List.cons_append, List.nil_append, List.append_nil, List.getElem?_toArray, List.getElem?_cons_succ, List.getElem?_cons_zero, e_draw, g_nil, g_cons, g_want, g_skip, g_val, g_call, g_ret, Option.map_none, hl, h19, h20, CP, hlen, hlt']
  refine ⟨_, rfl, by simp [hl], fun j hj => ?_⟩
  repeat rw [List.getElem?_set_ne (by omega)]

theorem LJ_in (h : AHeap) (m n : Nat) (hlt : m < n) (hm : m < 1000000) (tmps : List AVal) (hl : tmps.length = 133) (uv lv : AVal) (u : UInt8) (us ls : List AVal) (hlen : alen Try.prog h 28 lv = some (.int .i64 n))
    (hix : indexAddrA 1 uv m = some (.iptr (bc u :: us))) (hlx : indexAddrA 1 lv m = some (.iptr (.str [u] :: ls))) (h10 : tmps[10]? = some uv) (h19 : tmps[19]? = some lv) (h20 : tmps[20]? = some (.int .i64 m)) :
    ∃ t, ex Cf LJ ⟨tmps, h⟩ = some (.normal, ⟨t, h⟩) ∧ t.length = 133 ∧ (∀ j, j < 115 → j ≠ 20 → t[j]? = tmps[j]?) ∧ t[20]? = some (.int .i64 (m + 1 : Nat)) := by
  have hlt' : decide ((m : Int) < (n : Int)) = true := by simp; omega
  have hw : IntKind.i64.wrap ((m : Int) + 1) = ((m + 1 : Nat) : Int) := by rw [wrap64 (by omega) (by omega)]; rfl
  simp only [bc] at hix
  have hsame : (!([u] == [u])) = false := by simp
  simp only [LJ, LB, LM, bodyOf, Try.f3, Cat, Bool.false_eq_true, e_seq, e_region, e_cond, e_block, ex_skip, ex_exit, ex_ret, o_cons, xops_nil, k_want_none, k_want_false, k_val, k_pan, k_call, k_ret, k_seq, k_seq_exit, k_seq_ret, k_true, k_false, k_block, k_block_exit, k_block_ret, k_loop, k_loop_exit, k_loop_ret, awanted, aoper, evalO, put, Option.getD_some, List.getElem?_set, acallOp, abuiltin, List.map_cons, List.map_nil, Nat.reduceEqDiff, Nat.reduceLT, List.length_set, Option.map_some, Option.bind_some, Option.bind_eq_bind, add_i, sub_i, mul_i, eql_i, neq_i, lss_i, leq_i, gtr_i, geq_i, ofV, ofCell, ↓reduceIte, List.cons_append, List.nil_append, List.append_nil, List.getElem?_toArray, List.getElem?_cons_succ, List.getElem?_cons_zero, e_draw, g_nil, g_cons, g_want, g_skip, g_val, g_call, g_ret, Option.map_none, areads, topRefs, hl, h10, h19, h20, CP, hlen, hlt', Ty.ix22, Ty.ix28, hix, hlx, Ty.ld5, Ty.ld9, ld_iptr, bs22_1, show Cf.own "law.go:207" = false from by kernel_rfl, conv22, neq_s, hsame]
  rw [k_owes [] (by kernel_rfl) (fun o ho => by cases ho)]
  simp only [Bool.false_eq_true, e_seq, e_region, e_cond, e_block, ex_skip, ex_exit, ex_ret, o_cons, xops_nil, k_want_none, k_want_false, k_val, k_pan, k_call, k_ret, k_seq, k_seq_exit, k_seq_ret, k_true, k_false, k_block, k_block_exit, k_block_ret, k_loop, k_loop_exit, k_loop_ret, awanted, aoper, evalO, put, Option.getD_some, List.getElem?_set, acallOp, abuiltin, List.map_cons, List.map_nil, Nat.reduceEqDiff, Nat.reduceLT, List.length_set, Option.map_some, Option.bind_some, Option.bind_eq_bind, add_i, sub_i, mul_i, eql_i, neq_i, lss_i, leq_i, gtr_i, geq_i, ofV, ofCell, ↓reduceIte, List.cons_append, List.nil_append, List.append_nil, List.getElem?_toArray, List.getElem?_cons_succ, List.getElem?_cons_zero, e_draw, g_nil, g_cons, g_want, g_skip, g_val, g_call, g_ret, Option.map_none, hl, h20, hw]
  refine ⟨_, rfl, by simp [hl], fun j hj j20 => ?_, by simp [hl]⟩
  repeat rw [List.getElem?_set_ne (by omega)]

theorem LJ_loop (uv lv : AVal) (all : List UInt8) (h : AHeap) (hlen : alen Try.prog h 28 lv = some (.int .i64 all.length)) (hix : ∀ (m : Nat) (u : UInt8), all[m]? = some u → ∃ us, indexAddrA 1 uv m = some (.iptr (bc u :: us))) (hlx : ∀ (m : Nat) (u : UInt8), all[m]? = some u → ∃ us, indexAddrA 1 lv m = some (.iptr (.str [u] :: us))) (hb : all.length ≤ 1000) :
    ∀ (todo pre : List UInt8), all = pre ++ todo → ∀ (tmps : List AVal), tmps.length = 133 → tmps[10]? = some uv → tmps[19]? = some lv → tmps[20]? = some (.int .i64 pre.length) →
    ∃ t, ex Cf (.loop LJ) ⟨tmps, h⟩ = some (.exit 4, ⟨t, h⟩) ∧ t.length = 133 ∧ ∀ j, j < 115 → j ≠ 20 → t[j]? = tmps[j]? := by
  intro todo
  induction todo with
  | nil =>
    intro pre hp tmps hl h10 h19 h20
    have hpe : all = pre := by rw [hp]; simp
    obtain ⟨t, he, l1, hk⟩ := LJ_out h pre.length all.length (by rw [hpe]; omega) tmps hl lv hlen h19 h20
    exact ⟨t, by rw [e_loop, he, k_loop_exit], l1, fun j hj _ => hk j hj⟩
  | cons u todo ih =>
    intro pre hp tmps hl h10 h19 h20
    have hu : all[pre.length]? = some u := by simp [hp]
    obtain ⟨us, hux⟩ := hix pre.length u hu
    obtain ⟨ls, hlx'⟩ := hlx pre.length u hu
    have hpl : pre.length < all.length := by simp [hp]
    obtain ⟨t1, he, l1, k1, g20⟩ := LJ_in h pre.length all.length hpl (by omega) tmps hl uv lv u us ls hlen hux hlx' h10 h19 h20
    obtain ⟨t2, he2, l2, k2⟩ := ih (pre ++ [u]) (by simp [hp]) t1 l1 (by rw [k1 10 (by omega) (by omega)]; exact h10) (by rw [k1 19 (by omega) (by omega)]; exact h19) (by simpa using g20)
    exact ⟨t2, by rw [e_loop, he, k_loop]; exact he2, l2, fun j hj a => (k2 j hj a).trans (k1 j hj a)⟩

/-! ### what a cache holds all the while -/
def Plain (e : CEnt) : Prop := e.seq = 1 ∧ e.cv = .nilSl ∧ e.rv = .nilSl ∧ e.err = 0 ∧ e.n = 65
structure LJnv (i n c : Nat) (h : AHeap) (s : Cst) (used : List UInt8) : Prop where
  inv : ∃ K, K ≤ i ∧ CInv K h c s
  plain : ∀ e ∈ s.L, Plain e
  keys : s.L.map CEnt.key = used.map fun b => [b]
  room : s.room = 65 * n
  le : used.length ≤ n
theorem plain_sum {L : List CEnt} (h : ∀ e ∈ L, Plain e) : (L.map CEnt.n).sum = 65 * L.length := by
  induction L with
  | nil => rfl
  | cons e L ih =>
    have h1 := (h e List.mem_cons_self).2.2.2.2
    simp only [List.map_cons, List.sum_cons, ih fun x hx => h x (List.mem_cons_of_mem _ hx), h1, List.length_cons]
    push_cast; omega
theorem shrink_plain {n : Nat} (hn : 1 ≤ n) {L : List CEnt} (h : ∀ e ∈ L, Plain e) (hl : L.length ≤ n) : shrinkL (65 * n) 65 L = if L.length = n then L.tail else L := by
  cases L with
  | nil => simp [shrinkL]
  | cons e L =>
    have hs := plain_sum h
    simp only [shrinkL]
    by_cases hq : (e :: L).length = n
    · rw [if_pos (by rw [hs]; omega), if_pos hq]
      cases L with
      | nil => rfl
      | cons e2 L =>
        have hs2 := plain_sum (L := e2 :: L) fun x hx => h x (List.mem_cons_of_mem _ hx)
        simp only [shrinkL, List.tail_cons]
        rw [if_neg]
        rw [hs2]; simp only [List.length_cons] at hq ⊢; omega
    · rw [if_neg (by rw [hs]; omega), if_neg hq]
theorem without_keys {k : UInt8} : ∀ {L : List CEnt} {used : List UInt8}, L.map CEnt.key = used.map (fun b => [b]) → (without [k] L).map CEnt.key = (used.filter (· ≠ k)).map fun b => [b] := by
  intro L
  induction L with
  | nil => intro used h; cases used with
    | nil => rfl
    | cons _ _ => simp at h
  | cons e L ih =>
    intro used h
    cases used with
    | nil => simp at h
    | cons u used =>
      simp only [List.map_cons, List.cons.injEq] at h
      have := ih h.2
      unfold without at this ⊢
      rw [List.filter_cons, List.filter_cons]
      by_cases hu : u = k
      · rw [if_neg (by simp [h.1, hu]), if_neg (by simp [hu])]; exact this
      · rw [if_pos (by simp [h.1, hu]), if_pos (by simp [hu])]
        simp only [List.map_cons, h.1, this]
end Go.Am.Cache
