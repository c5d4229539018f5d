/-
  CACHE: CacheLast: the calls of a round.
-/
import Derived.Test.YtgjjmngcmbpjjaaCacheLastB
set_option linter.unusedSimpArgs false
set_option linter.unusedVariables false
set_option maxRecDepth 100000
namespace Go.Am.Cache
open Go Go.Am Go.Proofs

theorem copied_nil (h : AHeap) : run Cf 26 [.agg [.nilSl, .nilSl]] h = some (.ret (.agg [.nilSl, .nilSl]), h) := run_of (n := 10) (by kernel_rfl)
def nilRes : ResT := ⟨[], .nilSl, .inl ⟨rfl, rfl, rfl⟩, [], .nilSl, .inl ⟨rfl, rfl, rfl⟩⟩
theorem size_nil (k : UInt8) (h : AHeap) : run Cf 23 [.str [k], .agg [.nilSl, .nilSl]] h = some (.ret (.int .i64 65), h) :=
  size_run [k] nilRes ⟨by simp [sizeOf, nilRes], by simp [nilRes], by simp [nilRes], fun x hx => by simp [nilRes] at hx⟩ ⟨rfl, rfl⟩ h

/-- the list of keys behind a round -/
def used2 (n : Nat) (used : List UInt8) (k : UInt8) : List UInt8 := if (used.filter (· ≠ k) ++ [k]).length > n then (used.filter (· ≠ k) ++ [k]).tail else used.filter (· ≠ k) ++ [k]

theorem filter_mem {k : UInt8} {used : List UInt8} (hn : used.Nodup) (hk : k ∈ used) : (used.filter (· ≠ k)).length + 1 = used.length := by
  have h1 : used.filter (· ≠ k) = used.erase k := by
    rw [hn.erase_eq_filter]
    congr 1
    funext x
    by_cases h : x = k <;> simp [h]
  rw [h1, List.length_erase_of_mem hk]
  have := List.length_pos_of_mem hk
  omega

theorem nodup_of_map {α β : Type} {f : α → β} : ∀ {l : List α}, (l.map f).Nodup → l.Nodup := by
  intro l
  induction l with
  | nil => intro _; exact List.nodup_nil
  | cons a l ih =>
    intro h
    rw [List.map_cons, List.nodup_cons] at h
    rw [List.nodup_cons]
    exact ⟨fun hm => h.1 (List.mem_map_of_mem hm), ih h.2⟩
noncomputable def P4 : Code := Cat [true, true, true, true, false] LB
theorem own188 : True := trivial

theorem P4_hit {i n c : Nat} {h : AHeap} {s : Cst} {used : List UInt8} (J : LJnv i n c h s used) (hi : i < 200) (k : UInt8) (hk : k ∈ used) (gv : AVal) (gs : List AVal) (gl : Nat) (hgl : i < gl) (hglen : ∀ h, alen Try.prog h 23 gv = some (.int .i64 gl)) (hgx : indexAddrA 1 gv i = some (.iptr (.bool true :: gs)))
    (tmps : List AVal) (hl : tmps.length = 133) (h1 : tmps[1]? = some gv) (h9 : tmps[9]? = some (.ptr c 0)) (h11 : tmps[11]? = some (.int .i64 i)) (h12 : tmps[12]? = some (.str [k])) (h13 : tmps[13]? = some (.bool true)) :
    ∃ t h' s', ex Cf P4 ⟨tmps, h⟩ = some (.normal, ⟨t, h'⟩) ∧ t.length = 133 ∧ (∀ j, j < 16 → t[j]? = tmps[j]?) ∧ LJnv (i + 1) n c h' s' (used2 n used k) ∧ Stp (foot c s) (foot c s') h h' := by
  obtain ⟨K, hK, I⟩ := J.inv
  have hkm : [k] ∈ s.L.map CEnt.key := by rw [J.keys]; exact List.mem_map.2 ⟨k, hk, rfl⟩
  obtain ⟨e, he, hek⟩ := List.mem_map.1 hkm
  obtain ⟨pre, post, hL⟩ := List.append_of_mem he
  obtain ⟨p1, p2, p3, p4, p5⟩ := J.plain e he
  have hnd := I.keys
  rw [hL] at hnd
  have hwo : without [k] s.L = pre ++ post := by rw [hL, ← hek]; exact without_at hnd
  have hund : used.Nodup := by
    have h2 := I.keys
    rw [J.keys] at h2
    exact nodup_of_map h2
  obtain ⟨h', ov', hg, I', S⟩ := get_hit h c s I pre post e hL (by omega) (by rw [p2, p3]; exact ⟨rfl, rfl⟩) (cv := .nilSl) (rv := .nilSl) ⟨rfl, rfl⟩ (by simp only [CEnt.cells, p2, p3, eqAs, eqA]; simp) (by rw [p2, p3]; exact copied_nil)
  rw [hek, p1, p4] at hg
  obtain ⟨h2, hh2⟩ : ∃ h2, h2 = (h'.new (.arr [.nilSl, .nilSl])).set h'.next (some (.arr [.nilSl, .nilSl])) := ⟨_, rfl⟩
  have hst : storeA (h'.new (.arr [.nilSl, .nilSl])) 2 (.ptr h'.next 0) (.agg [.nilSl, .nilSl]) = some h2 := by rw [hh2]; exact Heap.store_two Heap.get_new_eq rfl rfl
  have hs2 : ∀ j, j < h'.next → h2.get j = h'.get j := fun j hj => by rw [hh2, Heap.get_set_ne (by omega), Heap.get_new_lt hj]
  have hn2 : h2.next = h'.next + 1 := by rw [hh2]; rfl
  have hlt' : decide ((i : Int) < (gl : Int)) = true := by simp; omega
  refine ⟨_, h2, { s with hits := IntKind.i64.wrap (s.hits + 1), ov := ov', L := pre ++ post ++ [e] }, by
    simp only [P4, LB, LM, bodyOf, Try.f3, Cat, Bool.false_eq_true, e_seq, e_region, e_cond, e_block, ex_skip, ex_exit, ex_ret, o_cons, xops_nil, k_want_none, k_want_false, k_val, k_pan, k_call, k_ret, k_seq, k_seq_exit, k_seq_ret, k_true, k_false, k_block, k_block_exit, k_block_ret, k_loop, k_loop_exit, k_loop_ret, awanted, aoper, evalO, put, Option.getD_some, List.getElem?_set, acallOp, abuiltin, List.map_cons, List.map_nil, Nat.reduceEqDiff, Nat.reduceLT, List.length_set, Option.map_some, Option.bind_some, Option.bind_eq_bind, add_i, sub_i, mul_i, eql_i, neq_i, lss_i, leq_i, gtr_i, geq_i, ofV, ofCell, ↓reduceIte, List.cons_append, List.nil_append, List.append_nil, List.getElem?_toArray, List.getElem?_cons_succ, List.getElem?_cons_zero, e_draw, g_nil, g_cons, g_want, g_skip, g_val, g_call, g_ret, Option.map_none, hl, h1, h9, h11, h12, h13, CP, hglen, hlt', show ((true : Bool) == true) = true from rfl, Ty.ix23, hgx, Ty.ld4, ld_iptr, hg, extractA, Ty.ze31, abox, AVal.boxable, AVal.cells, AVal.isCell, List.all_cons, List.all_nil, Bool.and_self, Ty.st31, hst, neq_b, show ((true : Bool) != true) = false from rfl, aun, Bool.not_true]
    exact rfl, by simp [hl], fun j hj => ?_, ⟨⟨K + 1, by omega, I'.congr (by omega) fun j hj => hs2 j (I'.lt j hj)⟩, ?_, ?_, J.room, ?_⟩, S.trans ⟨by omega, fun j hj _ => hs2 j hj, fun j hj => .inl hj⟩⟩
  · repeat rw [List.getElem?_set_ne (by omega)]
  · intro x hx
    exact J.plain x (by rw [hL]; simp at hx ⊢; rcases hx with hx | hx | hx <;> simp [hx])
  · have hfm := filter_mem hund hk
    have hle := J.le
    have hwk := without_keys (k := k) J.keys
    rw [hwo] at hwk
    unfold used2
    rw [if_neg (by simp; simp at hfm; omega)]
    simp only [List.map_append, List.map_cons, List.map_nil, hek] at hwk ⊢
    rw [hwk]
  · have hfm := filter_mem hund hk
    have hle := J.le
    unfold used2
    rw [if_neg (by simp; simp at hfm; omega)]
    simp at hfm ⊢; omega

theorem P4_miss {i n c : Nat} {h : AHeap} {s : Cst} {used : List UInt8} (J : LJnv i n c h s used) (hi : i < 200) (k : UInt8) (hk : k ∉ used) (gv : AVal) (gs : List AVal) (gl : Nat) (hgl : i < gl) (hglen : ∀ h, alen Try.prog h 23 gv = some (.int .i64 gl)) (hgx : indexAddrA 1 gv i = some (.iptr (.bool true :: gs)))
    (tmps : List AVal) (hl : tmps.length = 133) (h1 : tmps[1]? = some gv) (h9 : tmps[9]? = some (.ptr c 0)) (h11 : tmps[11]? = some (.int .i64 i)) (h12 : tmps[12]? = some (.str [k])) (h13 : tmps[13]? = some (.bool false)) :
    ∃ t h' s', ex Cf P4 ⟨tmps, h⟩ = some (.exit 1, ⟨t, h'⟩) ∧ t.length = 133 ∧ (∀ j, j < 16 → t[j]? = tmps[j]?) ∧ LJnv (i + 1) n c h' s' used ∧ Stp (foot c s) (foot c s') h h' ∧ foot c s' = foot c s := by
  obtain ⟨K, hK, I⟩ := J.inv
  have hkm : [k] ∉ s.L.map CEnt.key := by
    rw [J.keys]; intro hm
    obtain ⟨b, hb, he⟩ := List.mem_map.1 hm
    cases he; exact hk hb
  obtain ⟨h', hg, I', S⟩ := get_miss h c s I [k] 1 fun e he hek => absurd (hek ▸ List.mem_map_of_mem (f := CEnt.key) he) hkm
  obtain ⟨h2, hh2⟩ : ∃ h2, h2 = (h'.new (.arr [.nilSl, .nilSl])).set h'.next (some (.arr [.nilSl, .nilSl])) := ⟨_, rfl⟩
  have hst : storeA (h'.new (.arr [.nilSl, .nilSl])) 2 (.ptr h'.next 0) (.agg [.nilSl, .nilSl]) = some h2 := by rw [hh2]; exact Heap.store_two Heap.get_new_eq rfl rfl
  have hs2 : ∀ j, j < h'.next → h2.get j = h'.get j := fun j hj => by rw [hh2, Heap.get_set_ne (by omega), Heap.get_new_lt hj]
  have hn2 : h2.next = h'.next + 1 := by rw [hh2]; rfl
  have hlt' : decide ((i : Int) < (gl : Int)) = true := by simp; omega
  refine ⟨_, h2, { s with misses := IntKind.i64.wrap (s.misses + 1) }, by
    simp only [P4, LB, LM, bodyOf, Try.f3, Cat, Bool.false_eq_true, e_seq, e_region, e_cond, e_block, ex_skip, ex_exit, ex_ret, o_cons, xops_nil, k_want_none, k_want_false, k_val, k_pan, k_call, k_ret, k_seq, k_seq_exit, k_seq_ret, k_true, k_false, k_block, k_block_exit, k_block_ret, k_loop, k_loop_exit, k_loop_ret, awanted, aoper, evalO, put, Option.getD_some, List.getElem?_set, acallOp, abuiltin, List.map_cons, List.map_nil, Nat.reduceEqDiff, Nat.reduceLT, List.length_set, Option.map_some, Option.bind_some, Option.bind_eq_bind, add_i, sub_i, mul_i, eql_i, neq_i, lss_i, leq_i, gtr_i, geq_i, ofV, ofCell, ↓reduceIte, List.cons_append, List.nil_append, List.append_nil, List.getElem?_toArray, List.getElem?_cons_succ, List.getElem?_cons_zero, e_draw, g_nil, g_cons, g_want, g_skip, g_val, g_call, g_ret, Option.map_none, hl, h1, h9, h11, h12, h13, CP, hglen, hlt', show ((true : Bool) == true) = true from rfl, Ty.ix23, hgx, Ty.ld4, ld_iptr, hg, extractA, Ty.ze31, abox, AVal.boxable, AVal.cells, AVal.isCell, List.all_cons, List.all_nil, Bool.and_self, Ty.st31, hst, neq_b, show ((false : Bool) != false) = false from rfl, aun, Bool.not_false]
    exact rfl, by simp [hl], fun j hj => ?_, ⟨⟨K, by omega, I'.congr (by omega) fun j hj => hs2 j (I'.lt j hj)⟩, J.plain, J.keys, J.room, J.le⟩, S.trans ⟨by omega, fun j hj _ => hs2 j hj, fun j hj => .inl hj⟩, rfl⟩
  repeat rw [List.getElem?_set_ne (by omega)]

theorem P4_put {i n c : Nat} {h : AHeap} {s : Cst} {used : List UInt8} (J : LJnv i n c h s used) (hi : i < 200) (hn : 1 ≤ n) (k : UInt8) (gv : AVal) (gl : Nat) (hglen : ∀ h, alen Try.prog h 23 gv = some (.int .i64 gl)) (hgx : i < gl → ∃ gs, indexAddrA 1 gv i = some (.iptr (.bool false :: gs)))
    (tmps : List AVal) (hl : tmps.length = 133) (h1 : tmps[1]? = some gv) (h9 : tmps[9]? = some (.ptr c 0)) (h11 : tmps[11]? = some (.int .i64 i)) (h12 : tmps[12]? = some (.str [k])) :
    ∃ t h' s', ex Cf P4 ⟨tmps, h⟩ = some (.normal, ⟨t, h'⟩) ∧ t.length = 133 ∧ (∀ j, j < 16 → t[j]? = tmps[j]?) ∧ LJnv (i + 1) n c h' s' (used2 n used k) ∧ Stp (foot c s) (foot c s') h h' := by
  obtain ⟨K, hK, I⟩ := J.inv
  have hwp : ∀ e ∈ without [k] s.L, Plain e := fun e he => J.plain e (List.mem_filter.1 he).1
  have hwk := without_keys (k := k) J.keys
  have hwl : (without [k] s.L).length = (used.filter (· ≠ k)).length := by
    have := congrArg List.length hwk; simpa using this
  have hfl := List.length_filter_le (fun x => decide (x ≠ k)) used
  have hle := J.le
  obtain ⟨h', s', p, hp, I', hL', hr', _, _, S⟩ := put_run h c s I [k] 1 .nilSl .nilSl 0 65 ⟨rfl, rfl⟩ (by omega) (by rw [J.room]; omega) (by omega) (size_nil k) (cv' := .nilSl) (rv' := .nilSl) ⟨rfl, rfl⟩ copied_nil
  rw [J.room, shrink_plain hn hwp (by omega)] at hL'
  have hsub : ∀ x ∈ (if (without [k] s.L).length = n then (without [k] s.L).tail else without [k] s.L), x ∈ without [k] s.L := fun x hx => by
    split at hx
    · exact List.mem_of_mem_tail hx
    · exact hx
  have hJ : LJnv (i + 1) n c h' s' (used2 n used k) := by
    refine ⟨⟨K + 1, by omega, I'⟩, ?_, ?_, by rw [hr', J.room], ?_⟩
    · intro x hx
      rw [hL'] at hx
      rcases List.mem_append.1 hx with hx | hx
      · exact hwp x (hsub x hx)
      · simp only [List.mem_singleton] at hx; rw [hx]; exact ⟨rfl, rfl, rfl, rfl, rfl⟩
    · rw [hL']; unfold used2
      by_cases hq : (without [k] s.L).length = n
      · rw [if_pos hq, if_pos (by simp only [List.length_append, List.length_cons, List.length_nil]; omega)]
        have hne : (used.filter (· ≠ k)) ≠ [] := fun e0 => by rw [e0] at hwl; simp only [List.length_nil] at hwl; omega
        rw [List.tail_append_of_ne_nil hne]
        simp only [List.map_append, List.map_tail, hwk, List.map_cons, List.map_nil]
      · rw [if_neg hq, if_neg (by simp only [List.length_append, List.length_cons, List.length_nil]; omega)]
        simp only [List.map_append, hwk, List.map_cons, List.map_nil]
    · unfold used2
      split
      · rename_i hh; simp only [List.length_append, List.length_cons, List.length_nil, List.length_tail] at hh ⊢; omega
      · omega
  by_cases hig : i < gl
  · have hlt' : decide ((i : Int) < (gl : Int)) = true := by simp; omega
    obtain ⟨gs, hgx⟩ := hgx hig
    refine ⟨_, h', s', by
      simp only [P4, LB, LM, bodyOf, Try.f3, Cat, Bool.false_eq_true, e_seq, e_region, e_cond, e_block, ex_skip, ex_exit, ex_ret, o_cons, xops_nil, k_want_none, k_want_false, k_val, k_pan, k_call, k_ret, k_seq, k_seq_exit, k_seq_ret, k_true, k_false, k_block, k_block_exit, k_block_ret, k_loop, k_loop_exit, k_loop_ret, awanted, aoper, evalO, put, Option.getD_some, List.getElem?_set, acallOp, abuiltin, List.map_cons, List.map_nil, Nat.reduceEqDiff, Nat.reduceLT, List.length_set, Option.map_some, Option.bind_some, Option.bind_eq_bind, add_i, sub_i, mul_i, eql_i, neq_i, lss_i, leq_i, gtr_i, geq_i, ofV, ofCell, ↓reduceIte, List.cons_append, List.nil_append, List.append_nil, List.getElem?_toArray, List.getElem?_cons_succ, List.getElem?_cons_zero, e_draw, g_nil, g_cons, g_want, g_skip, g_val, g_call, g_ret, Option.map_none, hl, h1, h9, h11, h12, CP, hglen, hlt', show ((true : Bool) == true) = true from rfl, Ty.ix23, hgx, Ty.ld4, ld_iptr, Ty.bu31, hp, aun, Bool.not_true]
      exact rfl, by simp [hl], fun j hj => ?_, hJ, S⟩
    repeat rw [List.getElem?_set_ne (by omega)]
  · have hlt' : decide ((i : Int) < (gl : Int)) = false := by simp; omega
    refine ⟨_, h', s', by
      simp only [P4, LB, LM, bodyOf, Try.f3, Cat, Bool.false_eq_true, e_seq, e_region, e_cond, e_block, ex_skip, ex_exit, ex_ret, o_cons, xops_nil, k_want_none, k_want_false, k_val, k_pan, k_call, k_ret, k_seq, k_seq_exit, k_seq_ret, k_true, k_false, k_block, k_block_exit, k_block_ret, k_loop, k_loop_exit, k_loop_ret, awanted, aoper, evalO, put, Option.getD_some, List.getElem?_set, acallOp, abuiltin, List.map_cons, List.map_nil, Nat.reduceEqDiff, Nat.reduceLT, List.length_set, Option.map_some, Option.bind_some, Option.bind_eq_bind, add_i, sub_i, mul_i, eql_i, neq_i, lss_i, leq_i, gtr_i, geq_i, ofV, ofCell, ↓reduceIte, List.cons_append, List.nil_append, List.append_nil, List.getElem?_toArray, List.getElem?_cons_succ, List.getElem?_cons_zero, e_draw, g_nil, g_cons, g_want, g_skip, g_val, g_call, g_ret, Option.map_none, hl, h1, h9, h11, h12, CP, hglen, hlt', show ((false : Bool) == true) = false from rfl, Ty.bu31, hp, aun, Bool.not_true]
      exact rfl, by simp [hl], fun j hj => ?_, hJ, S⟩
    repeat rw [List.getElem?_set_ne (by omega)]
end Go.Am.Cache
