/-
  CACHE: CacheLast: a whole round; all rounds; the law.
-/
import Derived.Test.YtgjjmngcmbpjjaaCacheLastC
set_option linter.unusedSimpArgs false
set_option linter.unusedVariables false
set_option maxRecDepth 100000
namespace Go.Am.Cache
open Go Go.Am Go.Proofs

theorem used2_eq (n : Nat) (used : List UInt8) (k : UInt8) : ∃ r, r = used.filter (· ≠ k) ++ [k] ∧ used2 n used k = if r.length > n then r.tail else r := ⟨_, rfl, rfl⟩

/-- the end of a round: the list of keys is held against what Keys tells -/
theorem LB_tail {i n c : Nat} {h : AHeap} {s : Cst} (used : List UInt8) (k : UInt8) (hn : n ≤ 9) (J : LJnv (i + 1) n c h s (used2 n used k)) (hi : i < 200) (hfl : (used.filter (· ≠ k)).length ≤ n) (kv rv : AVal) (ks : List AVal) (hkx : indexAddrA 1 kv i = some (.iptr (bc k :: ks))) (A : Acc 1 h rv ((used.filter (· ≠ k)).map bc) (used.filter (· ≠ k)).length) (D : ∀ j ∈ accId rv, j ∉ foot c s)
    (tmps : List AVal) (hl : tmps.length = 133) (h0 : tmps[0]? = some kv) (h8 : tmps[8]? = some (.int .i64 n)) (h9 : tmps[9]? = some (.ptr c 0)) (h11 : tmps[11]? = some (.int .i64 i)) (h14 : tmps[14]? = some rv) :
    ∃ t h' uv', ex Cf (Cat [true, true, true, true, true] LB) ⟨tmps, h⟩ = some (.normal, ⟨t, h'⟩) ∧ t.length = 133 ∧ (∀ j, j < 12 → j ≠ 10 → t[j]? = tmps[j]?) ∧ t[10]? = some uv' ∧ LJnv (i + 1) n c h' s (used2 n used k) ∧ Acc 1 h' uv' ((used2 n used k).map bc) (used2 n used k).length ∧ (∀ j ∈ accId uv', j ∉ foot c s) := by
  obtain ⟨K, hK, I⟩ := J.inv
  obtain ⟨r, hr, hu2⟩ := used2_eq n used k
  simp only [bc] at hkx
  have hrl : r.length = (used.filter (· ≠ k)).length + 1 := by rw [hr]; simp
  obtain ⟨v', h1, hap, A1, n1, id1, s1, hv'⟩ := append_acc (bytes := 1) (m := 1) (new := [bc k]) (cap := .full) A rfl (by omega) rfl (by omega) (by omega)
  have A1' : Acc 1 h1 v' (r.map bc) r.length := by rw [hrl, hr]; simpa using A1
  have hv1 : v' = .lst (r.map bc) r.length (.tok h.next) := by rw [hv', hrl, hr]; simp
  simp only [bc] at hap
  have J1 : LJnv (i + 1) n c h1 s (used2 n used k) := ⟨⟨K, hK, I.congr (by omega) fun j hj => s1 j (I.lt j hj) (fun hm => D j hm hj)⟩, J.plain, J.keys, J.room, J.le⟩
  have p5 : ∃ t, ex Cf (Cat [true, true, true, true, true, false] LB) ⟨tmps, h⟩ = some (.normal, ⟨t, h1⟩) ∧ t.length = 133 ∧ (∀ j, j < 16 → j ≠ 10 → t[j]? = tmps[j]?) ∧ t[10]? = some v' := by
    simp only [LB, LM, bodyOf, Try.f3, Cat, Bool.false_eq_true, e_seq, e_region, e_cond, e_block, ex_skip, ex_exit, ex_ret, o_cons, xops_nil, k_want_none, k_want_false, k_val, k_pan, k_call, k_ret, k_seq, k_seq_exit, k_seq_ret, k_true, k_false, k_block, k_block_exit, k_block_ret, k_loop, k_loop_exit, k_loop_ret, awanted, aoper, evalO, put, Option.getD_some, List.getElem?_set, acallOp, abuiltin, List.map_cons, List.map_nil, Nat.reduceEqDiff, Nat.reduceLT, List.length_set, Option.map_some, Option.bind_some, Option.bind_eq_bind, add_i, sub_i, mul_i, eql_i, neq_i, lss_i, leq_i, gtr_i, geq_i, ofV, ofCell, ↓reduceIte, List.cons_append, List.nil_append, List.append_nil, List.getElem?_toArray, List.getElem?_cons_succ, List.getElem?_cons_zero, e_draw, g_nil, g_cons, g_want, g_skip, g_val, g_call, g_ret, Option.map_none, hl, h0, h11, h14, CP, Ty.ix22, hkx, Ty.ld5, ld_iptr, bs22_1, show Cf.own "law.go:198" = false from by kernel_rfl, Ty.ap22, hap]
    refine ⟨_, rfl, by simp [hl], fun j hj j10 => ?_, by simp [hl]⟩
    repeat rw [List.getElem?_set_ne (by omega)]
  obtain ⟨t5, e5, l5, k5, t510⟩ := p5
  -- one too many goes
  have p6 : ∃ t uv', ex Cf (Cat [true, true, true, true, true, true, false] LB) ⟨t5, h1⟩ = some (.normal, ⟨t, h1⟩) ∧ t.length = 133 ∧ (∀ j, j < 16 → j ≠ 10 → t[j]? = t5[j]?) ∧ t[10]? = some uv' ∧ Acc 1 h1 uv' ((used2 n used k).map bc) (used2 n used k).length ∧ accId uv' = [h.next] := by
    have hlen : alen Try.prog h1 22 v' = some (.int .i64 r.length) := A1'.alen Try.underlying22 h1
    have h58 : t5[8]? = some (.int .i64 n) := by rw [k5 8 (by omega) (by omega)]; exact h8
    by_cases hq : r.length > n
    · have hd : decide ((r.length : Int) > (n : Int)) = true := by simp; omega
      have hsl : sliceA 1 v' (some (.int .i64 1)) none none = some (.lst (r.map bc).tail (r.length - 1) (.tok h.next)) := by
        rw [hv1]
        simp only [sliceA, bnd, asNat, Option.bind_eq_bind]
        rw [if_pos (by omega)]
        simp only [Option.bind_some]
        rw [if_pos ⟨by simp; omega, by omega, by simp⟩]
        simp [List.take_of_length_le]
      have hsl' : aslice Try.prog h1 22 v' (some (.int .i64 1)) none none = sliceA 1 v' (some (.int .i64 1)) none none := by rw [hv1]; exact Ty.sl22 _ _ _ _ _ _ _
      simp only [LB, LM, bodyOf, Try.f3, Cat, Bool.false_eq_true, e_seq, e_region, e_cond, e_block, ex_skip, ex_exit, ex_ret, o_cons, xops_nil, k_want_none, k_want_false, k_val, k_pan, k_call, k_ret, k_seq, k_seq_exit, k_seq_ret, k_true, k_false, k_block, k_block_exit, k_block_ret, k_loop, k_loop_exit, k_loop_ret, awanted, aoper, evalO, put, Option.getD_some, List.getElem?_set, acallOp, abuiltin, List.map_cons, List.map_nil, Nat.reduceEqDiff, Nat.reduceLT, List.length_set, Option.map_some, Option.bind_some, Option.bind_eq_bind, add_i, sub_i, mul_i, eql_i, neq_i, lss_i, leq_i, gtr_i, geq_i, ofV, ofCell, ↓reduceIte, List.cons_append, List.nil_append, List.append_nil, List.getElem?_toArray, List.getElem?_cons_succ, List.getElem?_cons_zero, e_draw, g_nil, g_cons, g_want, g_skip, g_val, g_call, g_ret, Option.map_none, l5, t510, h58, CP, hlen, hd, hsl', hsl]
      refine ⟨_, .lst (r.map bc).tail (r.length - 1) (.tok h.next), rfl, by simp [l5], fun j hj j10 => ?_, by simp [l5], .inr ⟨h.next, ?_, ?_, ?_, by omega⟩, rfl⟩
      · repeat rw [List.getElem?_set_ne (by omega)]
      · rw [hu2, if_pos hq, List.map_tail, List.length_tail]
      · rw [hu2, if_pos hq]; simp
      · rcases A1 with ⟨q, _⟩ | ⟨r', q, _, hg, _⟩
        · rw [hv'] at q; cases q
        · rw [hv'] at q; cases q; exact hg
    · have hd : decide ((r.length : Int) > (n : Int)) = false := by simp; omega
      simp only [LB, LM, bodyOf, Try.f3, Cat, Bool.false_eq_true, e_seq, e_region, e_cond, e_block, ex_skip, ex_exit, ex_ret, o_cons, xops_nil, k_want_none, k_want_false, k_val, k_pan, k_call, k_ret, k_seq, k_seq_exit, k_seq_ret, k_true, k_false, k_block, k_block_exit, k_block_ret, k_loop, k_loop_exit, k_loop_ret, awanted, aoper, evalO, put, Option.getD_some, List.getElem?_set, acallOp, abuiltin, List.map_cons, List.map_nil, Nat.reduceEqDiff, Nat.reduceLT, List.length_set, Option.map_some, Option.bind_some, Option.bind_eq_bind, add_i, sub_i, mul_i, eql_i, neq_i, lss_i, leq_i, gtr_i, geq_i, ofV, ofCell, ↓reduceIte, List.cons_append, List.nil_append, List.append_nil, List.getElem?_toArray, List.getElem?_cons_succ, List.getElem?_cons_zero, e_draw, g_nil, g_cons, g_want, g_skip, g_val, g_call, g_ret, Option.map_none, l5, t510, h58, CP, hlen, hd]
      refine ⟨_, v', rfl, by simp [l5], fun j hj j10 => ?_, by simp [t510], by rw [hu2, if_neg hq]; exact A1', by rw [hv1]; rfl⟩
      repeat rw [List.getElem?_set_ne (by omega)]
  obtain ⟨t6, uv', e6, l6, k6, t610, A6, id6⟩ := p6
  obtain ⟨K1, hK1, I1⟩ := J1.inv
  obtain ⟨h2, lv, hkeys, AL, n2, s2, idl⟩ := keys_run h1 c s I1
  have hsL : (s.L.map fun e => AVal.str e.key) = (used2 n used k).map fun b => AVal.str [b] := by
    have := congrArg (List.map AVal.str) J.keys
    simpa [List.map_map, Function.comp_def] using this
  have hsl : s.L.length = (used2 n used k).length := by
    have := congrArg List.length J.keys; simpa using this
  rw [hsL, hsl] at AL
  have hJn := J.le
  have J2 : LJnv (i + 1) n c h2 s (used2 n used k) := ⟨⟨K1, hK1, I1.congr n2 fun j hj => s2 j (I1.lt j hj)⟩, J.plain, J.keys, J.room, J.le⟩
  have A7 : Acc 1 h2 uv' ((used2 n used k).map bc) (used2 n used k).length := A6.congr n2 fun j hj => s2 j (A6.lt j hj)
  have p7 : ∃ t, ex Cf (Cat [true, true, true, true, true, true, true, false] LB) ⟨t6, h1⟩ = some (.normal, ⟨t, h2⟩) ∧ t.length = 133 ∧ (∀ j, j < 16 → t[j]? = t6[j]?) ∧ t[19]? = some lv := by
    have h69 : t6[9]? = some (.ptr c 0) := by rw [k6 9 (by omega) (by omega), k5 9 (by omega) (by omega)]; exact h9
    simp only [LB, LM, bodyOf, Try.f3, Cat, Bool.false_eq_true, e_seq, e_region, e_cond, e_block, ex_skip, ex_exit, ex_ret, o_cons, xops_nil, k_want_none, k_want_false, k_val, k_pan, k_call, k_ret, k_seq, k_seq_exit, k_seq_ret, k_true, k_false, k_block, k_block_exit, k_block_ret, k_loop, k_loop_exit, k_loop_ret, awanted, aoper, evalO, put, Option.getD_some, List.getElem?_set, acallOp, abuiltin, List.map_cons, List.map_nil, Nat.reduceEqDiff, Nat.reduceLT, List.length_set, Option.map_some, Option.bind_some, Option.bind_eq_bind, add_i, sub_i, mul_i, eql_i, neq_i, lss_i, leq_i, gtr_i, geq_i, ofV, ofCell, ↓reduceIte, List.cons_append, List.nil_append, List.append_nil, List.getElem?_toArray, List.getElem?_cons_succ, List.getElem?_cons_zero, e_draw, g_nil, g_cons, g_want, g_skip, g_val, g_call, g_ret, Option.map_none, l6, h69, hkeys]
    refine ⟨_, rfl, by simp [l6], fun j hj => ?_, by simp [l6]⟩
    repeat rw [List.getElem?_set_ne (by omega)]
  obtain ⟨t7, e7, l7, k7, t719⟩ := p7
  have t710 : t7[10]? = some uv' := by rw [k7 10 (by omega)]; exact t610
  have hlenL : ∀ hh, alen Try.prog hh 28 lv = some (.int .i64 (used2 n used k).length) := AL.alen Try.underlying28
  have hlenU : ∀ hh, alen Try.prog hh 22 uv' = some (.int .i64 (used2 n used k).length) := A7.alen Try.underlying22
  have p8 : ∃ t, ex Cf (Cat [true, true, true, true, true, true, true, true, false] LB) ⟨t7, h2⟩ = some (.normal, ⟨t, h2⟩) ∧ t.length = 133 ∧ (∀ j, j < 20 → t[j]? = t7[j]?) := by
    have hd : (((used2 n used k).length : Int) != ((used2 n used k).length : Int)) = false := by simp
    simp only [LB, LM, bodyOf, Try.f3, Cat, Bool.false_eq_true, e_seq, e_region, e_cond, e_block, ex_skip, ex_exit, ex_ret, o_cons, xops_nil, k_want_none, k_want_false, k_val, k_pan, k_call, k_ret, k_seq, k_seq_exit, k_seq_ret, k_true, k_false, k_block, k_block_exit, k_block_ret, k_loop, k_loop_exit, k_loop_ret, awanted, aoper, evalO, put, Option.getD_some, List.getElem?_set, acallOp, abuiltin, List.map_cons, List.map_nil, Nat.reduceEqDiff, Nat.reduceLT, List.length_set, Option.map_some, Option.bind_some, Option.bind_eq_bind, add_i, sub_i, mul_i, eql_i, neq_i, lss_i, leq_i, gtr_i, geq_i, ofV, ofCell, ↓reduceIte, List.cons_append, List.nil_append, List.append_nil, List.getElem?_toArray, List.getElem?_cons_succ, List.getElem?_cons_zero, e_draw, g_nil, g_cons, g_want, g_skip, g_val, g_call, g_ret, Option.map_none, l7, t719, t710, CP, hlenL, hlenU, hd]
    refine ⟨_, rfl, by simp [l7], fun j hj => ?_⟩
    repeat rw [List.getElem?_set_ne (by omega)]
  obtain ⟨t8, e8, l8, k8⟩ := p8
  have p9 : ∃ t, ex Cf (Cat [true, true, true, true, true, true, true, true, true, false] LB) ⟨t8, h2⟩ = some (.normal, ⟨t, h2⟩) ∧ t.length = 133 ∧ (∀ j, j < 20 → t[j]? = t8[j]?) ∧ t[20]? = some (.int .i64 0) := by
    simp only [LB, LM, bodyOf, Try.f3, Cat, Bool.false_eq_true, e_seq, e_region, e_cond, e_block, ex_skip, ex_exit, ex_ret, o_cons, xops_nil, k_want_none, k_want_false, k_val, k_pan, k_call, k_ret, k_seq, k_seq_exit, k_seq_ret, k_true, k_false, k_block, k_block_exit, k_block_ret, k_loop, k_loop_exit, k_loop_ret, awanted, aoper, evalO, put, Option.getD_some, List.getElem?_set, acallOp, abuiltin, List.map_cons, List.map_nil, Nat.reduceEqDiff, Nat.reduceLT, List.length_set, Option.map_some, Option.bind_some, Option.bind_eq_bind, add_i, sub_i, mul_i, eql_i, neq_i, lss_i, leq_i, gtr_i, geq_i, ofV, ofCell, ↓reduceIte, List.cons_append, List.nil_append, List.append_nil, List.getElem?_toArray, List.getElem?_cons_succ, List.getElem?_cons_zero, e_draw, g_nil, g_cons, g_want, g_skip, g_val, g_call, g_ret, Option.map_none, l8]
    refine ⟨_, rfl, by simp [l8], fun j hj => ?_, by simp [l8]⟩
    repeat rw [List.getElem?_set_ne (by omega)]
  obtain ⟨t9, e9, l9, k9, t920⟩ := p9
  have hget : ∀ (m : Nat) (u : UInt8), (used2 n used k)[m]? = some u → ((used2 n used k).map bc).drop (m * 1) = bc u :: ((used2 n used k).map bc).drop (m + 1) := fun m u hm => by
    have hlt := (List.getElem?_eq_some_iff.1 hm).1
    rw [Nat.mul_one, List.drop_eq_getElem_cons (by simpa using hlt)]
    have : (used2 n used k)[m] = u := (List.getElem?_eq_some_iff.1 hm).2
    simp [this]
  have hgetS : ∀ (m : Nat) (u : UInt8), (used2 n used k)[m]? = some u → ((used2 n used k).map fun b => AVal.str [b]).drop (m * 1) = .str [u] :: ((used2 n used k).map fun b => AVal.str [b]).drop (m + 1) := fun m u hm => by
    have hlt := (List.getElem?_eq_some_iff.1 hm).1
    rw [Nat.mul_one, List.drop_eq_getElem_cons (by simpa using hlt)]
    have : (used2 n used k)[m] = u := (List.getElem?_eq_some_iff.1 hm).2
    simp [this]
  obtain ⟨t10, e10, l10, k10⟩ := LJ_loop uv' lv (used2 n used k) h2 (hlenL h2)
    (fun m u hm => ⟨_, (A7.index (List.getElem?_eq_some_iff.1 hm).1).trans (by rw [hget m u hm])⟩)
    (fun m u hm => ⟨_, (AL.index (List.getElem?_eq_some_iff.1 hm).1).trans (by rw [hgetS m u hm])⟩) (by omega) (used2 n used k) [] rfl t9 l9
    (by rw [k9 10 (by omega), k8 10 (by omega)]; exact t710) (by rw [k9 19 (by omega), k8 19 (by omega)]; exact t719) t920
  refine ⟨t10, h2, uv', ?_, l10, fun j hj j10 => ?_, by rw [k10 10 (by omega) (by omega), k9 10 (by omega), k8 10 (by omega)]; exact t710, J2, A7, fun j hj hf => ?_⟩
  · have hb : Cat [true, true, true, true, true] LB = .seq (Cat [true, true, true, true, true, false] LB) (.seq (Cat [true, true, true, true, true, true, false] LB) (.seq (Cat [true, true, true, true, true, true, true, false] LB) (.seq (Cat [true, true, true, true, true, true, true, true, false] LB) (.seq (Cat [true, true, true, true, true, true, true, true, true, false] LB) (.block 4 (.loop LJ)))))) := rfl
    rw [hb, e_seq, e5, k_seq, e_seq, e6, k_seq, e_seq, e7, k_seq, e_seq, e8, k_seq, e_seq, e9, k_seq, e_block, e10, k_block_exit, if_pos rfl]
  · rw [k10 j (by omega) (by omega), k9 j (by omega), k8 j (by omega), k7 j (by omega), k6 j (by omega) j10, k5 j (by omega) j10]
  · rw [id6] at hj; simp only [List.mem_singleton] at hj
    have := I.lt j hf; omega

/-- A ROUND. -/
theorem LB_run {i n c : Nat} {h : AHeap} {s : Cst} {used : List UInt8} (hn1 : 1 ≤ n) (hn9 : n ≤ 9) (J : LJnv i n c h s used) (hi : i < 200) (k : UInt8) (kv gv uv : AVal) (ks : List AVal) (hkx : indexAddrA 1 kv i = some (.iptr (bc k :: ks))) (gets : List Bool) (hg : IsSl (gets.map AVal.bool) gets.length gv)
    (A : Acc 1 h uv (used.map bc) used.length) (D : ∀ j ∈ accId uv, j ∉ foot c s) (tmps : List AVal) (hl : tmps.length = 133) (h0 : tmps[0]? = some kv) (h1 : tmps[1]? = some gv) (h8 : tmps[8]? = some (.int .i64 n)) (h9 : tmps[9]? = some (.ptr c 0)) (h10 : tmps[10]? = some uv) (h11 : tmps[11]? = some (.int .i64 i)) :
    ∃ x t h' s' used' uv', ex Cf LB ⟨tmps, h⟩ = some (x, ⟨t, h'⟩) ∧ (x = .normal ∨ x = .exit 1) ∧ t.length = 133 ∧ (∀ j, j < 12 → j ≠ 10 → t[j]? = tmps[j]?) ∧ t[10]? = some uv' ∧ LJnv (i + 1) n c h' s' used' ∧ Acc 1 h' uv' (used'.map bc) used'.length ∧ (∀ j ∈ accId uv', j ∉ foot c s') := by
  obtain ⟨K, hK, I⟩ := J.inv
  have hle := J.le
  have hkx' := hkx
  simp only [bc] at hkx'
  have p0 : ∃ t, ex Cf (Cat [false] LB) ⟨tmps, h⟩ = some (.normal, ⟨t, h⟩) ∧ t.length = 133 ∧ (∀ j, j < 12 → t[j]? = tmps[j]?) ∧ t[12]? = some (.str [k]) := by
    simp only [LB, LM, bodyOf, Try.f3, Cat, Bool.false_eq_true, e_seq, e_region, e_cond, e_block, ex_skip, ex_exit, ex_ret, o_cons, xops_nil, k_want_none, k_want_false, k_val, k_pan, k_call, k_ret, k_seq, k_seq_exit, k_seq_ret, k_true, k_false, k_block, k_block_exit, k_block_ret, k_loop, k_loop_exit, k_loop_ret, awanted, aoper, evalO, put, Option.getD_some, List.getElem?_set, acallOp, abuiltin, List.map_cons, List.map_nil, Nat.reduceEqDiff, Nat.reduceLT, List.length_set, Option.map_some, Option.bind_some, Option.bind_eq_bind, add_i, sub_i, mul_i, eql_i, neq_i, lss_i, leq_i, gtr_i, geq_i, ofV, ofCell, ↓reduceIte, List.cons_append, List.nil_append, List.append_nil, List.getElem?_toArray, List.getElem?_cons_succ, List.getElem?_cons_zero, e_draw, g_nil, g_cons, g_want, g_skip, g_val, g_call, g_ret, Option.map_none, hl, h0, h11, CP, Ty.ix22, hkx', Ty.ld5, ld_iptr, bs22_1, show Cf.own "law.go:177" = false from by kernel_rfl, conv22]
    refine ⟨_, rfl, by simp [hl], fun j hj => ?_, by simp [hl]⟩
    repeat rw [List.getElem?_set_ne (by omega)]
  obtain ⟨t0, e0, l0, k0, t012⟩ := p0
  have p1 : ∃ t, ex Cf (Cat [true, false] LB) ⟨t0, h⟩ = some (.normal, ⟨t, h⟩) ∧ t.length = 133 ∧ (∀ j, j < 13 → t[j]? = t0[j]?) ∧ t[13]? = some (.bool false) := by
    simp only [LB, LM, bodyOf, Try.f3, Cat, Bool.false_eq_true, e_seq, e_region, e_cond, e_block, ex_skip, ex_exit, ex_ret, o_cons, xops_nil, k_want_none, k_want_false, k_val, k_pan, k_call, k_ret, k_seq, k_seq_exit, k_seq_ret, k_true, k_false, k_block, k_block_exit, k_block_ret, k_loop, k_loop_exit, k_loop_ret, awanted, aoper, evalO, put, Option.getD_some, List.getElem?_set, acallOp, abuiltin, List.map_cons, List.map_nil, Nat.reduceEqDiff, Nat.reduceLT, List.length_set, Option.map_some, Option.bind_some, Option.bind_eq_bind, add_i, sub_i, mul_i, eql_i, neq_i, lss_i, leq_i, gtr_i, geq_i, ofV, ofCell, ↓reduceIte, List.cons_append, List.nil_append, List.append_nil, List.getElem?_toArray, List.getElem?_cons_succ, List.getElem?_cons_zero, e_draw, g_nil, g_cons, g_want, g_skip, g_val, g_call, g_ret, Option.map_none]
    refine ⟨_, rfl, by simp [l0], fun j hj => ?_, by simp [l0]⟩
    repeat rw [List.getElem?_set_ne (by omega)]
  obtain ⟨t1, e1, l1, k1, t113⟩ := p1
  have p2 : ∃ t, ex Cf (Cat [true, true, false] LB) ⟨t1, h⟩ = some (.normal, ⟨t, h⟩) ∧ t.length = 133 ∧ (∀ j, j < 14 → t[j]? = t1[j]?) ∧ t[14]? = some .nilSl := by
    simp only [LB, LM, bodyOf, Try.f3, Cat, Bool.false_eq_true, e_seq, e_region, e_cond, e_block, ex_skip, ex_exit, ex_ret, o_cons, xops_nil, k_want_none, k_want_false, k_val, k_pan, k_call, k_ret, k_seq, k_seq_exit, k_seq_ret, k_true, k_false, k_block, k_block_exit, k_block_ret, k_loop, k_loop_exit, k_loop_ret, awanted, aoper, evalO, put, Option.getD_some, List.getElem?_set, acallOp, abuiltin, List.map_cons, List.map_nil, Nat.reduceEqDiff, Nat.reduceLT, List.length_set, Option.map_some, Option.bind_some, Option.bind_eq_bind, add_i, sub_i, mul_i, eql_i, neq_i, lss_i, leq_i, gtr_i, geq_i, ofV, ofCell, ↓reduceIte, List.cons_append, List.nil_append, List.append_nil, List.getElem?_toArray, List.getElem?_cons_succ, List.getElem?_cons_zero, e_draw, g_nil, g_cons, g_want, g_skip, g_val, g_call, g_ret, Option.map_none]
    refine ⟨_, rfl, by simp [l1], fun j hj => ?_, by simp [l1]⟩
    repeat rw [List.getElem?_set_ne (by omega)]
  obtain ⟨t2, e2, l2, k2, t214⟩ := p2
  have p3 : ∃ t, ex Cf (Cat [true, true, true, false, false] LB) ⟨t2, h⟩ = some (.normal, ⟨t, h⟩) ∧ t.length = 133 ∧ (∀ j, j < 15 → t[j]? = t2[j]?) ∧ t[15]? = some (.int .i64 0) := by
    simp only [LB, LM, bodyOf, Try.f3, Cat, Bool.false_eq_true, e_seq, e_region, e_cond, e_block, ex_skip, ex_exit, ex_ret, o_cons, xops_nil, k_want_none, k_want_false, k_val, k_pan, k_call, k_ret, k_seq, k_seq_exit, k_seq_ret, k_true, k_false, k_block, k_block_exit, k_block_ret, k_loop, k_loop_exit, k_loop_ret, awanted, aoper, evalO, put, Option.getD_some, List.getElem?_set, acallOp, abuiltin, List.map_cons, List.map_nil, Nat.reduceEqDiff, Nat.reduceLT, List.length_set, Option.map_some, Option.bind_some, Option.bind_eq_bind, add_i, sub_i, mul_i, eql_i, neq_i, lss_i, leq_i, gtr_i, geq_i, ofV, ofCell, ↓reduceIte, List.cons_append, List.nil_append, List.append_nil, List.getElem?_toArray, List.getElem?_cons_succ, List.getElem?_cons_zero, e_draw, g_nil, g_cons, g_want, g_skip, g_val, g_call, g_ret, Option.map_none]
    refine ⟨_, rfl, by simp [l2], fun j hj => ?_, by simp [l2]⟩
    repeat rw [List.getElem?_set_ne (by omega)]
  obtain ⟨t3, e3, l3, k3, t315⟩ := p3
  have hget : ∀ (m : Nat) (u : UInt8), used[m]? = some u → ∃ us, indexAddrA 1 uv m = some (.iptr (bc u :: us)) := fun m u hm => by
    have hlt := (List.getElem?_eq_some_iff.1 hm).1
    refine ⟨(used.map bc).drop (m + 1), (A.index hlt).trans ?_⟩
    rw [Nat.mul_one, List.drop_eq_getElem_cons (by simpa using hlt)]
    have : used[m] = u := (List.getElem?_eq_some_iff.1 hm).2
    simp [this]
  have b3 : ∀ j, j < 12 → t3[j]? = tmps[j]? := fun j hj => by rw [k3 j (by omega), k2 j (by omega), k1 j (by omega), k0 j (by omega)]
  obtain ⟨t4, h4, rv, e4, l4, k4, t413, t414, AR, n4, s4, idr⟩ := LI_loop kv uv i k ks hkx used (A.alen Try.underlying22) hget (by omega) used [] rfl h t3 .nilSl l3 (Acc.nil 1 h) (by rw [b3 0 (by omega)]; exact h0) (by rw [b3 10 (by omega)]; exact h10) (by rw [b3 11 (by omega)]; exact h11)
    (by rw [k3 13 (by omega), k2 13 (by omega)]; exact t113) (by rw [k3 14 (by omega)]; exact t214) t315
  have b4 : ∀ j, j < 12 → t4[j]? = tmps[j]? := fun j hj => by rw [k4 j (by omega) (by omega) (by omega) (by omega), b3 j hj]
  have t412 : t4[12]? = some (.str [k]) := by rw [k4 12 (by omega) (by omega) (by omega) (by omega), k3 12 (by omega), k2 12 (by omega), k1 12 (by omega)]; exact t012
  have hsame4 : ∀ j, j < h.next → h4.get j = h.get j := fun j hj => s4 j hj (by simp [accId])
  have J4 : LJnv i n c h4 s used := ⟨⟨K, hK, I.congr n4 fun j hj => hsame4 j (I.lt j hj)⟩, J.plain, J.keys, J.room, J.le⟩
  have idr' : ∀ j ∈ accId rv, h.next ≤ j := fun j hj => (idr j hj).resolve_left (by simp [accId])
  have hglen : ∀ h, alen Try.prog h 23 gv = some (.int .i64 gets.length) := fun h => alen_sl Try.underlying23 hg
  have hgx : ∀ b, gets[i]? = some b → ∃ gs, indexAddrA 1 gv i = some (.iptr (.bool b :: gs)) := fun b hb => by
    have hlt := (List.getElem?_eq_some_iff.1 hb).1
    rcases hg with ⟨_, q, _⟩ | ⟨cap, rfl⟩
    · omega
    · refine ⟨(gets.map AVal.bool).drop (i + 1), ?_⟩
      simp only [indexAddrA]
      rw [if_pos ⟨by omega, by omega⟩, Int.toNat_natCast, Nat.mul_one, List.drop_eq_getElem_cons (by simpa using hlt)]
      have : gets[i] = b := (List.getElem?_eq_some_iff.1 hb).2
      simp [this]
  have hfl := List.length_filter_le (fun x => decide (x ≠ k)) used
  have hbody : LB = .seq (Cat [false] LB) (.seq (Cat [true, false] LB) (.seq (Cat [true, true, false] LB) (.seq (.seq (Cat [true, true, true, false, false] LB) (.block 2 (.loop LI))) (.seq P4 (Cat [true, true, true, true, true] LB))))) := rfl
  have hstart : ∀ y, ex Cf (.seq P4 (Cat [true, true, true, true, true] LB)) ⟨t4, h4⟩ = y → ex Cf LB ⟨tmps, h⟩ = y := fun y hy => by
    rw [hbody, e_seq, e0, k_seq, e_seq, e1, k_seq, e_seq, e2, k_seq, e_seq, e_seq, e3, k_seq, e_block, e4, k_block_exit, if_pos rfl, k_seq]; exact hy
  have fin : (∃ t h' s', ex Cf P4 ⟨t4, h4⟩ = some (.normal, ⟨t, h'⟩) ∧ t.length = 133 ∧ (∀ j, j < 16 → t[j]? = t4[j]?) ∧ LJnv (i + 1) n c h' s' (used2 n used k) ∧ Stp (foot c s) (foot c s') h4 h') →
      ∃ x t h' s' used' uv', ex Cf LB ⟨tmps, h⟩ = some (x, ⟨t, h'⟩) ∧ (x = .normal ∨ x = .exit 1) ∧ t.length = 133 ∧ (∀ j, j < 12 → j ≠ 10 → t[j]? = tmps[j]?) ∧ t[10]? = some uv' ∧ LJnv (i + 1) n c h' s' used' ∧ Acc 1 h' uv' (used'.map bc) used'.length ∧ (∀ j ∈ accId uv', j ∉ foot c s') := by
    rintro ⟨t5, h5, s5, e5, l5, k5, J5, S5⟩
    have hnf : ∀ j ∈ accId rv, j ∉ foot c s := fun j hj hf => by have := idr' j hj; have := I.lt j hf; omega
    have AR5 : Acc 1 h5 rv ((used.filter (· ≠ k)).map bc) (used.filter (· ≠ k)).length := AR.congr S5.next fun j hj => S5.same j (AR.lt j hj) (hnf j hj)
    obtain ⟨t6, h6, uv', e6, l6, k6, t610, J6, A6, D6⟩ := LB_tail used k hn9 J5 hi (by omega) kv rv ks hkx AR5 (fun j hj hf => by
      rcases S5.own j hf with q | q
      · exact hnf j hj q
      · have := AR.lt j hj; omega) t5 l5 (by rw [k5 0 (by omega), b4 0 (by omega)]; exact h0) (by rw [k5 8 (by omega), b4 8 (by omega)]; exact h8) (by rw [k5 9 (by omega), b4 9 (by omega)]; exact h9) (by rw [k5 11 (by omega), b4 11 (by omega)]; exact h11) (by rw [k5 14 (by omega)]; exact t414)
    exact ⟨.normal, t6, h6, s5, used2 n used k, uv', hstart _ (by rw [e_seq, e5, k_seq, e6]), .inl rfl, l6, fun j hj j10 => by rw [k6 j hj j10, k5 j (by omega), b4 j hj], t610, J6, A6, D6⟩
  have b41 : t4[1]? = some gv := by rw [b4 1 (by omega)]; exact h1
  have b49 : t4[9]? = some (.ptr c 0) := by rw [b4 9 (by omega)]; exact h9
  have b411 : t4[11]? = some (.int .i64 i) := by rw [b4 11 (by omega)]; exact h11
  by_cases hgi : gets[i]? = some true
  · have hlt := (List.getElem?_eq_some_iff.1 hgi).1
    obtain ⟨gs, hgs⟩ := hgx true hgi
    by_cases hk : k ∈ used
    · exact fin (P4_hit J4 hi k hk gv gs gets.length hlt hglen hgs t4 l4 b41 b49 b411 t412 (by rw [t413]; simp [hk]))
    · obtain ⟨t5, h5, s5, e5, l5, k5, J5, S5, hf5⟩ := P4_miss J4 hi k hk gv gs gets.length hlt hglen hgs t4 l4 b41 b49 b411 t412 (by rw [t413]; simp [hk])
      exact ⟨.exit 1, t5, h5, s5, used, uv, hstart _ (by rw [e_seq, e5, k_seq_exit]), .inr rfl, l5, fun j hj j10 => by rw [k5 j (by omega), b4 j hj], by rw [k5 10 (by omega), b4 10 (by omega)]; exact h10, J5, A.congr (Nat.le_trans n4 S5.next) fun j hj => (S5.same j (Nat.lt_of_lt_of_le (A.lt j hj) n4) (D j hj)).trans (hsame4 j (A.lt j hj)), fun j hj hf => D j hj (hf5 ▸ hf)⟩
  · exact fin (P4_put J4 hi hn1 k gv gets.length hglen (fun hlt => hgx false (by
      rw [List.getElem?_eq_getElem hlt] at hgi ⊢
      cases hb : gets[i] with
      | true => rw [hb] at hgi; exact absurd rfl hgi
      | false => rfl)) t4 l4 b41 b49 b411 t412)
end Go.Am.Cache
