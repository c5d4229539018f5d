/-
  CACHE: CacheLast is true of any content.
-/
import Derived.Test.YtgjjmngcmbpjjaaCacheLastD
set_option linter.unusedSimpArgs false
set_option linter.unusedVariables false
set_option maxRecDepth 100000
namespace Go.Am.Cache
open Go Go.Am Go.Proofs

theorem LM_out (h : AHeap) (i n : Nat) (hno : ¬ (i < n ∧ i < 200)) (tmps : List AVal) (hl : tmps.length = 133) (kv : AVal) (hlen : alen Try.prog h 22 kv = some (.int .i64 n)) (h0 : tmps[0]? = some kv) (h11 : tmps[11]? = some (.int .i64 i)) :
    ∃ t, ex Cf LM ⟨tmps, h⟩ = some (.exit 0, ⟨t, h⟩) ∧ t.length = 133 ∧ ∀ j, j < 30 → t[j]? = tmps[j]? := by
  by_cases hin : i < n
  · have hd : decide ((i : Int) < (n : Int)) = true := by simp; omega
    have hd2 : decide ((i : Int) < 200) = false := by simp; omega
    simp only [LM, bodyOf, Try.f3, Cat, Bool.false_eq_true, e_seq, e_region, e_cond, e_block, ex_skip, ex_exit, ex_ret, o_cons, xops_nil, k_want_none, k_want_false, k_val, k_pan, k_call, k_ret, k_seq, k_seq_exit, k_seq_ret, k_true, k_false, k_block, k_block_exit, k_block_ret, k_loop, k_loop_exit, k_loop_ret, awanted, aoper, evalO, put, Option.getD_some, List.getElem?_set, acallOp, abuiltin, List.map_cons, List.map_nil, Nat.reduceEqDiff, Nat.reduceLT, List.length_set, Option.map_some, Option.bind_some, Option.bind_eq_bind, add_i, sub_i, mul_i, eql_i, neq_i, lss_i, leq_i, gtr_i, geq_i, ofV, ofCell, ↓reduceIte, List.cons_append, List.nil_append, List.append_nil, List.getElem?_toArray, List.getElem?_cons_succ, List.getElem?_cons_zero, e_draw, g_nil, g_cons, g_want, g_skip, g_val, g_call, g_ret, Option.map_none, hl, h0, h11, CP, hlen, hd, hd2, show ((true : Bool) == true) = true from rfl]
    refine ⟨_, rfl, by simp [hl], fun j hj => ?_⟩
    repeat rw [List.getElem?_set_ne (by omega)]
  · have hd : decide ((i : Int) < (n : Int)) = false := by simp; omega
    simp only [LM, bodyOf, Try.f3, Cat, Bool.false_eq_true, e_seq, e_region, e_cond, e_block, ex_skip, ex_exit, ex_ret, o_cons, xops_nil, k_want_none, k_want_false, k_val, k_pan, k_call, k_ret, k_seq, k_seq_exit, k_seq_ret, k_true, k_false, k_block, k_block_exit, k_block_ret, k_loop, k_loop_exit, k_loop_ret, awanted, aoper, evalO, put, Option.getD_some, List.getElem?_set, acallOp, abuiltin, List.map_cons, List.map_nil, Nat.reduceEqDiff, Nat.reduceLT, List.length_set, Option.map_some, Option.bind_some, Option.bind_eq_bind, add_i, sub_i, mul_i, eql_i, neq_i, lss_i, leq_i, gtr_i, geq_i, ofV, ofCell, ↓reduceIte, List.cons_append, List.nil_append, List.append_nil, List.getElem?_toArray, List.getElem?_cons_succ, List.getElem?_cons_zero, e_draw, g_nil, g_cons, g_want, g_skip, g_val, g_call, g_ret, Option.map_none, hl, h0, h11, CP, hlen, hd, show ((false : Bool) == true) = false from rfl]
    refine ⟨_, rfl, by simp [hl], fun j hj => ?_⟩
    repeat rw [List.getElem?_set_ne (by omega)]

/-- ALL ROUNDS. -/
theorem LM_loop {n c : Nat} (hn1 : 1 ≤ n) (hn9 : n ≤ 9) (kv gv : AVal) (keys : List UInt8) (hk : IsSl (keys.map bc) keys.length kv) (gets : List Bool) (hg : IsSl (gets.map AVal.bool) gets.length gv) :
    ∀ (todo i : Nat), todo = 200 - i → ∀ (h : AHeap) (s : Cst) (used : List UInt8) (uv : AVal), i ≤ 200 → LJnv i n c h s used → Acc 1 h uv (used.map bc) used.length → (∀ j ∈ accId uv, j ∉ foot c s) → ∀ (tmps : List AVal), tmps.length = 133 → tmps[0]? = some kv → tmps[1]? = some gv → tmps[8]? = some (.int .i64 n) → tmps[9]? = some (.ptr c 0) → tmps[10]? = some uv → tmps[11]? = some (.int .i64 i) →
    ∃ t h', ex Cf (.loop LM) ⟨tmps, h⟩ = some (.exit 0, ⟨t, h'⟩) ∧ t.length = 133 ∧ t[7]? = tmps[7]? := by
  have hlen : ∀ h, alen Try.prog h 22 kv = some (.int .i64 keys.length) := fun h => alen_sl Try.underlying22 hk
  intro todo
  induction todo with
  | zero =>
    intro i hti h s used uv hi J A D tmps hl h0 h1 h8 h9 h10 h11
    obtain ⟨t, he, l1, k1⟩ := LM_out h i keys.length (by omega) tmps hl kv (hlen h) h0 h11
    exact ⟨t, h, by rw [e_loop, he, k_loop_exit], l1, k1 7 (by omega)⟩
  | succ todo ih =>
    intro i hti h s used uv hi J A D tmps hl h0 h1 h8 h9 h10 h11
    by_cases hlt : i < keys.length
    · have hd : decide ((i : Int) < (keys.length : Int)) = true := by simp; omega
      have hd2 : decide ((i : Int) < 200) = true := by simp; omega
      have hw : IntKind.i64.wrap ((i : Int) + 1) = ((i + 1 : Nat) : Int) := by rw [wrap64 (by omega) (by omega)]; rfl
      have p0 : ∃ t, ex Cf (Cat [false] LM) ⟨tmps, h⟩ = some (.normal, ⟨t, h⟩) ∧ t.length = 133 ∧ ∀ j, j < 30 → t[j]? = tmps[j]? := by
        simp only [LM, bodyOf, Try.f3, Cat, Bool.false_eq_true, e_seq, e_region, e_cond, e_block, ex_skip, ex_exit, ex_ret, o_cons, xops_nil, k_want_none, k_want_false, k_val, k_pan, k_call, k_ret, k_seq, k_seq_exit, k_seq_ret, k_true, k_false, k_block, k_block_exit, k_block_ret, k_loop, k_loop_exit, k_loop_ret, awanted, aoper, evalO, put, Option.getD_some, List.getElem?_set, acallOp, abuiltin, List.map_cons, List.map_nil, Nat.reduceEqDiff, Nat.reduceLT, List.length_set, Option.map_some, Option.bind_some, Option.bind_eq_bind, add_i, sub_i, mul_i, eql_i, neq_i, lss_i, leq_i, gtr_i, geq_i, ofV, ofCell, ↓reduceIte, List.cons_append, List.nil_append, List.append_nil, List.getElem?_toArray, List.getElem?_cons_succ, List.getElem?_cons_zero, e_draw, g_nil, g_cons, g_want, g_skip, g_val, g_call, g_ret, Option.map_none, hl, h0, h11, CP, hlen, hd, hd2, show ((true : Bool) == true) = true from rfl]
        refine ⟨_, rfl, by simp [hl], fun j hj => ?_⟩
        repeat rw [List.getElem?_set_ne (by omega)]
      obtain ⟨t0, e0, l0, k0⟩ := p0
      obtain ⟨k, hki⟩ : ∃ k, keys[i]? = some k := ⟨keys[i], by simp [hlt]⟩
      have hkx : ∃ ks, indexAddrA 1 kv i = some (.iptr (bc k :: ks)) := by
        rcases hk with ⟨_, q, _⟩ | ⟨cap, rfl⟩
        · omega
        · refine ⟨(keys.map bc).drop (i + 1), ?_⟩
          simp only [indexAddrA]
          rw [if_pos ⟨by omega, by omega⟩, Int.toNat_natCast, Nat.mul_one, List.drop_eq_getElem_cons (by simpa using hlt)]
          have : keys[i] = k := (List.getElem?_eq_some_iff.1 hki).2
          simp [this]
      obtain ⟨ks, hkx⟩ := hkx
      obtain ⟨x, t1, h1', s1, used1, uv1, e1, hx, l1, k1, t110, J1, A1, D1⟩ := LB_run hn1 hn9 J (by omega) k kv gv uv ks hkx gets hg A D t0 l0 (by rw [k0 0 (by omega)]; exact h0) (by rw [k0 1 (by omega)]; exact h1) (by rw [k0 8 (by omega)]; exact h8) (by rw [k0 9 (by omega)]; exact h9) (by rw [k0 10 (by omega)]; exact h10) (by rw [k0 11 (by omega)]; exact h11)
      have t111 : t1[11]? = some (.int .i64 i) := by rw [k1 11 (by omega) (by omega), k0 11 (by omega)]; exact h11
      have p2 : ∃ t, ex Cf (Cat [true, true] LM) ⟨t1, h1'⟩ = some (.normal, ⟨t, h1'⟩) ∧ t.length = 133 ∧ (∀ j, j < 11 → t[j]? = t1[j]?) ∧ t[11]? = some (.int .i64 (i + 1 : Nat)) := by
        simp only [LM, bodyOf, Try.f3, Cat, Bool.false_eq_true, e_seq, e_region, e_cond, e_block, ex_skip, ex_exit, ex_ret, o_cons, xops_nil, k_want_none, k_want_false, k_val, k_pan, k_call, k_ret, k_seq, k_seq_exit, k_seq_ret, k_true, k_false, k_block, k_block_exit, k_block_ret, k_loop, k_loop_exit, k_loop_ret, awanted, aoper, evalO, put, Option.getD_some, List.getElem?_set, acallOp, abuiltin, List.map_cons, List.map_nil, Nat.reduceEqDiff, Nat.reduceLT, List.length_set, Option.map_some, Option.bind_some, Option.bind_eq_bind, add_i, sub_i, mul_i, eql_i, neq_i, lss_i, leq_i, gtr_i, geq_i, ofV, ofCell, ↓reduceIte, List.cons_append, List.nil_append, List.append_nil, List.getElem?_toArray, List.getElem?_cons_succ, List.getElem?_cons_zero, e_draw, g_nil, g_cons, g_want, g_skip, g_val, g_call, g_ret, Option.map_none, l1, t111, hw]
        refine ⟨_, rfl, by simp [l1], fun j hj => ?_, by simp [l1]⟩
        repeat rw [List.getElem?_set_ne (by omega)]
      obtain ⟨t2, e2, l2, k2, t211⟩ := p2
      have b2 : ∀ j, j < 11 → j ≠ 10 → t2[j]? = tmps[j]? := fun j hj j10 => by rw [k2 j hj, k1 j (by omega) j10, k0 j (by omega)]
      have hone : ex Cf LM ⟨tmps, h⟩ = some (.normal, ⟨t2, h1'⟩) := by
        have hb : LM = .seq (Cat [false] LM) (.seq (.block 1 LB) (Cat [true, true] LM)) := rfl
        rw [hb, e_seq, e0, k_seq, e_seq, e_block, e1]
        rcases hx with rfl | rfl
        · rw [k_block, k_seq, e2]
        · rw [k_block_exit, if_pos rfl, k_seq, e2]
      obtain ⟨t3, h3, e3, l3, k3⟩ := ih (i + 1) (by omega) h1' s1 used1 uv1 (by omega) J1 A1 D1 t2 l2 (by rw [b2 0 (by omega) (by omega)]; exact h0) (by rw [b2 1 (by omega) (by omega)]; exact h1) (by rw [b2 8 (by omega) (by omega)]; exact h8) (by rw [b2 9 (by omega) (by omega)]; exact h9) (by rw [k2 10 (by omega)]; exact t110) t211
      exact ⟨t3, h3, by rw [e_loop, hone, k_loop]; exact e3, l3, by rw [k3, b2 7 (by omega) (by omega)]⟩
    · obtain ⟨t, he, l1, k1⟩ := LM_out h i keys.length (by omega) tmps hl kv (hlen h) h0 h11
      exact ⟨t, h, by rw [e_loop, he, k_loop_exit], l1, k1 7 (by omega)⟩

/-- THE LAW, of any content. -/
theorem last_run (keys : List UInt8) (kv : AVal) (hk : IsSl (keys.map bc) keys.length kv) (gets : List Bool) (gv : AVal) (hg : IsSl (gets.map AVal.bool) gets.length gv) (room : Int) (hr : -9223372036854775808 ≤ room ∧ room < 9223372036854775808) :
    ∃ h', run Cf 3 [kv, gv, .int .i64 room] AHeap.empty = some (.ret (.bool true), h') := by
  obtain ⟨a0, ha0⟩ : ∃ a0, a0 = slots Try.f3 [kv, gv, .int .i64 room] := ⟨_, rfl⟩
  have hl : a0.length = 133 := by rw [ha0]; rfl
  have h0 : a0[0]? = some kv := by rw [ha0]; rfl
  have h1 : a0[1]? = some gv := by rw [ha0]; rfl
  have h2 : a0[2]? = some (.int .i64 room) := by rw [ha0]; rfl
  obtain ⟨r, hpick, hr0, hr9⟩ := pick_run room hr AHeap.empty
  obtain ⟨n, hn⟩ : ∃ n : Nat, (n : Int) = 1 + r := ⟨(1 + r).toNat, by omega⟩
  have hw1 : IntKind.i64.wrap (1 + r) = (n : Int) := by rw [wrap64 (by omega) (by omega), hn]
  have hw2 : IntKind.i64.wrap (65 * (n : Int)) = 65 * (n : Int) := wrap64 (by omega) (by omega)
  obtain ⟨hc, m, hnew, hm, I, hcn, _⟩ := new_run (65 * (n : Int)) AHeap.empty
  have hmm : m = 65 * (n : Int) := by omega
  subst hmm
  have hne : AHeap.empty.next = 0 := rfl
  rw [hne] at hnew I
  have p0 : ∃ t, ex Cf (.seq (Cat [false] (bodyOf Try.f3)) (.seq (Cat [true, false] (bodyOf Try.f3)) (.seq (Cat [true, true, false] (bodyOf Try.f3)) (.seq (Cat [true, true, true, false] (bodyOf Try.f3)) (.seq (Cat [true, true, true, true, false] (bodyOf Try.f3)) (.seq (Cat [true, true, true, true, true, false] (bodyOf Try.f3)) (Cat [true, true, true, true, true, true, false, false] (bodyOf Try.f3)))))))) ⟨a0, AHeap.empty⟩ = some (.normal, ⟨t, hc⟩) ∧ t.length = 133 ∧ t[0]? = some kv ∧ t[1]? = some gv ∧ t[7]? = some (.bool true) ∧ t[8]? = some (.int .i64 n) ∧ t[9]? = some (.ptr 0 0) ∧ t[10]? = some .nilSl ∧ t[11]? = some (.int .i64 0) := by
    simp only [bodyOf, Try.f3, Cat, Bool.false_eq_true, e_seq, e_region, e_cond, e_block, ex_skip, ex_exit, ex_ret, o_cons, xops_nil, k_want_none, k_want_false, k_val, k_pan, k_call, k_ret, k_seq, k_seq_exit, k_seq_ret, k_true, k_false, k_block, k_block_exit, k_block_ret, k_loop, k_loop_exit, k_loop_ret, awanted, aoper, evalO, put, Option.getD_some, List.getElem?_set, acallOp, abuiltin, List.map_cons, List.map_nil, Nat.reduceEqDiff, Nat.reduceLT, List.length_set, Option.map_some, Option.bind_some, Option.bind_eq_bind, add_i, sub_i, mul_i, eql_i, neq_i, lss_i, leq_i, gtr_i, geq_i, ofV, ofCell, ↓reduceIte, List.cons_append, List.nil_append, List.append_nil, List.getElem?_toArray, List.getElem?_cons_succ, List.getElem?_cons_zero, e_draw, g_nil, g_cons, g_want, g_skip, g_val, g_call, g_ret, Option.map_none, hl, h2, awake_run, hpick, hw1, hw2, hnew, CP, Ty.eq26_0]
    exact ⟨_, rfl, by simp [hl], by simp [h0], by simp [h1], by simp [hl], by simp [hl], by simp [hl], by simp [hl], by simp [hl]⟩
  obtain ⟨t0, e0, l0, t00, t01, t07, t08, t09, t010, t011⟩ := p0
  obtain ⟨t1, h1', e1, l1, k1⟩ := LM_loop (n := n) (c := 0) (by omega) (by omega) kv gv keys hk gets hg 200 0 rfl hc _ [] .nilSl (by omega) ⟨⟨0, by omega, I⟩, fun e he => (by cases he), rfl, rfl, Nat.zero_le _⟩ (Acc.nil 1 hc) (fun j hj => by simp [accId] at hj) t0 l0 t00 t01 t08 t09 t010 t011
  rw [t07] at k1
  have p2 : ∃ t, ex Cf (Cat [true, true, true, true, true, true, true] (bodyOf Try.f3)) ⟨t1, h1'⟩ = some (.ret, ⟨t, h1'⟩) ∧ t[6]? = some (.bool true) := by
    simp only [bodyOf, Try.f3, Cat, Bool.false_eq_true, e_seq, e_region, e_cond, e_block, ex_skip, ex_exit, ex_ret, o_cons, xops_nil, k_want_none, k_want_false, k_val, k_pan, k_call, k_ret, k_seq, k_seq_exit, k_seq_ret, k_true, k_false, k_block, k_block_exit, k_block_ret, k_loop, k_loop_exit, k_loop_ret, awanted, aoper, evalO, put, Option.getD_some, List.getElem?_set, acallOp, abuiltin, List.map_cons, List.map_nil, Nat.reduceEqDiff, Nat.reduceLT, List.length_set, Option.map_some, Option.bind_some, Option.bind_eq_bind, add_i, sub_i, mul_i, eql_i, neq_i, lss_i, leq_i, gtr_i, geq_i, ofV, ofCell, ↓reduceIte, List.cons_append, List.nil_append, List.append_nil, List.getElem?_toArray, List.getElem?_cons_succ, List.getElem?_cons_zero, e_draw, g_nil, g_cons, g_want, g_skip, g_val, g_call, g_ret, Option.map_none, l1, k1]
    exact ⟨_, rfl, by simp [l1]⟩
  obtain ⟨t2, e2, t26⟩ := p2
  have hbody : bodyOf Try.f3 = .seq (Cat [false] (bodyOf Try.f3)) (.seq (Cat [true, false] (bodyOf Try.f3)) (.seq (Cat [true, true, false] (bodyOf Try.f3)) (.seq (Cat [true, true, true, false] (bodyOf Try.f3)) (.seq (Cat [true, true, true, true, false] (bodyOf Try.f3)) (.seq (Cat [true, true, true, true, true, false] (bodyOf Try.f3)) (.seq (.seq (Cat [true, true, true, true, true, true, false, false] (bodyOf Try.f3)) (.block 0 (.loop LM))) (Cat [true, true, true, true, true, true, true] (bodyOf Try.f3)))))))) := rfl
  refine ⟨h1', fn_run (fn := Try.f3) (x := .ret) (t := t2) Try.func3 rfl rfl rfl (.inl rfl) ?_ (vs := [.bool true]) (by simp [show Try.f3.results.toList = [ResultVar.tmp 6] from rfl, aresults, ares1, t26])⟩
  rw [← ha0, hbody]
  -- the pieces, one behind the other
  have split : ∀ (a b : Code) (st : ASt) (st' : ASt), ex Cf (.seq a b) st = some (.normal, st') → ∃ s1, ex Cf a st = some (.normal, s1) ∧ ex Cf b s1 = some (.normal, st') := by
    intro a b st st' he
    rw [e_seq] at he
    cases hx : ex Cf a st with
    | none => rw [hx] at he; simp [seqK] at he
    | some q =>
      obtain ⟨x, s1⟩ := q
      rw [hx] at he
      cases x with
      | normal => exact ⟨s1, rfl, he⟩
      | _ => simp [seqK] at he
  obtain ⟨s1, q1, e0⟩ := split _ _ _ _ e0
  obtain ⟨s2, q2, e0⟩ := split _ _ _ _ e0
  obtain ⟨s3, q3, e0⟩ := split _ _ _ _ e0
  obtain ⟨s4, q4, e0⟩ := split _ _ _ _ e0
  obtain ⟨s5, q5, e0⟩ := split _ _ _ _ e0
  obtain ⟨s6, q6, e0⟩ := split _ _ _ _ e0
  rw [e_seq, q1, k_seq, e_seq, q2, k_seq, e_seq, q3, k_seq, e_seq, q4, k_seq, e_seq, q5, k_seq, e_seq, q6, k_seq, e_seq, e_seq, e0, k_seq, e_block, e1, k_block_exit, if_pos rfl, k_seq, e2]
end Go.Am.Cache
