/-
  CUBE: the program's All.
-/
import Derived.Test.YtgjdlakemaabfaaCubeAllPre
import Derived.Test.YtgjdlakemaabfaaCubeSortKe
set_option linter.unusedVariables false
set_option linter.unusedSimpArgs false
set_option linter.unusedSimpArgs false
set_option linter.unusedVariables false
set_option maxRecDepth 100000
namespace Go.Proofs.Cube
open Go Go.Am Go.Proofs Go.RowKit

def Hx (cs : List AVal) : AHeap := ⟨fun j => if j = 0 then some (.arr cs) else none, 1⟩
theorem Hx_set (a b : List AVal) : (Hx a).set 0 (some (.arr b)) = Hx b := by
  unfold Hx AHeap.set
  simp only [AHeap.mk.injEq, and_true]
  funext j
  split <;> rfl
def skip9 (f : FuncId) : Bool := [54, 55, 70].contains f
def okS (L : List Int) : Option (ARes × AHeap) → Bool
  | some (.ret v, h1) => eqA v (.tup []) && (match h1.get 0 with
    | some (.arr cs) => eqAs cs (ints L)
    | _ => false)
  | _ => false
def upto (n : Nat) : List Int := (List.range n).map fun s : Nat => (s : Int)
def sorts (n : Nat) (L : List Int) : Prop := ∃ h1, run Cf 40 [.sl 0 0 1 n n false, .int .i64 n, .fn (.func 25) [] []] (Hx (ints (upto n))) = some (.ret (.tup []), h1) ∧ h1.get 0 = some (.arr (ints L))
theorem sorts_of {n : Nat} {L : List Int} {tbl : List Known} (hg : ∀ e ∈ tbl, e.Good Cf 120)
    (h : okS L (abodyX Cf (orc Cf 120 skip9 tbl) 120 40 Try.f40 (bodyOf Try.f40) [.sl 0 0 1 n n false, .int .i64 n, .fn (.func 25) [] []] (Hx (ints (upto n)))) = true) : sorts n L := by
  cases hq : abodyX Cf (orc Cf 120 skip9 tbl) 120 40 Try.f40 (bodyOf Try.f40) [.sl 0 0 1 n n false, .int .i64 n, .fn (.func 25) [] []] (Hx (ints (upto n))) with
  | none => rw [hq] at h; cases h
  | some q =>
    obtain ⟨x, h1⟩ := q
    rw [hq] at h
    cases x with
    | pan v => cases h
    | ret v =>
      simp only [okS, Bool.and_eq_true] at h
      obtain ⟨ha, hb⟩ := h
      have ha := eqA_ok _ _ ha
      subst ha
      refine ⟨h1, ?_, ?_⟩
      · have := abodyX_le (orc_le hg) (Nat.le_refl 120) hq
        refine run_of (n := 121) ?_
        rw [arun]
        simp only [show Cf.summ 40 = none from rfl, show Cf.P.funcs[40]? = some Try.f40 from Try.func40, show Try.f40.body = some (bodyOf Try.f40) from rfl, show Cf.foc 40 = false from rfl, Bool.false_eq_true, if_false]
        exact this
      · revert hb
        cases hn : h1.get 0 with
        | none => simp
        | some b =>
          cases b with
          | arr cs => intro hb; rw [eqAs_ok _ _ hb]
          | _ => simp
theorem one {C : Cfg} {n : Nat} {a : Known} (ha : a.Good C n) : ∀ e ∈ [a], e.Good C n := by intro e he; simp only [List.mem_singleton] at he; subst he; exact ha
theorem all0 : sorts 1 (lev 1 7) := sorts_of (one (g0_0.up (by decide))) (by kernel_rfl)
theorem all1 : sorts 2 (lev 2 7) := sorts_of (one (g1_0.up (by decide))) (by kernel_rfl)
theorem all2 : sorts 4 (lev 4 7) := sorts_of (one (g2_0.up (by decide))) (by kernel_rfl)
theorem all3 : sorts 8 (lev 8 7) := sorts_of (one (g3_0.up (by decide))) (by kernel_rfl)
theorem all4 : sorts 16 (lev 16 7) := sorts_of (one (g4_0.up (by decide))) (by kernel_rfl)
theorem all5 : sorts 32 (lev 32 7) := sorts_of (tbl := [e5_0, e5_1, e5_17]) (by intro e he; simp only [List.mem_cons, List.not_mem_nil, or_false] at he; rcases he with rfl | rfl | rfl; all_goals first | exact g5_0.up (by decide) | exact g5_1.up (by decide) | exact g5_17.up (by decide)) (by kernel_rfl)
theorem all6 : sorts 64 (lev 64 7) := sorts_of (tbl := [e6_0, e6_1, e6_2, e6_3, e6_25, e6_34, e6_66]) (by intro e he; simp only [List.mem_cons, List.not_mem_nil, or_false] at he; rcases he with rfl | rfl | rfl | rfl | rfl | rfl | rfl; all_goals first | exact g6_0.up (by decide) | exact g6_1.up (by decide) | exact g6_2.up (by decide) | exact g6_3.up (by decide) | exact g6_25.up (by decide) | exact g6_34.up (by decide) | exact g6_66.up (by decide)) (by kernel_rfl)
theorem all_sorts {k : Nat} (hk : k ≤ 6) : sorts (2 ^ k) (lev (2 ^ k) 7) := by
  obtain rfl | rfl | rfl | rfl | rfl | rfl | rfl : k = 0 ∨ k = 1 ∨ k = 2 ∨ k = 3 ∨ k = 4 ∨ k = 5 ∨ k = 6 := by omega
  all_goals first | exact all0 | exact all1 | exact all2 | exact all3 | exact all4 | exact all5 | exact all6

theorem sortStable_run {n : Nat} {L : List Int} (hs : sorts n L) : ∃ h1, run Cf 24 [.sl 0 0 1 n n false, .fn (.func 25) [] []] (Hx (ints (upto n))) = some (.ret (.tup []), h1) ∧ h1.get 0 = some (.arr (ints L)) := by
  obtain ⟨h1, hr, hg⟩ := hs
  refine ⟨h1, ?_, hg⟩
  obtain ⟨a0, ha0⟩ : ∃ a0, a0 = slots Try.f24 [.sl 0 0 1 n n false, .fn (.func 25) [] []] := ⟨_, rfl⟩
  have hl : a0.length = 9 := by rw [ha0]; rfl
  have i0 : a0[0]? = some (.sl 0 0 1 n n false) := by rw [ha0]; rfl
  have i1 : a0[1]? = some (.fn (.func 25) [] []) := by rw [ha0]; rfl
  have hlen : alen Try.prog (Hx (ints (upto n))) 24 (.sl 0 0 1 n n false) = some (.int .i64 n) := by
    simp only [alen, show Try.prog.underlying 24 = some (.slice 3) from rfl, Option.bind_eq_bind, Option.bind_some]
  have p : ∃ t, ex Cf (bodyOf Try.f24) ⟨a0, Hx (ints (upto n))⟩ = some (.normal, ⟨t, h1⟩) := by
    simp only [bodyOf, Try.f24, Cat, Bool.false_eq_true, e_seq, e_region, e_cond, e_block, ex_skip, ex_exit, ex_ret, o_cons, xops_nil, k_want_none, k_want_false, k_val, k_pan, k_call, k_ret, k_seq, k_seq_exit, k_seq_ret, k_true, k_false, k_block, k_block_exit, k_block_ret, k_loop, k_loop_exit, k_loop_ret, awanted, aoper, evalO, put, Option.getD_some, List.getElem?_set, acallOp, abuiltin, List.map_cons, List.map_nil, Nat.reduceEqDiff, Nat.reduceLT, List.length_set, Option.map_some, Option.bind_some, Option.bind_eq_bind, add_i, sub_i, mul_i, eql_i, neq_i, lss_i, leq_i, gtr_i, geq_i, ofV, ofCell, ↓reduceIte, List.cons_append, List.nil_append, List.append_nil, List.getElem?_toArray, List.getElem?_cons_succ, List.getElem?_cons_zero, e_draw, g_nil, g_cons, g_want, g_skip, g_val, g_call, g_ret, Option.map_none, hl, i0, i1, CP, hlen, hr]
    exact ⟨_, rfl⟩
  obtain ⟨t, e⟩ := p
  exact fn_run (fn := Try.f24) (x := .normal) Try.func24 rfl rfl rfl (.inr rfl) (by rw [← ha0]; exact e) (vs := []) rfl

/-! ### the loop that fills it -/
def fill (n k : Nat) : List AVal := ints (upto k) ++ zerosA [.int .i64 0] (n - k)
theorem zerosA_len (m : Nat) : (zerosA [AVal.int .i64 0] m).length = m := by
  induction m with
  | zero => rfl
  | succ m ih => simp [zerosA, ih]
theorem upto_len (k : Nat) : (upto k).length = k := by simp [upto]
theorem fill_len {n k : Nat} (h : k ≤ n) : (fill n k).length = n := by
  simp [fill, ints, zerosA_len, upto_len]; omega
theorem upto_succ (k : Nat) : upto (k + 1) = upto k ++ [(k : Int)] := by simp [upto, List.range_succ]
theorem fill_step {n k : Nat} (h : k < n) : (fill n k).set k (.int .i64 k) = fill n (k + 1) := by
  unfold fill
  obtain ⟨m, hm⟩ : ∃ m, n - k = m + 1 := ⟨n - k - 1, by omega⟩
  have hk : (ints (upto k)).length = k := by simp [ints, upto_len]
  rw [hm, show n - (k + 1) = m by omega, List.set_append_right _ _ (by omega), hk, Nat.sub_self, upto_succ]
  simp [zerosA, ints]
theorem own43 : Cf.own "cube.go:43" = false := by kernel_rfl
theorem app9 {n k : Nat} (hk : k < n) : appendA false (Hx (fill n k)) 1 8 (.sl 0 0 1 k n false) (.lst [.int .i64 k] 1 .full) = some (.sl 0 0 1 (k + 1) n false, Hx (fill n (k + 1))) := by
  have hf := fill_len (n := n) (k := k) (by omega)
  simp only [appendA, lenA, srcCells, Option.bind_eq_bind, Option.bind_some]
  rw [if_pos ⟨Nat.le_refl _, rfl⟩]
  simp only [Option.bind_some]
  rw [if_pos (show (List.take (1 * 1) [AVal.int .i64 (k : Int)]).all AVal.isCell = true from rfl)]
  rw [show (Hx (fill n k)).get 0 = some (.arr (fill n k)) from rfl]
  simp only
  rw [if_pos ⟨trivial, by omega, by omega⟩, if_pos (by omega)]
  rw [show setRange (fill n k) (0 + k * 1) (List.take (1 * 1) [AVal.int .i64 (k : Int)]) = (fill n k).set k (.int .i64 k) by simp [setRange], fill_step hk, Hx_set]
noncomputable def L9 : Code := Cat [true, true, false, true, true, true] (bodyOf Try.f9)
theorem L9_out (n : Nat) (tmps : List AVal) (h : AHeap) (hl : tmps.length = 23) (h11 : tmps[11]? = some (.int .i64 n)) (h12 : tmps[12]? = some (.int .i64 n)) :
    ∃ t : List AVal, ex Cf L9 ⟨tmps, h⟩ = some (.exit 0, ⟨t, h⟩) ∧ t.length = 23 ∧ t[3]? = tmps[3]? := by
  have hlt' : decide ((n : Int) < (n : Int)) = false := by simp
  simp only [L9, bodyOf, Try.f9, Cat, Bool.false_eq_true, e_seq, e_region, e_cond, e_block, ex_skip, ex_exit, ex_ret, o_cons, xops_nil, k_want_none, k_want_false, k_val, k_pan, k_call, k_ret, k_seq, k_seq_exit, k_seq_ret, k_true, k_false, k_block, k_block_exit, k_block_ret, k_loop, k_loop_exit, k_loop_ret, awanted, aoper, evalO, put, Option.getD_some, List.getElem?_set, acallOp, abuiltin, List.map_cons, List.map_nil, Nat.reduceEqDiff, Nat.reduceLT, List.length_set, Option.map_some, Option.bind_some, Option.bind_eq_bind, add_i, sub_i, mul_i, eql_i, neq_i, lss_i, leq_i, gtr_i, geq_i, ofV, ofCell, ↓reduceIte, List.cons_append, List.nil_append, List.append_nil, List.getElem?_toArray, List.getElem?_cons_succ, List.getElem?_cons_zero, e_draw, g_nil, g_cons, g_want, g_skip, g_val, g_call, g_ret, Option.map_none, hl, h11, h12, hlt']
  exact ⟨_, rfl, by simp [hl], by simp⟩
theorem L9_in (n k : Nat) (hk : k < n) (hn : n ≤ 64) (tmps : List AVal) (hl : tmps.length = 23) (h3 : tmps[3]? = some (.sl 0 0 1 k n false)) (h11 : tmps[11]? = some (.int .i64 n)) (h12 : tmps[12]? = some (.int .i64 k)) :
    ∃ t : List AVal, ex Cf L9 ⟨tmps, Hx (fill n k)⟩ = some (.normal, ⟨t, Hx (fill n (k + 1))⟩) ∧ t.length = 23 ∧ t[3]? = some (.sl 0 0 1 (k + 1) n false) ∧ t[11]? = some (.int .i64 n) ∧ t[12]? = some (.int .i64 (k + 1 : Nat)) := by
  have hlt' : decide ((k : Int) < (n : Int)) = true := by simp; omega
  have hw : IntKind.i64.wrap ((k : Int) + 1) = ((k + 1 : Nat) : Int) := by rw [wrap64 (by omega) (by omega)]; rfl
  have hap := app9 hk
  simp only [L9, bodyOf, Try.f9, Cat, Bool.false_eq_true, e_seq, e_region, e_cond, e_block, ex_skip, ex_exit, ex_ret, o_cons, xops_nil, k_want_none, k_want_false, k_val, k_pan, k_call, k_ret, k_seq, k_seq_exit, k_seq_ret, k_true, k_false, k_block, k_block_exit, k_block_ret, k_loop, k_loop_exit, k_loop_ret, awanted, aoper, evalO, put, Option.getD_some, List.getElem?_set, acallOp, abuiltin, List.map_cons, List.map_nil, Nat.reduceEqDiff, Nat.reduceLT, List.length_set, Option.map_some, Option.bind_some, Option.bind_eq_bind, add_i, sub_i, mul_i, eql_i, neq_i, lss_i, leq_i, gtr_i, geq_i, ofV, ofCell, ↓reduceIte, List.cons_append, List.nil_append, List.append_nil, List.getElem?_toArray, List.getElem?_cons_succ, List.getElem?_cons_zero, e_draw, g_nil, g_cons, g_want, g_skip, g_val, g_call, g_ret, Option.map_none, hl, h3, h11, h12, hlt', hw, CP, Ty.bs24_1, own43, Ty.ap24, hap]
  exact ⟨_, rfl, by simp [hl], by simp [hl], by simp [h11], by simp [hl]⟩
theorem L9_loop (n : Nat) (hn : n ≤ 64) : ∀ (m k : Nat) (hk : k + m = n) (tmps : List AVal) (hl : tmps.length = 23) (h3 : tmps[3]? = some (.sl 0 0 1 k n false)) (h11 : tmps[11]? = some (.int .i64 n)) (h12 : tmps[12]? = some (.int .i64 k)),
    ∃ t : List AVal, ex Cf (.loop L9) ⟨tmps, Hx (fill n k)⟩ = some (.exit 0, ⟨t, Hx (fill n n)⟩) ∧ t.length = 23 ∧ t[3]? = some (.sl 0 0 1 n n false) := by
  intro m
  induction m with
  | zero =>
    intro k hk tmps hl h3 h11 h12
    obtain rfl : k = n := by omega
    obtain ⟨t, e, l1, k1⟩ := L9_out k tmps _ hl h11 h12
    exact ⟨t, by rw [e_loop, e, k_loop_exit], l1, by rw [k1]; exact h3⟩
  | succ m ih =>
    intro k hk tmps hl h3 h11 h12
    obtain ⟨t1, e1, l1, t13, t111, t112⟩ := L9_in n k (by omega) hn tmps hl h3 h11 h12
    obtain ⟨t2, e2, q⟩ := ih (k + 1) (by omega) t1 l1 t13 t111 t112
    exact ⟨t2, by rw [e_loop, e1, k_loop]; exact e2, q⟩
theorem normL_ints (keep : Nat → Bool) (hop : Nat → Option (List AVal)) (L : List Int) : normL keep hop (ints L) = some (ints L) := by
  unfold ints
  induction L with
  | nil => rfl
  | cons x L ih => simp only [List.map_cons, normL, normW, ih]
theorem hops9 {h : AHeap} {L : List Int} (hg : h.get 0 = some (.arr (ints L))) : hops (fun _ => false) h depth 0 = some (ints L) := by
  rw [show depth = 99 + 1 from rfl, hops, hg]
  simp only [Bool.false_eq_true, if_false]
  exact normL_ints _ _ _
theorem norm9 {h : AHeap} {n : Nat} {L : List Int} (hL : L.length = n) (hg : h.get 0 = some (.arr (ints L))) : normRes (fun _ => false) h depth (.ret (.sl 0 0 1 n n false)) = some (.ret (.lst (ints L) n .unk)) := by
  have hh := hops9 hg
  unfold normRes norm
  generalize hops (fun _ => false) h depth = hop at hh
  simp only [normW, Bool.false_eq_true, if_false, hh]
  rw [if_pos ⟨Nat.le_refl _, by simp [ints, hL]⟩]
  simp only [Nat.mul_one, List.drop_zero]
  rw [List.take_of_length_le (by simp [ints, hL])]
  rfl
theorem all_run (d : Int) : ∃ v, IntsC v (lev (cntN d) 7) ∧ ∀ h, run Cf 9 [.int .i64 d] h = some (.ret v, h) := by
  obtain ⟨k, hkk⟩ : ∃ k : Nat, keepI d = (k : Int) := ⟨(keepI d).toNat, by have := keep_le d; omega⟩
  have hk6 : k ≤ 6 := by have := keep_le d; omega
  have hc : cntN d = 2 ^ k := by unfold cntN; rw [hkk, Int.toNat_natCast]
  rw [hc]
  have hn64 : 2 ^ k ≤ 64 := Nat.pow_le_pow_right (n := 2) (by decide) hk6
  have hbody : bodyOf Try.f9 = .seq (Cat [false] (bodyOf Try.f9)) (.seq (Cat [true, false] (bodyOf Try.f9)) (.seq (.seq (Cat [true, true, false, false] (bodyOf Try.f9)) (.block 0 (.loop L9))) (.seq (Cat [true, true, true, false] (bodyOf Try.f9)) (Cat [true, true, true, true] (bodyOf Try.f9))))) := rfl
  obtain ⟨h1, hr, hg⟩ := sortStable_run (all_sorts hk6)
  have hlen : (lev (2 ^ k) 7).length = 2 ^ k := by
    obtain rfl | rfl | rfl | rfl | rfl | rfl | rfl : k = 0 ∨ k = 1 ∨ k = 2 ∨ k = 3 ∨ k = 4 ∨ k = 5 ∨ k = 6 := by omega
    all_goals exact of_decide_eq_true (by kernel_rfl)
  obtain ⟨s0, e0, s1, e1, e2⟩ := pre_run d hkk hk6
  obtain ⟨n, hnn⟩ : ∃ n, n = 2 ^ k := ⟨_, rfl⟩
  rw [← hnn] at hn64 hr hg hlen e2 ⊢
  have hS : S9 d n = ⟨(S9 d n).tmps, Hx (fill n 0)⟩ := rfl
  rw [hS] at e2
  obtain ⟨t3, e3, l3, t33⟩ := L9_loop n hn64 n 0 (by omega) (S9 d n).tmps rfl rfl rfl rfl
  have hfl : fill n n = ints (upto n) := by simp [fill, zerosA]
  rw [hfl] at e3
  have p4 : ∃ t, ex Cf (Cat [true, true, true, false] (bodyOf Try.f9)) ⟨t3, Hx (ints (upto n))⟩ = some (.normal, ⟨t, h1⟩) ∧ t.length = 23 ∧ t[3]? = some (.sl 0 0 1 n n false) := by
    simp only [bodyOf, Try.f9, Cat, Bool.false_eq_true, e_seq, e_region, e_cond, e_block, ex_skip, ex_exit, ex_ret, o_cons, xops_nil, k_want_none, k_want_false, k_val, k_pan, k_call, k_ret, k_seq, k_seq_exit, k_seq_ret, k_true, k_false, k_block, k_block_exit, k_block_ret, k_loop, k_loop_exit, k_loop_ret, awanted, aoper, evalO, put, Option.getD_some, List.getElem?_set, acallOp, abuiltin, List.map_cons, List.map_nil, Nat.reduceEqDiff, Nat.reduceLT, List.length_set, Option.map_some, Option.bind_some, Option.bind_eq_bind, add_i, sub_i, mul_i, eql_i, neq_i, lss_i, leq_i, gtr_i, geq_i, ofV, ofCell, ↓reduceIte, List.cons_append, List.nil_append, List.append_nil, List.getElem?_toArray, List.getElem?_cons_succ, List.getElem?_cons_zero, e_draw, g_nil, g_cons, g_want, g_skip, g_val, g_call, g_ret, Option.map_none, l3, t33, hr]
    exact ⟨_, rfl, by simp [l3], by simp [t33]⟩
  obtain ⟨t4, e4, l4, t43⟩ := p4
  have p5 : ∃ t, ex Cf (Cat [true, true, true, true] (bodyOf Try.f9)) ⟨t4, h1⟩ = some (.ret, ⟨t, h1⟩) ∧ t[2]? = some (.sl 0 0 1 n n false) := by
    simp only [bodyOf, Try.f9, Cat, Bool.false_eq_true, e_seq, e_region, e_cond, e_block, ex_skip, ex_exit, ex_ret, o_cons, xops_nil, k_want_none, k_want_false, k_val, k_pan, k_call, k_ret, k_seq, k_seq_exit, k_seq_ret, k_true, k_false, k_block, k_block_exit, k_block_ret, k_loop, k_loop_exit, k_loop_ret, awanted, aoper, evalO, put, Option.getD_some, List.getElem?_set, acallOp, abuiltin, List.map_cons, List.map_nil, Nat.reduceEqDiff, Nat.reduceLT, List.length_set, Option.map_some, Option.bind_some, Option.bind_eq_bind, add_i, sub_i, mul_i, eql_i, neq_i, lss_i, leq_i, gtr_i, geq_i, ofV, ofCell, ↓reduceIte, List.cons_append, List.nil_append, List.append_nil, List.getElem?_toArray, List.getElem?_cons_succ, List.getElem?_cons_zero, e_draw, g_nil, g_cons, g_want, g_skip, g_val, g_call, g_ret, Option.map_none, l4, t43]
    exact ⟨_, rfl, by simp [l4]⟩
  obtain ⟨t5, e5, t52⟩ := p5
  refine ⟨.lst (ints (lev n 7)) n .unk, ⟨.inr ⟨.unk, by rw [hlen]; rfl⟩, ?_⟩, fun h => ?_⟩
  · simp [contB, ints, contBs_ints]
  · exact fn_runC (fn := Try.f9) (x := .ret) Try.func9 rfl rfl rfl rfl (.inl rfl) (t := t5) (h' := h1) (by rw [hbody, e_seq, e0, k_seq, e_seq, e1, k_seq, e_seq, e_seq, e2, k_seq, e_block, e3, k_block_exit, if_pos rfl, k_seq, e_seq, e4, k_seq, e5]) (vs := [_]) (by simp only [show Try.f9.results.toList = [ResultVar.tmp 2] from rfl, aresults, ares1, t52]; rfl) (norm9 hlen hg) h
end Go.Proofs.Cube
