/-
  CACHE: CacheLast: its pieces: pick, the list of keys without one, the comparison at the end of a round.
-/
import Derived.Test.YtgjjmngcmbpjjaaCachePut2
set_option linter.unusedSimpArgs false
set_option linter.unusedVariables false
set_option maxRecDepth 100000
namespace Go.Am.Cache
open Go Go.Am Go.Proofs

def bc (b : UInt8) : AVal := .int .u8 (b.toNat : Nat)
theorem bc_eq (a b : UInt8) : (((a.toNat : Nat) : Int) == ((b.toNat : Nat) : Int)) = decide (a = b) := by
  by_cases h : a = b
  · subst h; simp
  · have : a.toNat ≠ b.toNat := fun e => h (UInt8.toNat_inj.1 e)
    rw [decide_eq_false h]
    simp only [beq_eq_false_iff_ne]
    omega
theorem bs22_1 (n : Int) : abuildSlice Try.prog 22 1 [(0, .int .u8 n)] = some ([.int .u8 n], 1) := by kernel_rfl
theorem conv22 (h : AHeap) (b : UInt8) : aconvert Try.prog h 22 9 (.lst [.int .u8 ((b.toNat : Nat) : Int)] 1 .full) = some (.str [b], h) := by
  have h1 : aconvert Try.prog h 22 9 (.lst [.int .u8 ((b.toNat : Nat) : Int)] 1 .full) = some (.str [UInt8.ofNat (((b.toNat : Nat) : Int).toNat)], h) := by kernel_rfl
  rw [h1]; simp
theorem neq_s (C : Cfg) (t : TypeId) (xo yo : Operand) (h : AHeap) (a b : List UInt8) : abin C .neq t xo yo h (.str a) (.str b) = some (.bool (!(a == b))) := by simp [abin]
theorem ld_iptr (h : AHeap) (cs : List AVal) : loadA h false 1 (.iptr cs) = cs[0]? := rfl
theorem neq_b (xo yo : Operand) (h : AHeap) (a b : Bool) : abin Cf .neq 4 xo yo h (.bool a) (.bool b) = some (.bool (a != b)) := by
  cases a <;> cases b <;> kernel_rfl
theorem rem_i (C : Cfg) (t : TypeId) (xo yo : Operand) (h : AHeap) (k : IntKind) (a b : Int) (hb : b ≠ 0) : abin C .rem t xo yo h (.int k a) (.int k b) = some (.int k (a.tmod b)) := by simp [abin, hb]

theorem pick_run (room : Int) (hr : -9223372036854775808 ≤ room ∧ room < 9223372036854775808) (h : AHeap) : ∃ r : Int, run Cf 8 [.int .i64 room, .int .i64 9] h = some (.ret (.int .i64 r), h) ∧ 0 ≤ r ∧ r < 9 := by
  obtain ⟨a0, ha0⟩ : ∃ a0, a0 = slots Try.f8 [.int .i64 room, .int .i64 9] := ⟨_, rfl⟩
  have hl : a0.length = 13 := by rw [ha0]; rfl
  have i0 : a0[0]? = some (.int .i64 room) := by rw [ha0]; rfl
  have i1 : a0[1]? = some (.int .i64 9) := by rw [ha0]; rfl
  have hres : Try.f8.results.toList = [ResultVar.tmp 4] := rfl
  by_cases hn : room < 0
  · have hd : decide (room < 0) = true := by simpa using hn
    have hw1 : IntKind.i64.wrap (room + 1) = room + 1 := wrap64 (by omega) (by omega)
    have hw2 : IntKind.i64.wrap (0 - (room + 1)) = 0 - (room + 1) := wrap64 (by omega) (by omega)
    have he : ∃ t, ex Cf (bodyOf Try.f8) ⟨a0, h⟩ = some (.ret, ⟨t, h⟩) ∧ t[4]? = some (.int .i64 ((0 - (room + 1)).tmod 9)) := by
      simp only [bodyOf, Try.f8, Bool.false_eq_true, e_seq, e_region, e_cond, e_block, ex_skip, ex_exit, ex_ret, o_cons, xops_nil, k_want_none, k_want_false, k_val, k_pan, k_call, k_ret, k_seq, k_seq_exit, k_seq_ret, k_true, k_false, k_block, k_block_exit, k_block_ret, k_loop, k_loop_exit, k_loop_ret, awanted, aoper, evalO, put, Option.getD_some, List.getElem?_set, acallOp, abuiltin, List.map_cons, List.map_nil, Nat.reduceEqDiff, Nat.reduceLT, List.length_set, Option.map_some, Option.bind_some, Option.bind_eq_bind, add_i, sub_i, mul_i, eql_i, neq_i, lss_i, leq_i, gtr_i, geq_i, ofV, ofCell, ↓reduceIte, List.cons_append, List.nil_append, List.append_nil, List.getElem?_toArray, List.getElem?_cons_succ, List.getElem?_cons_zero, e_draw, g_nil, g_cons, g_want, g_skip, g_val, g_call, g_ret, Option.map_none, hl, i0, i1, hd, hw1, aun, hw2, rem_i _ _ _ _ _ _ _ 9 (by decide)]
      exact ⟨_, rfl, by simp [hl]⟩
    obtain ⟨t, he, h4⟩ := he
    exact ⟨_, fn_run (fn := Try.f8) (x := .ret) Try.func8 rfl rfl rfl (.inl rfl) (by rw [← ha0]; exact he) (vs := [.int .i64 ((0 - (room + 1)).tmod 9)]) (by simp [hres, aresults, ares1, h4]), by rw [Int.tmod_eq_emod_of_nonneg (by omega)]; omega, by rw [Int.tmod_eq_emod_of_nonneg (by omega)]; omega⟩
  · have hd : decide (room < 0) = false := by simpa using hn
    have he : ∃ t, ex Cf (bodyOf Try.f8) ⟨a0, h⟩ = some (.ret, ⟨t, h⟩) ∧ t[4]? = some (.int .i64 (room.tmod 9)) := by
      simp only [bodyOf, Try.f8, Bool.false_eq_true, e_seq, e_region, e_cond, e_block, ex_skip, ex_exit, ex_ret, o_cons, xops_nil, k_want_none, k_want_false, k_val, k_pan, k_call, k_ret, k_seq, k_seq_exit, k_seq_ret, k_true, k_false, k_block, k_block_exit, k_block_ret, k_loop, k_loop_exit, k_loop_ret, awanted, aoper, evalO, put, Option.getD_some, List.getElem?_set, acallOp, abuiltin, List.map_cons, List.map_nil, Nat.reduceEqDiff, Nat.reduceLT, List.length_set, Option.map_some, Option.bind_some, Option.bind_eq_bind, add_i, sub_i, mul_i, eql_i, neq_i, lss_i, leq_i, gtr_i, geq_i, ofV, ofCell, ↓reduceIte, List.cons_append, List.nil_append, List.append_nil, List.getElem?_toArray, List.getElem?_cons_succ, List.getElem?_cons_zero, e_draw, g_nil, g_cons, g_want, g_skip, g_val, g_call, g_ret, Option.map_none, hl, i0, i1, hd, rem_i _ _ _ _ _ _ _ 9 (by decide)]
      exact ⟨_, rfl, by simp [hl]⟩
    obtain ⟨t, he, h4⟩ := he
    exact ⟨_, fn_run (fn := Try.f8) (x := .ret) Try.func8 rfl rfl rfl (.inl rfl) (by rw [← ha0]; exact he) (vs := [.int .i64 (room.tmod 9)]) (by simp [hres, aresults, ares1, h4]), by rw [Int.tmod_eq_emod_of_nonneg (by omega)]; omega, by rw [Int.tmod_eq_emod_of_nonneg (by omega)]; omega⟩

/-! ### the body of a round -/
noncomputable def LM : Code := Cat [true, true, true, true, true, true, false, true, true, true] (bodyOf Try.f3)
noncomputable def LB : Code := Cat [true, false, true] LM
noncomputable def LI : Code := Cat [true, true, true, false, true, true, true] LB
noncomputable def LJ : Code := Cat [true, true, true, true, true, true, true, true, true, true, true, true] LB

theorem LI_out (h : AHeap) (i n : Nat) (hlt : ¬ i < n) (tmps : List AVal) (hl : tmps.length = 133) (uv : AVal) (hlen : alen Try.prog h 22 uv = some (.int .i64 n)) (h10 : tmps[10]? = some uv) (h15 : tmps[15]? = some (.int .i64 i)) :
    ∃ t, ex Cf LI ⟨tmps, h⟩ = some (.exit 2, ⟨t, h⟩) ∧ t.length = 133 ∧ ∀ j, j < 46 → t[j]? = tmps[j]? := by
  have hlt' : decide ((i : Int) < (n : Int)) = false := by simp; omega
  simp only [LI, LB, LM, bodyOf, Try.f3, Cat, Bool.false_eq_true, e_seq, e_region, e_cond, e_block, ex_skip, ex_exit, ex_ret, o_cons, xops_nil, k_want_none, k_want_false, k_val, k_pan, k_call, k_ret, k_seq, k_seq_exit, k_seq_ret, k_true, k_false, k_block, k_block_exit, k_block_ret, k_loop, k_loop_exit, k_loop_ret, awanted, aoper, evalO, put, Option.getD_some, List.getElem?_set, acallOp, abuiltin, List.map_cons, List.map_nil, Nat.reduceEqDiff, Nat.reduceLT, List.length_set, Option.map_some, Option.bind_some, Option.bind_eq_bind, add_i, sub_i, mul_i, eql_i, neq_i, lss_i, leq_i, gtr_i, geq_i, ofV, ofCell, ↓reduceIte, List.cons_append, List.nil_append, List.append_nil, List.getElem?_toArray, List.getElem?_cons_succ, List.getElem?_cons_zero, e_draw, g_nil, g_cons, g_want, g_skip, g_val, g_call, g_ret, Option.map_none, hl, h10, h15, CP, hlen, hlt']
  refine ⟨_, rfl, by simp [hl], fun j hj => ?_⟩
  repeat rw [List.getElem?_set_ne (by omega)]

/-- one key of the list: it goes over into the rest, or is the one -/
theorem LI_in (h : AHeap) (m i n : Nat) (hlt : m < n) (hm : m < 1000000) (tmps : List AVal) (hl : tmps.length = 133) (uv kv rv : AVal) (u k : UInt8) (us ks : List AVal) (rest : List AVal) (rn : Nat) (th : Bool) (hlen : ∀ h, alen Try.prog h 22 uv = some (.int .i64 n))
    (hix : indexAddrA 1 uv m = some (.iptr (bc u :: us))) (hkx : indexAddrA 1 kv i = some (.iptr (bc k :: ks))) (A : Acc 1 h rv rest rn) (hrn : rn < 1000000)
    (h0 : tmps[0]? = some kv) (h10 : tmps[10]? = some uv) (h11 : tmps[11]? = some (.int .i64 i)) (h13 : tmps[13]? = some (.bool th)) (h14 : tmps[14]? = some rv) (h15 : tmps[15]? = some (.int .i64 m)) :
    ∃ t h' rv', ex Cf LI ⟨tmps, h⟩ = some (.normal, ⟨t, h'⟩) ∧ t.length = 133 ∧ (∀ j, j < 46 → j ≠ 13 → j ≠ 14 → j ≠ 15 → t[j]? = tmps[j]?) ∧ t[13]? = some (.bool (th || decide (u = k))) ∧ t[14]? = some rv' ∧ t[15]? = some (.int .i64 (m + 1 : Nat)) ∧
      Acc 1 h' rv' (if u = k then rest else rest ++ [bc u]) (if u = k then rn else rn + 1) ∧ h.next ≤ h'.next ∧ (∀ j, j < h.next → j ∉ accId rv → h'.get j = h.get j) ∧ ∀ j ∈ accId rv', j ∈ accId rv ∨ h.next ≤ j := by
  have hlt' : decide ((m : Int) < (n : Int)) = true := by simp; omega
  have hw : IntKind.i64.wrap ((m : Int) + 1) = ((m + 1 : Nat) : Int) := by rw [wrap64 (by omega) (by omega)]; rfl
  simp only [bc] at hix hkx
  by_cases hu : u = k
  · have hd : (((u.toNat : Nat) : Int) == ((k.toNat : Nat) : Int)) = true := by rw [bc_eq]; simpa using hu
    simp only [LI, LB, LM, bodyOf, Try.f3, Cat, Bool.false_eq_true, e_seq, e_region, e_cond, e_block, ex_skip, ex_exit, ex_ret, o_cons, xops_nil, k_want_none, k_want_false, k_val, k_pan, k_call, k_ret, k_seq, k_seq_exit, k_seq_ret, k_true, k_false, k_block, k_block_exit, k_block_ret, k_loop, k_loop_exit, k_loop_ret, awanted, aoper, evalO, put, Option.getD_some, List.getElem?_set, acallOp, abuiltin, List.map_cons, List.map_nil, Nat.reduceEqDiff, Nat.reduceLT, List.length_set, Option.map_some, Option.bind_some, Option.bind_eq_bind, add_i, sub_i, mul_i, eql_i, neq_i, lss_i, leq_i, gtr_i, geq_i, ofV, ofCell, ↓reduceIte, List.cons_append, List.nil_append, List.append_nil, List.getElem?_toArray, List.getElem?_cons_succ, List.getElem?_cons_zero, e_draw, g_nil, g_cons, g_want, g_skip, g_val, g_call, g_ret, Option.map_none, hl, h0, h10, h11, h13, h14, h15, CP, hlen, hlt', Ty.ix22, hix, hkx, Ty.ld5, ld_iptr, hd]
    rw [k_draw _ _ _ (by kernel_rfl)]
    simp only [Bool.false_eq_true, e_seq, e_region, e_cond, e_block, ex_skip, ex_exit, ex_ret, o_cons, xops_nil, k_want_none, k_want_false, k_val, k_pan, k_call, k_ret, k_seq, k_seq_exit, k_seq_ret, k_true, k_false, k_block, k_block_exit, k_block_ret, k_loop, k_loop_exit, k_loop_ret, awanted, aoper, evalO, put, Option.getD_some, List.getElem?_set, acallOp, abuiltin, List.map_cons, List.map_nil, Nat.reduceEqDiff, Nat.reduceLT, List.length_set, Option.map_some, Option.bind_some, Option.bind_eq_bind, add_i, sub_i, mul_i, eql_i, neq_i, lss_i, leq_i, gtr_i, geq_i, ofV, ofCell, ↓reduceIte, List.cons_append, List.nil_append, List.append_nil, List.getElem?_toArray, List.getElem?_cons_succ, List.getElem?_cons_zero, e_draw, g_nil, g_cons, g_want, g_skip, g_val, g_call, g_ret, Option.map_none, hl, h15, hw]
    refine ⟨_, h, rv, rfl, by simp [hl], fun j hj j13 j14 j15 => ?_, by simp [hl, hu], by simp [h14], by simp [hl], by simpa [hu] using A, Nat.le_refl _, fun _ _ _ => rfl, fun j hj => .inl hj⟩
    repeat rw [List.getElem?_set_ne (by omega)]
  · have hd : (((u.toNat : Nat) : Int) == ((k.toNat : Nat) : Int)) = false := by rw [bc_eq]; simpa using hu
    obtain ⟨v', h', hap, A', hn, hid, hs, _⟩ := append_acc (bytes := 1) (m := 1) (new := [bc u]) (cap := .full) A rfl (by omega) rfl (by omega) (by omega)
    simp only [bc] at hap
    simp only [LI, LB, LM, bodyOf, Try.f3, Cat, Bool.false_eq_true, e_seq, e_region, e_cond, e_block, ex_skip, ex_exit, ex_ret, o_cons, xops_nil, k_want_none, k_want_false, k_val, k_pan, k_call, k_ret, k_seq, k_seq_exit, k_seq_ret, k_true, k_false, k_block, k_block_exit, k_block_ret, k_loop, k_loop_exit, k_loop_ret, awanted, aoper, evalO, put, Option.getD_some, List.getElem?_set, acallOp, abuiltin, List.map_cons, List.map_nil, Nat.reduceEqDiff, Nat.reduceLT, List.length_set, Option.map_some, Option.bind_some, Option.bind_eq_bind, add_i, sub_i, mul_i, eql_i, neq_i, lss_i, leq_i, gtr_i, geq_i, ofV, ofCell, ↓reduceIte, List.cons_append, List.nil_append, List.append_nil, List.getElem?_toArray, List.getElem?_cons_succ, List.getElem?_cons_zero, e_draw, g_nil, g_cons, g_want, g_skip, g_val, g_call, g_ret, Option.map_none, hl, h0, h10, h11, h13, h14, h15, CP, hlen, hlt', Ty.ix22, hix, hkx, Ty.ld5, ld_iptr, hd]
    rw [k_draw _ _ _ (by kernel_rfl)]
    simp only [Bool.false_eq_true, e_seq, e_region, e_cond, e_block, ex_skip, ex_exit, ex_ret, o_cons, xops_nil, k_want_none, k_want_false, k_val, k_pan, k_call, k_ret, k_seq, k_seq_exit, k_seq_ret, k_true, k_false, k_block, k_block_exit, k_block_ret, k_loop, k_loop_exit, k_loop_ret, awanted, aoper, evalO, put, Option.getD_some, List.getElem?_set, acallOp, abuiltin, List.map_cons, List.map_nil, Nat.reduceEqDiff, Nat.reduceLT, List.length_set, Option.map_some, Option.bind_some, Option.bind_eq_bind, add_i, sub_i, mul_i, eql_i, neq_i, lss_i, leq_i, gtr_i, geq_i, ofV, ofCell, ↓reduceIte, List.cons_append, List.nil_append, List.append_nil, List.getElem?_toArray, List.getElem?_cons_succ, List.getElem?_cons_zero, e_draw, g_nil, g_cons, g_want, g_skip, g_val, g_call, g_ret, Option.map_none, hl, h10, h14, h15, CP, Ty.ix22, hix, Ty.ld5, ld_iptr, bs22_1, show Cf.own "law.go:184" = false from by kernel_rfl, Ty.ap22, hap, hw]
    refine ⟨_, h', v', rfl, by simp [hl], fun j hj j13 j14 j15 => ?_, by simp [h13, hu], by simp [hl], by simp [hl], by simpa [hu] using A', by omega, hs, fun j hj => by rw [hid] at hj; simp at hj; right; omega⟩
    repeat rw [List.getElem?_set_ne (by omega)]

/-- THE REST, AND WHETHER THE KEY IS THERE. -/
theorem LI_loop (kv uv : AVal) (i : Nat) (k : UInt8) (ks : List AVal) (hkx : indexAddrA 1 kv i = some (.iptr (bc k :: ks))) (all : List UInt8) (hlen : ∀ h, alen Try.prog h 22 uv = some (.int .i64 all.length)) (hix : ∀ (m : Nat) (u : UInt8), all[m]? = some u → ∃ us, indexAddrA 1 uv m = some (.iptr (bc u :: us))) (hb : all.length ≤ 1000) :
    ∀ (todo pre : List UInt8), all = pre ++ todo → ∀ (h : AHeap) (tmps : List AVal) (rv : AVal), tmps.length = 133 → Acc 1 h rv ((pre.filter (· ≠ k)).map bc) (pre.filter (· ≠ k)).length → tmps[0]? = some kv → tmps[10]? = some uv → tmps[11]? = some (.int .i64 i) → tmps[13]? = some (.bool (decide (k ∈ pre))) → tmps[14]? = some rv → tmps[15]? = some (.int .i64 pre.length) →
    ∃ t h' rv', ex Cf (.loop LI) ⟨tmps, h⟩ = some (.exit 2, ⟨t, h'⟩) ∧ t.length = 133 ∧ (∀ j, j < 46 → j ≠ 13 → j ≠ 14 → j ≠ 15 → t[j]? = tmps[j]?) ∧ t[13]? = some (.bool (decide (k ∈ all))) ∧ t[14]? = some rv' ∧
      Acc 1 h' rv' ((all.filter (· ≠ k)).map bc) (all.filter (· ≠ k)).length ∧ h.next ≤ h'.next ∧ (∀ j, j < h.next → j ∉ accId rv → h'.get j = h.get j) ∧ ∀ j ∈ accId rv', j ∈ accId rv ∨ h.next ≤ j := by
  intro todo
  induction todo with
  | nil =>
    intro pre hp h tmps rv hl A h0 h10 h11 h13 h14 h15
    have hpe : all = pre := by rw [hp]; simp
    obtain ⟨t, he, l1, hk⟩ := LI_out h pre.length all.length (by rw [hpe]; omega) tmps hl uv (hlen h) h10 h15
    refine ⟨t, h, rv, by rw [e_loop, he, k_loop_exit], l1, fun j hj _ _ _ => hk j hj, by rw [hk 13 (by omega), h13, hpe], by rw [hk 14 (by omega), h14], by rw [hpe]; exact A, Nat.le_refl _, fun _ _ _ => rfl, fun j hj => .inl hj⟩
  | cons u todo ih =>
    intro pre hp h tmps rv hl A h0 h10 h11 h13 h14 h15
    obtain ⟨us, hux⟩ := hix pre.length u (by rw [hp]; simp)
    have hpl : pre.length < all.length := by rw [hp]; simp
    have hfl := List.length_filter_le (fun x => decide (x ≠ k)) pre
    obtain ⟨t1, h1, rv1, he, l1, k1, g13, g14, g15, A1, n1, s1, id1⟩ := LI_in h pre.length i all.length hpl (by omega) tmps hl uv kv rv u k us ks _ _ (decide (k ∈ pre)) hlen hux hkx A (by omega) h0 h10 h11 h13 h14 h15
    have A1' : Acc 1 h1 rv1 (((pre ++ [u]).filter (· ≠ k)).map bc) ((pre ++ [u]).filter (· ≠ k)).length := by
      rw [List.filter_append]
      by_cases hu : u = k
      · simpa [hu] using A1
      · simpa [hu] using A1
    have g13' : t1[13]? = some (.bool (decide (k ∈ pre ++ [u]))) := by
      rw [g13]; congr 2
      rw [← Bool.decide_or]
      congr 1
      simp [eq_comm]
    obtain ⟨t2, h2, rv2, he2, l2, k2, q13, q14, A2, n2, s2, id2⟩ := ih (pre ++ [u]) (by simp [hp]) h1 t1 rv1 l1 A1' (by rw [k1 0 (by omega) (by omega) (by omega) (by omega)]; exact h0) (by rw [k1 10 (by omega) (by omega) (by omega) (by omega)]; exact h10) (by rw [k1 11 (by omega) (by omega) (by omega) (by omega)]; exact h11) g13' g14 (by simpa using g15)
    refine ⟨t2, h2, rv2, by rw [e_loop, he, k_loop]; exact he2, l2, fun j hj a b c => (k2 j hj a b c).trans (k1 j hj a b c), q13, q14, A2, by omega, fun j hj hjr => (s2 j (by omega) (fun hm => ?_)).trans (s1 j hj hjr), fun j hj => ?_⟩
    · rcases id1 j hm with h5 | h5
      · exact hjr h5
      · omega
    · rcases id2 j hj with h5 | h5
      · exact id1 j h5
      · right; omega
end Go.Am.Cache
