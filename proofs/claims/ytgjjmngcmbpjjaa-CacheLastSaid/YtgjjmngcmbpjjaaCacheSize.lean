/-
  CACHE: what Size tells of a result: 64 and its key's letters, and so on: by the abstract machine, over content.
-/
import Derived.Test.YtgjjmngcmbpjjaaChecked
import Derived.Test.YtgjjmngcmbpjjaaAmStep
import Derived.Test.YtgjjmngcmbpjjaaAmTop
import Derived.KernelRfl
set_option linter.unusedVariables false
set_option linter.unusedSimpArgs false
set_option maxRecDepth 100000
namespace Go.Am.Cache
open Go Go.Am Go.Proofs

noncomputable def Cf : Cfg := { P := Try.prog, foc := fun f => [7, 22, 23, 26, 31, 34, 36, 45, 46, 47, 48].contains f, summ := fun _ => none, glob := fun _ => none, own := fun p => ["cache.go:26"].contains p }
theorem CP : Cf.P = Try.prog := rfl

theorem ld_9 (h : AHeap) (p : AVal) : aload Try.prog h 9 p = loadA h false 1 p := by kernel_rfl
theorem ld_28 (h : AHeap) (p : AVal) : aload Try.prog h 28 p = loadA h false 1 p := by kernel_rfl
theorem ld_29 (h : AHeap) (p : AVal) : aload Try.prog h 29 p = loadA h false 1 p := by kernel_rfl
theorem ld_77 (h : AHeap) (p : AVal) : aload Try.prog h 77 p = loadA h false 1 p := by kernel_rfl
theorem ld_80 (h : AHeap) (p : AVal) : aload Try.prog h 80 p = loadA h true 3 p := by kernel_rfl
theorem st_80 (h : AHeap) (p v : AVal) : astore Try.prog h 80 p v = storeA h 3 p v := by kernel_rfl
theorem fa_31_0 (p : AVal) : afieldAddr Try.prog 31 p 0 = dropCells 0 p := by kernel_rfl
theorem fa_31_1 (p : AVal) : afieldAddr Try.prog 31 p 1 = dropCells 1 p := by kernel_rfl
theorem fa_80_2 (p : AVal) : afieldAddr Try.prog 80 p 2 = dropCells 2 p := by kernel_rfl
theorem ix_28 (x : AVal) (k : IntKind) (i : Int) : aindexAddr Try.prog 28 x (.int k i) = indexAddrA 1 x i := by kernel_rfl
theorem ix_29 (x : AVal) (k : IntKind) (i : Int) : aindexAddr Try.prog 29 x (.int k i) = indexAddrA 1 x i := by kernel_rfl
theorem ix_77 (x : AVal) (k : IntKind) (i : Int) : aindexAddr Try.prog 77 x (.int k i) = indexAddrA 3 x i := by kernel_rfl
theorem ze_80 : zeroA Try.prog 80 = some (.agg [.int .i64 0, .int .i64 0, .str []]) := by kernel_rfl
noncomputable def L1 : Code := Cat [true, true, false, true, true, true] (bodyOf Try.f23)
theorem L1_out (h : AHeap) (i n : Nat) (hlt : ¬ i < n) (tmps : List AVal) (hl : tmps.length = 52) (h17 : tmps[17]? = some (.int .i64 n)) (h18 : tmps[18]? = some (.int .i64 i)) :
    ex Cf L1 ⟨tmps, h⟩ = some (.exit 0, ⟨tmps.set 19 (.bool false), h⟩) := by
  have hlt' : decide ((i : Int) < (n : Int)) = false := by simp; omega
  simp only [L1, bodyOf, Try.f23, Cat, Bool.false_eq_true, e_seq, e_region, e_cond, e_block, ex_skip, ex_exit, ex_ret, o_cons, xops_nil, k_want_none, k_want_false, k_val, k_pan, k_call, k_ret, k_seq, k_seq_exit, k_seq_ret, k_true, k_false, k_block, k_block_exit, k_block_ret, k_loop, k_loop_exit, k_loop_ret, awanted, aoper, evalO, put, Option.getD_some, List.getElem?_set, acallOp, abuiltin, List.map_cons, List.map_nil, Nat.reduceEqDiff, Nat.reduceLT, List.length_set, Option.map_some, Option.bind_some, Option.bind_eq_bind, add_i, sub_i, mul_i, eql_i, neq_i, lss_i, leq_i, gtr_i, geq_i, ofV, ofCell, ↓reduceIte, loadA, ofCells, List.cons_append, List.nil_append, List.append_nil, List.getElem?_toArray, List.getElem?_cons_succ, List.getElem?_cons_zero, e_draw, g_nil, g_cons, g_want, g_skip, g_val, g_call, g_ret, Option.map_none, hl, h17, h18, hlt']
theorem L1_in (h : AHeap) (i m : Nat) (hlt : i < m) (n : Int) (hn : 0 ≤ n) (s : List UInt8) (hb : n + (8 + s.length : Int) ≤ 4611686018427387904) (hi : i < 4611686018427387904) (cv : AVal) (cells : List AVal) (hix : indexAddrA 1 cv i = some (.iptr (.str s :: cells)))
    (tmps : List AVal) (hl : tmps.length = 52) (h5 : tmps[5]? = some (.int .i64 n)) (h16 : tmps[16]? = some cv) (h17 : tmps[17]? = some (.int .i64 m)) (h18 : tmps[18]? = some (.int .i64 i)) :
    ∃ tmps', ex Cf L1 ⟨tmps, h⟩ = some (.normal, ⟨tmps', h⟩) ∧ tmps'.length = 52 ∧ tmps'[5]? = some (.int .i64 (n + (8 + s.length))) ∧ tmps'[16]? = some cv ∧ tmps'[17]? = some (.int .i64 m) ∧ tmps'[18]? = some (.int .i64 (i + 1 : Nat)) ∧ tmps'[3]? = tmps[3]? := by
  have hlt' : decide ((i : Int) < (m : Int)) = true := by simp; omega
  simp only [L1, bodyOf, Try.f23, Cat, Bool.false_eq_true, e_seq, e_region, e_cond, e_block, ex_skip, ex_exit, ex_ret, o_cons, xops_nil, k_want_none, k_want_false, k_val, k_pan, k_call, k_ret, k_seq, k_seq_exit, k_seq_ret, k_true, k_false, k_block, k_block_exit, k_block_ret, k_loop, k_loop_exit, k_loop_ret, awanted, aoper, evalO, put, Option.getD_some, List.getElem?_set, acallOp, abuiltin, List.map_cons, List.map_nil, Nat.reduceEqDiff, Nat.reduceLT, List.length_set, Option.map_some, Option.bind_some, Option.bind_eq_bind, add_i, sub_i, mul_i, eql_i, neq_i, lss_i, leq_i, gtr_i, geq_i, ofV, ofCell, ↓reduceIte, loadA, ofCells, List.cons_append, List.nil_append, List.append_nil, List.getElem?_toArray, List.getElem?_cons_succ, List.getElem?_cons_zero, e_draw, g_nil, g_cons, g_want, g_skip, g_val, g_call, g_ret, Option.map_none, hl, h5, h16, h17, h18, hlt', ix_28, ld_9, hix, CP, List.getElem?_cons_zero, alen, Try.underlying9]
  rw [wrap64 (x := (i : Int) + 1) (by omega) (by omega), wrap64 (x := 8 + (s.length : Int)) (by omega) (by omega), wrap64 (x := n + _) (by omega) (by omega)]
  exact ⟨_, rfl, by simp [hl], by simp [hl], by simp [h16], by simp [h17], by simp [hl], by simp⟩
theorem L1_loop (h : AHeap) (all : List (List UInt8)) (cap : Cap) : ∀ (rest : List (List UInt8)) (pre : List (List UInt8)), all = pre ++ rest → ∀ (n : Int) (tmps : List AVal), tmps.length = 52 → 0 ≤ n → n + ((rest.map fun s => (8 + s.length : Int)).sum) ≤ 4611686018427387904 → all.length ≤ 4611686018427387904 →
    tmps[5]? = some (.int .i64 n) → tmps[16]? = some (.lst (all.map .str) all.length cap) → tmps[17]? = some (.int .i64 all.length) → tmps[18]? = some (.int .i64 pre.length) →
    ∃ tmps', ex Cf (.loop L1) ⟨tmps, h⟩ = some (.exit 0, ⟨tmps', h⟩) ∧ tmps'.length = 52 ∧ tmps'[5]? = some (.int .i64 (n + (rest.map fun s => (8 + s.length : Int)).sum)) ∧ tmps'[3]? = tmps[3]? := by
  intro rest
  induction rest with
  | nil =>
    intro pre hall n tmps hl hn hb hp h5 h16 h17 h18
    rw [e_loop, L1_out h pre.length all.length (by rw [hall]; simp) tmps hl h17 h18, k_loop_exit]
    exact ⟨_, rfl, by simp [hl], by simp [h5], by simp⟩
  | cons s rest ih =>
    intro pre hall n tmps hl hn hb hp h5 h16 h17 h18
    have hsum : 0 ≤ (rest.map fun s => (8 + s.length : Int)).sum := by
      clear ih hall hb
      induction rest with
      | nil => simp
      | cons a l ih => simp only [List.map_cons, List.sum_cons]; omega
    simp only [List.map_cons, List.sum_cons] at hb
    obtain ⟨t1, he, g0, g5, g16, g17, g18, g3⟩ := L1_in h pre.length all.length (by rw [hall]; simp) n hn s (by omega) (by rw [hall] at hp; simp at hp; omega) _ (rest.map .str) (by
      simp only [indexAddrA]
      rw [if_pos ⟨by omega, by rw [hall]; simp; omega⟩, hall]
      simp) tmps hl h5 h16 h17 h18
    obtain ⟨t2, he2, k0, k5, k3⟩ := ih (pre ++ [s]) (by simp [hall]) (n + (8 + s.length)) t1 g0 (by omega) (by omega) hp g5 g16 g17 (by simpa using g18)
    refine ⟨t2, ?_, k0, ?_, k3.trans g3⟩
    · rw [e_loop, he, k_loop]; exact he2
    · rw [k5, List.map_cons, List.sum_cons]; congr 2; omega

/-! ### content of a result -/
structure CellT where
  kind : Int
  num : Int
  text : List UInt8
def CellT.cells (c : CellT) : List AVal := [.int .i64 c.kind, .int .i64 c.num, .str c.text]
/-- a slice's content -/
def IsSl (cells : List AVal) (len : Nat) (v : AVal) : Prop := (v = .nilSl ∧ len = 0 ∧ cells = []) ∨ ∃ cap, v = .lst cells len cap
structure RowT where
  cs : List CellT
  v : AVal
  ok : IsSl (cs.flatMap CellT.cells) cs.length v
def CellT.size (c : CellT) : Int := 16 + c.text.length
def RowT.size (r : RowT) : Int := 8 + (r.cs.map CellT.size).sum

theorem alen_sl {h : AHeap} {t e : TypeId} {cells : List AVal} {len : Nat} {v : AVal} (hu : Try.prog.underlying t = some (.slice e)) (hv : IsSl cells len v) : alen Try.prog h t v = some (.int .i64 len) := by
  rcases hv with ⟨rfl, rfl, _⟩ | ⟨cap, rfl⟩ <;> simp [alen, hu]

theorem new_get (h : AHeap) (b : ABlk) : (h.new b).get h.next = some b := by simp [AHeap.new]
theorem set_get (h : AHeap) (i : Nat) (b : Option ABlk) : (h.set i b).get i = b := by simp [AHeap.set]
theorem set_new_get (h : AHeap) (b : ABlk) (c : Option ABlk) (j : Nat) (hj : j < h.next) : ((h.new b).set h.next c).get j = h.get j := by
  simp only [AHeap.set, AHeap.new]
  rw [if_neg (by omega), if_neg (by omega)]

noncomputable def L2 : Code := Cat [true, true, true, false, true, true, true] (bodyOf Try.f23)
noncomputable def L3 : Code := Cat [true, true, false, true, true, true, true, true, true] L2
theorem L3_out (h : AHeap) (i n : Nat) (hlt : ¬ i < n) (tmps : List AVal) (hl : tmps.length = 52) (h38 : tmps[38]? = some (.int .i64 n)) (h39 : tmps[39]? = some (.int .i64 i)) :
    ex Cf L3 ⟨tmps, h⟩ = some (.exit 4, ⟨tmps.set 40 (.bool false), h⟩) := by
  have hlt' : decide ((i : Int) < (n : Int)) = false := by simp; omega
  simp only [L3, L2, bodyOf, Try.f23, Cat, Bool.false_eq_true, e_seq, e_region, e_cond, e_block, ex_skip, ex_exit, ex_ret, o_cons, xops_nil, k_want_none, k_want_false, k_val, k_pan, k_call, k_ret, k_seq, k_seq_exit, k_seq_ret, k_true, k_false, k_block, k_block_exit, k_block_ret, k_loop, k_loop_exit, k_loop_ret, awanted, aoper, evalO, put, Option.getD_some, List.getElem?_set, acallOp, abuiltin, List.map_cons, List.map_nil, Nat.reduceEqDiff, Nat.reduceLT, List.length_set, Option.map_some, Option.bind_some, Option.bind_eq_bind, add_i, sub_i, mul_i, eql_i, neq_i, lss_i, leq_i, gtr_i, geq_i, ofV, ofCell, ↓reduceIte, loadA, ofCells, List.cons_append, List.nil_append, List.append_nil, List.getElem?_toArray, List.getElem?_cons_succ, List.getElem?_cons_zero, e_draw, g_nil, g_cons, g_want, g_skip, g_val, g_call, g_ret, Option.map_none, hl, h38, h39, hlt']
theorem L3_in (h : AHeap) (i m : Nat) (hlt : i < m) (n : Int) (hn : 0 ≤ n) (c : CellT) (hb : n + c.size ≤ 4611686018427387904) (hi : i < 4611686018427387904) (cv : AVal) (cells : List AVal) (hix : indexAddrA 3 cv i = some (.iptr (c.cells ++ cells)))
    (tmps : List AVal) (hl : tmps.length = 52) (h5 : tmps[5]? = some (.int .i64 n)) (h37 : tmps[37]? = some cv) (h38 : tmps[38]? = some (.int .i64 m)) (h39 : tmps[39]? = some (.int .i64 i)) :
    ∃ tmps' h', ex Cf L3 ⟨tmps, h⟩ = some (.normal, ⟨tmps', h'⟩) ∧ (∀ j, j < h.next → h'.get j = h.get j) ∧ h.next ≤ h'.next ∧ tmps'.length = 52 ∧ tmps'[5]? = some (.int .i64 (n + c.size)) ∧ tmps'[37]? = some cv ∧ tmps'[38]? = some (.int .i64 m) ∧ tmps'[39]? = some (.int .i64 (i + 1 : Nat)) ∧
      tmps'[29]? = tmps[29]? ∧ tmps'[30]? = tmps[30]? ∧ tmps'[31]? = tmps[31]? := by
  have hlt' : decide ((i : Int) < (m : Int)) = true := by simp; omega
  simp only [CellT.cells, CellT.size] at hix hb ⊢
  simp only [L3, L2, bodyOf, Try.f23, Cat, Bool.false_eq_true, e_seq, e_region, e_cond, e_block, ex_skip, ex_exit, ex_ret, o_cons, xops_nil, k_want_none, k_want_false, k_val, k_pan, k_call, k_ret, k_seq, k_seq_exit, k_seq_ret, k_true, k_false, k_block, k_block_exit, k_block_ret, k_loop, k_loop_exit, k_loop_ret, awanted, aoper, evalO, put, Option.getD_some, List.getElem?_set, acallOp, abuiltin, List.map_cons, List.map_nil, Nat.reduceEqDiff, Nat.reduceLT, List.length_set, Option.map_some, Option.bind_some, Option.bind_eq_bind, add_i, sub_i, mul_i, eql_i, neq_i, lss_i, leq_i, gtr_i, geq_i, ofV, ofCell, ↓reduceIte, loadA, ofCells, List.cons_append, List.nil_append, List.append_nil, List.getElem?_toArray, List.getElem?_cons_succ, List.getElem?_cons_zero, e_draw, g_nil, g_cons, g_want, g_skip, g_val, g_call, g_ret, Option.map_none, hl, h5, h37, h38, h39, hlt', ix_77, ld_80, ld_9, st_80, fa_80_2, ze_80, abox, hix, CP, List.getElem?_cons_zero, alen, Try.underlying9, AVal.boxable, AVal.cells, AVal.isCell, List.all_cons, List.all_nil, Bool.and_true, storeA, new_get, set_get, List.length_cons, List.length_nil,
    List.cons_append, List.nil_append, List.take_succ_cons, List.take_zero, setRange, List.set_cons_zero, List.set_cons_succ, dropCells, List.drop_succ_cons, List.drop_zero, Nat.zero_add, Nat.reduceAdd, and_self, Nat.reduceLeDiff, Nat.le_add_left]
  rw [wrap64 (x := (i : Int) + 1) (by omega) (by omega), wrap64 (x := 16 + (c.text.length : Int)) (by omega) (by omega), wrap64 (x := n + _) (by omega) (by omega)]
  exact ⟨_, _, rfl, fun j hj => set_new_get _ _ _ _ hj, by simp [AHeap.set, AHeap.new], by simp [hl], by simp [hl], by simp [h37], by simp [h38], by simp [hl], by simp, by simp, by simp⟩

theorem sum_nonneg {α : Type} (f : α → Int) (hf : ∀ a, 0 ≤ f a) (l : List α) : 0 ≤ (l.map f).sum := by
  induction l with
  | nil => simp
  | cons a l ih => simp only [List.map_cons, List.sum_cons]; have := hf a; omega
theorem CellT.size_nonneg (c : CellT) : 0 ≤ c.size := by simp only [CellT.size]; omega
theorem RowT.size_nonneg (r : RowT) : 0 ≤ r.size := by simp only [RowT.size]; have := sum_nonneg CellT.size CellT.size_nonneg r.cs; omega
theorem flat_len (l : List CellT) : (l.flatMap CellT.cells).length = l.length * 3 := by
  induction l with
  | nil => rfl
  | cons a l ih => simp only [List.flatMap_cons, List.length_append, ih, CellT.cells, List.length_cons, List.length_nil]; omega

theorem L3_loop (v : AVal) (all : List CellT) (hv : IsSl (all.flatMap CellT.cells) all.length v) : ∀ (rest : List CellT) (pre : List CellT), all = pre ++ rest → ∀ (h : AHeap) (n : Int) (tmps : List AVal), tmps.length = 52 → 0 ≤ n → n + (rest.map CellT.size).sum ≤ 4611686018427387904 → all.length ≤ 4611686018427387904 →
    tmps[5]? = some (.int .i64 n) → tmps[37]? = some v → tmps[38]? = some (.int .i64 all.length) → tmps[39]? = some (.int .i64 pre.length) →
    ∃ tmps' h', ex Cf (.loop L3) ⟨tmps, h⟩ = some (.exit 4, ⟨tmps', h'⟩) ∧ (∀ j, j < h.next → h'.get j = h.get j) ∧ h.next ≤ h'.next ∧ tmps'.length = 52 ∧ tmps'[5]? = some (.int .i64 (n + (rest.map CellT.size).sum)) ∧
      tmps'[29]? = tmps[29]? ∧ tmps'[30]? = tmps[30]? ∧ tmps'[31]? = tmps[31]? := by
  intro rest
  induction rest with
  | nil =>
    intro pre hall h n tmps hl hn hb hp h5 h37 h38 h39
    rw [e_loop, L3_out h pre.length all.length (by rw [hall]; simp) tmps hl h38 h39, k_loop_exit]
    exact ⟨_, _, rfl, fun _ _ => rfl, Nat.le_refl _, by simp [hl], by simp [h5], by simp, by simp, by simp⟩
  | cons s rest ih =>
    intro pre hall h n tmps hl hn hb hp h5 h37 h38 h39
    have hsum := sum_nonneg CellT.size CellT.size_nonneg rest
    have hs := s.size_nonneg
    simp only [List.map_cons, List.sum_cons] at hb
    have hix : indexAddrA 3 v pre.length = some (.iptr (s.cells ++ rest.flatMap CellT.cells)) := by
      rcases hv with ⟨_, h0, _⟩ | ⟨cap, rfl⟩
      · rw [hall] at h0; simp at h0
      · simp only [indexAddrA]
        rw [if_pos ⟨by omega, by rw [hall]; simp; omega⟩, hall]
        simp only [List.flatMap_append, List.flatMap_cons, Int.toNat_natCast]
        rw [← flat_len pre, List.drop_left]
    obtain ⟨t1, h1, he, f1, f2, g0, g5, g37, g38, g39, g29, g30, g31⟩ := L3_in h pre.length all.length (by rw [hall]; simp) n hn s (by omega) (by rw [hall] at hp; simp at hp; omega) v _ hix tmps hl h5 h37 h38 h39
    obtain ⟨t2, h2, he2, f3, f4, k0, k5, k29, k30, k31⟩ := ih (pre ++ [s]) (by simp [hall]) h1 (n + s.size) t1 g0 (by omega) (by omega) hp g5 g37 g38 (by simpa using g39)
    refine ⟨t2, h2, ?_, fun j hj => (f3 j (by omega)).trans (f1 j hj), by omega, k0, ?_, k29.trans g29, k30.trans g30, k31.trans g31⟩
    · rw [e_loop, he, k_loop]; exact he2
    · rw [k5, List.map_cons, List.sum_cons]; congr 2; omega

theorem L2_out (h : AHeap) (i n : Nat) (hlt : ¬ i < n) (tmps : List AVal) (hl : tmps.length = 52) (h30 : tmps[30]? = some (.int .i64 n)) (h31 : tmps[31]? = some (.int .i64 i)) :
    ex Cf L2 ⟨tmps, h⟩ = some (.exit 2, ⟨tmps.set 32 (.bool false), h⟩) := by
  have hlt' : decide ((i : Int) < (n : Int)) = false := by simp; omega
  simp only [L2, bodyOf, Try.f23, Cat, Bool.false_eq_true, e_seq, e_region, e_cond, e_block, ex_skip, ex_exit, ex_ret, o_cons, xops_nil, k_want_none, k_want_false, k_val, k_pan, k_call, k_ret, k_seq, k_seq_exit, k_seq_ret, k_true, k_false, k_block, k_block_exit, k_block_ret, k_loop, k_loop_exit, k_loop_ret, awanted, aoper, evalO, put, Option.getD_some, List.getElem?_set, acallOp, abuiltin, List.map_cons, List.map_nil, Nat.reduceEqDiff, Nat.reduceLT, List.length_set, Option.map_some, Option.bind_some, Option.bind_eq_bind, add_i, sub_i, mul_i, eql_i, neq_i, lss_i, leq_i, gtr_i, geq_i, ofV, ofCell, ↓reduceIte, loadA, ofCells, List.cons_append, List.nil_append, List.append_nil, List.getElem?_toArray, List.getElem?_cons_succ, List.getElem?_cons_zero, e_draw, g_nil, g_cons, g_want, g_skip, g_val, g_call, g_ret, Option.map_none, hl, h30, h31, hlt']
/-- the round's part ahead of the inner loop, the inner loop, and what is behind it -/
theorem L2_in (h : AHeap) (i m : Nat) (hlt : i < m) (n : Int) (hn : 0 ≤ n) (r : RowT) (hb : n + r.size ≤ 4611686018427387904) (hi : i < 4611686018427387904) (hrl : r.cs.length ≤ 4611686018427387904) (cv : AVal) (cells : List AVal) (hix : indexAddrA 1 cv i = some (.iptr (r.v :: cells)))
    (tmps : List AVal) (hl : tmps.length = 52) (h5 : tmps[5]? = some (.int .i64 n)) (h29 : tmps[29]? = some cv) (h30 : tmps[30]? = some (.int .i64 m)) (h31 : tmps[31]? = some (.int .i64 i)) :
    ∃ tmps' h', ex Cf L2 ⟨tmps, h⟩ = some (.normal, ⟨tmps', h'⟩) ∧ (∀ j, j < h.next → h'.get j = h.get j) ∧ h.next ≤ h'.next ∧ tmps'.length = 52 ∧ tmps'[5]? = some (.int .i64 (n + r.size)) ∧ tmps'[29]? = some cv ∧ tmps'[30]? = some (.int .i64 m) ∧ tmps'[31]? = some (.int .i64 (i + 1 : Nat)) := by
  have hlt' : decide ((i : Int) < (m : Int)) = true := by simp; omega
  have hlen : ∀ h, alen Try.prog h 77 r.v = some (.int .i64 r.cs.length) := fun h => alen_sl Try.underlying77 r.ok
  simp only [RowT.size] at hb ⊢
  have hsum := sum_nonneg CellT.size CellT.size_nonneg r.cs
  have hw : IntKind.i64.wrap (n + 8) = n + 8 := wrap64 (by omega) (by omega)
  obtain ⟨t0, ht0⟩ : ∃ t0, t0 = ((((((((tmps.set 32 (.bool true)).set 33 (.iptr (r.v :: cells))).set 34 r.v).set 9 r.v).set 35 (.int .i64 n)).set 36 (.int .i64 (n + 8))).set 5 (.int .i64 (n + 8))).set 37 r.v).set 38 (.int .i64 r.cs.length) := ⟨_, rfl⟩
  obtain ⟨t1, h1, he, f1, f2, g0, g5, g29, g30, g31⟩ := L3_loop r.v r.cs r.ok r.cs [] rfl h (n + 8) (t0.set 39 (.int .i64 0)) (by simp [ht0, hl]) (by omega) (by omega) hrl (by simp [ht0, hl]) (by simp [ht0, hl]) (by simp [ht0, hl]) (by simp [ht0, hl])
  have he' := he
  subst ht0
  simp only [L3, L2, bodyOf, Try.f23, Cat, Bool.false_eq_true, ↓reduceIte] at he
  have h29' : t1[29]? = some cv := by rw [g29]; simp [h29]
  have h30' : t1[30]? = some (.int .i64 m) := by rw [g30]; simp [h30]
  have h31' : t1[31]? = some (.int .i64 i) := by rw [g31]; simp [h31]
  simp only [L2, bodyOf, Try.f23, Cat, Bool.false_eq_true, e_seq, e_region, e_cond, e_block, ex_skip, ex_exit, ex_ret, o_cons, xops_nil, k_want_none, k_want_false, k_val, k_pan, k_call, k_ret, k_seq, k_seq_exit, k_seq_ret, k_true, k_false, k_block, k_block_exit, k_block_ret, k_loop, k_loop_exit, k_loop_ret, awanted, aoper, evalO, put, Option.getD_some, List.getElem?_set, acallOp, abuiltin, List.map_cons, List.map_nil, Nat.reduceEqDiff, Nat.reduceLT, List.length_set, Option.map_some, Option.bind_some, Option.bind_eq_bind, add_i, sub_i, mul_i, eql_i, neq_i, lss_i, leq_i, gtr_i, geq_i, ofV, ofCell, ↓reduceIte, loadA, ofCells, List.cons_append, List.nil_append, List.append_nil, List.getElem?_toArray, List.getElem?_cons_succ, List.getElem?_cons_zero, e_draw, g_nil, g_cons, g_want, g_skip, g_val, g_call, g_ret, Option.map_none, hl, h5, h29, h30, h31, hlt', ix_29, ld_77, hix, CP, List.getElem?_cons_zero, hlen, hw, he, g0, h31']
  rw [wrap64 (x := (i : Int) + 1) (by omega) (by omega)]
  exact ⟨_, _, rfl, f1, f2, by simp [g0], by simp [g5]; omega, by simp [h29'], by simp [h30'], by simp [g0]⟩

theorem L2_loop (v : AVal) (all : List RowT) (hrl : ∀ r ∈ all, r.cs.length ≤ 4611686018427387904) (hv : IsSl (all.map RowT.v) all.length v) : ∀ (rest : List RowT) (pre : List RowT), all = pre ++ rest → ∀ (h : AHeap) (n : Int) (tmps : List AVal), tmps.length = 52 → 0 ≤ n → n + (rest.map RowT.size).sum ≤ 4611686018427387904 → all.length ≤ 4611686018427387904 →
    tmps[5]? = some (.int .i64 n) → tmps[29]? = some v → tmps[30]? = some (.int .i64 all.length) → tmps[31]? = some (.int .i64 pre.length) →
    ∃ tmps' h', ex Cf (.loop L2) ⟨tmps, h⟩ = some (.exit 2, ⟨tmps', h'⟩) ∧ tmps'.length = 52 ∧ tmps'[5]? = some (.int .i64 (n + (rest.map RowT.size).sum)) := by
  intro rest
  induction rest with
  | nil =>
    intro pre hall h n tmps hl hn hb hp h5 h29 h30 h31
    rw [e_loop, L2_out h pre.length all.length (by rw [hall]; simp) tmps hl h30 h31, k_loop_exit]
    exact ⟨_, _, rfl, by simp [hl], by simp [h5]⟩
  | cons s rest ih =>
    intro pre hall h n tmps hl hn hb hp h5 h29 h30 h31
    have hsum := sum_nonneg RowT.size RowT.size_nonneg rest
    have hs := s.size_nonneg
    simp only [List.map_cons, List.sum_cons] at hb
    have hix : indexAddrA 1 v pre.length = some (.iptr (s.v :: rest.map RowT.v)) := by
      rcases hv with ⟨_, h0, _⟩ | ⟨cap, rfl⟩
      · rw [hall] at h0; simp at h0
      · simp only [indexAddrA]
        rw [if_pos ⟨by omega, by rw [hall]; simp; omega⟩, hall]
        simp
    obtain ⟨t1, h1, he, f1, f2, g0, g5, g29, g30, g31⟩ := L2_in h pre.length all.length (by rw [hall]; simp) n hn s (by omega) (by rw [hall] at hp; simp at hp; omega) (hrl s (by rw [hall]; simp)) v _ hix tmps hl h5 h29 h30 h31
    obtain ⟨t2, h2, he2, k0, k5⟩ := ih (pre ++ [s]) (by simp [hall]) h1 (n + s.size) t1 g0 (by omega) (by omega) hp g5 g29 g30 (by simpa using g31)
    refine ⟨t2, h2, ?_, k0, ?_⟩
    · rw [e_loop, he, k_loop]; exact he2
    · rw [k5, List.map_cons, List.sum_cons]; congr 2; omega

/-- a result -/
structure ResT where
  cols : List (List UInt8)
  cv : AVal
  okc : IsSl (cols.map .str) cols.length cv
  rows : List RowT
  rv : AVal
  okr : IsSl (rows.map RowT.v) rows.length rv
def sizeOf (key : List UInt8) (r : ResT) : Int := 64 + key.length + (r.cols.map fun s => (8 + s.length : Int)).sum + (r.rows.map RowT.size).sum
/-- small enough -/
structure ResT.Small (key : List UInt8) (r : ResT) : Prop where
  size : sizeOf key r ≤ 4611686018427387904
  cols : r.cols.length ≤ 4611686018427387904
  rows : r.rows.length ≤ 4611686018427387904
  row : ∀ x ∈ r.rows, x.cs.length ≤ 4611686018427387904

theorem size_body (key : List UInt8) (r : ResT) (hs : r.Small key) : ∃ h', xbody Cf Try.f23 (bodyOf Try.f23) [.str key, .agg [r.cv, r.rv]] bare = some (.ret (.int .i64 (sizeOf key r)), h') := by
  have hc := sum_nonneg (fun s : List UInt8 => (8 + s.length : Int)) (fun s => by omega) r.cols
  have hr := sum_nonneg RowT.size RowT.size_nonneg r.rows
  have hsz := hs.size
  simp only [sizeOf] at hsz ⊢
  have hlc : ∀ h, alen Try.prog h 28 r.cv = some (.int .i64 r.cols.length) := fun h => alen_sl Try.underlying28 r.okc
  have hlr : ∀ h, alen Try.prog h 29 r.rv = some (.int .i64 r.rows.length) := fun h => alen_sl Try.underlying29 r.okr
  have hw : IntKind.i64.wrap (64 + (key.length : Int)) = 64 + key.length := wrap64 (by omega) (by omega)
  -- the first loop, over any slots and any memory
  have one : ∀ (h : AHeap) (tmps : List AVal), tmps.length = 52 → tmps[5]? = some (.int .i64 (64 + key.length)) → tmps[16]? = some r.cv → tmps[17]? = some (.int .i64 r.cols.length) → tmps[18]? = some (.int .i64 0) →
      ∃ tmps', ex Cf (.loop L1) ⟨tmps, h⟩ = some (.exit 0, ⟨tmps', h⟩) ∧ tmps'.length = 52 ∧ tmps'[5]? = some (.int .i64 (64 + key.length + (r.cols.map fun s => (8 + s.length : Int)).sum)) ∧ tmps'[3]? = tmps[3]? := by
    intro h tmps hl h5 h16 h17 h18
    rcases r.okc with ⟨hv, h0, hcs⟩ | ⟨cap, hv⟩
    · have he : r.cols = [] := List.eq_nil_of_length_eq_zero h0
      rw [he] at h17
      rw [e_loop, L1_out h 0 0 (by omega) tmps hl h17 h18, k_loop_exit]
      exact ⟨_, rfl, by simp [hl], by simp [h5, he], by simp⟩
    · rw [hv] at h16
      exact L1_loop h r.cols cap r.cols [] rfl _ tmps hl (by omega) (by omega) hs.cols h5 h16 h17 h18
  have hbody : bodyOf Try.f23 = .seq (Cat [false] (bodyOf Try.f23)) (.seq (Cat [true, false] (bodyOf Try.f23)) (.seq (.seq (Cat [true, true, false, false] (bodyOf Try.f23)) (.block 0 (.loop L1))) (.seq (.seq (Cat [true, true, true, false, false] (bodyOf Try.f23)) (.block 2 (.loop L2))) (Cat [true, true, true, true] (bodyOf Try.f23))))) := rfl
  obtain ⟨a0, ha0⟩ : ∃ a0, a0 = ([.str key, .agg [r.cv, r.rv]] ++ List.replicate (Try.f23.ntmps - 2) .top : List AVal) := ⟨_, rfl⟩
  have hl0 : a0.length = 52 := by rw [ha0]; rfl
  have h00 : a0[0]? = some (.str key) := by rw [ha0]; rfl
  have h01 : a0[1]? = some (.agg [r.cv, r.rv]) := by rw [ha0]; rfl
  have hcell : r.cv.isCell = true ∧ r.rv.isCell = true := by
    constructor
    · rcases r.okc with ⟨h, _⟩ | ⟨c, h⟩ <;> rw [h] <;> rfl
    · rcases r.okr with ⟨h, _⟩ | ⟨c, h⟩ <;> rw [h] <;> rfl
  obtain ⟨b0, hb0⟩ : ∃ b0, b0 = (bare.new (.arr [r.cv, r.rv])) := ⟨_, rfl⟩
  have hg0 : b0.get 0 = some (.arr [r.cv, r.rv]) := by rw [hb0]; rfl
  have p0 : ∃ t, ex Cf (Cat [false] (bodyOf Try.f23)) ⟨a0, bare⟩ = some (.normal, ⟨t, b0⟩) ∧ t.length = 52 ∧ t[0]? = some (.str key) ∧ t[3]? = some (.ptr 0 0) := by
    simp only [bodyOf, Try.f23, Cat, Bool.false_eq_true, e_seq, e_region, e_cond, e_block, ex_skip, ex_exit, ex_ret, o_cons, xops_nil, k_want_none, k_want_false, k_val, k_pan, k_call, k_ret, k_seq, k_seq_exit, k_seq_ret, k_true, k_false, k_block, k_block_exit, k_block_ret, k_loop, k_loop_exit, k_loop_ret, awanted, aoper, evalO, put, Option.getD_some, List.getElem?_set, acallOp, abuiltin, List.map_cons, List.map_nil, Nat.reduceEqDiff, Nat.reduceLT, List.length_set, Option.map_some, Option.bind_some, Option.bind_eq_bind, add_i, sub_i, mul_i, eql_i, neq_i, lss_i, leq_i, gtr_i, geq_i, ofV, ofCell, ↓reduceIte, loadA, ofCells, List.cons_append, List.nil_append, List.append_nil, List.getElem?_toArray, List.getElem?_cons_succ, List.getElem?_cons_zero, e_draw, g_nil, g_cons, g_want, g_skip, g_val, g_call, g_ret, Option.map_none, hl0, h00, h01, abox, AVal.boxable, AVal.cells, hcell.1, hcell.2, List.all_cons, List.all_nil, Bool.and_true, Bool.and_self]
    exact ⟨_, by rw [hb0], by simp [hl0], by simp [h00], by simp [hl0, bare]⟩
  obtain ⟨t0, e0, l0, t00, t03⟩ := p0
  have p1 : ∃ t, ex Cf (Cat [true, false] (bodyOf Try.f23)) ⟨t0, b0⟩ = some (.normal, ⟨t, b0⟩) ∧ t.length = 52 ∧ t[3]? = some (.ptr 0 0) ∧ t[5]? = some (.int .i64 (64 + key.length)) := by
    simp only [bodyOf, Try.f23, Cat, Bool.false_eq_true, e_seq, e_region, e_cond, e_block, ex_skip, ex_exit, ex_ret, o_cons, xops_nil, k_want_none, k_want_false, k_val, k_pan, k_call, k_ret, k_seq, k_seq_exit, k_seq_ret, k_true, k_false, k_block, k_block_exit, k_block_ret, k_loop, k_loop_exit, k_loop_ret, awanted, aoper, evalO, put, Option.getD_some, List.getElem?_set, acallOp, abuiltin, List.map_cons, List.map_nil, Nat.reduceEqDiff, Nat.reduceLT, List.length_set, Option.map_some, Option.bind_some, Option.bind_eq_bind, add_i, sub_i, mul_i, eql_i, neq_i, lss_i, leq_i, gtr_i, geq_i, ofV, ofCell, ↓reduceIte, loadA, ofCells, List.cons_append, List.nil_append, List.append_nil, List.getElem?_toArray, List.getElem?_cons_succ, List.getElem?_cons_zero, e_draw, g_nil, g_cons, g_want, g_skip, g_val, g_call, g_ret, Option.map_none, l0, t00, CP, alen, Try.underlying9, hw]
    exact ⟨_, rfl, by simp [l0], by simp [t03], by simp [l0]⟩
  obtain ⟨t1, e1, l1, t13, t15⟩ := p1
  have p2 : ∃ t, ex Cf (Cat [true, true, false, false] (bodyOf Try.f23)) ⟨t1, b0⟩ = some (.normal, ⟨t, b0⟩) ∧ t.length = 52 ∧ t[3]? = some (.ptr 0 0) ∧ t[5]? = some (.int .i64 (64 + key.length)) ∧ t[16]? = some r.cv ∧ t[17]? = some (.int .i64 r.cols.length) ∧ t[18]? = some (.int .i64 0) := by
    simp only [bodyOf, Try.f23, Cat, Bool.false_eq_true, e_seq, e_region, e_cond, e_block, ex_skip, ex_exit, ex_ret, o_cons, xops_nil, k_want_none, k_want_false, k_val, k_pan, k_call, k_ret, k_seq, k_seq_exit, k_seq_ret, k_true, k_false, k_block, k_block_exit, k_block_ret, k_loop, k_loop_exit, k_loop_ret, awanted, aoper, evalO, put, Option.getD_some, List.getElem?_set, acallOp, abuiltin, List.map_cons, List.map_nil, Nat.reduceEqDiff, Nat.reduceLT, List.length_set, Option.map_some, Option.bind_some, Option.bind_eq_bind, add_i, sub_i, mul_i, eql_i, neq_i, lss_i, leq_i, gtr_i, geq_i, ofV, ofCell, ↓reduceIte, loadA, ofCells, List.cons_append, List.nil_append, List.append_nil, List.getElem?_toArray, List.getElem?_cons_succ, List.getElem?_cons_zero, e_draw, g_nil, g_cons, g_want, g_skip, g_val, g_call, g_ret, Option.map_none, l1, t13, t15, CP, fa_31_0, dropCells, ld_28, hg0, List.length_cons, List.length_nil, List.drop_zero, List.getElem?_cons_zero, Nat.zero_add, Nat.reduceLeDiff, Nat.zero_le, hlc]
    exact ⟨_, rfl, by simp [l1], by simp [t13], by simp [t15], by simp [l1], by simp [l1], by simp [l1]⟩
  obtain ⟨t2, e2, l2, t23, t25, t216, t217, t218⟩ := p2
  obtain ⟨t3, e3, l3, t35, t33⟩ := one b0 t2 l2 t25 t216 t217 t218
  rw [t23] at t33
  have p4 : ∃ t, ex Cf (Cat [true, true, true, false, false] (bodyOf Try.f23)) ⟨t3, b0⟩ = some (.normal, ⟨t, b0⟩) ∧ t.length = 52 ∧ t[5]? = t3[5]? ∧ t[29]? = some r.rv ∧ t[30]? = some (.int .i64 r.rows.length) ∧ t[31]? = some (.int .i64 0) := by
    simp only [bodyOf, Try.f23, Cat, Bool.false_eq_true, e_seq, e_region, e_cond, e_block, ex_skip, ex_exit, ex_ret, o_cons, xops_nil, k_want_none, k_want_false, k_val, k_pan, k_call, k_ret, k_seq, k_seq_exit, k_seq_ret, k_true, k_false, k_block, k_block_exit, k_block_ret, k_loop, k_loop_exit, k_loop_ret, awanted, aoper, evalO, put, Option.getD_some, List.getElem?_set, acallOp, abuiltin, List.map_cons, List.map_nil, Nat.reduceEqDiff, Nat.reduceLT, List.length_set, Option.map_some, Option.bind_some, Option.bind_eq_bind, add_i, sub_i, mul_i, eql_i, neq_i, lss_i, leq_i, gtr_i, geq_i, ofV, ofCell, ↓reduceIte, loadA, ofCells, List.cons_append, List.nil_append, List.append_nil, List.getElem?_toArray, List.getElem?_cons_succ, List.getElem?_cons_zero, e_draw, g_nil, g_cons, g_want, g_skip, g_val, g_call, g_ret, Option.map_none, l3, t33, CP, fa_31_1, dropCells, ld_29, hg0, List.length_cons, List.length_nil, List.drop_succ_cons, List.drop_zero, List.getElem?_cons_zero, Nat.zero_add, Nat.reduceAdd, Nat.reduceLeDiff, hlr]
    exact ⟨_, rfl, by simp [l3], by simp, by simp [l3], by simp [l3], by simp [l3]⟩
  obtain ⟨t4, e4, l4, t45, t429, t430, t431⟩ := p4
  rw [t35] at t45
  obtain ⟨t5, h5, e5, l5, t55⟩ := L2_loop r.rv r.rows hs.row r.okr r.rows [] rfl b0 _ t4 l4 (by omega) (by omega) hs.rows t45 t429 t430 t431
  have p6 : ∃ t, ex Cf (Cat [true, true, true, true] (bodyOf Try.f23)) ⟨t5, h5⟩ = some (.ret, ⟨t, h5⟩) ∧ t[4]? = t5[5]? := by
    simp only [bodyOf, Try.f23, Cat, Bool.false_eq_true, e_seq, e_region, e_cond, e_block, ex_skip, ex_exit, ex_ret, o_cons, xops_nil, k_want_none, k_want_false, k_val, k_pan, k_call, k_ret, k_seq, k_seq_exit, k_seq_ret, k_true, k_false, k_block, k_block_exit, k_block_ret, k_loop, k_loop_exit, k_loop_ret, awanted, aoper, evalO, put, Option.getD_some, List.getElem?_set, acallOp, abuiltin, List.map_cons, List.map_nil, Nat.reduceEqDiff, Nat.reduceLT, List.length_set, Option.map_some, Option.bind_some, Option.bind_eq_bind, add_i, sub_i, mul_i, eql_i, neq_i, lss_i, leq_i, gtr_i, geq_i, ofV, ofCell, ↓reduceIte, loadA, ofCells, List.cons_append, List.nil_append, List.append_nil, List.getElem?_toArray, List.getElem?_cons_succ, List.getElem?_cons_zero, e_draw, g_nil, g_cons, g_want, g_skip, g_val, g_call, g_ret, Option.map_none, l5, t55]
    exact ⟨_, rfl, by simp [l5]⟩
  obtain ⟨t6, e6, t64⟩ := p6
  refine ⟨h5, ?_⟩
  unfold xbody
  rw [show (List.replicate (Try.f23.ntmps - [AVal.str key, AVal.agg [r.cv, r.rv]].length) AVal.top) = List.replicate (Try.f23.ntmps - 2) .top from rfl, ← ha0]
  rw [hbody, e_seq, e0, k_seq, e_seq, e1, k_seq, e_seq, e_seq, e2, k_seq, e_block, e3, k_block_exit, if_pos rfl, k_seq, e_seq, e_seq, e4, k_seq, e_block, e5, k_block_exit, if_pos rfl, k_seq, e6]
  simp only [endOf, show Try.f23.results.toList = [ResultVar.tmp 4] from rfl, aresults, ares1, t64, t55, Option.getD_some, Option.map_some, packRes]

/-- WHAT SIZE TELLS. -/
theorem size_run (key : List UInt8) (r : ResT) (hs : r.Small key) (hcont : contB r.cv = true ∧ contB r.rv = true) (h : AHeap) : run Cf 23 [.str key, .agg [r.cv, r.rv]] h = some (.ret (.int .i64 (sizeOf key r)), h) := by
  obtain ⟨h', hb⟩ := size_body key r hs
  rw [run_cont (fn := Try.f23) (body := bodyOf Try.f23) Try.func23 rfl rfl rfl _ (by simp [contBs, contB, hcont]) h, hb]
  simp only [normRes_cont _ _ _ _ (show contB (.int .i64 (sizeOf key r)) = true from rfl), Option.map_some]
end Go.Am.Cache
