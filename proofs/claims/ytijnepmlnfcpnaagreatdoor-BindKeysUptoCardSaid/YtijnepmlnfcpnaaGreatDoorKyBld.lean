/-
  KEYS: strings.Builder (WriteByte and String; turned from chapter 10).
-/
import Derived.Test.YtijnepmlnfcpnaaGreatDoorKyNodes
set_option linter.unusedVariables false
set_option linter.unusedSimpArgs false
set_option linter.unusedSimpArgs false
set_option linter.unusedVariables false
set_option maxRecDepth 100000
namespace Go.Proofs.Ky
open Go Go.Am Go.Proofs

namespace Bx
theorem fa0 (p : AVal) : afieldAddr Tryz.prog 120 p 0 = dropCells 0 p := by kernel_rfl
theorem fa1 (p : AVal) : afieldAddr Tryz.prog 120 p 1 = dropCells 1 p := by kernel_rfl
theorem ld126 (h : AHeap) (p : AVal) : aload Tryz.prog h 117 p = loadA h false 1 p := by kernel_rfl
theorem ld127 (h : AHeap) (p : AVal) : aload Tryz.prog h 118 p = loadA h false 1 p := by kernel_rfl
theorem st126 (h : AHeap) (p v : AVal) : astore Tryz.prog h 117 p v = storeA h 1 p v := by kernel_rfl
theorem st127 (h : AHeap) (p v : AVal) : astore Tryz.prog h 118 p v = storeA h 1 p v := by kernel_rfl
theorem eqn (xo : Operand) (h : AHeap) : abin Cl .eql 117 xo (.const (.pointer none)) h .nilPtr .nilPtr = some (.bool true) := by kernel_rfl
theorem eqp (xo yo : Operand) (h : AHeap) (i o : Nat) : abin Cl .eql 117 xo yo h (.ptr i o) .nilPtr = some (.bool false) := by kernel_rfl
theorem run155 (x : AVal) (h : AHeap) : run Cl 225 [x] h = some (.ret x, h) := run_of (n := 1) (by kernel_rfl)
theorem nqp (xo yo : Operand) (h : AHeap) (i : Nat) (x : AVal) (cs : List AVal) (hg : h.get i = some (.arr (x :: cs))) : abin Cl .neq 117 xo yo h (.ptr i 0) (.ptr i 0) = some (.bool false) := by
  have h1 : abin Cl .neq 117 xo yo h (.ptr i 0) (.ptr i 0) = (match h.get i, h.get i with
    | some (.arr (_ :: _)), some (.arr (_ :: _)) => some (.bool (!(decide (i = i) && decide (0 = 0))))
    | _, _ => none) := by kernel_rfl
  rw [h1, hg]; simp
theorem cvp (h : AHeap) (i : Nat) (x y : AVal) (hg : h.get i = some (.arr [x, y])) : aconvert Tryz.prog h 117 259 (.ptr i 0) = some (.ptr i 0, h) := by
  have h1 : aconvert Tryz.prog h 117 259 (.ptr i 0) = (match h.get i with
    | some (.arr cells) => if 0 < cells.length ∧ 2 ≠ 0 then some (.ptr i 0, h) else none
    | _ => none) := by kernel_rfl
  rw [h1, hg]; simp
theorem cvq (h : AHeap) (i : Nat) (x y : AVal) (hg : h.get i = some (.arr [x, y])) (ht : h.ty i = some (122, true)) : aconvert Tryz.prog h 259 117 (.ptr i 0) = some (.ptr i 0, h) := by
  have h1 : aconvert Tryz.prog h 259 117 (.ptr i 0) = (match h.get i, h.ty i with
    | some (.arr cells), some (t, true) => if liesAt Tryz.prog Tryz.prog.depth t (cells.length / Tryz.prog.cellsOf t) 0 120 1 = true then some (.ptr i 0, h) else none
    | _, _ => none) := by kernel_rfl
  rw [h1, hg, ht]
  have h2 : liesAt Tryz.prog Tryz.prog.depth 122 ([x, y].length / Tryz.prog.cellsOf 122) 0 120 1 = true := by kernel_rfl
  simp only
  rw [if_pos h2]
theorem bs127 (c : Int) : abuildSlice Tryz.prog 118 1 [(0, .int .u8 c)] = some ([.int .u8 c], 1) := by kernel_rfl
theorem own97 : Cl.own "builder.go:97" = true := by kernel_rfl
theorem ap127 (h : AHeap) (s x : AVal) : aappend Tryz.prog true h [118, 118] [s, x] = (appendA true h 1 1 s x).map (markRow h 5 s) := by kernel_rfl
theorem ln127 (h : AHeap) (i o e n c : Nat) (op : Bool) : alen Tryz.prog h 118 (.sl i o e n c op) = some (.int .i64 n) := by kernel_rfl
theorem ln127n (h : AHeap) : alen Tryz.prog h 118 .nilSl = some (.int .i64 0) := by kernel_rfl
end Bx

/-- copyCheck at its first call -/
theorem cc_first (b : Nat) (sv : AVal) (h : AHeap) (hg : h.get b = some (.arr [.nilPtr, sv])) (ht : h.ty b = some (122, true)) (hs : sv.isCell = true) :
    run Cl 193 [.ptr b 0] h = some (.ret (.tup []), h.set b (some (.arr [.ptr b 0, sv]))) := by
  obtain ⟨a0, ha0⟩ : ∃ a0, a0 = slots Tryz.f193 [.ptr b 0] := ⟨_, rfl⟩
  have hl : a0.length = 20 := by rw [ha0]; rfl
  have i0 : a0[0]? = some (.ptr b 0) := by rw [ha0]; rfl
  have ld : loadA h false 1 (.ptr b 0) = some .nilPtr := Heap.load_at hg rfl
  have st : storeA h 1 (.ptr b 0) (.ptr b 0) = some (h.set b (some (.arr [.ptr b 0, sv]))) := Heap.store_at hg rfl (by simp)
  have p : ∃ t, ex Cl (bodyOf Tryz.f193) ⟨a0, h⟩ = some (.normal, ⟨t, h.set b (some (.arr [.ptr b 0, sv]))⟩) := by
    simp only [bodyOf, Tryz.f193, Cat, Bool.false_eq_true, e_seq, e_region, e_cond, e_block, ex_skip, ex_exit, ex_ret, o_cons, xops_nil, k_want_none, k_want_false, k_val, k_pan, k_call, k_ret, k_seq, k_seq_exit, k_seq_ret, k_true, k_false, k_block, k_block_exit, k_block_ret, k_loop, k_loop_exit, k_loop_ret, awanted, aoper, evalO, put, Option.getD_some, List.getElem?_set, acallOp, abuiltin, List.map_cons, List.map_nil, Nat.reduceEqDiff, Nat.reduceLT, List.length_set, Option.map_some, Option.bind_some, Option.bind_eq_bind, add_i, sub_i, mul_i, eql_i, neq_i, lss_i, leq_i, gtr_i, geq_i, ofV, ofCell, ↓reduceIte, List.cons_append, List.nil_append, List.append_nil, List.getElem?_toArray, List.getElem?_cons_succ, List.getElem?_cons_zero, e_draw, g_nil, g_cons, g_want, g_skip, g_val, g_call, g_ret, Option.map_none, hl, i0, CP, Bx.fa0, dropCells, Nat.add_zero, Bx.ld126, ld, Bx.eqn, Bx.cvp h b _ _ hg, Bx.run155, Bx.cvq h b _ _ hg ht, Bx.st126, st]
    exact ⟨_, rfl⟩
  obtain ⟨t, e⟩ := p
  exact fn_run (fn := Tryz.f193) (x := .normal) Tryz.func193 rfl rfl rfl (.inr rfl) (by rw [← ha0]; exact e) (vs := []) rfl
theorem cc_later (b : Nat) (sv : AVal) (h : AHeap) (hg : h.get b = some (.arr [.ptr b 0, sv])) :
    run Cl 193 [.ptr b 0] h = some (.ret (.tup []), h) := by
  obtain ⟨a0, ha0⟩ : ∃ a0, a0 = slots Tryz.f193 [.ptr b 0] := ⟨_, rfl⟩
  have hl : a0.length = 20 := by rw [ha0]; rfl
  have i0 : a0[0]? = some (.ptr b 0) := by rw [ha0]; rfl
  have ld : loadA h false 1 (.ptr b 0) = some (.ptr b 0) := Heap.load_at hg rfl
  have p : ∃ t, ex Cl (bodyOf Tryz.f193) ⟨a0, h⟩ = some (.normal, ⟨t, h⟩) := by
    simp only [bodyOf, Tryz.f193, Cat, Bool.false_eq_true, e_seq, e_region, e_cond, e_block, ex_skip, ex_exit, ex_ret, o_cons, xops_nil, k_want_none, k_want_false, k_val, k_pan, k_call, k_ret, k_seq, k_seq_exit, k_seq_ret, k_true, k_false, k_block, k_block_exit, k_block_ret, k_loop, k_loop_exit, k_loop_ret, awanted, aoper, evalO, put, Option.getD_some, List.getElem?_set, acallOp, abuiltin, List.map_cons, List.map_nil, Nat.reduceEqDiff, Nat.reduceLT, List.length_set, Option.map_some, Option.bind_some, Option.bind_eq_bind, add_i, sub_i, mul_i, eql_i, neq_i, lss_i, leq_i, gtr_i, geq_i, ofV, ofCell, ↓reduceIte, List.cons_append, List.nil_append, List.append_nil, List.getElem?_toArray, List.getElem?_cons_succ, List.getElem?_cons_zero, e_draw, g_nil, g_cons, g_want, g_skip, g_val, g_call, g_ret, Option.map_none, hl, i0, CP, Bx.fa0, dropCells, Nat.add_zero, Bx.ld126, ld, Bx.eqp, Bx.nqp _ _ h b _ _ hg]
    exact ⟨_, rfl⟩
  obtain ⟨t, e⟩ := p
  exact fn_run (fn := Tryz.f193) (x := .normal) Tryz.func193 rfl rfl rfl (.inr rfl) (by rw [← ha0]; exact e) (vs := []) rfl
def byA (l : List UInt8) : List AVal := l.map fun b => .int .u8 b.toNat
/-- block b is a builder that holds these bytes -/
def Bld (b : Nat) (l : List UInt8) (h : AHeap) : Prop :=
  b < h.next ∧ h.ty b = some (122, true) ∧
  ((l = [] ∧ h.get b = some (.arr [.nilPtr, .nilSl])) ∨
   (l ≠ [] ∧ ∃ bb, bb ≠ b ∧ bb < h.next ∧ h.ty bb = some (5, false) ∧ h.get b = some (.arr [.ptr b 0, .sl bb 0 1 l.length l.length true]) ∧ h.get bb = some (.arr (byA l))))
theorem byA_len (l : List UInt8) : (byA l).length = l.length := by simp [byA]
theorem byA_cell (l : List UInt8) : (byA l).all AVal.isCell = true := by
  unfold byA
  rw [List.all_eq_true]
  intro x hx
  obtain ⟨b, _, rfl⟩ := List.mem_map.1 hx
  rfl
theorem get_mark (h : AHeap) (i : Nat) (t : TypeId × Bool) (j : Nat) : (h.mark i t).get j = h.get j := rfl
theorem next_mark (h : AHeap) (i : Nat) (t : TypeId × Bool) : (h.mark i t).next = h.next := rfl
theorem ty_mark (h : AHeap) (i : Nat) (t : TypeId × Bool) (j : Nat) : (h.mark i t).ty j = if j = i then some t else h.ty j := rfl
theorem ty_new (h : AHeap) (b : ABlk) (j : Nat) : (h.new b).ty j = h.ty j := rfl
theorem ty_set (h : AHeap) (i : Nat) (b : Option ABlk) (j : Nat) : (h.set i b).ty j = h.ty j := rfl
/-- an append of one byte behind the check -/
theorem wb_tail (b : Nat) (c : UInt8) (sv : AVal) (h h1 h2 : AHeap) (hcc : run Cl 193 [.ptr b 0] h = some (.ret (.tup []), h1)) (g1 : h1.get b = some (.arr [.ptr b 0, sv])) (hb : b < h1.next)
    {r : AVal} (hap : (appendA true (h1.new (.arr [.int .u8 c.toNat])) 1 1 sv (.sl h1.next 0 1 1 1 false)).map (markRow (h1.new (.arr [.int .u8 c.toNat])) 5 sv) = some (r, h2)) (g2 : h2.get b = some (.arr [.ptr b 0, sv])) (hr : r.isCell = true) (hrc : r.cells = [r]) :
    run Cl 180 [.ptr b 0, .int .u8 c.toNat] h = some (.ret .nilI, h2.set b (some (.arr [.ptr b 0, r]))) := by
  obtain ⟨a0, ha0⟩ : ∃ a0, a0 = slots Tryz.f180 [.ptr b 0, .int .u8 c.toNat] := ⟨_, rfl⟩
  have hl : a0.length = 17 := by rw [ha0]; rfl
  have i0 : a0[0]? = some (.ptr b 0) := by rw [ha0]; rfl
  have i1 : a0[1]? = some (.int .u8 c.toNat) := by rw [ha0]; rfl
  have ld : loadA h1 false 1 (.ptr b 1) = some sv := Heap.load_at g1 rfl
  have st : storeA h2 1 (.ptr b 1) r = some (h2.set b (some (.arr [.ptr b 0, r]))) := by
    simp only [storeA, hrc, g2, List.all_cons, hr, List.all_nil]
    rfl
  have p : ∃ t, ex Cl (bodyOf Tryz.f180) ⟨a0, h⟩ = some (.ret, ⟨t, h2.set b (some (.arr [.ptr b 0, r]))⟩) ∧ t[4]? = some .nilI := by
    simp only [bodyOf, Tryz.f180, Cat, Bool.false_eq_true, e_seq, e_region, e_cond, e_block, ex_skip, ex_exit, ex_ret, o_cons, xops_nil, k_want_none, k_want_false, k_val, k_pan, k_call, k_ret, k_seq, k_seq_exit, k_seq_ret, k_true, k_false, k_block, k_block_exit, k_block_ret, k_loop, k_loop_exit, k_loop_ret, awanted, aoper, evalO, put, Option.getD_some, List.getElem?_set, acallOp, abuiltin, List.map_cons, List.map_nil, Nat.reduceEqDiff, Nat.reduceLT, List.length_set, Option.map_some, Option.bind_some, Option.bind_eq_bind, add_i, sub_i, mul_i, eql_i, neq_i, lss_i, leq_i, gtr_i, geq_i, ofV, ofCell, ↓reduceIte, List.cons_append, List.nil_append, List.append_nil, List.getElem?_toArray, List.getElem?_cons_succ, List.getElem?_cons_zero, e_draw, g_nil, g_cons, g_want, g_skip, g_val, g_call, g_ret, Option.map_none, hl, i0, i1, CP, hcc, Bx.fa1, dropCells, Nat.zero_add, Bx.ld127, ld, Bx.bs127, Bx.own97, Bx.ap127, hap, Bx.st127, st]
    exact ⟨_, rfl, by simp [hl]⟩
  obtain ⟨t, e, t4⟩ := p
  exact fn_run (fn := Tryz.f180) (x := .ret) Tryz.func180 rfl rfl rfl (.inl rfl) (by rw [← ha0]; exact e) (vs := [_]) (by simp only [show Tryz.f180.results.toList = [ResultVar.tmp 4] from rfl, aresults, ares1, t4]; rfl)
theorem wb_run (b : Nat) (l : List UInt8) (c : UInt8) (hlen : l.length < 100000) (h : AHeap) (H : Bld b l h) : ∃ h', run Cl 180 [.ptr b 0, .int .u8 c.toNat] h = some (.ret .nilI, h') ∧ Bld b (l ++ [c]) h' := by
  obtain ⟨hb, ht, ⟨rfl, g⟩ | ⟨hln, bb, hne, hbb, htb, g, gb⟩⟩ := H
  · have hcc := cc_first b .nilSl h g ht rfl
    obtain ⟨h1, hh1⟩ : ∃ h1, h1 = h.set b (some (.arr [.ptr b 0, .nilSl])) := ⟨_, rfl⟩
    rw [← hh1] at hcc
    have g1 : h1.get b = some (.arr [.ptr b 0, .nilSl]) := by rw [hh1]; exact Heap.get_set_eq
    have hb1 : b < h1.next := by rw [hh1]; exact hb
    have ht1 : h1.ty b = some (122, true) := by rw [hh1]; exact ht
    have gl : (h1.new (.arr [.int .u8 c.toNat])).get h1.next = some (.arr [.int .u8 c.toNat]) := Heap.get_new_eq
    have hap : (appendA true (h1.new (.arr [.int .u8 c.toNat])) 1 1 .nilSl (.sl h1.next 0 1 1 1 false)).map (markRow (h1.new (.arr [.int .u8 c.toNat])) 5 .nilSl) = some (.sl (h1.next + 1) 0 1 1 1 true, ((h1.new (.arr [.int .u8 c.toNat])).new (.arr [.int .u8 c.toNat])).mark (h1.next + 1) (5, false)) := by
      simp [appendA, lenA, srcCells, gl, markRow, AVal.isCell, Heap.new_next]
    have g2 : (((h1.new (.arr [.int .u8 c.toNat])).new (.arr [.int .u8 c.toNat])).mark (h1.next + 1) (5, false)).get b = some (.arr [.ptr b 0, .nilSl]) := by
      rw [get_mark, Heap.get_new_lt (by rw [Heap.new_next]; omega), Heap.get_new_lt hb1]; exact g1
    refine ⟨_, wb_tail b c .nilSl h h1 _ hcc g1 hb1 hap g2 rfl rfl, ?_, ?_, .inr ⟨by simp, h1.next + 1, by omega, ?_, ?_, ?_, ?_⟩⟩
    · simp only [Heap.set_next, next_mark, Heap.new_next]; omega
    · rw [ty_set, ty_mark, if_neg (by omega), ty_new, ty_new]; exact ht1
    · simp only [Heap.set_next, next_mark, Heap.new_next]; omega
    · rw [ty_set, ty_mark, if_pos rfl]
    · exact Heap.get_set_eq
    · rw [Heap.get_set_ne (by omega), get_mark]
      have := Heap.get_new_eq (h := h1.new (.arr [.int .u8 c.toNat])) (b := .arr [.int .u8 c.toNat])
      rw [Heap.new_next] at this
      exact this
  · have hcc := cc_later b _ h g
    have gl : (h.new (.arr [.int .u8 c.toNat])).get h.next = some (.arr [.int .u8 c.toNat]) := Heap.get_new_eq
    have gb1 : (h.new (.arr [.int .u8 c.toNat])).get bb = some (.arr (byA l)) := by rw [Heap.get_new_lt hbb]; exact gb
    have hap : (appendA true (h.new (.arr [.int .u8 c.toNat])) 1 1 (.sl bb 0 1 l.length l.length true) (.sl h.next 0 1 1 1 false)).map (markRow (h.new (.arr [.int .u8 c.toNat])) 5 (.sl bb 0 1 l.length l.length true)) = some (.sl (h.next + 1) 0 1 (l.length + 1) (l.length + 1) true, (((h.new (.arr [.int .u8 c.toNat])).set bb none).new (.arr (byA l ++ [.int .u8 c.toNat]))).mark (h.next + 1) (5, false)) := by
      simp only [appendA, lenA, srcCells, gl, gb1, Option.bind_eq_bind, Option.bind_some]
      have e1 : (List.drop 0 (byA l)).take (l.length * 1) = byA l := by rw [List.drop_zero, Nat.mul_one, ← byA_len, List.take_length]
      have hty : (h.new (.arr [.int .u8 c.toNat])).isTy bb 5 = true := by unfold AHeap.isTy; rw [ty_new, htb]; rfl
      have e2 : List.take l.length (byA l) = byA l := by rw [← byA_len, List.take_length]
      have c1 : ¬ (l.length + 1 ≤ l.length) := by omega
      have c2 : l.length ≤ 140737488355327 := by omega
      have c3 : l.length ≤ 9223372036854775806 := by omega
      simp [AVal.isCell, byA_len, e1, e2, c2, c3, if_neg c1, markRow, Heap.new_next, Heap.set_next, hty]
    have g2 : ((((h.new (.arr [.int .u8 c.toNat])).set bb none).new (.arr (byA l ++ [.int .u8 c.toNat]))).mark (h.next + 1) (5, false)).get b = some (.arr [.ptr b 0, .sl bb 0 1 l.length l.length true]) := by
      rw [get_mark, Heap.get_new_lt (by rw [Heap.set_next, Heap.new_next]; omega), Heap.get_set_ne (Ne.symm hne), Heap.get_new_lt hb]; exact g
    refine ⟨_, wb_tail b c _ h h _ hcc g hb hap g2 rfl rfl, ?_, ?_, .inr ⟨by simp, h.next + 1, by omega, ?_, ?_, ?_, ?_⟩⟩
    · simp only [Heap.set_next, next_mark, Heap.new_next]; omega
    · rw [ty_set, ty_mark, if_neg (by omega), ty_new, ty_set, ty_new]; exact ht
    · simp only [Heap.set_next, next_mark, Heap.new_next]; omega
    · rw [ty_set, ty_mark, if_pos rfl]
    · rw [Heap.get_set_eq]; simp
    · rw [Heap.get_set_ne (by omega), get_mark]
      have := Heap.get_new_eq (h := (h.new (.arr [.int .u8 c.toNat])).set bb none) (b := .arr (byA l ++ [.int .u8 c.toNat]))
      rw [Heap.set_next, Heap.new_next] at this
      rw [this]; simp [byA]
namespace Bx
theorem un152 : ∃ u, Tryz.prog.underlying 203 = some (.pointer u) ∧ u = 5 := ⟨_, rfl, rfl⟩
theorem co5 : Tryz.prog.cellsOf 5 = 1 := by kernel_rfl
end Bx
theorem bytesOf_byA : ∀ (l : List UInt8), aconvert.bytesOf (byA l) = some l
  | [] => rfl
  | b :: l => by
    have ih := bytesOf_byA l
    unfold byA at ih ⊢
    simp only [List.map_cons, aconvert.bytesOf, ih, Option.bind_eq_bind, Option.bind_some]
    have hb := b.toNat_lt
    simp
/-- what a builder's String tells -/
theorem str_run (b : Nat) (l : List UInt8) (hlen : l.length ≤ 140737488355328) (h : AHeap) (H : Bld b l h) : ∃ h', run Cl 74 [.ptr b 0] h = some (.ret (.str l), h') := by
  obtain ⟨a0, ha0⟩ : ∃ a0, a0 = slots Tryz.f74 [.ptr b 0] := ⟨_, rfl⟩
  have hl : a0.length = 14 := by rw [ha0]; rfl
  have i0 : a0[0]? = some (.ptr b 0) := by rw [ha0]; rfl
  obtain ⟨hb, ht, ⟨rfl, g⟩ | ⟨hln, bb, hne, hbb, htb, g, gb⟩⟩ := H
  · have ld : loadA h false 1 (.ptr b 1) = some .nilSl := Heap.load_at g rfl
    have us : aunsafeString Tryz.prog h 203 .nilPtr 0 = some (.str [], h) := rfl
    have p : ∃ t, ex Cl (bodyOf Tryz.f74) ⟨a0, h⟩ = some (.ret, ⟨t, h⟩) ∧ t[2]? = some (.str []) := by
      simp only [bodyOf, Tryz.f74, Cat, Bool.false_eq_true, e_seq, e_region, e_cond, e_block, ex_skip, ex_exit, ex_ret, o_cons, xops_nil, k_want_none, k_want_false, k_val, k_pan, k_call, k_ret, k_seq, k_seq_exit, k_seq_ret, k_true, k_false, k_block, k_block_exit, k_block_ret, k_loop, k_loop_exit, k_loop_ret, awanted, aoper, evalO, put, Option.getD_some, List.getElem?_set, acallOp, abuiltin, List.map_cons, List.map_nil, Nat.reduceEqDiff, Nat.reduceLT, List.length_set, Option.map_some, Option.bind_some, Option.bind_eq_bind, add_i, sub_i, mul_i, eql_i, neq_i, lss_i, leq_i, gtr_i, geq_i, ofV, ofCell, ↓reduceIte, List.cons_append, List.nil_append, List.append_nil, List.getElem?_toArray, List.getElem?_cons_succ, List.getElem?_cons_zero, e_draw, g_nil, g_cons, g_want, g_skip, g_val, g_call, g_ret, Option.map_none, hl, i0, CP, Bx.fa1, dropCells, Nat.zero_add, Bx.ld127, ld, Bx.ln127n, us, e_draw, g_nil, g_cons, g_want, g_skip, g_val, g_call, g_ret, Option.map_none, areads, topRefs, List.flatMap_cons, List.flatMap_nil]
      rw [k_owes [(h, h, b)] (by kernel_rfl) (fun o ho => by simp only [List.mem_cons, List.not_mem_nil, or_false] at ho; rcases ho with rfl; exact same_arr g g)]
      simp only [k_seq, ex_ret]
      exact ⟨_, rfl, by simp [hl]⟩
    obtain ⟨t, e, t2⟩ := p
    exact ⟨h, fn_run (fn := Tryz.f74) (x := .ret) Tryz.func74 rfl rfl rfl (.inl rfl) (by rw [← ha0]; exact e) (vs := [_]) (by simp only [show Tryz.f74.results.toList = [ResultVar.tmp 2] from rfl, aresults, ares1, t2]; rfl)⟩
  · have ld : loadA h false 1 (.ptr b 1) = some (.sl bb 0 1 l.length l.length true) := Heap.load_at g rfl
    have l0 : 0 < l.length := List.length_pos_iff.2 hln
    have us : aunsafeString Tryz.prog h 203 (.ptr bb 0) (l.length : Int) = some (.str l, h.set bb none) := by
      unfold aunsafeString
      simp only
      rw [if_neg (by omega), if_pos ⟨by omega, by omega⟩]
      have h1 : Tryz.prog.underlying 203 = some (.pointer 5) := by kernel_rfl
      rw [h1, gb, htb]
      simp only
      rw [if_pos ⟨trivial, Bx.co5, by simp [byA_len]⟩]
      rw [List.drop_zero, Int.toNat_natCast, ← byA_len, List.take_length, bytesOf_byA]
      rfl
    have sd : ∀ (h : AHeap), (if 0 < l.length then some (AVal.ptr bb 0, h) else none) = some (.ptr bb 0, h) := fun h => if_pos l0
    have p : ∃ t, ex Cl (bodyOf Tryz.f74) ⟨a0, h⟩ = some (.ret, ⟨t, h.set bb none⟩) ∧ t[2]? = some (.str l) := by
      simp only [bodyOf, Tryz.f74, Cat, Bool.false_eq_true, e_seq, e_region, e_cond, e_block, ex_skip, ex_exit, ex_ret, o_cons, xops_nil, k_want_none, k_want_false, k_val, k_pan, k_call, k_ret, k_seq, k_seq_exit, k_seq_ret, k_true, k_false, k_block, k_block_exit, k_block_ret, k_loop, k_loop_exit, k_loop_ret, awanted, aoper, evalO, put, Option.getD_some, List.getElem?_set, acallOp, abuiltin, List.map_cons, List.map_nil, Nat.reduceEqDiff, Nat.reduceLT, List.length_set, Option.map_some, Option.bind_some, Option.bind_eq_bind, add_i, sub_i, mul_i, eql_i, neq_i, lss_i, leq_i, gtr_i, geq_i, ofV, ofCell, ↓reduceIte, List.cons_append, List.nil_append, List.append_nil, List.getElem?_toArray, List.getElem?_cons_succ, List.getElem?_cons_zero, e_draw, g_nil, g_cons, g_want, g_skip, g_val, g_call, g_ret, Option.map_none, hl, i0, CP, Bx.fa1, dropCells, Nat.zero_add, Bx.ld127, ld, Bx.ln127, us, l0, if_true, e_draw, g_nil, g_cons, g_want, g_skip, g_val, g_call, g_ret, Option.map_none, areads, topRefs, List.flatMap_cons, List.flatMap_nil]
      rw [k_owes [(h, h, b), (h, h, bb)] (by kernel_rfl) (fun o ho => by simp only [List.mem_cons, List.not_mem_nil, or_false] at ho; rcases ho with rfl | rfl; exact same_arr g g; exact same_arr gb gb)]
      simp only [k_seq, ex_ret]
      exact ⟨_, rfl, by simp [hl]⟩
    obtain ⟨t, e, t2⟩ := p
    exact ⟨h.set bb none, fn_run (fn := Tryz.f74) (x := .ret) Tryz.func74 rfl rfl rfl (.inl rfl) (by rw [← ha0]; exact e) (vs := [_]) (by simp only [show Tryz.f74.results.toList = [ResultVar.tmp 2] from rfl, aresults, ares1, t2]; rfl)⟩
/-! ### lex.text -/
end Go.Proofs.Ky
