import Derived.Test.YthfbbjoaidajfaaGreatDoorPrsTwo
set_option linter.unusedVariables false
set_option linter.unusedSimpArgs false
set_option linter.unusedSimpArgs false
set_option linter.unusedVariables false
set_option maxRecDepth 100000
namespace Go.Proofs.Q.Par
open Go Go.Am Go.Proofs
theorem run102 (s : List UInt8) (hs : s.length < 35184372088832) (h : AHeap) : run Cp 102 [.fn (.func 103) [] [], .str s] h = some (.ret (.str (capsL s)), h) := by
  refine run_of (n := 1) ?_
  simp only [arun, show Cp.summ 102 = some sum102 from rfl]
  rw [show norms (fun x => false) AHeap.empty Am.depth [AVal.fn (Fn.func 103) [] [], AVal.str s] = some [AVal.fn (Fn.func 103) [] [], AVal.str s] from normL_cont _ _ _ rfl]
  simp only [sum102, hs, if_true, Option.map_some]
def Spec62 (f : (List UInt8) → Option (List UInt8)) : Prop := ∀ (x0 : (List UInt8)) (r : (List UInt8)), f x0 = some r → ∀ h, run Cp 62 [.str x0] h = some (.ret (.str r), h)
def S62 (s : List UInt8) : Option (List UInt8) := if s.length < 35184372088832 then some (capsL s) else none
theorem S62_spec : Spec62 S62 := by
  intro s r hr h
  unfold S62 at hr
  split at hr
  case isFalse => cases hr
  rename_i hs
  cases hr
  obtain ⟨a0, ha0⟩ : ∃ a0, a0 = slots Tryz.f62 [.str s] := ⟨_, rfl⟩
  have hl : a0.length = 5 := by rw [ha0]; rfl
  have i0 : a0[0]? = some (.str s) := by rw [ha0]; rfl
  have p : ∃ t, ex Cp (bodyOf Tryz.f62) ⟨a0, bare⟩ = some (.ret, ⟨t, bare⟩) ∧ t[2]? = some (.str (capsL s)) := by
    simp only [bodyOf, Tryz.f62, Cat, Zs, awanted, aoper, evalO, put, acallOp, abuiltin, Nat.reduceEqDiff, Nat.reduceLT, ofV, ofCell, ↓reduceIte, hl, i0, CP, run102 s hs]
    exact ⟨_, rfl, by simp [hl]⟩
  obtain ⟨t, e, t2⟩ := p
  exact fn_runC (fn := Tryz.f62) (x := .ret) Tryz.func62 rfl rfl rfl rfl (.inl rfl) (by rw [← ha0]; exact e) (vs := [_]) (by simp only [show Tryz.f62.results.toList = [ResultVar.tmp 2] from rfl, aresults, ares1, t2]; rfl) rfl h
def kwB : List (List UInt8) := ["SELECT", "FROM", "WHERE", "GROUP", "BY", "ROLLUP", "CUBE", "GROUPING", "SETS", "COUNT", "SUM", "MIN", "MAX", "AND", "OR", "NOT", "IN"].map fun s => s.toUTF8.data.toList
def findI (v : List UInt8) : List (List UInt8) → Nat → Int
  | [], _ => -1
  | w :: ws, j => if v == w then j else findI v ws (j + 1)
theorem findI_mem (v : List UInt8) : ∀ (l : List (List UInt8)) (j : Nat), decide (findI v l j ≥ 0) = l.contains v
  | [], j => rfl
  | w :: ws, j => by
    unfold findI
    rw [List.contains_cons]
    by_cases h : (v == w) = true
    · rw [if_pos h, h]; simp
    · rw [if_neg h, findI_mem v ws (j + 1)]; simp [h]
section
variable (op : Bool) (d0 : Nat) (v : List UInt8) (L : List (List UInt8)) (hL : L.length ≤ 1000) (h : AHeap) (hh : h.get d0 = some (.arr (L.map .str)))
noncomputable def lp130 : Code := Cat [true, false, true, true, true] (bodyOf Tryz.f130)
namespace Lx
theorem ix52 (x : AVal) (k : IntKind) (i : Int) : aindexAddr Tryz.prog 52 x (.int k i) = indexAddrA 1 x i := by kernel_rfl
theorem ld9 (h : AHeap) (p : AVal) : aload Tryz.prog h 9 p = loadA h false 1 p := by kernel_rfl
theorem ln52 (h : AHeap) (i o e n c : Nat) (op : Bool) : alen Tryz.prog h 52 (.sl i o e n c op) = some (.int .i64 n) := by kernel_rfl
end Lx
include hL hh in
theorem loop130 : ∀ (k j : Nat), k + j = L.length → ∀ (a : List AVal), a.length = 19 → a[0]? = some (.sl d0 0 1 L.length L.length op) → a[1]? = some (.str v) → a[7]? = some (.int .i64 L.length) → a[8]? = some (.int .i64 j) →
    ∃ t, (ex Cp (.loop lp130) ⟨a, h⟩ = some (.exit 0, ⟨t, h⟩) ∧ findI v (L.drop j) j = -1 ∧ t.length = 19) ∨ (ex Cp (.loop lp130) ⟨a, h⟩ = some (.ret, ⟨t, h⟩) ∧ t.length = 19 ∧ t[4]? = some (.int .i64 (findI v (L.drop j) j))) := by
  intro k
  induction k with
  | zero =>
    intro j hj a hl i0 i1 i7 i8
    have hg : decide ((j : Int) < (L.length : Int)) = false := by simp; omega
    have p : ∃ t, ex Cp lp130 ⟨a, h⟩ = some (.exit 0, ⟨t, h⟩) ∧ t.length = 19 := by
      simp only [lp130, bodyOf, Tryz.f130, Cat, Zs, awanted, aoper, evalO, put, acallOp, abuiltin, Nat.reduceEqDiff, Nat.reduceLT, ofV, ofCell, ↓reduceIte, hl, i0, i1, i7, i8, CP, hg]
      exact ⟨_, rfl, by simp [hl]⟩
    obtain ⟨t, e, tl⟩ := p
    refine ⟨t, .inl ⟨by rw [e_loop, e]; rfl, ?_, tl⟩⟩
    rw [List.drop_eq_nil_of_le (by omega)]; rfl
  | succ k ih =>
    intro j hj a hl i0 i1 i7 i8
    have hg : decide ((j : Int) < (L.length : Int)) = true := by simp; omega
    obtain ⟨w, hw⟩ : ∃ w, L[j]? = some w := ⟨L[j]'(by omega), List.getElem?_eq_getElem (by omega)⟩
    have hd : L.drop j = w :: L.drop (j + 1) := by
      rw [List.drop_eq_getElem_cons (by omega)]
      rw [(List.getElem?_eq_some_iff.1 hw).2]
    have hx : indexAddrA 1 (.sl d0 0 1 L.length L.length op) (j : Int) = some (.ptr d0 j) := by
      unfold indexAddrA
      simp only
      rw [if_pos ⟨trivial, by omega, by omega⟩]
      simp
    have hld : loadA h false 1 (.ptr d0 j) = some (.str w) := Heap.load_at hh (by rw [List.getElem?_map, hw]; rfl)
    have hwp : IntKind.i64.wrap ((j : Int) + 1) = ((j + 1 : Nat) : Int) := by rw [wrap64 (by omega) (by omega)]; rfl
    rw [hd]
    unfold findI
    by_cases hc : (v == w) = true
    · have p : ∃ t, ex Cp lp130 ⟨a, h⟩ = some (.ret, ⟨t, h⟩) ∧ t.length = 19 ∧ t[4]? = some (.int .i64 j) := by
        simp only [lp130, bodyOf, Tryz.f130, Cat, Zs, awanted, aoper, evalO, put, acallOp, abuiltin, Nat.reduceEqDiff, Nat.reduceLT, ofV, ofCell, ↓reduceIte, hl, i0, i1, i7, i8, CP, hg, Lx.ix52, Lx.ld9, hx, hld, eql_s, hc]
        exact ⟨_, rfl, by simp [hl], by simp [hl]⟩
      obtain ⟨t, e, tl, t4⟩ := p
      refine ⟨t, .inr ⟨by rw [e_loop, e]; rfl, tl, ?_⟩⟩
      rw [if_pos hc]; exact t4
    · have hc' : (v == w) = false := by simpa using hc
      have p : ∃ t, ex Cp lp130 ⟨a, h⟩ = some (.normal, ⟨t, h⟩) ∧ t.length = 19 ∧ t[0]? = some (.sl d0 0 1 L.length L.length op) ∧ t[1]? = some (.str v) ∧ t[7]? = some (.int .i64 L.length) ∧ t[8]? = some (.int .i64 (j + 1 : Nat)) := by
        simp only [lp130, bodyOf, Tryz.f130, Cat, Zs, awanted, aoper, evalO, put, acallOp, abuiltin, Nat.reduceEqDiff, Nat.reduceLT, ofV, ofCell, ↓reduceIte, hl, i0, i1, i7, i8, CP, hg, Lx.ix52, Lx.ld9, hx, hld, eql_s, hc', hwp]
        exact ⟨_, rfl, by simp [hl], by simp [i0], by simp [i1], by simp [i7], by simp [hl]⟩
      obtain ⟨t, e, tl, t0, t1, t7, t8⟩ := p
      obtain ⟨t', q⟩ := ih (j + 1) (by omega) t tl t0 t1 t7 t8
      rw [if_neg hc]
      refine ⟨t', ?_⟩
      rcases q with ⟨q1, q2, q3⟩ | ⟨q1, q2, q3⟩
      · exact .inl ⟨by rw [e_loop, e]; exact q1, q2, q3⟩
      · exact .inr ⟨by rw [e_loop, e]; exact q1, q2, q3⟩
end
theorem refs_strs : ∀ (L : List (List UInt8)), refsL (L.map AVal.str) = []
  | [] => rfl
  | a :: l => by simp only [List.map_cons, refsL, refs, List.nil_append]; exact refs_strs l
theorem strip_strs : ∀ (L : List (List UInt8)), stripL (L.map AVal.str) = L.map AVal.str
  | [] => rfl
  | a :: l => by simp only [List.map_cons, stripL, strip, strip_strs l]
theorem run130 (op : Bool) (d0 : Nat) (v : List UInt8) (L : List (List UInt8)) (hL : L.length ≤ 1000) (h : AHeap) (hh : h.get d0 = some (.arr (L.map .str))) :
    run Cp 130 [.sl d0 0 1 L.length L.length op, .str v] h = some (.ret (.int .i64 (findI v L 0)), h) := by
  have hcr := refs_strs L
  have hst := strip_strs L
  have B : Ref Cp (fun (_ : Unit) st => st = ⟨slots Tryz.f130 [.sl d0 0 1 L.length L.length op, .str v], one d0 (L.map .str)⟩) (bodyOf Tryz.f130) retM (post (fun _ _ => False) (fun _ _ _ => False) (fun _ st => st.h = one d0 (L.map .str) ∧ st.tmps[4]? = some (.int .i64 (findI v L 0)))) := by
    rintro s st rfl x s' hm
    cases hm
    obtain ⟨a0, ha0⟩ : ∃ a0, a0 = slots Tryz.f130 [.sl d0 0 1 L.length L.length op, .str v] := ⟨_, rfl⟩
    rw [← ha0]
    have hl : a0.length = 19 := by rw [ha0]; rfl
    have i0 : a0[0]? = some (.sl d0 0 1 L.length L.length op) := by rw [ha0]; rfl
    have i1 : a0[1]? = some (.str v) := by rw [ha0]; rfl
    have p0 : ∃ t, ex Cp (Cat [false] (bodyOf Tryz.f130)) ⟨a0, one d0 (L.map .str)⟩ = some (.normal, ⟨t, one d0 (L.map .str)⟩) ∧ t.length = 19 ∧ t[0]? = some (.sl d0 0 1 L.length L.length op) ∧ t[1]? = some (.str v) := by
      simp only [bodyOf, Tryz.f130, Cat, Zs, awanted, aoper, evalO, put, acallOp, abuiltin, Nat.reduceEqDiff, Nat.reduceLT, ofV, ofCell, ↓reduceIte, hl, i0, i1, CP]
      exact ⟨_, rfl, by simp [hl], by simp [i0], by simp [i1]⟩
    obtain ⟨a1, e0, l1, j0, j1⟩ := p0
    have p1 : ∃ t, ex Cp (Cat [true, false, false] (bodyOf Tryz.f130)) ⟨a1, one d0 (L.map .str)⟩ = some (.normal, ⟨t, one d0 (L.map .str)⟩) ∧ t.length = 19 ∧ t[0]? = some (.sl d0 0 1 L.length L.length op) ∧ t[1]? = some (.str v) ∧ t[7]? = some (.int .i64 L.length) ∧ t[8]? = some (.int .i64 (0 : Nat)) := by
      simp only [bodyOf, Tryz.f130, Cat, Zs, awanted, aoper, evalO, put, acallOp, abuiltin, Nat.reduceEqDiff, Nat.reduceLT, ofV, ofCell, ↓reduceIte, l1, j0, j1, CP, Lx.ln52]
      exact ⟨_, rfl, by simp [l1], by simp [j0], by simp [j1], by simp [l1], by simp [l1]⟩
    obtain ⟨a2, e1, l2, k0, k1, k7, k8⟩ := p1
    obtain ⟨a3, q⟩ := loop130 op d0 v L hL (one d0 (L.map .str)) (one_get _ _) L.length 0 (by omega) a2 l2 k0 k1 k7 k8
    rw [show bodyOf Tryz.f130 = .seq (Cat [false] (bodyOf Tryz.f130)) (.seq (.seq (Cat [true, false, false] (bodyOf Tryz.f130)) (.block 0 (.loop lp130))) (.seq (Cat [true, true, false] (bodyOf Tryz.f130)) .ret)) from rfl]
    simp only [e_seq, e0, k_seq, e1]
    rcases q with ⟨q1, q2, q3⟩ | ⟨q1, q2, q3⟩
    · rw [e_block, q1]
      have p2 : ∃ t, ex Cp (Cat [true, true, false] (bodyOf Tryz.f130)) ⟨a3, one d0 (L.map .str)⟩ = some (.normal, ⟨t, one d0 (L.map .str)⟩) ∧ t[4]? = some (.int .i64 (-1)) := by
        simp only [bodyOf, Tryz.f130, Cat, Zs, awanted, aoper, evalO, put, acallOp, abuiltin, Nat.reduceEqDiff, Nat.reduceLT, ofV, ofCell, ↓reduceIte, q3, CP]
        exact ⟨_, rfl, by simp [q3]⟩
      obtain ⟨a4, e2, m4⟩ := p2
      simp only [k_block, k_block_exit, if_true, k_seq, e_seq, e2, ex_ret]
      refine ⟨⟨a4, _⟩, rfl, rfl, ?_⟩
      exact m4.trans (by rw [← q2]; rfl)
    · rw [e_block, q1]
      simp only [k_block_ret, k_seq_ret]
      exact ⟨⟨a3, _⟩, rfl, rfl, q3⟩
  obtain ⟨v', cs, hR, hrun⟩ := run_of_refS (C := Cp) (f := 130) (fn := Tryz.f130) Tryz.func130 rfl rfl rfl rfl (args := [.sl d0 0 1 L.length L.length op, .str v]) hh hcr (by simp only [refsL, refs, List.append_nil, List.nil_append]; first | exact dedup1 _ | exact dedup2 _) B (s0 := ()) (by rw [hst]; rfl) rfl (.inr rfl) (R := fun v' cs => v' = .int .i64 (findI v L 0) ∧ cs = L.map .str) (by
    rintro st ⟨h1, h2⟩
    refine ⟨[.int .i64 (findI v L 0)], .int .i64 (findI v L 0), L.map .str, ?_, ?_, ?_, hcr, rfl, hst⟩
    · simp only [show Tryz.f130.results.toList = [ResultVar.tmp 4] from rfl, aresults, ares1, h2]; rfl
    · exact Nrm.of rfl
    · rw [h1]; exact one_get _ _)
  obtain ⟨rfl, rfl⟩ := hR
  rw [hrun, Heap.set_same hh]
theorem run101 (op : Bool) (d0 : Nat) (v : List UInt8) (L : List (List UInt8)) (hL : L.length ≤ 1000) (h : AHeap) (hh : h.get d0 = some (.arr (L.map .str))) :
    run Cp 101 [.sl d0 0 1 L.length L.length op, .str v] h = some (.ret (.bool (L.contains v)), h) := by
  have hcr := refs_strs L
  have hst := strip_strs L
  have B : Ref Cp (fun (_ : Unit) st => st = ⟨slots Tryz.f101 [.sl d0 0 1 L.length L.length op, .str v], one d0 (L.map .str)⟩) (bodyOf Tryz.f101) retM (post (fun _ _ => False) (fun _ _ _ => False) (fun _ st => st.h = one d0 (L.map .str) ∧ st.tmps[4]? = some (.bool (L.contains v)))) := by
    rintro s st rfl x s' hm
    cases hm
    obtain ⟨a0, ha0⟩ : ∃ a0, a0 = slots Tryz.f101 [.sl d0 0 1 L.length L.length op, .str v] := ⟨_, rfl⟩
    rw [← ha0]
    have hl : a0.length = 9 := by rw [ha0]; rfl
    have i0 : a0[0]? = some (.sl d0 0 1 L.length L.length op) := by rw [ha0]; rfl
    have i1 : a0[1]? = some (.str v) := by rw [ha0]; rfl
    have r := run130 op d0 v L hL (one d0 (L.map .str)) (one_get _ _)
    have p0 : ∃ t, ex Cp (bodyOf Tryz.f101) ⟨a0, one d0 (L.map .str)⟩ = some (.ret, ⟨t, one d0 (L.map .str)⟩) ∧ t[4]? = some (.bool (decide (findI v L 0 ≥ 0))) := by
      simp only [bodyOf, Tryz.f101, Cat, Zs, awanted, aoper, evalO, put, acallOp, abuiltin, Nat.reduceEqDiff, Nat.reduceLT, ofV, ofCell, ↓reduceIte, hl, i0, i1, CP, r]
      exact ⟨_, rfl, by simp [hl]⟩
    obtain ⟨t, e, t4⟩ := p0
    rw [findI_mem] at t4
    exact ⟨⟨t, _⟩, e, rfl, t4⟩
  obtain ⟨v', cs, hR, hrun⟩ := run_of_refS (C := Cp) (f := 101) (fn := Tryz.f101) Tryz.func101 rfl rfl rfl rfl (args := [.sl d0 0 1 L.length L.length op, .str v]) hh hcr (by simp only [refsL, refs, List.append_nil, List.nil_append]; first | exact dedup1 _ | exact dedup2 _) B (s0 := ()) (by rw [hst]; rfl) rfl (.inr rfl) (R := fun v' cs => v' = .bool (L.contains v) ∧ cs = L.map .str) (by
    rintro st ⟨h1, h2⟩
    refine ⟨[.bool (L.contains v)], .bool (L.contains v), L.map .str, ?_, ?_, ?_, hcr, rfl, hst⟩
    · simp only [show Tryz.f101.results.toList = [ResultVar.tmp 4] from rfl, aresults, ares1, h2]; rfl
    · exact Nrm.of rfl
    · rw [h1]; exact one_get _ _)
  obtain ⟨rfl, rfl⟩ := hR
  rw [hrun, Heap.set_same hh]
theorem run100 (h : AHeap) : run Cp 100 [] h = some (.ret (.agg (kwB.map .str)), h) := run_of (n := 20) (by kernel_rfl)
def Spec61 (f : (List UInt8) → Option Bool) : Prop := ∀ (x0 : (List UInt8)) (r : Bool), f x0 = some r → ∀ h, run Cp 61 [.str x0] h = some (.ret (.bool r), h)
def S61 (s : List UInt8) : Option Bool := if s.length < 35184372088832 then some (kwB.contains (capsL s)) else none
namespace Lx
theorem z121 : zeroA Tryz.prog 121 = some (.agg (List.replicate 17 (.str []))) := by kernel_rfl
theorem own14 : Cp.own "lex.go:14" = false ∧ Cp.own "lex.go:59" = false ∧ Cp.own "lex.go:60" = false := by refine ⟨?_, ?_, ?_⟩ <;> kernel_rfl
theorem st121 (h : AHeap) (p v : AVal) : astore Tryz.prog h 121 p v = storeA h 17 p v := by kernel_rfl
theorem sl121 (h : AHeap) (i : Nat) (cs : List AVal) (hg : h.get i = some (.arr cs)) (hl : cs.length = 17) : aslice Tryz.prog h 121 (.ptr i 0) none none none = some (.sl i 0 1 17 17 false) := by
  have h1 : aslice Tryz.prog h 121 (.ptr i 0) none none none = (match h.get i with
    | some (.arr cells) => if 0 + 17 * 1 ≤ cells.length then some (.sl i (0 + 0 * 1) 1 (17 - 0) (17 - 0) false) else none
    | _ => none) := by kernel_rfl
  rw [h1, hg]
  simp only [hl]
  rfl
end Lx
theorem S61_spec : Spec61 S61 := by
  intro s r hr h
  unfold S61 at hr
  split at hr
  case isFalse => cases hr
  rename_i hs
  cases hr
  obtain ⟨a0, ha0⟩ : ∃ a0, a0 = slots Tryz.f61 [.str s] := ⟨_, rfl⟩
  have hl : a0.length = 9 := by rw [ha0]; rfl
  have i0 : a0[0]? = some (.str s) := by rw [ha0]; rfl
  have hs62 := S62_spec s (capsL s) (by unfold S62; rw [if_pos hs])
  obtain ⟨h1, hh1⟩ : ∃ h1 : AHeap, h1 = (bare.new (.arr (List.replicate 17 (.str [])))).set 0 (some (.arr (kwB.map .str))) := ⟨_, rfl⟩
  have bx : abox bare (.agg (List.replicate 17 (.str []))) = some (.ptr 0 0, bare.new (.arr (List.replicate 17 (.str [])))) := rfl
  have st : storeA (bare.new (.arr (List.replicate 17 (.str [])))) 17 (.ptr 0 0) (.agg (kwB.map .str)) = some h1 := by rw [hh1]; kernel_rfl
  have g1 : h1.get 0 = some (.arr (kwB.map .str)) := by rw [hh1]; exact Heap.get_set_eq
  have hr101 := run101 false 0 (capsL s) kwB (by decide) h1 g1
  have hr101' : run Cp 101 [.sl 0 0 1 17 17 false, .str (capsL s)] h1 = some (.ret (.bool (kwB.contains (capsL s))), h1) := hr101
  have p : ∃ t, ex Cp (bodyOf Tryz.f61) ⟨a0, bare⟩ = some (.ret, ⟨t, h1⟩) ∧ t[2]? = some (.bool (kwB.contains (capsL s))) := by
    simp only [bodyOf, Tryz.f61, Cat, Zs, awanted, aoper, evalO, put, acallOp, abuiltin, Nat.reduceEqDiff, Nat.reduceLT, ofV, ofCell, ↓reduceIte, hl, i0, CP, run100, Lx.z121, Lx.own14.1, Lx.own14.2.1, bx, Lx.st121, st, Lx.sl121 h1 0 _ g1 rfl, hs62, hr101', Lx.own14.2.2, e_draw, g_nil, g_cons, g_want, g_skip, g_val, g_call, g_ret, Option.map_none]
    rw [k_draw _ _ _ (by kernel_rfl)]
    simp only [k_seq, ex_ret]
    exact ⟨_, rfl, by simp [hl]⟩
  obtain ⟨t, e, t2⟩ := p
  exact fn_runC (fn := Tryz.f61) (x := .ret) Tryz.func61 rfl rfl rfl rfl (.inl rfl) (by rw [← ha0]; exact e) (vs := [_]) (by simp only [show Tryz.f61.results.toList = [ResultVar.tmp 2] from rfl, aresults, ares1, t2]; rfl) rfl h
end Go.Proofs.Q.Par



set_option linter.unusedSimpArgs false
set_option linter.unusedVariables false
set_option maxRecDepth 100000
namespace Go.Proofs.Q.Par
open Go Go.Am Go.Proofs
namespace Bx
theorem fa0 (p : AVal) : afieldAddr Tryz.prog 129 p 0 = dropCells 0 p := by kernel_rfl
theorem fa1 (p : AVal) : afieldAddr Tryz.prog 129 p 1 = dropCells 1 p := by kernel_rfl
theorem ld126 (h : AHeap) (p : AVal) : aload Tryz.prog h 126 p = loadA h false 1 p := by kernel_rfl
theorem ld127 (h : AHeap) (p : AVal) : aload Tryz.prog h 127 p = loadA h false 1 p := by kernel_rfl
theorem st126 (h : AHeap) (p v : AVal) : astore Tryz.prog h 126 p v = storeA h 1 p v := by kernel_rfl
theorem st127 (h : AHeap) (p v : AVal) : astore Tryz.prog h 127 p v = storeA h 1 p v := by kernel_rfl
theorem eqn (xo : Operand) (h : AHeap) : abin Cp .eql 126 xo (.const (.pointer none)) h .nilPtr .nilPtr = some (.bool true) := by kernel_rfl
theorem eqp (xo yo : Operand) (h : AHeap) (i o : Nat) : abin Cp .eql 126 xo yo h (.ptr i o) .nilPtr = some (.bool false) := by kernel_rfl
theorem run155 (x : AVal) (h : AHeap) : run Cp 155 [x] h = some (.ret x, h) := run_of (n := 1) (by kernel_rfl)
theorem nqp (xo yo : Operand) (h : AHeap) (i : Nat) (x : AVal) (cs : List AVal) (hg : h.get i = some (.arr (x :: cs))) : abin Cp .neq 126 xo yo h (.ptr i 0) (.ptr i 0) = some (.bool false) := by
  have h1 : abin Cp .neq 126 xo yo h (.ptr i 0) (.ptr i 0) = (match h.get i, h.get i with
    | some (.arr (_ :: _)), some (.arr (_ :: _)) => some (.bool (!(decide (i = i) && decide (0 = 0))))
    | _, _ => none) := by kernel_rfl
  rw [h1, hg]; simp
theorem cvp (h : AHeap) (i : Nat) (x y : AVal) (hg : h.get i = some (.arr [x, y])) : aconvert Tryz.prog h 126 162 (.ptr i 0) = some (.ptr i 0, h) := by
  have h1 : aconvert Tryz.prog h 126 162 (.ptr i 0) = (match h.get i with
    | some (.arr cells) => if 0 < cells.length ∧ 2 ≠ 0 then some (.ptr i 0, h) else none
    | _ => none) := by kernel_rfl
  rw [h1, hg]; simp
theorem cvq (h : AHeap) (i : Nat) (x y : AVal) (hg : h.get i = some (.arr [x, y])) (ht : h.ty i = some (129, true)) : aconvert Tryz.prog h 162 126 (.ptr i 0) = some (.ptr i 0, h) := by
  have h1 : aconvert Tryz.prog h 162 126 (.ptr i 0) = (match h.get i, h.ty i with
    | some (.arr cells), some (t, true) => if liesAt Tryz.prog Tryz.prog.depth t (cells.length / Tryz.prog.cellsOf t) 0 129 1 = true then some (.ptr i 0, h) else none
    | _, _ => none) := by kernel_rfl
  rw [h1, hg, ht]
  have h2 : liesAt Tryz.prog Tryz.prog.depth 129 ([x, y].length / Tryz.prog.cellsOf 129) 0 129 1 = true := by kernel_rfl
  simp only
  rw [if_pos h2]
theorem bs127 (c : Int) : abuildSlice Tryz.prog 127 1 [(0, .int .u8 c)] = some ([.int .u8 c], 1) := by kernel_rfl
theorem own97 : Cp.own "builder.go:97" = true := by kernel_rfl
theorem ap127 (h : AHeap) (s x : AVal) : aappend Tryz.prog true h [127, 127] [s, x] = (appendA true h 1 1 s x).map (markRow h 5 s) := by kernel_rfl
theorem ln127 (h : AHeap) (i o e n c : Nat) (op : Bool) : alen Tryz.prog h 127 (.sl i o e n c op) = some (.int .i64 n) := by kernel_rfl
theorem ln127n (h : AHeap) : alen Tryz.prog h 127 .nilSl = some (.int .i64 0) := by kernel_rfl
end Bx
theorem cc_first (b : Nat) (sv : AVal) (h : AHeap) (hg : h.get b = some (.arr [.nilPtr, sv])) (ht : h.ty b = some (129, true)) (hs : sv.isCell = true) :
    run Cp 135 [.ptr b 0] h = some (.ret (.tup []), h.set b (some (.arr [.ptr b 0, sv]))) := by
  obtain ⟨a0, ha0⟩ : ∃ a0, a0 = slots Tryz.f135 [.ptr b 0] := ⟨_, rfl⟩
  have hl : a0.length = 20 := by rw [ha0]; rfl
  have i0 : a0[0]? = some (.ptr b 0) := by rw [ha0]; rfl
  have ld : loadA h false 1 (.ptr b 0) = some .nilPtr := Heap.load_at hg rfl
  have st : storeA h 1 (.ptr b 0) (.ptr b 0) = some (h.set b (some (.arr [.ptr b 0, sv]))) := Heap.store_at hg rfl (by simp)
  have p : ∃ t, ex Cp (bodyOf Tryz.f135) ⟨a0, h⟩ = some (.normal, ⟨t, h.set b (some (.arr [.ptr b 0, sv]))⟩) := by
    simp only [bodyOf, Tryz.f135, Cat, Zs, awanted, aoper, evalO, put, acallOp, abuiltin, Nat.reduceEqDiff, Nat.reduceLT, ofV, ofCell, ↓reduceIte, hl, i0, CP, Bx.fa0, dropCells, Nat.add_zero, Bx.ld126, ld, Bx.eqn, Bx.cvp h b _ _ hg, Bx.run155, Bx.cvq h b _ _ hg ht, Bx.st126, st]
    exact ⟨_, rfl⟩
  obtain ⟨t, e⟩ := p
  exact fn_run (fn := Tryz.f135) (x := .normal) Tryz.func135 rfl rfl rfl (.inr rfl) (by rw [← ha0]; exact e) (vs := []) rfl
theorem cc_later (b : Nat) (sv : AVal) (h : AHeap) (hg : h.get b = some (.arr [.ptr b 0, sv])) :
    run Cp 135 [.ptr b 0] h = some (.ret (.tup []), h) := by
  obtain ⟨a0, ha0⟩ : ∃ a0, a0 = slots Tryz.f135 [.ptr b 0] := ⟨_, rfl⟩
  have hl : a0.length = 20 := by rw [ha0]; rfl
  have i0 : a0[0]? = some (.ptr b 0) := by rw [ha0]; rfl
  have ld : loadA h false 1 (.ptr b 0) = some (.ptr b 0) := Heap.load_at hg rfl
  have p : ∃ t, ex Cp (bodyOf Tryz.f135) ⟨a0, h⟩ = some (.normal, ⟨t, h⟩) := by
    simp only [bodyOf, Tryz.f135, Cat, Zs, awanted, aoper, evalO, put, acallOp, abuiltin, Nat.reduceEqDiff, Nat.reduceLT, ofV, ofCell, ↓reduceIte, hl, i0, CP, Bx.fa0, dropCells, Nat.add_zero, Bx.ld126, ld, Bx.eqp, Bx.nqp _ _ h b _ _ hg]
    exact ⟨_, rfl⟩
  obtain ⟨t, e⟩ := p
  exact fn_run (fn := Tryz.f135) (x := .normal) Tryz.func135 rfl rfl rfl (.inr rfl) (by rw [← ha0]; exact e) (vs := []) rfl
def byA (l : List UInt8) : List AVal := l.map fun b => .int .u8 b.toNat
def Bld (b : Nat) (l : List UInt8) (h : AHeap) : Prop :=
  b < h.next ∧ h.ty b = some (129, true) ∧
  ((l = [] ∧ h.get b = some (.arr [.nilPtr, .nilSl])) ∨
   (l ≠ [] ∧ ∃ bb, bb ≠ b ∧ bb < h.next ∧ h.ty bb = some (5, false) ∧ h.get b = some (.arr [.ptr b 0, .sl bb 0 1 l.length l.length true]) ∧ h.get bb = some (.arr (byA l))))
theorem byA_len (l : List UInt8) : (byA l).length = l.length := by simp [byA]
theorem get_mark (h : AHeap) (i : Nat) (t : TypeId × Bool) (j : Nat) : (h.mark i t).get j = h.get j := rfl
theorem next_mark (h : AHeap) (i : Nat) (t : TypeId × Bool) : (h.mark i t).next = h.next := rfl
theorem ty_mark (h : AHeap) (i : Nat) (t : TypeId × Bool) (j : Nat) : (h.mark i t).ty j = if j = i then some t else h.ty j := rfl
theorem ty_new (h : AHeap) (b : ABlk) (j : Nat) : (h.new b).ty j = h.ty j := rfl
theorem ty_set (h : AHeap) (i : Nat) (b : Option ABlk) (j : Nat) : (h.set i b).ty j = h.ty j := rfl
theorem wb_tail (b : Nat) (c : UInt8) (sv : AVal) (h h1 h2 : AHeap) (hcc : run Cp 135 [.ptr b 0] h = some (.ret (.tup []), h1)) (g1 : h1.get b = some (.arr [.ptr b 0, sv])) (hb : b < h1.next)
    {r : AVal} (hap : (appendA true (h1.new (.arr [.int .u8 c.toNat])) 1 1 sv (.sl h1.next 0 1 1 1 false)).map (markRow (h1.new (.arr [.int .u8 c.toNat])) 5 sv) = some (r, h2)) (g2 : h2.get b = some (.arr [.ptr b 0, sv])) (hr : r.isCell = true) (hrc : r.cells = [r]) :
    run Cp 105 [.ptr b 0, .int .u8 c.toNat] h = some (.ret .nilI, h2.set b (some (.arr [.ptr b 0, r]))) := by
  obtain ⟨a0, ha0⟩ : ∃ a0, a0 = slots Tryz.f105 [.ptr b 0, .int .u8 c.toNat] := ⟨_, rfl⟩
  have hl : a0.length = 17 := by rw [ha0]; rfl
  have i0 : a0[0]? = some (.ptr b 0) := by rw [ha0]; rfl
  have i1 : a0[1]? = some (.int .u8 c.toNat) := by rw [ha0]; rfl
  have ld : loadA h1 false 1 (.ptr b 1) = some sv := Heap.load_at g1 rfl
  have st : storeA h2 1 (.ptr b 1) r = some (h2.set b (some (.arr [.ptr b 0, r]))) := by
    simp only [storeA, hrc, g2, List.all_cons, hr, List.all_nil]
    rfl
  have p : ∃ t, ex Cp (bodyOf Tryz.f105) ⟨a0, h⟩ = some (.ret, ⟨t, h2.set b (some (.arr [.ptr b 0, r]))⟩) ∧ t[4]? = some .nilI := by
    simp only [bodyOf, Tryz.f105, Cat, Zs, awanted, aoper, evalO, put, acallOp, abuiltin, Nat.reduceEqDiff, Nat.reduceLT, ofV, ofCell, ↓reduceIte, hl, i0, i1, CP, hcc, Bx.fa1, dropCells, Nat.zero_add, Bx.ld127, ld, Bx.bs127, Bx.own97, Bx.ap127, hap, Bx.st127, st]
    exact ⟨_, rfl, by simp [hl]⟩
  obtain ⟨t, e, t4⟩ := p
  exact fn_run (fn := Tryz.f105) (x := .ret) Tryz.func105 rfl rfl rfl (.inl rfl) (by rw [← ha0]; exact e) (vs := [_]) (by simp only [show Tryz.f105.results.toList = [ResultVar.tmp 4] from rfl, aresults, ares1, t4]; rfl)
theorem wb_run (b : Nat) (l : List UInt8) (c : UInt8) (hlen : l.length < 100000) (h : AHeap) (H : Bld b l h) : ∃ h', run Cp 105 [.ptr b 0, .int .u8 c.toNat] h = some (.ret .nilI, h') ∧ Bld b (l ++ [c]) h' := by
  obtain ⟨hb, ht, ⟨rfl, g⟩ | ⟨hln, bb, hne, hbb, htb, g, gb⟩⟩ := H
  · have hcc := cc_first b .nilSl h g ht rfl
    obtain ⟨h1, hh1⟩ : ∃ h1, h1 = h.set b (some (.arr [.ptr b 0, .nilSl])) := ⟨_, rfl⟩
    rw [← hh1] at hcc
    have g1 : h1.get b = some (.arr [.ptr b 0, .nilSl]) := by rw [hh1]; exact Heap.get_set_eq
    have hb1 : b < h1.next := by rw [hh1]; exact hb
    have ht1 : h1.ty b = some (129, true) := by rw [hh1]; exact ht
    have gl : (h1.new (.arr [.int .u8 c.toNat])).get h1.next = some (.arr [.int .u8 c.toNat]) := Heap.get_new_eq
    have hap : (appendA true (h1.new (.arr [.int .u8 c.toNat])) 1 1 .nilSl (.sl h1.next 0 1 1 1 false)).map (markRow (h1.new (.arr [.int .u8 c.toNat])) 5 .nilSl) = some (.sl (h1.next + 1) 0 1 1 1 true, ((h1.new (.arr [.int .u8 c.toNat])).new (.arr [.int .u8 c.toNat])).mark (h1.next + 1) (5, false)) := by
      simp [appendA, lenA, srcCells, gl, markRow, AVal.isCell, Heap.new_next]
    have g2 : (((h1.new (.arr [.int .u8 c.toNat])).new (.arr [.int .u8 c.toNat])).mark (h1.next + 1) (5, false)).get b = some (.arr [.ptr b 0, .nilSl]) := by
      rw [get_mark, Heap.get_new_lt (by rw [Heap.new_next]; omega), Heap.get_new_lt hb1]; exact g1
    refine ⟨_, wb_tail b c .nilSl h h1 _ hcc g1 hb1 hap g2 rfl rfl, ?_, ?_, .inr ⟨by simp, h1.next + 1, by omega, ?_, ?_, ?_, ?_⟩⟩
    · simp only [Heap.set_next, next_mark, Heap.new_next]; omega
    · rw [ty_set, ty_mark, if_neg (by omega), ty_new, ty_new]; exact ht1
    · simp only [Heap.set_next, next_mark, Heap.new_next]; omega
    · rw [ty_set, ty_mark, if_pos rfl]
    · exact Heap.get_set_eq
    · rw [Heap.get_set_ne (by omega), get_mark]
      have := Heap.get_new_eq (h := h1.new (.arr [.int .u8 c.toNat])) (b := .arr [.int .u8 c.toNat])
      rw [Heap.new_next] at this
      exact this
  · have hcc := cc_later b _ h g
    have gl : (h.new (.arr [.int .u8 c.toNat])).get h.next = some (.arr [.int .u8 c.toNat]) := Heap.get_new_eq
    have gb1 : (h.new (.arr [.int .u8 c.toNat])).get bb = some (.arr (byA l)) := by rw [Heap.get_new_lt hbb]; exact gb
    have hap : (appendA true (h.new (.arr [.int .u8 c.toNat])) 1 1 (.sl bb 0 1 l.length l.length true) (.sl h.next 0 1 1 1 false)).map (markRow (h.new (.arr [.int .u8 c.toNat])) 5 (.sl bb 0 1 l.length l.length true)) = some (.sl (h.next + 1) 0 1 (l.length + 1) (l.length + 1) true, (((h.new (.arr [.int .u8 c.toNat])).set bb none).new (.arr (byA l ++ [.int .u8 c.toNat]))).mark (h.next + 1) (5, false)) := by
      simp only [appendA, lenA, srcCells, gl, gb1, Option.bind_eq_bind, Option.bind_some]
      have e1 : (List.drop 0 (byA l)).take (l.length * 1) = byA l := by rw [List.drop_zero, Nat.mul_one, ← byA_len, List.take_length]
      have hty : (h.new (.arr [.int .u8 c.toNat])).isTy bb 5 = true := by unfold AHeap.isTy; rw [ty_new, htb]; rfl
      have e2 : List.take l.length (byA l) = byA l := by rw [← byA_len, List.take_length]
      have c1 : ¬ (l.length + 1 ≤ l.length) := by omega
      have c2 : l.length ≤ 140737488355327 := by omega
      have c3 : l.length ≤ 9223372036854775806 := by omega
      simp [AVal.isCell, byA_len, e1, e2, c2, c3, if_neg c1, markRow, Heap.new_next, Heap.set_next, hty]
    have g2 : ((((h.new (.arr [.int .u8 c.toNat])).set bb none).new (.arr (byA l ++ [.int .u8 c.toNat]))).mark (h.next + 1) (5, false)).get b = some (.arr [.ptr b 0, .sl bb 0 1 l.length l.length true]) := by
      rw [get_mark, Heap.get_new_lt (by rw [Heap.set_next, Heap.new_next]; omega), Heap.get_set_ne (Ne.symm hne), Heap.get_new_lt hb]; exact g
    refine ⟨_, wb_tail b c _ h h _ hcc g hb hap g2 rfl rfl, ?_, ?_, .inr ⟨by simp, h.next + 1, by omega, ?_, ?_, ?_, ?_⟩⟩
    · simp only [Heap.set_next, next_mark, Heap.new_next]; omega
    · rw [ty_set, ty_mark, if_neg (by omega), ty_new, ty_set, ty_new]; exact ht
    · simp only [Heap.set_next, next_mark, Heap.new_next]; omega
    · rw [ty_set, ty_mark, if_pos rfl]
    · rw [Heap.get_set_eq]; simp
    · rw [Heap.get_set_ne (by omega), get_mark]
      have := Heap.get_new_eq (h := (h.new (.arr [.int .u8 c.toNat])).set bb none) (b := .arr (byA l ++ [.int .u8 c.toNat]))
      rw [Heap.set_next, Heap.new_next] at this
      rw [this]; simp [byA]
namespace Bx
theorem co5 : Tryz.prog.cellsOf 5 = 1 := by kernel_rfl
end Bx
theorem bytesOf_byA : ∀ (l : List UInt8), aconvert.bytesOf (byA l) = some l
  | [] => rfl
  | b :: l => by
    have ih := bytesOf_byA l
    unfold byA at ih ⊢
    simp only [List.map_cons, aconvert.bytesOf, ih, Option.bind_eq_bind, Option.bind_some]
    have hb := b.toNat_lt
    simp
theorem str_run (b : Nat) (l : List UInt8) (hlen : l.length < 100000) (h : AHeap) (H : Bld b l h) : ∃ h', run Cp 104 [.ptr b 0] h = some (.ret (.str l), h') := by
  obtain ⟨a0, ha0⟩ : ∃ a0, a0 = slots Tryz.f104 [.ptr b 0] := ⟨_, rfl⟩
  have hl : a0.length = 14 := by rw [ha0]; rfl
  have i0 : a0[0]? = some (.ptr b 0) := by rw [ha0]; rfl
  obtain ⟨hb, ht, ⟨rfl, g⟩ | ⟨hln, bb, hne, hbb, htb, g, gb⟩⟩ := H
  · have ld : loadA h false 1 (.ptr b 1) = some .nilSl := Heap.load_at g rfl
    have us : aunsafeString Tryz.prog h 153 .nilPtr 0 = some (.str [], h) := rfl
    have p : ∃ t, ex Cp (bodyOf Tryz.f104) ⟨a0, h⟩ = some (.ret, ⟨t, h⟩) ∧ t[2]? = some (.str []) := by
      simp only [bodyOf, Tryz.f104, Cat, Zs, awanted, aoper, evalO, put, acallOp, abuiltin, Nat.reduceEqDiff, Nat.reduceLT, ofV, ofCell, ↓reduceIte, hl, i0, CP, Bx.fa1, dropCells, Nat.zero_add, Bx.ld127, ld, Bx.ln127n, us, e_draw, g_nil, g_cons, g_want, g_skip, g_val, g_call, g_ret, Option.map_none, areads, topRefs, List.flatMap_cons, List.flatMap_nil]
      rw [k_owes [(h, h, b)] (by kernel_rfl) (fun o ho => by simp only [List.mem_cons, List.not_mem_nil, or_false] at ho; rcases ho with rfl; exact same_arr g g)]
      simp only [k_seq, ex_ret]
      exact ⟨_, rfl, by simp [hl]⟩
    obtain ⟨t, e, t2⟩ := p
    exact ⟨h, fn_run (fn := Tryz.f104) (x := .ret) Tryz.func104 rfl rfl rfl (.inl rfl) (by rw [← ha0]; exact e) (vs := [_]) (by simp only [show Tryz.f104.results.toList = [ResultVar.tmp 2] from rfl, aresults, ares1, t2]; rfl)⟩
  · have ld : loadA h false 1 (.ptr b 1) = some (.sl bb 0 1 l.length l.length true) := Heap.load_at g rfl
    have l0 : 0 < l.length := List.length_pos_iff.2 hln
    have us : aunsafeString Tryz.prog h 153 (.ptr bb 0) (l.length : Int) = some (.str l, h.set bb none) := by
      unfold aunsafeString
      simp only
      rw [if_neg (by omega), if_pos ⟨by omega, by omega⟩]
      have h1 : Tryz.prog.underlying 153 = some (.pointer 5) := by kernel_rfl
      rw [h1, gb, htb]
      simp only
      rw [if_pos ⟨trivial, Bx.co5, by simp [byA_len]⟩]
      rw [List.drop_zero, Int.toNat_natCast, ← byA_len, List.take_length, bytesOf_byA]
      rfl
    have sd : ∀ (h : AHeap), (if 0 < l.length then some (AVal.ptr bb 0, h) else none) = some (.ptr bb 0, h) := fun h => if_pos l0
    have p : ∃ t, ex Cp (bodyOf Tryz.f104) ⟨a0, h⟩ = some (.ret, ⟨t, h.set bb none⟩) ∧ t[2]? = some (.str l) := by
      simp only [bodyOf, Tryz.f104, Cat, Zs, awanted, aoper, evalO, put, acallOp, abuiltin, Nat.reduceEqDiff, Nat.reduceLT, ofV, ofCell, ↓reduceIte, hl, i0, CP, Bx.fa1, dropCells, Nat.zero_add, Bx.ld127, ld, Bx.ln127, us, l0, if_true, e_draw, g_nil, g_cons, g_want, g_skip, g_val, g_call, g_ret, Option.map_none, areads, topRefs, List.flatMap_cons, List.flatMap_nil]
      rw [k_owes [(h, h, b), (h, h, bb)] (by kernel_rfl) (fun o ho => by simp only [List.mem_cons, List.not_mem_nil, or_false] at ho; rcases ho with rfl | rfl; exact same_arr g g; exact same_arr gb gb)]
      simp only [k_seq, ex_ret]
      exact ⟨_, rfl, by simp [hl]⟩
    obtain ⟨t, e, t2⟩ := p
    exact ⟨h.set bb none, fn_run (fn := Tryz.f104) (x := .ret) Tryz.func104 rfl rfl rfl (.inl rfl) (by rw [← ha0]; exact e) (vs := [_]) (by simp only [show Tryz.f104.results.toList = [ResultVar.tmp 2] from rfl, aresults, ares1, t2]; rfl)⟩
def textL : List UInt8 → Nat → List UInt8 → List UInt8 × Int × Bool
  | [], _, _ => ([], 0, false)
  | [c], i, acc => if c = 39 then (acc, (i + 1 : Nat), true) else ([], 0, false)
  | c :: d :: r, i, acc => if c = 39 then (if d = 39 then textL r (i + 2) (acc ++ [39]) else (acc, (i + 1 : Nat), true)) else textL (d :: r) (i + 1) (acc ++ [c])
theorem Bx.ixs (s : List UInt8) (i : Nat) (c : UInt8) (h : s[i]? = some c) : aindex Tryz.prog 9 (.str s) (.int .i64 (i : Int)) = some (.int .u8 c.toNat) := by
  have h1 : aindex Tryz.prog 9 (.str s) (.int .i64 (i : Int)) = (if 0 ≤ (i : Int) then (s[(i : Int).toNat]?).map fun b => .int .u8 b.toNat else none) := by kernel_rfl
  rw [h1, if_pos (by omega), Int.toNat_natCast, h]; rfl
theorem Bx.lns (h : AHeap) (s : List UInt8) : alen Tryz.prog h 9 (.str s) = some (.int .i64 s.length) := by kernel_rfl
noncomputable def lp64 : Code := Cat [true, true, false, true, true, true] (bodyOf Tryz.f64)
theorem u8_eq (c : UInt8) (n : Nat) (hn : n < 256) : ((c.toNat : Int) == (n : Int)) = decide (c = UInt8.ofNat n) := by
  by_cases h : c = UInt8.ofNat n
  · subst h; simp [Nat.mod_eq_of_lt hn]
  · have : c.toNat ≠ n := fun e => h (by rw [← e]; simp)
    simp [h]; omega
theorem loop64 (s : List UInt8) (hs : s.length ≤ 50000) (b : Nat) : ∀ (m : Nat) (i : Nat) (acc : List UInt8) (h : AHeap) (a : List AVal), (s.drop i).length ≤ m → i ≤ s.length + 1 → acc.length ≤ i → Bld b acc h → a.length = 42 → a[0]? = some (.str s) → a[7]? = some (.ptr b 0) → a[8]? = some (.int .i64 i) →
    ∃ t h', (ex Cp (.loop lp64) ⟨a, h⟩ = some (.exit 0, ⟨t, h'⟩) ∧ textL (s.drop i) i acc = ([], 0, false) ∧ t.length = 42) ∨
      (ex Cp (.loop lp64) ⟨a, h⟩ = some (.ret, ⟨t, h'⟩) ∧ t[4]? = some (.str (textL (s.drop i) i acc).1) ∧ t[5]? = some (.int .i64 (textL (s.drop i) i acc).2.1) ∧ t[6]? = some (.bool (textL (s.drop i) i acc).2.2)) := by
  intro m
  induction m using Nat.strongRecOn with
  | _ m ih =>
  intro i acc h a hm hi hacc H hl i0 i7 i8
  cases hd : s.drop i with
  | nil =>
    have hge : s.length ≤ i := by
      have := congrArg List.length hd
      simp at this; omega
    have hg : decide ((i : Int) < (s.length : Int)) = false := by simp; omega
    have p : ∃ t, ex Cp lp64 ⟨a, h⟩ = some (.exit 0, ⟨t, h⟩) ∧ t.length = 42 := by
      simp only [lp64, bodyOf, Tryz.f64, Cat, Zs, awanted, aoper, evalO, put, acallOp, abuiltin, Nat.reduceEqDiff, Nat.reduceLT, ofV, ofCell, ↓reduceIte, hl, i0, i7, i8, CP, bq1, bq2, bq3, bq4, Bx.lns, hg]
      exact ⟨_, rfl, by simp [hl]⟩
    obtain ⟨t, e, tl⟩ := p
    exact ⟨t, h, .inl ⟨by rw [e_loop, e]; rfl, rfl, tl⟩⟩
  | cons c r =>
    have hlt : i < s.length := by
      have := congrArg List.length hd
      simp at this; omega
    have hg : decide ((i : Int) < (s.length : Int)) = true := by simp; omega
    have hc : s[i]? = some c := by
      have := List.getElem?_drop (xs := s) (i := i) (j := 0)
      rw [hd] at this; simpa using this.symm
    have hr : s.drop (i + 1) = r := by rw [← List.drop_drop, hd]; rfl
    have hw1 : IntKind.i64.wrap ((i : Int) + 1) = ((i + 1 : Nat) : Int) := by rw [wrap64 (by omega) (by omega)]; rfl
    have ic := Bx.ixs s i c hc
    have hmr : r.length + 1 ≤ m := by rw [hd] at hm; simpa using hm
    by_cases h39 : c = 39
    · have q1 : ((c.toNat : Int) == (39 : Int)) = true := by rw [h39]; rfl
      cases hrr : r with
      | nil =>
        subst hrr
        have hlen : s.length = i + 1 := by
          have := congrArg List.length hr
          simp at this; omega
        have q2 : (((i + 1 : Nat) : Int) == (s.length : Int)) = true := by rw [hlen]; simp
        obtain ⟨h', hst⟩ := str_run b acc (by omega) h H
        have p : ∃ t, ex Cp lp64 ⟨a, h⟩ = some (.ret, ⟨t, h'⟩) ∧ t[4]? = some (.str acc) ∧ t[5]? = some (.int .i64 (i + 1 : Nat)) ∧ t[6]? = some (.bool true) := by
          simp only [lp64, bodyOf, Tryz.f64, Cat, Zs, awanted, aoper, evalO, put, acallOp, abuiltin, Nat.reduceEqDiff, Nat.reduceLT, ofV, ofCell, ↓reduceIte, hl, i0, i7, i8, CP, bq1, bq2, bq3, bq4, Bx.lns, hg, ic, q1, hw1, q2, hst]
          exact ⟨_, rfl, by simp [hl], by simp [hl], by simp [hl]⟩
        obtain ⟨t, e, t4, t5, t6⟩ := p
        refine ⟨t, h', .inr ⟨by rw [e_loop, e]; rfl, ?_⟩⟩
        unfold textL
        rw [if_pos h39]
        exact ⟨t4, t5, t6⟩
      | cons d r2 =>
        have hlen : s.length ≠ i + 1 := by
          have := congrArg List.length hr
          rw [hrr] at this; simp at this; omega
        have q2 : (((i + 1 : Nat) : Int) == (s.length : Int)) = false := by simp; omega
        have hdd : s[i + 1]? = some d := by
          have := List.getElem?_drop (xs := s) (i := i + 1) (j := 0)
          rw [hr, hrr] at this; simpa using this.symm
        have id_ := Bx.ixs s (i + 1) d hdd
        have hr2 : s.drop (i + 2) = r2 := by rw [show i + 2 = (i + 1) + 1 from rfl, ← List.drop_drop, hr, hrr]; rfl
        by_cases hd39 : d = 39
        · have q3 : ((d.toNat : Int) != (39 : Int)) = false := by rw [hd39]; rfl
          obtain ⟨h', hwb, H'⟩ := wb_run b acc d (by omega) h H
          have hw2 : IntKind.i64.wrap (((i + 1 : Nat) : Int) + 1) = ((i + 2 : Nat) : Int) := by rw [wrap64 (by omega) (by omega)]; rfl
          have p : ∃ t, ex Cp lp64 ⟨a, h⟩ = some (.normal, ⟨t, h'⟩) ∧ t.length = 42 ∧ t[0]? = some (.str s) ∧ t[7]? = some (.ptr b 0) ∧ t[8]? = some (.int .i64 (i + 2 : Nat)) := by
            simp only [lp64, bodyOf, Tryz.f64, Cat, Zs, awanted, aoper, evalO, put, acallOp, abuiltin, Nat.reduceEqDiff, Nat.reduceLT, ofV, ofCell, ↓reduceIte, hl, i0, i7, i8, CP, bq1, bq2, bq3, bq4, Bx.lns, hg, ic, q1, hw1, q2, id_, q3, hwb, hw2]
            exact ⟨_, rfl, by simp [hl], by simp [i0], by simp [i7], by simp [hl]⟩
          obtain ⟨t, e, tl, t0, t7, t8⟩ := p
          have hl2 : (s.drop (i + 2)).length < m := by
            rw [hr2]; rw [hrr] at hmr; simp at hmr; omega
          obtain ⟨t', h2, q⟩ := ih _ hl2 (i + 2) (acc ++ [d]) h' t (Nat.le_refl _) (by
            have := congrArg List.length hr
            rw [hrr] at this; simp at this; omega) (by simp; omega) H' tl t0 t7 t8
          rw [hr2] at q
          have ht : textL (c :: d :: r2) i acc = textL r2 (i + 2) (acc ++ [d]) := by
            rw [textL, if_pos h39, if_pos hd39, hd39]
          rw [ht]
          refine ⟨t', h2, ?_⟩
          rcases q with ⟨q1, q2, q3⟩ | ⟨q1, q2⟩
          · exact .inl ⟨by rw [e_loop, e]; exact q1, q2, q3⟩
          · exact .inr ⟨by rw [e_loop, e]; exact q1, q2⟩
        · have q3 : ((d.toNat : Int) != (39 : Int)) = true := by
            have := u8_eq d 39 (by omega)
            have h2 : ((d.toNat : Int) == (39 : Int)) = false := this.trans (by simpa using hd39)
            simp only [bne, h2, Bool.not_false]
          obtain ⟨h', hst⟩ := str_run b acc (by omega) h H
          have p : ∃ t, ex Cp lp64 ⟨a, h⟩ = some (.ret, ⟨t, h'⟩) ∧ t[4]? = some (.str acc) ∧ t[5]? = some (.int .i64 (i + 1 : Nat)) ∧ t[6]? = some (.bool true) := by
            simp only [lp64, bodyOf, Tryz.f64, Cat, Zs, awanted, aoper, evalO, put, acallOp, abuiltin, Nat.reduceEqDiff, Nat.reduceLT, ofV, ofCell, ↓reduceIte, hl, i0, i7, i8, CP, bq1, bq2, bq3, bq4, Bx.lns, hg, ic, q1, hw1, q2, id_, q3, hst]
            exact ⟨_, rfl, by simp [hl], by simp [hl], by simp [hl]⟩
          obtain ⟨t, e, t4, t5, t6⟩ := p
          refine ⟨t, h', .inr ⟨by rw [e_loop, e]; rfl, ?_⟩⟩
          rw [textL, if_pos h39, if_neg hd39]
          exact ⟨t4, t5, t6⟩
    · have q1 : ((c.toNat : Int) == (39 : Int)) = false := by
        exact (u8_eq c 39 (by omega)).trans (by simpa using h39)
      obtain ⟨h', hwb, H'⟩ := wb_run b acc c (by omega) h H
      have p : ∃ t, ex Cp lp64 ⟨a, h⟩ = some (.normal, ⟨t, h'⟩) ∧ t.length = 42 ∧ t[0]? = some (.str s) ∧ t[7]? = some (.ptr b 0) ∧ t[8]? = some (.int .i64 (i + 1 : Nat)) := by
        simp only [lp64, bodyOf, Tryz.f64, Cat, Zs, awanted, aoper, evalO, put, acallOp, abuiltin, Nat.reduceEqDiff, Nat.reduceLT, ofV, ofCell, ↓reduceIte, hl, i0, i7, i8, CP, bq1, bq2, bq3, bq4, Bx.lns, hg, ic, q1, hwb, hw1]
        exact ⟨_, rfl, by simp [hl], by simp [i0], by simp [i7], by simp [hl]⟩
      obtain ⟨t, e, tl, t0, t7, t8⟩ := p
      have hl2 : (s.drop (i + 1)).length < m := by rw [hr]; omega
      obtain ⟨t', h2, q⟩ := ih _ hl2 (i + 1) (acc ++ [c]) h' t (Nat.le_refl _) (by omega) (by simp; omega) H' tl t0 t7 t8
      rw [hr] at q
      have ht : (textL (c :: r) i acc = textL r (i + 1) (acc ++ [c])) := by
        cases r with
        | nil => simp only [textL, if_neg h39]
        | cons d r2 => rw [textL, if_neg h39]
      rw [ht]
      refine ⟨t', h2, ?_⟩
      rcases q with ⟨q1, q2, q3⟩ | ⟨q1, q2⟩
      · exact .inl ⟨by rw [e_loop, e]; exact q1, q2, q3⟩
      · exact .inr ⟨by rw [e_loop, e]; exact q1, q2⟩
def Spec64 (f : (List UInt8) → Int → Option ((List UInt8) × Int × Bool)) : Prop := ∀ (x0 : (List UInt8)) (x1 : Int) (r : ((List UInt8) × Int × Bool)), f x0 x1 = some r → ∀ h, run Cp 64 [.str x0, .int .i64 x1] h = some (.ret (.tup [.str r.1, .int .i64 r.2.1, .bool r.2.2]), h)
def S64 (s : List UInt8) (i : Int) : Option ((List UInt8) × Int × Bool) := if s.length ≤ 50000 ∧ 0 ≤ i ∧ i < s.length then some (textL (s.drop (i.toNat + 1)) (i.toNat + 1) []) else none
namespace Bx
theorem z129 : zeroA Tryz.prog 129 = some (.agg [.nilPtr, .nilSl]) := by kernel_rfl
theorem own89 : Cp.own "lex.go:89" = true := by kernel_rfl
end Bx
theorem S64_spec : Spec64 S64 := by
  intro s x r hr h
  unfold S64 at hr
  split at hr
  case isFalse => cases hr
  rename_i hs
  obtain ⟨hs, hx0, hx1⟩ := hs
  obtain ⟨n, rfl⟩ : ∃ n : Nat, x = n := ⟨x.toNat, by omega⟩
  rw [Int.toNat_natCast] at hr
  cases hr
  obtain ⟨a0, ha0⟩ : ∃ a0, a0 = slots Tryz.f64 [.str s, .int .i64 (n : Int)] := ⟨_, rfl⟩
  have hl : a0.length = 42 := by rw [ha0]; rfl
  have i0 : a0[0]? = some (.str s) := by rw [ha0]; rfl
  have i1 : a0[1]? = some (.int .i64 n) := by rw [ha0]; rfl
  have hw1 : IntKind.i64.wrap ((n : Int) + 1) = ((n + 1 : Nat) : Int) := by rw [wrap64 (by omega) (by omega)]; rfl
  obtain ⟨h1, hh1⟩ : ∃ h1 : AHeap, h1 = (bare.new (.arr [.nilPtr, .nilSl])).mark 0 (129, true) := ⟨_, rfl⟩
  have bx : abox bare (.agg [.nilPtr, .nilSl]) = some (.ptr 0 0, bare.new (.arr [.nilPtr, .nilSl])) := rfl
  have H1 : Bld 0 [] h1 := by rw [hh1]; exact ⟨by decide, rfl, .inl ⟨rfl, rfl⟩⟩
  have p0 : ∃ t, ex Cp (Cat [false] (bodyOf Tryz.f64)) ⟨a0, bare⟩ = some (.normal, ⟨t, bare⟩) ∧ t.length = 42 ∧ t[0]? = some (.str s) ∧ t[1]? = some (.int .i64 n) := by
    simp only [bodyOf, Tryz.f64, Cat, Zs, awanted, aoper, evalO, put, acallOp, abuiltin, Nat.reduceEqDiff, Nat.reduceLT, ofV, ofCell, ↓reduceIte, hl, i0, i1, CP]
    exact ⟨_, rfl, by simp [hl], by simp [i0], by simp [i1]⟩
  obtain ⟨t1, e1, l1, j0, j1⟩ := p0
  have p1 : ∃ t, ex Cp (Cat [true, false] (bodyOf Tryz.f64)) ⟨t1, bare⟩ = some (.normal, ⟨t, h1⟩) ∧ t.length = 42 ∧ t[0]? = some (.str s) ∧ t[1]? = some (.int .i64 n) ∧ t[7]? = some (.ptr 0 0) := by
    simp only [bodyOf, Tryz.f64, Cat, Zs, awanted, aoper, evalO, put, acallOp, abuiltin, Nat.reduceEqDiff, Nat.reduceLT, ofV, ofCell, ↓reduceIte, l1, j0, j1, CP, Bx.z129, bx, Bx.own89, if_true]
    rw [hh1]
    exact ⟨_, rfl, by simp [l1], by simp [j0], by simp [j1], by simp [l1]⟩
  obtain ⟨t2, e2, l2, k0, k1, k7⟩ := p1
  have p2 : ∃ t, ex Cp (Cat [true, true, false, false] (bodyOf Tryz.f64)) ⟨t2, h1⟩ = some (.normal, ⟨t, h1⟩) ∧ t.length = 42 ∧ t[0]? = some (.str s) ∧ t[7]? = some (.ptr 0 0) ∧ t[8]? = some (.int .i64 (n + 1 : Nat)) := by
    simp only [bodyOf, Tryz.f64, Cat, Zs, awanted, aoper, evalO, put, acallOp, abuiltin, Nat.reduceEqDiff, Nat.reduceLT, ofV, ofCell, ↓reduceIte, l2, k0, k1, k7, CP, hw1]
    exact ⟨_, rfl, by simp [l2], by simp [k0], by simp [k7], by simp [l2]⟩
  obtain ⟨t3, e3, l3, m0, m7, m8⟩ := p2
  obtain ⟨t4, h4, q⟩ := loop64 s hs 0 _ (n + 1) [] h1 t3 (Nat.le_refl _) (by omega) (by simp) H1 l3 m0 m7 m8
  obtain ⟨R, hR⟩ : ∃ R, R = textL (s.drop (n + 1)) (n + 1) [] := ⟨_, rfl⟩
  rw [← hR] at q ⊢
  have fin : ∃ t h', ex Cp (bodyOf Tryz.f64) ⟨a0, bare⟩ = some (.ret, ⟨t, h'⟩) ∧ t[4]? = some (.str R.1) ∧ t[5]? = some (.int .i64 R.2.1) ∧ t[6]? = some (.bool R.2.2) := by
    rw [show bodyOf Tryz.f64 = .seq (Cat [false] (bodyOf Tryz.f64)) (.seq (Cat [true, false] (bodyOf Tryz.f64)) (.seq (.seq (Cat [true, true, false, false] (bodyOf Tryz.f64)) (.block 0 (.loop lp64))) (.seq (Cat [true, true, true, false] (bodyOf Tryz.f64)) .ret))) from rfl]
    simp only [e_seq, e1, k_seq, e2, e3]
    rcases q with ⟨q1, q2, q3⟩ | ⟨q1, q2, q3, q4⟩
    · rw [e_block, q1]
      have p3 : ∃ t, ex Cp (Cat [true, true, true, false] (bodyOf Tryz.f64)) ⟨t4, h4⟩ = some (.normal, ⟨t, h4⟩) ∧ t[4]? = some (.str []) ∧ t[5]? = some (.int .i64 0) ∧ t[6]? = some (.bool false) := by
        simp only [bodyOf, Tryz.f64, Cat, Zs, awanted, aoper, evalO, put, acallOp, abuiltin, Nat.reduceEqDiff, Nat.reduceLT, ofV, ofCell, ↓reduceIte, q3, CP]
        exact ⟨_, rfl, by simp [q3], by simp [q3], by simp [q3]⟩
      obtain ⟨t5, e5, m4, m5, m6⟩ := p3
      simp only [k_block, k_block_exit, if_true, k_seq, e_seq, e5, ex_ret]
      rw [q2]
      exact ⟨t5, h4, rfl, m4, m5, m6⟩
    · rw [e_block, q1]
      simp only [k_block_ret, k_seq_ret]
      exact ⟨t4, h4, rfl, q2, q3, q4⟩
  obtain ⟨t, h', e, t4', t5', t6'⟩ := fin
  exact fn_runC (fn := Tryz.f64) (x := .ret) Tryz.func64 rfl rfl rfl rfl (.inl rfl) (by rw [← ha0]; exact e) (vs := [.str R.1, .int .i64 R.2.1, .bool R.2.2]) (by simp only [show Tryz.f64.results.toList = [ResultVar.tmp 4, ResultVar.tmp 5, ResultVar.tmp 6] from rfl, aresults, ares1, t4', t5', t6']; rfl) rfl h
end Go.Proofs.Q.Par



set_option linter.unusedSimpArgs false
set_option linter.unusedVariables false
set_option maxRecDepth 100000
namespace Go.Proofs.Q.Par
open Go Go.Am Go.Proofs
theorem int_beq (n m : Nat) : (((n : Nat) : Int) == ((m : Nat) : Int)) = (n == m) := by
  rw [Bool.eq_iff_iff]; simp; omega
theorem kindT_N (n : Nat) : kindT n = (kindN n : Int) := by
  unfold kindT kindN
  repeat (split <;> first | rfl | skip)
theorem slT_ok (s : Bs) (a b : Nat) (h1 : a ≤ b) (h2 : b ≤ s.length) : slT s (some (a : Int)) (some (b : Int)) = some ((s.take b).drop a) := by
  unfold slT bndT
  simp [asNat, h1, h2]
theorem mem_tw (f : UInt8 → Bool) : ∀ (l : Bs) (b : UInt8), b ∈ l.takeWhile f → f b = true
  | [], b, h => by cases h
  | a :: l, b, h => by
    simp only [List.takeWhile] at h
    cases hf : f a with
    | true =>
      rw [hf] at h
      rcases List.mem_cons.1 h with rfl | h
      · exact hf
      · exact mem_tw f l b h
    | false => rw [hf] at h; cases h
theorem kindB_big {b : UInt8} (h : ¬ b.toNat < 128) : kindB b = 0 := by
  unfold kindB kindN
  rw [if_neg (by omega), if_neg (by omega), if_neg (by omega), if_neg (by omega), if_neg (by omega)]
theorem isLD_ascii {b : UInt8} (h : isLD b = true) : b.toNat < 128 := by
  apply Classical.byContradiction
  intro hn
  unfold isLD isL isD at h
  rw [kindB_big hn] at h
  cases h
theorem capsL_word {w : Bs} (h : ∀ b ∈ w, isLD b = true) : capsL w = caps w := by
  unfold capsL
  rw [if_pos]
  · rfl
  · rw [List.all_eq_true]; intro b hb; simpa using isLD_ascii (h b hb)
theorem kwB_eq : kwB = kw := by kernel_rfl
theorem l61 {w : Bs} (h : ∀ b ∈ w, isLD b = true) (hl : w.length ≤ 5000) : S61 w = some (isKw w) := by
  unfold S61
  rw [if_pos (by omega), capsL_word h, kwB_eq]; rfl
theorem l62 {w : Bs} (h : ∀ b ∈ w, isLD b = true) (hl : w.length ≤ 5000) : S62 w = some (caps w) := by
  unfold S62
  rw [if_pos (by omega), capsL_word h]
theorem textL_quoted : ∀ (n : Nat) (t : Bs) (i : Nat) (acc : Bs), t.length ≤ n → textL t i acc = match quoted t with
    | none => ([], 0, false)
    | some (x, k) => (acc ++ x, ((i + k : Nat) : Int), true) := by
  intro n
  induction n with
  | zero => intro t i acc h; cases t with
    | nil => rfl
    | cons => simp at h
  | succ n ih =>
    intro t i acc h
    match t, h with
    | [], h => rfl
    | [c], h =>
      unfold textL quoted
      split
      · simp
      · rfl
    | c :: d :: r, h =>
      unfold textL quoted
      simp only [List.length_cons] at h
      split
      · split
        · rw [ih r (i + 2) (acc ++ [39]) (by omega)]
          cases quoted r with
          | none => rfl
          | some p => obtain ⟨x, k⟩ := p; simp only [Option.map_some, List.append_assoc, List.singleton_append]; congr 2; congr 1; omega
        · simp
      · rw [ih (d :: r) (i + 1) (acc ++ [c]) (by simp; omega)]
        cases quoted (d :: r) with
        | none => rfl
        | some p => obtain ⟨x, k⟩ := p; simp only [Option.map_some, List.append_assoc, List.singleton_append]; congr 2; congr 1; omega
theorem take_tw (f : UInt8 → Bool) (l : Bs) : l.take (l.takeWhile f).length = l.takeWhile f := by
  exact (List.prefix_iff_eq_take.1 (List.takeWhile_prefix f)).symm
theorem drop_tw (f : UInt8 → Bool) (l : Bs) : l.drop (l.takeWhile f).length = l.dropWhile f := by
  induction l with
  | nil => rfl
  | cons a l ih =>
    simp only [List.takeWhile, List.dropWhile]
    cases f a with
    | true => simpa using ih
    | false => rfl
theorem quoted_le : ∀ (n : Nat) (t : Bs) (x : Bs) (k : Nat), t.length ≤ n → quoted t = some (x, k) → k ≤ t.length ∧ x.length ≤ t.length := by
  intro n
  induction n with
  | zero => intro t x k hm h; cases t with
    | nil => cases h
    | cons => simp at hm
  | succ m ih =>
    intro t x k hm h
    match t, h with
    | [], h => cases h
    | [c], h =>
      unfold quoted at h
      split at h
      · cases h; simp
      · cases h
    | c :: d :: r, h =>
      unfold quoted at h
      simp only [List.length_cons] at hm
      split at h
      · split at h
        · cases hq : quoted r with
          | none => rw [hq] at h; cases h
          | some p =>
            rw [hq] at h; cases h
            have := ih r p.1 p.2 (by omega) hq
            simp; omega
        · cases h; simp
      · cases hq : quoted (d :: r) with
        | none => rw [hq] at h; cases h
        | some p =>
          rw [hq] at h; cases h
          have := ih (d :: r) p.1 p.2 (by simp; omega) hq
          simp at this ⊢; omega
namespace Pz
theorem ixk (cs : List AVal) (i : Int) (k : IntKind) : aindexAddr Tryz.prog 120 (.iptr cs) (.int k i) = if 0 ≤ i ∧ i < 128 then some (.iptr (cs.drop (i.toNat * 1))) else none := by kernel_rfl
theorem ld5 (h : AHeap) (p : AVal) : aload Tryz.prog h 5 p = loadA h false 1 p := by kernel_rfl
theorem lns (h : AHeap) (s : List UInt8) : alen Tryz.prog h 9 (.str s) = some (.int .i64 s.length) := by kernel_rfl
end Pz
theorem kind_run (c : UInt8) (h : AHeap) : run Cp 58 [.int .u8 c.toNat] h = some (.ret (.int .u8 (kindB c : Nat)), h) := by
  have hc := c.toNat_lt
  have p : ∃ t, ex Cp (bodyOf Tryz.f58) ⟨slots Tryz.f58 [.int .u8 c.toNat], bare⟩ = some (.ret, ⟨t, bare⟩) ∧ t[2]? = some (.int .u8 (kindB c : Nat)) := by
    obtain ⟨a0, ha0⟩ : ∃ a0, a0 = slots Tryz.f58 [.int .u8 c.toNat] := ⟨_, rfl⟩
    have hl : a0.length = 8 := by rw [ha0]; rfl
    have i0 : a0[0]? = some (.int .u8 c.toNat) := by rw [ha0]; rfl
    rw [← ha0]
    by_cases h : c.toNat < 128
    · have d : decide ((c.toNat : Int) ≥ 128) = false := by simp; omega
      have d2 : (0 ≤ (c.toNat : Int) ∧ (c.toNat : Int) < 128) := by omega
      have hx : (u8s ((List.range 128).map kindT)).drop ((c.toNat : Int).toNat * 1) = .int .u8 (kindB c : Nat) :: (u8s ((List.range 128).map kindT)).drop (c.toNat + 1) := by
        rw [Int.toNat_natCast, Nat.mul_one, List.drop_eq_getElem_cons (by simp [u8s]; omega)]
        congr 1
        simp [u8s, kindT_N, kindB]
      simp only [bodyOf, Tryz.f58, Cat, Zs, awanted, aoper, evalO, put, acallOp, abuiltin, Nat.reduceEqDiff, Nat.reduceLT, ofV, ofCell, ↓reduceIte, hl, i0, CP, d, show Cp.glob 0 = some (u8s ((List.range 128).map kindT)) from rfl, Pz.ixk, if_pos d2, hx, Pz.ld5, ld_ip, ofc1]
      exact ⟨_, rfl, by simp [hl]⟩
    · have d : decide ((c.toNat : Int) ≥ 128) = true := by simp; omega
      rw [kindB_big h]
      simp only [bodyOf, Tryz.f58, Cat, Zs, awanted, aoper, evalO, put, acallOp, abuiltin, Nat.reduceEqDiff, Nat.reduceLT, ofV, ofCell, ↓reduceIte, hl, i0, CP, d]
      exact ⟨_, rfl, by simp [hl]⟩
  obtain ⟨t, he, t2⟩ := p
  exact pok (f := 58) (args := [.int .u8 c.toNat]) Tryz.func58 rfl rfl rfl rfl rfl he (.inl rfl) (vs := [.int .u8 (kindB c : Nat)]) (by simp only [show Tryz.f58.results.toList = [ResultVar.tmp 2] from rfl, aresults, ares1, t2]; rfl) (Nrm.of (w := .int _ _) rfl) h
theorem ld_run (c : UInt8) (h : AHeap) : run Cp 60 [.int .u8 (kindB c : Nat)] h = some (.ret (.bool (isLD c)), h) := by
  have p : ∃ t, ex Cp (bodyOf Tryz.f60) ⟨slots Tryz.f60 [.int .u8 (kindB c : Nat)], bare⟩ = some (.ret, ⟨t, bare⟩) ∧ t[2]? = some (.bool (isLD c)) := by
    obtain ⟨a0, ha0⟩ : ∃ a0, a0 = slots Tryz.f60 [.int .u8 (kindB c : Nat)] := ⟨_, rfl⟩
    have hl : a0.length = 9 := by rw [ha0]; rfl
    have i0 : a0[0]? = some (.int .u8 (kindB c : Nat)) := by rw [ha0]; rfl
    rw [← ha0]
    have e : isLD c = (((kindB c : Nat) : Int) == 2 || ((kindB c : Nat) : Int) == 3) := by
      unfold isLD isL isD
      rw [← int_beq, ← int_beq]; rfl
    rw [e]
    cases h1 : (((kindB c : Nat) : Int) == 2) <;> cases h2 : (((kindB c : Nat) : Int) == 3)
    all_goals
      simp only [bodyOf, Tryz.f60, Cat, Zs, awanted, aoper, evalO, put, acallOp, abuiltin, Nat.reduceEqDiff, Nat.reduceLT, ofV, ofCell, ↓reduceIte, hl, i0, CP, h1, h2, bq1, bq2, bq3, bq4, Bool.or_self, Bool.or_true, Bool.true_or]
      exact ⟨_, rfl, by simp [hl]⟩
  obtain ⟨t, he, t2⟩ := p
  exact pok (f := 60) (args := [.int .u8 (kindB c : Nat)]) Tryz.func60 rfl rfl rfl rfl rfl he (.inl rfl) (vs := [.bool (isLD c)]) (by simp only [show Tryz.f60.results.toList = [ResultVar.tmp 2] from rfl, aresults, ares1, t2]; rfl) (Nrm.of (w := .bool _) rfl) h
theorem d_run (c : UInt8) (h : AHeap) : run Cp 63 [.int .u8 (kindB c : Nat)] h = some (.ret (.bool (isD c)), h) := by
  have p : ∃ t, ex Cp (bodyOf Tryz.f63) ⟨slots Tryz.f63 [.int .u8 (kindB c : Nat)], bare⟩ = some (.ret, ⟨t, bare⟩) ∧ t[2]? = some (.bool (isD c)) := by
    obtain ⟨a0, ha0⟩ : ∃ a0, a0 = slots Tryz.f63 [.int .u8 (kindB c : Nat)] := ⟨_, rfl⟩
    have hl : a0.length = 5 := by rw [ha0]; rfl
    have i0 : a0[0]? = some (.int .u8 (kindB c : Nat)) := by rw [ha0]; rfl
    rw [← ha0]
    have e : isD c = (((kindB c : Nat) : Int) == 3) := by
      unfold isD
      rw [← int_beq]; rfl
    rw [e]
    simp only [bodyOf, Tryz.f63, Cat, Zs, awanted, aoper, evalO, put, acallOp, abuiltin, Nat.reduceEqDiff, Nat.reduceLT, ofV, ofCell, ↓reduceIte, hl, i0, CP]
    exact ⟨_, rfl, by simp [hl]⟩
  obtain ⟨t, he, t2⟩ := p
  exact pok (f := 63) (args := [.int .u8 (kindB c : Nat)]) Tryz.func63 rfl rfl rfl rfl rfl he (.inl rfl) (vs := [.bool (isD c)]) (by simp only [show Tryz.f63.results.toList = [ResultVar.tmp 2] from rfl, aresults, ares1, t2]; rfl) (Nrm.of (w := .bool _) rfl) h
noncomputable def lp59 : Code := Cat [true, false, true, true] (bodyOf Tryz.f59)
theorem loop59 (s : Bs) (hs : s.length ≤ 5000) (f : FuncId) (g : UInt8 → Bool) (hf : ∀ b h, run Cp f [.int .u8 (kindB b : Nat)] h = some (.ret (.bool (g b)), h)) (H : AHeap) : ∀ (k p : Nat) (hp : k + p = s.length) (a : List AVal) (hl : a.length = 22) (i0 : a[0]? = some (.str s)) (i1 : a[1]? = some (.int .i64 (p : Nat))) (i2 : a[2]? = some (.fn (.func f) [] [])),
    ∃ t, ex Cp (.loop lp59) ⟨a, H⟩ = some (.exit 0, ⟨t, H⟩) ∧ t.length = 22 ∧ t[1]? = some (.int .i64 ((p + ((s.drop p).takeWhile g).length : Nat) : Int)) := by
  intro k
  induction k with
  | zero =>
    intro p hp a hl i0 i1 i2
    have d : decide ((p : Int) < (s.length : Int)) = false := by simp; omega
    have pp : ∃ t, ex Cp lp59 ⟨a, H⟩ = some (.exit 0, ⟨t, H⟩) ∧ t.length = 22 ∧ t[1]? = some (.int .i64 (p : Nat)) := by
      simp only [lp59, bodyOf, Tryz.f59, Cat, Zs, awanted, aoper, evalO, put, acallOp, abuiltin, Nat.reduceEqDiff, Nat.reduceLT, ofV, ofCell, ↓reduceIte, hl, i0, i1, i2, CP, bq1, bq2, bq3, bq4, Pz.lns, d]
      exact ⟨_, rfl, by simp [hl], by simp [i1]⟩
    obtain ⟨t, e, tl, t1⟩ := pp
    refine ⟨t, by rw [e_loop, e]; rfl, tl, ?_⟩
    rw [List.drop_eq_nil_of_le (by omega)]
    simpa using t1
  | succ k ih =>
    intro p hp a hl i0 i1 i2
    have d : decide ((p : Int) < (s.length : Int)) = true := by simp; omega
    obtain ⟨c, hc⟩ : ∃ c, s[p]? = some c := ⟨_, List.getElem?_eq_getElem (by omega)⟩
    have hx := Bx.ixs s p c hc
    have hdr : s.drop p = c :: s.drop (p + 1) := by
      rw [List.drop_eq_getElem_cons (by omega)]
      rw [List.getElem?_eq_getElem (by omega)] at hc
      rw [Option.some.inj hc]
    have ek := kind_run c H
    have ef := hf c H
    rw [hdr]
    cases hb : g c with
    | false =>
      rw [hb] at ef
      have pp : ∃ t, ex Cp lp59 ⟨a, H⟩ = some (.exit 0, ⟨t, H⟩) ∧ t.length = 22 ∧ t[1]? = some (.int .i64 (p : Nat)) := by
        simp only [lp59, bodyOf, Tryz.f59, Cat, Zs, awanted, aoper, evalO, put, acallOp, abuiltin, Nat.reduceEqDiff, Nat.reduceLT, ofV, ofCell, ↓reduceIte, hl, i0, i1, i2, CP, bq1, bq2, bq3, bq4, Pz.lns, d, hx, ek, ef]
        exact ⟨_, rfl, by simp [hl], by simp [i1]⟩
      obtain ⟨t, e, tl, t1⟩ := pp
      refine ⟨t, by rw [e_loop, e]; rfl, tl, ?_⟩
      simp only [List.takeWhile, hb]
      simpa using t1
    | true =>
      rw [hb] at ef
      have hw : IntKind.i64.wrap ((p : Int) + 1) = ((p + 1 : Nat) : Int) := by rw [wrap64 (by omega) (by omega)]; rfl
      have pp : ∃ t, ex Cp lp59 ⟨a, H⟩ = some (.normal, ⟨t, H⟩) ∧ t.length = 22 ∧ t[0]? = some (.str s) ∧ t[1]? = some (.int .i64 ((p + 1 : Nat) : Int)) ∧ t[2]? = some (.fn (.func f) [] []) := by
        simp only [lp59, bodyOf, Tryz.f59, Cat, Zs, awanted, aoper, evalO, put, acallOp, abuiltin, Nat.reduceEqDiff, Nat.reduceLT, ofV, ofCell, ↓reduceIte, hl, i0, i1, i2, CP, bq1, bq2, bq3, bq4, Pz.lns, d, hx, ek, ef, hw]
        exact ⟨_, rfl, by simp [hl], by simp [i0], by simp [hl], by simp [i2]⟩
      obtain ⟨t, e, tl, t0, t1, t2⟩ := pp
      obtain ⟨t', e', tl', h1⟩ := ih (p + 1) (by omega) t tl t0 t1 t2
      refine ⟨t', by rw [e_loop, e]; exact e', tl', ?_⟩
      rw [h1]
      simp only [List.takeWhile, hb, List.length_cons]
      congr 3; omega
theorem bytes_run (s : Bs) (hs : s.length ≤ 5000) (f : FuncId) (g : UInt8 → Bool) (hf : ∀ b h, run Cp f [.int .u8 (kindB b : Nat)] h = some (.ret (.bool (g b)), h)) (p : Nat) (hp : p ≤ s.length) (h : AHeap) :
    run Cp 59 [.str s, .int .i64 (p : Nat), .fn (.func f) [] []] h = some (.ret (.int .i64 ((p + ((s.drop p).takeWhile g).length : Nat) : Int)), h) := by
  obtain ⟨a0, ha0⟩ : ∃ a0, a0 = slots Tryz.f59 [.str s, .int .i64 (p : Nat), .fn (.func f) [] []] := ⟨_, rfl⟩
  have hl : a0.length = 22 := by rw [ha0]; rfl
  have i0 : a0[0]? = some (.str s) := by rw [ha0]; rfl
  have i1 : a0[1]? = some (.int .i64 (p : Nat)) := by rw [ha0]; rfl
  have i2 : a0[2]? = some (.fn (.func f) [] []) := by rw [ha0]; rfl
  have p0 : ∃ t, ex Cp (Cat [false] (bodyOf Tryz.f59)) ⟨a0, bare⟩ = some (.normal, ⟨t, bare⟩) ∧ t.length = 22 ∧ t[0]? = some (.str s) ∧ t[1]? = some (.int .i64 (p : Nat)) ∧ t[2]? = some (.fn (.func f) [] []) := by
    simp only [bodyOf, Tryz.f59, Cat, Zs, awanted, aoper, evalO, put, acallOp, abuiltin, Nat.reduceEqDiff, Nat.reduceLT, ofV, ofCell, ↓reduceIte, hl, i0, i1, i2, CP]
    exact ⟨_, rfl, by simp [hl], by simp [i0], by simp [i1], by simp [i2]⟩
  obtain ⟨t0, x0, tl0, t00, t01, t02⟩ := p0
  obtain ⟨t1, x1, tl1, t11⟩ := loop59 s hs f g hf bare (s.length - p) p (by omega) t0 tl0 t00 t01 t02
  have pp : ∃ t, ex Cp (bodyOf Tryz.f59) ⟨slots Tryz.f59 [.str s, .int .i64 (p : Nat), .fn (.func f) [] []], bare⟩ = some (.ret, ⟨t, bare⟩) ∧ t[6]? = some (.int .i64 ((p + ((s.drop p).takeWhile g).length : Nat) : Int)) := by
    rw [show bodyOf Tryz.f59 = .seq (Cat [false] (bodyOf Tryz.f59)) (.seq (.block 0 (.loop lp59)) (Cat [true, true] (bodyOf Tryz.f59))) from rfl, ← ha0]
    rw [e_seq, x0]
    simp only [k_seq]
    rw [e_seq, e_block, x1]
    simp only [k_block_exit, if_true, k_seq]
    simp only [bodyOf, Tryz.f59, Cat, Zs, awanted, aoper, evalO, put, acallOp, abuiltin, Nat.reduceEqDiff, Nat.reduceLT, ofV, ofCell, ↓reduceIte, tl1, t11, CP]
    exact ⟨_, rfl, by simp [tl1]⟩
  obtain ⟨t, he, t6⟩ := pp
  exact pok (f := 59) (args := [.str s, .int .i64 (p : Nat), .fn (.func f) [] []]) Tryz.func59 rfl rfl rfl rfl rfl he (.inl rfl) (vs := [.int .i64 ((p + ((s.drop p).takeWhile g).length : Nat) : Int)]) (by simp only [show Tryz.f59.results.toList = [ResultVar.tmp 6] from rfl, aresults, ares1, t6]; rfl) (Nrm.of (w := .int _ _) rfl) h
end Go.Proofs.Q.Par



set_option linter.unusedSimpArgs false
set_option linter.unusedVariables false
set_option maxRecDepth 100000
namespace Go.Proofs.Q.Par
open Go Go.Am Go.Proofs
namespace Pw
theorem lns (h : AHeap) (s : List UInt8) : alen Tryz.prog h 9 (.str s) = some (.int .i64 s.length) := by kernel_rfl
theorem st9 (h : AHeap) (p v : AVal) : astore Tryz.prog h 9 p v = storeA h 1 p v := by kernel_rfl
theorem st30 (h : AHeap) (p v : AVal) : astore Tryz.prog h 30 p v = storeA h 2 p v := by kernel_rfl
theorem sl9 (h : AHeap) (s : List UInt8) (lo hi mx : Option AVal) : aslice Tryz.prog h 9 (.str s) lo hi mx = sliceA 1 (.str s) lo hi mx := by kernel_rfl
theorem bd42 (k a : Int) (s : Bs) : abuild Tryz.prog 42 [(0, .int .i64 k), (1, .str s), (2, .int .i64 a)] = some (.agg [.int .i64 k, .str s, .int .i64 a]) := by kernel_rfl
theorem sb38 (k a : Int) (s : Bs) : abuildSlice Tryz.prog 38 1 [(0, .agg [.int .i64 k, .str s, .int .i64 a])] = some ([.int .i64 k, .str s, .int .i64 a], 3) := by kernel_rfl
theorem ap38 (h : AHeap) (s x : AVal) : aappend Tryz.prog false h [38, 38] [s, x] = appendA false h 3 32 s x := by kernel_rfl
theorem own : Cp.own "lex.go:103" = false ∧ Cp.own "lex.go:109" = false ∧ Cp.own "lex.go:120" = false ∧ Cp.own "lex.go:127" = false ∧ Cp.own "lex.go:141" = false ∧ Cp.own "lex.go:153" = false ∧ Cp.own "lex.go:159" = false ∧ Cp.own "lex.go:168" = false := by refine ⟨?_, ?_, ?_, ?_, ?_, ?_, ?_, ?_⟩ <;> kernel_rfl
theorem z30 : zeroA Tryz.prog 30 = some (.agg [.int .i64 0, .int .i64 0]) := by kernel_rfl
end Pw
theorem note_run (e p x y : Int) {h : AHeap} (hg : h.get 1 = some (.arr [.int .i64 x, .int .i64 y])) : run Cp 57 [.int .i64 e, .int .i64 p, .ptr 1 0] h = some (.ret (.tup []), h.set 1 (some (.arr [.int .i64 e, .int .i64 p]))) := by
  obtain ⟨a0, ha0⟩ : ∃ a0, a0 = slots Tryz.f57 [.int .i64 e, .int .i64 p, .ptr 1 0] := ⟨_, rfl⟩
  have hl : a0.length = 8 := by rw [ha0]; rfl
  have i0 : a0[0]? = some (.int .i64 e) := by rw [ha0]; rfl
  have i1 : a0[1]? = some (.int .i64 p) := by rw [ha0]; rfl
  have i2 : a0[2]? = some (.ptr 1 0) := by rw [ha0]; rfl
  have sp : storeA (one 1 [.int .i64 x, .int .i64 y]) 2 (.ptr 1 0) (.agg [.int .i64 e, .int .i64 p]) = some (one 1 [.int .i64 e, .int .i64 p]) := by
    rw [put_all (cs := [.int .i64 x, .int .i64 y]) (ds := [.int .i64 e, .int .i64 p]) (n := 2) (one_get _ _) rfl rfl rfl, one_set]
  have pp : ∃ t, ex Cp (bodyOf Tryz.f57) ⟨a0, one 1 [.int .i64 x, .int .i64 y]⟩ = some (.normal, ⟨t, one 1 [.int .i64 e, .int .i64 p]⟩) := by
    simp only [bodyOf, Tryz.f57, Cat, Zs, awanted, aoper, evalO, put, acallOp, abuiltin, Nat.reduceEqDiff, Nat.reduceLT, ofV, ofCell, ↓reduceIte, hl, i0, i1, i2, CP, Pz.bd30, Pw.st30, sp]
    exact ⟨_, rfl⟩
  obtain ⟨t, he⟩ := pp
  rw [ha0] at he
  exact st_ret (f := 57) (fn := Tryz.f57) Tryz.func57 rfl rfl rfl rfl hg rfl rfl rfl rfl he (.inr rfl) (vs := []) (v := .tup []) rfl (Nrm.of (w := .tup []) rfl) (one_get _ _) rfl rfl
noncomputable def lpW : Code := Cat [true, true, true, true, true, true, true, false, true, true] (bodyOf Tryz.f20)
structure WS (text : Bs) (p : Nat) (acc : List Word) (v : AVal) (a : List AVal) (h : AHeap) : Prop where
  hl : a.length = 203
  i0 : a[0]? = some (.str text)
  i3 : a[3]? = some (.ptr 0 0)
  i4 : a[4]? = some v
  i5 : a[5]? = some (.int .i64 (p : Nat))
  i6 : a[6]? = some (.ptr 1 0)
  g0 : h.get 0 = some (.arr [.int .i64 0, .int .i64 0])
  g1 : h.get 1 = some (.arr [.int .i64 0, .int .i64 0])
  nx : 1 < h.next
  gr : Gr rWord 3 acc v h
structure WE (f : Fault) (a : List AVal) (h : AHeap) : Prop where
  hl : a.length = 203
  i3 : a[3]? = some (.ptr 0 0)
  i6 : a[6]? = some (.ptr 1 0)
  g0 : h.get 0 = some (.arr [.int .i64 0, .int .i64 0])
  g1 : h.get 1 = some (.arr [.int .i64 f.Code, .int .i64 f.At])
def Steps (text : Bs) (p : Nat) (acc : List Word) (v : AVal) (a : List AVal) (h : AHeap) : Step → Prop
  | .blank => ∃ t' h', ex Cp lpW ⟨a, h⟩ = some (.normal, ⟨t', h'⟩) ∧ WS text (p + 1) acc v t' h'
  | .word x n => ∃ t' h' v', ex Cp lpW ⟨a, h⟩ = some (.normal, ⟨t', h'⟩) ∧ WS text (p + n) (acc ++ [x]) v' t' h'
  | .bad f => ∃ t' h', ex Cp lpW ⟨a, h⟩ = some (.exit 0, ⟨t', h'⟩) ∧ WE f t' h'
theorem el_word (x : Word) : El rWord 3 x (.agg [.int .i64 x.Kind, .str x.Text, .int .i64 x.At]) := ⟨rfl, rfl, rfl⟩
theorem sub_str {s : Bs} {p n : Nat} (h : p + n ≤ s.length) : sliceA 1 (.str s) (some (.int .i64 (p : Nat))) (some (.int .i64 ((p + n : Nat) : Int))) none = some (.str ((s.drop p).take n)) := by
  have := str_slx (s := s) (lo := some (p : Int)) (hi := some ((p + n : Nat) : Int)) (y := (s.take (p + n)).drop p) (slT_ok s p (p + n) (by omega) h)
  rw [List.drop_take, Nat.add_sub_cancel_left] at this
  exact this
section
variable {text : Bs} {p : Nat} {acc : List Word} {v : AVal} {a : List AVal} {h : AHeap} {c : UInt8} {t : Bs}
theorem dlen (hd : text.drop p = c :: t) : p + (t.length + 1) = text.length := by
  have := congrArg List.length hd
  simp only [List.length_drop, List.length_cons] at this
  omega
theorem dat (hd : text.drop p = c :: t) : text[p]? = some c := by rw [← List.head?_drop, hd]; rfl
theorem w_blank (htl : text.length ≤ 4096) (hd : text.drop p = c :: t) (S : WS text p acc v a h) (hacc : acc.length ≤ 5000) (hk : kindB c = 1) : Steps text p acc v a h (lexStep p c t) := by
  obtain ⟨hl, i0, i3, i4, i5, i6, g0, g1, nx, gr⟩ := S
  have hlen := dlen hd
  have hx := Bx.ixs text p c (dat hd)
  have hlt : decide ((p : Int) < (text.length : Int)) = true := by simp; omega
  have hk58 := kind_run c h
  rw [hk] at hk58
  have c11 : (((1 : Nat) : Int) == 1) = true := rfl
  have hs : lexStep p c t = .blank := by unfold lexStep; rw [if_pos hk]
  rw [hs]
  have hw : IntKind.i64.wrap ((p : Int) + 1) = ((p + 1 : Nat) : Int) := by rw [wrap64 (by omega) (by omega)]; rfl
  have pp : ∃ t', ex Cp lpW ⟨a, h⟩ = some (.normal, ⟨t', h⟩) ∧ WS text (p + 1) acc v t' h := by
    simp only [lpW, bodyOf, Tryz.f20, Cat, Zs, awanted, aoper, evalO, put, acallOp, abuiltin, Nat.reduceEqDiff, Nat.reduceLT, ofV, ofCell, ↓reduceIte, hl, i0, i3, i4, i5, i6, CP, bq1, bq2, bq3, bq4, List.append_eq, Pw.lns, hlt, hx, hk58, TyP.fa42_0, TyP.fa42_1, dropCells, Nat.zero_add, Nat.add_zero, TyP.ld9, TyP.ld42, TyP.st3, TyP.st42, Pw.st9, TyP.ze42, Pw.own, Pw.sl9, c11, hw]
    exact ⟨_, rfl, by simp [hl], by simp [i0], by simp [i3], by simp [i4], by simp [hl], by simp [i6], g0, g1, nx, gr⟩
  obtain ⟨t', e, s⟩ := pp
  exact ⟨t', h, e, s⟩
theorem w_other (htl : text.length ≤ 4096) (hd : text.drop p = c :: t) (S : WS text p acc v a h) (hacc : acc.length ≤ 5000) (hk : kindB c = 0) : Steps text p acc v a h (lexStep p c t) := by
  obtain ⟨hl, i0, i3, i4, i5, i6, g0, g1, nx, gr⟩ := S
  have hlen := dlen hd
  have hx := Bx.ixs text p c (dat hd)
  have hlt : decide ((p : Int) < (text.length : Int)) = true := by simp; omega
  have hk58 := kind_run c h
  rw [hk] at hk58
  have c01 : (((0 : Nat) : Int) == 1) = false := rfl
  have c02 : (((0 : Nat) : Int) == 2) = false := rfl
  have c03 : (((0 : Nat) : Int) == 3) = false := rfl
  have c04 : (((0 : Nat) : Int) == 4) = false := rfl
  have c05 : (((0 : Nat) : Int) == 5) = false := rfl
  have hs : lexStep p c t = .bad ⟨40, p⟩ := by unfold lexStep; rw [hk]; rfl
  rw [hs]
  have en := note_run 40 p 0 0 g1
  have pp : ∃ t', ex Cp lpW ⟨a, h⟩ = some (.exit 0, ⟨t', h.set 1 (some (.arr [.int .i64 40, .int .i64 (p : Nat)]))⟩) ∧ t'.length = 203 ∧ t'[3]? = some (.ptr 0 0) ∧ t'[6]? = some (.ptr 1 0) := by
    simp only [lpW, bodyOf, Tryz.f20, Cat, Zs, awanted, aoper, evalO, put, acallOp, abuiltin, Nat.reduceEqDiff, Nat.reduceLT, ofV, ofCell, ↓reduceIte, hl, i0, i3, i4, i5, i6, CP, bq1, bq2, bq3, bq4, List.append_eq, Pw.lns, hlt, hx, hk58, TyP.fa42_0, TyP.fa42_1, dropCells, Nat.zero_add, Nat.add_zero, TyP.ld9, TyP.ld42, TyP.st3, TyP.st42, Pw.st9, TyP.ze42, Pw.own, Pw.sl9, c01, c02, c03, c04, c05, en]
    exact ⟨_, rfl, by simp [hl], by simp [i3], by simp [i6]⟩
  obtain ⟨t', e, s1, s2, s3⟩ := pp
  exact ⟨t', _, e, s1, s2, s3, (Heap.get_set_ne (by decide)).trans g0, Heap.get_set_eq⟩
theorem w_letter (htl : text.length ≤ 4096) (hd : text.drop p = c :: t) (S : WS text p acc v a h) (hacc : acc.length ≤ 5000) (hk : kindB c = 2) : Steps text p acc v a h (lexStep p c t) := by
  obtain ⟨hl, i0, i3, i4, i5, i6, g0, g1, nx, gr⟩ := S
  have hlen := dlen hd
  have hx := Bx.ixs text p c (dat hd)
  have hlt : decide ((p : Int) < (text.length : Int)) = true := by simp; omega
  have hk58 := kind_run c h
  rw [hk] at hk58
  have c21 : (((2 : Nat) : Int) == 1) = false := rfl
  have c22 : (((2 : Nat) : Int) == 2) = true := rfl
  have hs : lexStep p c t = lexLetter p (c :: t) := by unfold lexStep; rw [if_neg (by omega), if_pos hk]
  rw [hs]
  unfold lexLetter
  obtain ⟨x, hxw⟩ : ∃ x, x = (c :: t).takeWhile isLD := ⟨_, rfl⟩
  have e59 := bytes_run text (by omega) 60 isLD ld_run p (by omega) h
  rw [hd, ← hxw] at e59
  have hxl : x.length ≤ t.length + 1 := by rw [hxw]; exact (List.takeWhile_prefix _).length_le
  have hall : ∀ b ∈ x, isLD b = true := by rw [hxw]; intro b hb; exact mem_tw isLD _ b hb
  have es := sub_str (s := text) (p := p) (n := x.length) (by omega)
  rw [hd, hxw, take_tw, ← hxw] at es
  have e61 := fun h => S61_spec x _ (l61 hall (by omega)) h
  have e62 := fun h => S62_spec x _ (l62 hall (by omega)) h
  dsimp only
  rw [← hxw]
  obtain ⟨id, eid⟩ : ∃ id, id = h.next := ⟨_, rfl⟩
  obtain ⟨h1, eh1⟩ : ∃ h1 : AHeap, h1 = (h.new (.arr [.int .i64 0, .str [], .int .i64 0])).set id (some (.arr [.int .i64 1, .str x, .int .i64 (p : Nat)])) := ⟨_, rfl⟩
  have ab : abox h (.agg [.int .i64 0, .str [], .int .i64 0]) = some (.ptr id 0, h.new (.arr [.int .i64 0, .str [], .int .i64 0])) := by rw [eid]; rfl
  have st : storeA (h.new (.arr [.int .i64 0, .str [], .int .i64 0])) 3 (.ptr id 0) (.agg [.int .i64 1, .str x, .int .i64 (p : Nat)]) = some h1 := by
    rw [eh1, eid]; exact put_all Heap.get_new_eq rfl rfl rfl
  have gi : h1.get id = some (.arr [.int .i64 1, .str x, .int .i64 (p : Nat)]) := by rw [eh1]; exact Heap.get_set_eq
  have k0 : h1.get 0 = some (.arr [.int .i64 0, .int .i64 0]) := by rw [eh1, Heap.get_set_ne (by omega), Heap.get_new_lt (by omega)]; exact g0
  have k1 : h1.get 1 = some (.arr [.int .i64 0, .int .i64 0]) := by rw [eh1, Heap.get_set_ne (by omega), Heap.get_new_lt nx]; exact g1
  have kn : h1.next = h.next + 1 := by rw [eh1, Heap.set_next, Heap.new_next]
  have kg : Gr rWord 3 acc v h1 := Gr.keep gr (by omega) fun j hj => by
    have := Gr.lt gr j hj
    rw [eh1, Heap.get_set_ne (by omega), Heap.get_new_lt this]
  have l1 : loadA h1 false 1 (.ptr id 1) = some (.str x) := Heap.load_at gi rfl
  cases hkw : isKw x with
  | true =>
    rw [hkw] at e61
    rw [if_pos rfl]
    obtain ⟨hh, ehh⟩ : ∃ hh : AHeap, hh = h1.set id (some (.arr [.int .i64 2, .str (caps x), .int .i64 (p : Nat)])) := ⟨_, rfl⟩
    have sa : storeA h1 1 (.ptr id 0) (.int .i64 2) = some (h1.set id (some (.arr [.int .i64 2, .str x, .int .i64 (p : Nat)]))) := Heap.store_at gi rfl (Nat.le_of_ble_eq_true rfl)
    have sb : storeA (h1.set id (some (.arr [.int .i64 2, .str x, .int .i64 (p : Nat)]))) 1 (.ptr id 1) (.str (caps x)) = some hh := by
      rw [Heap.store_at Heap.get_set_eq rfl (Nat.le_of_ble_eq_true rfl), hset_set, ehh]; rfl
    have gi2 : hh.get id = some (.arr [.int .i64 2, .str (caps x), .int .i64 (p : Nat)]) := by rw [ehh]; exact Heap.get_set_eq
    have la : loadA hh true 3 (.ptr id 0) = some (.agg [.int .i64 2, .str (caps x), .int .i64 (p : Nat)]) := ld_all gi2 rfl
    have m0 : hh.get 0 = some (.arr [.int .i64 0, .int .i64 0]) := by rw [ehh, Heap.get_set_ne (by omega)]; exact k0
    have m1 : hh.get 1 = some (.arr [.int .i64 0, .int .i64 0]) := by rw [ehh, Heap.get_set_ne (by omega)]; exact k1
    have mn : 1 < hh.next := by rw [ehh, Heap.set_next]; omega
    have mg : Gr rWord 3 acc v hh := Gr.keep kg (by rw [ehh]; exact Nat.le_refl _) fun j hj => by
      have := Gr.ne_arr kg gi j hj
      rw [ehh, Heap.get_set_ne this]
    have m0' := m0
    have m1' := m1
    obtain ⟨v', h2, pa, gr2, hn2, hk2, _⟩ := Gr.app rWord_p mg (el_word ⟨2, caps x, (p : Nat)⟩).sl (app_ok 32 (by decide) acc ⟨2, caps x, (p : Nat)⟩ (by omega))
    have m0 := (hk2 0 (by omega) (Gr.not_acc mg m0')).trans m0'
    have m1 := (hk2 1 mn (Gr.not_acc mg m1')).trans m1'
    have pa : appendA false (hh) 3 32 v (.lst [.int .i64 (⟨2, caps x, (p : Nat)⟩ : Word).Kind, .str (⟨2, caps x, (p : Nat)⟩ : Word).Text, .int .i64 (⟨2, caps x, (p : Nat)⟩ : Word).At] 1 .full) = some (v', h2) := pa
    dsimp only at pa
    have pp : ∃ t', ex Cp lpW ⟨a, h⟩ = some (.normal, ⟨t', h2⟩) ∧ t'.length = 203 ∧ t'[0]? = some (.str text) ∧ t'[3]? = some (.ptr 0 0) ∧ t'[4]? = some v' ∧ t'[5]? = some (.int .i64 ((p + x.length : Nat) : Int)) ∧ t'[6]? = some (.ptr 1 0) := by
      simp only [lpW, bodyOf, Tryz.f20, Cat, Zs, awanted, aoper, evalO, put, acallOp, abuiltin, Nat.reduceEqDiff, Nat.reduceLT, ofV, ofCell, ↓reduceIte, hl, i0, i3, i4, i5, i6, CP, bq1, bq2, bq3, bq4, List.append_eq, Pw.lns, hlt, hx, hk58, TyP.fa42_0, TyP.fa42_1, dropCells, Nat.zero_add, Nat.add_zero, TyP.ld9, TyP.ld42, TyP.st3, TyP.st42, Pw.st9, TyP.ze42, Pw.own, Pw.sl9, c21, c22, e59, es, Pw.bd42, ab, st, l1, e61, e62, sa, sb, la, Pw.bd42, Pw.sb38, Pw.ap38, pa]
      exact ⟨_, rfl, by simp [hl], by simp [i0], by simp [i3], by simp [hl], by simp [hl], by simp [i6]⟩
    obtain ⟨t', e, s0, s1, s2, s3, s4, s5⟩ := pp
    exact ⟨t', h2, v', e, s0, s1, s2, s3, s4, s5, m0, m1, Nat.lt_of_lt_of_le mn hn2, gr2⟩
  | false =>
    rw [hkw] at e61
    rw [if_neg (by simp)]
    by_cases h32 : x.length > 32
    · rw [if_pos h32]
      have d32 : decide ((x.length : Int) > 32) = true := by simp; omega
      have en := note_run 45 ((p : Nat)) 0 0 k1
      have pp : ∃ t', ex Cp lpW ⟨a, h⟩ = some (.exit 0, ⟨t', (h1).set 1 (some (.arr [.int .i64 45, .int .i64 ((p : Nat))]))⟩) ∧ t'.length = 203 ∧ t'[3]? = some (.ptr 0 0) ∧ t'[6]? = some (.ptr 1 0) := by
        simp only [lpW, bodyOf, Tryz.f20, Cat, Zs, awanted, aoper, evalO, put, acallOp, abuiltin, Nat.reduceEqDiff, Nat.reduceLT, ofV, ofCell, ↓reduceIte, hl, i0, i3, i4, i5, i6, CP, bq1, bq2, bq3, bq4, List.append_eq, Pw.lns, hlt, hx, hk58, TyP.fa42_0, TyP.fa42_1, dropCells, Nat.zero_add, Nat.add_zero, TyP.ld9, TyP.ld42, TyP.st3, TyP.st42, Pw.st9, TyP.ze42, Pw.own, Pw.sl9, c21, c22, e59, es, Pw.bd42, ab, st, l1, e61, d32, en]
        exact ⟨_, rfl, by simp [hl], by simp [i3], by simp [i6]⟩
      obtain ⟨t', e, s1, s2, s3⟩ := pp
      exact ⟨t', _, e, s1, s2, s3, (Heap.get_set_ne (by decide)).trans k0, Heap.get_set_eq⟩
    · rw [if_neg h32]
      have d32 : decide ((x.length : Int) > 32) = false := by simp; omega
      have la : loadA h1 true 3 (.ptr id 0) = some (.agg [.int .i64 1, .str x, .int .i64 (p : Nat)]) := ld_all gi rfl
      have kx : 1 < h1.next := by omega
      obtain ⟨v', h2, pa, gr2, hn2, hk2, _⟩ := Gr.app rWord_p kg (el_word ⟨1, x, (p : Nat)⟩).sl (app_ok 32 (by decide) acc ⟨1, x, (p : Nat)⟩ (by omega))
      have m0 := (hk2 0 (by omega) (Gr.not_acc kg k0)).trans k0
      have m1 := (hk2 1 kx (Gr.not_acc kg k1)).trans k1
      have pa : appendA false (h1) 3 32 v (.lst [.int .i64 (⟨1, x, (p : Nat)⟩ : Word).Kind, .str (⟨1, x, (p : Nat)⟩ : Word).Text, .int .i64 (⟨1, x, (p : Nat)⟩ : Word).At] 1 .full) = some (v', h2) := pa
      dsimp only at pa
      have pp : ∃ t', ex Cp lpW ⟨a, h⟩ = some (.normal, ⟨t', h2⟩) ∧ t'.length = 203 ∧ t'[0]? = some (.str text) ∧ t'[3]? = some (.ptr 0 0) ∧ t'[4]? = some v' ∧ t'[5]? = some (.int .i64 ((p + x.length : Nat) : Int)) ∧ t'[6]? = some (.ptr 1 0) := by
        simp only [lpW, bodyOf, Tryz.f20, Cat, Zs, awanted, aoper, evalO, put, acallOp, abuiltin, Nat.reduceEqDiff, Nat.reduceLT, ofV, ofCell, ↓reduceIte, hl, i0, i3, i4, i5, i6, CP, bq1, bq2, bq3, bq4, List.append_eq, Pw.lns, hlt, hx, hk58, TyP.fa42_0, TyP.fa42_1, dropCells, Nat.zero_add, Nat.add_zero, TyP.ld9, TyP.ld42, TyP.st3, TyP.st42, Pw.st9, TyP.ze42, Pw.own, Pw.sl9, c21, c22, e59, es, Pw.bd42, ab, st, l1, e61, d32, la, Pw.bd42, Pw.sb38, Pw.ap38, pa]
        exact ⟨_, rfl, by simp [hl], by simp [i0], by simp [i3], by simp [hl], by simp [hl], by simp [i6]⟩
      obtain ⟨t', e, s0, s1, s2, s3, s4, s5⟩ := pp
      exact ⟨t', h2, v', e, s0, s1, s2, s3, s4, s5, m0, m1, Nat.lt_of_lt_of_le kx hn2, gr2⟩
set_option maxHeartbeats 8000000 in
theorem w_digit (htl : text.length ≤ 4096) (hd : text.drop p = c :: t) (S : WS text p acc v a h) (hacc : acc.length ≤ 5000) (hk : kindB c = 3) : Steps text p acc v a h (lexStep p c t) := by
  obtain ⟨hl, i0, i3, i4, i5, i6, g0, g1, nx, gr⟩ := S
  have hlen := dlen hd
  have hx := Bx.ixs text p c (dat hd)
  have hlt : decide ((p : Int) < (text.length : Int)) = true := by simp; omega
  have hk58 := kind_run c h
  rw [hk] at hk58
  have c31 : (((3 : Nat) : Int) == 1) = false := rfl
  have c32 : (((3 : Nat) : Int) == 2) = false := rfl
  have c33 : (((3 : Nat) : Int) == 3) = true := rfl
  have hs : lexStep p c t = lexDigit p (c :: t) := by unfold lexStep; rw [if_neg (by omega), if_neg (by omega), if_pos hk]
  rw [hs]
  unfold lexDigit
  obtain ⟨x, hxw⟩ : ∃ x, x = (c :: t).takeWhile isD := ⟨_, rfl⟩
  have e59 := bytes_run text (by omega) 63 isD d_run p (by omega) h
  rw [hd, ← hxw] at e59
  have hxl : x.length ≤ t.length + 1 := by rw [hxw]; exact (List.takeWhile_prefix _).length_le
  have es := sub_str (s := text) (p := p) (n := x.length) (by omega)
  rw [hd, hxw, take_tw, ← hxw] at es
  have hcd : isD c = true := by unfold isD; rw [hk]; rfl
  have hhead : x.head? = some c := by rw [hxw]; simp [List.takeWhile, hcd]
  dsimp only
  rw [← hxw, hhead]
  have hsub : IntKind.i64.wrap (((p + x.length : Nat) : Int) - (p : Nat)) = (x.length : Nat) := by
    rw [wrap64 (by omega) (by omega)]; omega
  have h48 : ((c.toNat : Int) == 48) = decide (c = 48) := u8_eq c 48 (by decide)
  by_cases ha : x.length > 1 ∧ some c = some 48
  · rw [if_pos ha]
    have d1 : decide ((x.length : Int) > 1) = true := by simp; omega
    have c48 : ((c.toNat : Int) == 48) = true := by rw [h48]; simpa using ha.2
    have en := note_run 40 ((p : Nat)) 0 0 g1
    have pp : ∃ t', ex Cp lpW ⟨a, h⟩ = some (.exit 0, ⟨t', (h).set 1 (some (.arr [.int .i64 40, .int .i64 ((p : Nat))]))⟩) ∧ t'.length = 203 ∧ t'[3]? = some (.ptr 0 0) ∧ t'[6]? = some (.ptr 1 0) := by
      simp only [lpW, bodyOf, Tryz.f20, Cat, Zs, awanted, aoper, evalO, put, acallOp, abuiltin, Nat.reduceEqDiff, Nat.reduceLT, ofV, ofCell, ↓reduceIte, hl, i0, i3, i4, i5, i6, CP, bq1, bq2, bq3, bq4, List.append_eq, Pw.lns, hlt, hx, hk58, TyP.fa42_0, TyP.fa42_1, dropCells, Nat.zero_add, Nat.add_zero, TyP.ld9, TyP.ld42, TyP.st3, TyP.st42, Pw.st9, TyP.ze42, Pw.own, Pw.sl9, c31, c32, c33, e59, hsub, d1, c48, en]
      exact ⟨_, rfl, by simp [hl], by simp [i3], by simp [i6]⟩
    obtain ⟨t', e, s1, s2, s3⟩ := pp
    exact ⟨t', _, e, s1, s2, s3, (Heap.get_set_ne (by decide)).trans g0, Heap.get_set_eq⟩
  · rw [if_neg ha]
    have hpick : ∀ (T : Prop), (decide ((x.length : Int) > 1) = false → T) → (decide ((x.length : Int) > 1) = true → ((c.toNat : Int) == 48) = false → T) → T := by
      intro T f1 f2
      cases h1 : decide ((x.length : Int) > 1) with
      | false => exact f1 h1
      | true =>
        refine f2 h1 ?_
        rw [h48]
        simp only [decide_eq_false_iff_not]
        intro e
        simp only [decide_eq_true_eq] at h1
        exact ha ⟨by omega, by rw [e]⟩
    by_cases h19 : x.length > 19
    · rw [if_pos h19]
      have d19 : decide ((x.length : Int) > 19) = true := by simp; omega
      refine hpick _ (fun d1 => ?_) (fun d1 c48 => ?_)
      · have en := note_run 45 ((p : Nat)) 0 0 g1
        have pp : ∃ t', ex Cp lpW ⟨a, h⟩ = some (.exit 0, ⟨t', (h).set 1 (some (.arr [.int .i64 45, .int .i64 ((p : Nat))]))⟩) ∧ t'.length = 203 ∧ t'[3]? = some (.ptr 0 0) ∧ t'[6]? = some (.ptr 1 0) := by
          simp only [lpW, bodyOf, Tryz.f20, Cat, Zs, awanted, aoper, evalO, put, acallOp, abuiltin, Nat.reduceEqDiff, Nat.reduceLT, ofV, ofCell, ↓reduceIte, hl, i0, i3, i4, i5, i6, CP, bq1, bq2, bq3, bq4, List.append_eq, Pw.lns, hlt, hx, hk58, TyP.fa42_0, TyP.fa42_1, dropCells, Nat.zero_add, Nat.add_zero, TyP.ld9, TyP.ld42, TyP.st3, TyP.st42, Pw.st9, TyP.ze42, Pw.own, Pw.sl9, c31, c32, c33, e59, hsub, d1, d19, en]
          exact ⟨_, rfl, by simp [hl], by simp [i3], by simp [i6]⟩
        obtain ⟨t', e, s1, s2, s3⟩ := pp
        exact ⟨t', _, e, s1, s2, s3, (Heap.get_set_ne (by decide)).trans g0, Heap.get_set_eq⟩
      · have en := note_run 45 ((p : Nat)) 0 0 g1
        have pp : ∃ t', ex Cp lpW ⟨a, h⟩ = some (.exit 0, ⟨t', (h).set 1 (some (.arr [.int .i64 45, .int .i64 ((p : Nat))]))⟩) ∧ t'.length = 203 ∧ t'[3]? = some (.ptr 0 0) ∧ t'[6]? = some (.ptr 1 0) := by
          simp only [lpW, bodyOf, Tryz.f20, Cat, Zs, awanted, aoper, evalO, put, acallOp, abuiltin, Nat.reduceEqDiff, Nat.reduceLT, ofV, ofCell, ↓reduceIte, hl, i0, i3, i4, i5, i6, CP, bq1, bq2, bq3, bq4, List.append_eq, Pw.lns, hlt, hx, hk58, TyP.fa42_0, TyP.fa42_1, dropCells, Nat.zero_add, Nat.add_zero, TyP.ld9, TyP.ld42, TyP.st3, TyP.st42, Pw.st9, TyP.ze42, Pw.own, Pw.sl9, c31, c32, c33, e59, hsub, d1, c48, d19, en]
          exact ⟨_, rfl, by simp [hl], by simp [i3], by simp [i6]⟩
        obtain ⟨t', e, s1, s2, s3⟩ := pp
        exact ⟨t', _, e, s1, s2, s3, (Heap.get_set_ne (by decide)).trans g0, Heap.get_set_eq⟩
    · rw [if_neg h19]
      have d19 : decide ((x.length : Int) > 19) = false := by simp; omega
      have hdr : text.drop (p + x.length) = (c :: t).dropWhile isD := by
        rw [← List.drop_drop, hd, hxw, drop_tw]
      cases hdw : (c :: t).dropWhile isD with
      | nil =>
        rw [hdw] at hdr
        have hend : ¬ (p + x.length < text.length) := by
          intro hlt
          have := congrArg List.length hdr
          simp only [List.length_drop, List.length_nil] at this
          omega
        have dl : decide (((p + x.length : Nat) : Int) < (text.length : Int)) = false := by simp; omega
        rw [if_neg (by simp [nextL])]
        refine hpick _ (fun d1 => ?_) (fun d1 c48 => ?_)
        · obtain ⟨v', h2, pa, gr2, hn2, hk2, _⟩ := Gr.app rWord_p gr (el_word ⟨3, x, (p : Nat)⟩).sl (app_ok 32 (by decide) acc ⟨3, x, (p : Nat)⟩ (by omega))
          have m0 := (hk2 0 (by omega) (Gr.not_acc gr g0)).trans g0
          have m1 := (hk2 1 nx (Gr.not_acc gr g1)).trans g1
          have pa : appendA false (h) 3 32 v (.lst [.int .i64 (⟨3, x, (p : Nat)⟩ : Word).Kind, .str (⟨3, x, (p : Nat)⟩ : Word).Text, .int .i64 (⟨3, x, (p : Nat)⟩ : Word).At] 1 .full) = some (v', h2) := pa
          dsimp only at pa
          have pp : ∃ t', ex Cp lpW ⟨a, h⟩ = some (.normal, ⟨t', h2⟩) ∧ t'.length = 203 ∧ t'[0]? = some (.str text) ∧ t'[3]? = some (.ptr 0 0) ∧ t'[4]? = some v' ∧ t'[5]? = some (.int .i64 ((p + x.length : Nat) : Int)) ∧ t'[6]? = some (.ptr 1 0) := by
            simp only [lpW, bodyOf, Tryz.f20, Cat, Zs, awanted, aoper, evalO, put, acallOp, abuiltin, Nat.reduceEqDiff, Nat.reduceLT, ofV, ofCell, ↓reduceIte, hl, i0, i3, i4, i5, i6, CP, bq1, bq2, bq3, bq4, List.append_eq, Pw.lns, hlt, hx, hk58, TyP.fa42_0, TyP.fa42_1, dropCells, Nat.zero_add, Nat.add_zero, TyP.ld9, TyP.ld42, TyP.st3, TyP.st42, Pw.st9, TyP.ze42, Pw.own, Pw.sl9, c31, c32, c33, e59, hsub, d1, d19, dl, es, Pw.bd42, Pw.sb38, Pw.ap38, pa]
            exact ⟨_, rfl, by simp [hl], by simp [i0], by simp [i3], by simp [hl], by simp [hl], by simp [i6]⟩
          obtain ⟨t', e, s0, s1, s2, s3, s4, s5⟩ := pp
          exact ⟨t', h2, v', e, s0, s1, s2, s3, s4, s5, m0, m1, Nat.lt_of_lt_of_le nx hn2, gr2⟩
        · obtain ⟨v', h2, pa, gr2, hn2, hk2, _⟩ := Gr.app rWord_p gr (el_word ⟨3, x, (p : Nat)⟩).sl (app_ok 32 (by decide) acc ⟨3, x, (p : Nat)⟩ (by omega))
          have m0 := (hk2 0 (by omega) (Gr.not_acc gr g0)).trans g0
          have m1 := (hk2 1 nx (Gr.not_acc gr g1)).trans g1
          have pa : appendA false (h) 3 32 v (.lst [.int .i64 (⟨3, x, (p : Nat)⟩ : Word).Kind, .str (⟨3, x, (p : Nat)⟩ : Word).Text, .int .i64 (⟨3, x, (p : Nat)⟩ : Word).At] 1 .full) = some (v', h2) := pa
          dsimp only at pa
          have pp : ∃ t', ex Cp lpW ⟨a, h⟩ = some (.normal, ⟨t', h2⟩) ∧ t'.length = 203 ∧ t'[0]? = some (.str text) ∧ t'[3]? = some (.ptr 0 0) ∧ t'[4]? = some v' ∧ t'[5]? = some (.int .i64 ((p + x.length : Nat) : Int)) ∧ t'[6]? = some (.ptr 1 0) := by
            simp only [lpW, bodyOf, Tryz.f20, Cat, Zs, awanted, aoper, evalO, put, acallOp, abuiltin, Nat.reduceEqDiff, Nat.reduceLT, ofV, ofCell, ↓reduceIte, hl, i0, i3, i4, i5, i6, CP, bq1, bq2, bq3, bq4, List.append_eq, Pw.lns, hlt, hx, hk58, TyP.fa42_0, TyP.fa42_1, dropCells, Nat.zero_add, Nat.add_zero, TyP.ld9, TyP.ld42, TyP.st3, TyP.st42, Pw.st9, TyP.ze42, Pw.own, Pw.sl9, c31, c32, c33, e59, hsub, d1, c48, d19, dl, es, Pw.bd42, Pw.sb38, Pw.ap38, pa]
            exact ⟨_, rfl, by simp [hl], by simp [i0], by simp [i3], by simp [hl], by simp [hl], by simp [i6]⟩
          obtain ⟨t', e, s0, s1, s2, s3, s4, s5⟩ := pp
          exact ⟨t', h2, v', e, s0, s1, s2, s3, s4, s5, m0, m1, Nat.lt_of_lt_of_le nx hn2, gr2⟩
      | cons d r =>
        rw [hdw] at hdr
        have hl2 := dlen hdr
        have dl : decide (((p + x.length : Nat) : Int) < (text.length : Int)) = true := by simp; omega
        have hx2 := Bx.ixs text (p + x.length) d (dat hdr)
        have ek := kind_run d h
        cases hll : isL d with
        | true =>
          rw [if_pos (by simpa [nextL] using hll)]
          have k2 : (((kindB d : Nat) : Int) == 2) = true := by
            have : kindB d = 2 := by simpa [isL] using hll
            rw [this]; rfl
          refine hpick _ (fun d1 => ?_) (fun d1 c48 => ?_)
          · have en := note_run 40 ((p + x.length : Nat)) 0 0 g1
            have pp : ∃ t', ex Cp lpW ⟨a, h⟩ = some (.exit 0, ⟨t', (h).set 1 (some (.arr [.int .i64 40, .int .i64 ((p + x.length : Nat))]))⟩) ∧ t'.length = 203 ∧ t'[3]? = some (.ptr 0 0) ∧ t'[6]? = some (.ptr 1 0) := by
              simp only [lpW, bodyOf, Tryz.f20, Cat, Zs, awanted, aoper, evalO, put, acallOp, abuiltin, Nat.reduceEqDiff, Nat.reduceLT, ofV, ofCell, ↓reduceIte, hl, i0, i3, i4, i5, i6, CP, bq1, bq2, bq3, bq4, List.append_eq, Pw.lns, hlt, hx, hk58, TyP.fa42_0, TyP.fa42_1, dropCells, Nat.zero_add, Nat.add_zero, TyP.ld9, TyP.ld42, TyP.st3, TyP.st42, Pw.st9, TyP.ze42, Pw.own, Pw.sl9, c31, c32, c33, e59, hsub, d1, d19, dl, hx2, ek, k2, en]
              exact ⟨_, rfl, by simp [hl], by simp [i3], by simp [i6]⟩
            obtain ⟨t', e, s1, s2, s3⟩ := pp
            exact ⟨t', _, e, s1, s2, s3, (Heap.get_set_ne (by decide)).trans g0, Heap.get_set_eq⟩
          · have en := note_run 40 ((p + x.length : Nat)) 0 0 g1
            have pp : ∃ t', ex Cp lpW ⟨a, h⟩ = some (.exit 0, ⟨t', (h).set 1 (some (.arr [.int .i64 40, .int .i64 ((p + x.length : Nat))]))⟩) ∧ t'.length = 203 ∧ t'[3]? = some (.ptr 0 0) ∧ t'[6]? = some (.ptr 1 0) := by
              simp only [lpW, bodyOf, Tryz.f20, Cat, Zs, awanted, aoper, evalO, put, acallOp, abuiltin, Nat.reduceEqDiff, Nat.reduceLT, ofV, ofCell, ↓reduceIte, hl, i0, i3, i4, i5, i6, CP, bq1, bq2, bq3, bq4, List.append_eq, Pw.lns, hlt, hx, hk58, TyP.fa42_0, TyP.fa42_1, dropCells, Nat.zero_add, Nat.add_zero, TyP.ld9, TyP.ld42, TyP.st3, TyP.st42, Pw.st9, TyP.ze42, Pw.own, Pw.sl9, c31, c32, c33, e59, hsub, d1, c48, d19, dl, hx2, ek, k2, en]
              exact ⟨_, rfl, by simp [hl], by simp [i3], by simp [i6]⟩
            obtain ⟨t', e, s1, s2, s3⟩ := pp
            exact ⟨t', _, e, s1, s2, s3, (Heap.get_set_ne (by decide)).trans g0, Heap.get_set_eq⟩
        | false =>
          rw [if_neg (by simp [nextL, hll])]
          have k2 : (((kindB d : Nat) : Int) == 2) = false := by
            have hn : ¬ kindB d = 2 := by simpa [isL] using hll
            rw [beq_eq_false_iff_ne]; omega
          refine hpick _ (fun d1 => ?_) (fun d1 c48 => ?_)
          · obtain ⟨v', h2, pa, gr2, hn2, hk2, _⟩ := Gr.app rWord_p gr (el_word ⟨3, x, (p : Nat)⟩).sl (app_ok 32 (by decide) acc ⟨3, x, (p : Nat)⟩ (by omega))
            have m0 := (hk2 0 (by omega) (Gr.not_acc gr g0)).trans g0
            have m1 := (hk2 1 nx (Gr.not_acc gr g1)).trans g1
            have pa : appendA false (h) 3 32 v (.lst [.int .i64 (⟨3, x, (p : Nat)⟩ : Word).Kind, .str (⟨3, x, (p : Nat)⟩ : Word).Text, .int .i64 (⟨3, x, (p : Nat)⟩ : Word).At] 1 .full) = some (v', h2) := pa
            dsimp only at pa
            have pp : ∃ t', ex Cp lpW ⟨a, h⟩ = some (.normal, ⟨t', h2⟩) ∧ t'.length = 203 ∧ t'[0]? = some (.str text) ∧ t'[3]? = some (.ptr 0 0) ∧ t'[4]? = some v' ∧ t'[5]? = some (.int .i64 ((p + x.length : Nat) : Int)) ∧ t'[6]? = some (.ptr 1 0) := by
              simp only [lpW, bodyOf, Tryz.f20, Cat, Zs, awanted, aoper, evalO, put, acallOp, abuiltin, Nat.reduceEqDiff, Nat.reduceLT, ofV, ofCell, ↓reduceIte, hl, i0, i3, i4, i5, i6, CP, bq1, bq2, bq3, bq4, List.append_eq, Pw.lns, hlt, hx, hk58, TyP.fa42_0, TyP.fa42_1, dropCells, Nat.zero_add, Nat.add_zero, TyP.ld9, TyP.ld42, TyP.st3, TyP.st42, Pw.st9, TyP.ze42, Pw.own, Pw.sl9, c31, c32, c33, e59, hsub, d1, d19, dl, hx2, ek, k2, es, Pw.bd42, Pw.sb38, Pw.ap38, pa]
              exact ⟨_, rfl, by simp [hl], by simp [i0], by simp [i3], by simp [hl], by simp [hl], by simp [i6]⟩
            obtain ⟨t', e, s0, s1, s2, s3, s4, s5⟩ := pp
            exact ⟨t', h2, v', e, s0, s1, s2, s3, s4, s5, m0, m1, Nat.lt_of_lt_of_le nx hn2, gr2⟩
          · obtain ⟨v', h2, pa, gr2, hn2, hk2, _⟩ := Gr.app rWord_p gr (el_word ⟨3, x, (p : Nat)⟩).sl (app_ok 32 (by decide) acc ⟨3, x, (p : Nat)⟩ (by omega))
            have m0 := (hk2 0 (by omega) (Gr.not_acc gr g0)).trans g0
            have m1 := (hk2 1 nx (Gr.not_acc gr g1)).trans g1
            have pa : appendA false (h) 3 32 v (.lst [.int .i64 (⟨3, x, (p : Nat)⟩ : Word).Kind, .str (⟨3, x, (p : Nat)⟩ : Word).Text, .int .i64 (⟨3, x, (p : Nat)⟩ : Word).At] 1 .full) = some (v', h2) := pa
            dsimp only at pa
            have pp : ∃ t', ex Cp lpW ⟨a, h⟩ = some (.normal, ⟨t', h2⟩) ∧ t'.length = 203 ∧ t'[0]? = some (.str text) ∧ t'[3]? = some (.ptr 0 0) ∧ t'[4]? = some v' ∧ t'[5]? = some (.int .i64 ((p + x.length : Nat) : Int)) ∧ t'[6]? = some (.ptr 1 0) := by
              simp only [lpW, bodyOf, Tryz.f20, Cat, Zs, awanted, aoper, evalO, put, acallOp, abuiltin, Nat.reduceEqDiff, Nat.reduceLT, ofV, ofCell, ↓reduceIte, hl, i0, i3, i4, i5, i6, CP, bq1, bq2, bq3, bq4, List.append_eq, Pw.lns, hlt, hx, hk58, TyP.fa42_0, TyP.fa42_1, dropCells, Nat.zero_add, Nat.add_zero, TyP.ld9, TyP.ld42, TyP.st3, TyP.st42, Pw.st9, TyP.ze42, Pw.own, Pw.sl9, c31, c32, c33, e59, hsub, d1, c48, d19, dl, hx2, ek, k2, es, Pw.bd42, Pw.sb38, Pw.ap38, pa]
              exact ⟨_, rfl, by simp [hl], by simp [i0], by simp [i3], by simp [hl], by simp [hl], by simp [i6]⟩
            obtain ⟨t', e, s0, s1, s2, s3, s4, s5⟩ := pp
            exact ⟨t', h2, v', e, s0, s1, s2, s3, s4, s5, m0, m1, Nat.lt_of_lt_of_le nx hn2, gr2⟩
theorem w_quote (htl : text.length ≤ 4096) (hd : text.drop p = c :: t) (S : WS text p acc v a h) (hacc : acc.length ≤ 5000) (hk : kindB c = 4) : Steps text p acc v a h (lexStep p c t) := by
  obtain ⟨hl, i0, i3, i4, i5, i6, g0, g1, nx, gr⟩ := S
  have hlen := dlen hd
  have hx := Bx.ixs text p c (dat hd)
  have hlt : decide ((p : Int) < (text.length : Int)) = true := by simp; omega
  have hk58 := kind_run c h
  rw [hk] at hk58
  have c41 : (((4 : Nat) : Int) == 1) = false := rfl
  have c42 : (((4 : Nat) : Int) == 2) = false := rfl
  have c43 : (((4 : Nat) : Int) == 3) = false := rfl
  have c44 : (((4 : Nat) : Int) == 4) = true := rfl
  have hs : lexStep p c t = lexQuote p t := by unfold lexStep; rw [if_neg (by omega), if_neg (by omega), if_neg (by omega), if_pos hk]
  rw [hs]
  unfold lexQuote
  have htd : text.drop (p + 1) = t := by rw [← List.drop_drop, hd]; rfl
  have e64 := S64_spec text (p : Int) (textL t (p + 1) []) (by
    unfold S64
    rw [if_pos ⟨by omega, by omega, by omega⟩, Int.toNat_natCast, htd]) h
  rw [textL_quoted t.length t (p + 1) [] (Nat.le_refl _)] at e64
  cases hq : quoted t with
  | none =>
    rw [hq] at e64
    have en := note_run 40 ((p : Nat)) 0 0 g1
    have pp : ∃ t', ex Cp lpW ⟨a, h⟩ = some (.exit 0, ⟨t', (h).set 1 (some (.arr [.int .i64 40, .int .i64 ((p : Nat))]))⟩) ∧ t'.length = 203 ∧ t'[3]? = some (.ptr 0 0) ∧ t'[6]? = some (.ptr 1 0) := by
      simp only [lpW, bodyOf, Tryz.f20, Cat, Zs, awanted, aoper, evalO, put, acallOp, abuiltin, Nat.reduceEqDiff, Nat.reduceLT, ofV, ofCell, ↓reduceIte, hl, i0, i3, i4, i5, i6, CP, bq1, bq2, bq3, bq4, List.append_eq, Pw.lns, hlt, hx, hk58, TyP.fa42_0, TyP.fa42_1, dropCells, Nat.zero_add, Nat.add_zero, TyP.ld9, TyP.ld42, TyP.st3, TyP.st42, Pw.st9, TyP.ze42, Pw.own, Pw.sl9, c41, c42, c43, c44, e64, ex_tup, aun_not, Bool.not_false, Bool.not_true, en]
      exact ⟨_, rfl, by simp [hl], by simp [i3], by simp [i6]⟩
    obtain ⟨t', e, s1, s2, s3⟩ := pp
    exact ⟨t', _, e, s1, s2, s3, (Heap.get_set_ne (by decide)).trans g0, Heap.get_set_eq⟩
  | some y =>
    obtain ⟨x, k⟩ := y
    rw [hq] at e64
    simp only [List.nil_append] at e64
    dsimp only
    have hql := quoted_le t.length t x k (Nat.le_refl _) hq
    by_cases h64 : x.length > 64
    · rw [if_pos h64]
      have d64 : decide ((x.length : Int) > 64) = true := by simp; omega
      have en := note_run 45 ((p : Nat)) 0 0 g1
      have pp : ∃ t', ex Cp lpW ⟨a, h⟩ = some (.exit 0, ⟨t', (h).set 1 (some (.arr [.int .i64 45, .int .i64 ((p : Nat))]))⟩) ∧ t'.length = 203 ∧ t'[3]? = some (.ptr 0 0) ∧ t'[6]? = some (.ptr 1 0) := by
        simp only [lpW, bodyOf, Tryz.f20, Cat, Zs, awanted, aoper, evalO, put, acallOp, abuiltin, Nat.reduceEqDiff, Nat.reduceLT, ofV, ofCell, ↓reduceIte, hl, i0, i3, i4, i5, i6, CP, bq1, bq2, bq3, bq4, List.append_eq, Pw.lns, hlt, hx, hk58, TyP.fa42_0, TyP.fa42_1, dropCells, Nat.zero_add, Nat.add_zero, TyP.ld9, TyP.ld42, TyP.st3, TyP.st42, Pw.st9, TyP.ze42, Pw.own, Pw.sl9, c41, c42, c43, c44, e64, ex_tup, aun_not, Bool.not_false, Bool.not_true, d64, en]
        exact ⟨_, rfl, by simp [hl], by simp [i3], by simp [i6]⟩
      obtain ⟨t', e, s1, s2, s3⟩ := pp
      exact ⟨t', _, e, s1, s2, s3, (Heap.get_set_ne (by decide)).trans g0, Heap.get_set_eq⟩
    · rw [if_neg h64]
      have d64 : decide ((x.length : Int) > 64) = false := by simp; omega
      have hpk : p + 1 + k = p + (k + 1) := by omega
      rw [hpk] at e64
      obtain ⟨v', h2, pa, gr2, hn2, hk2, _⟩ := Gr.app rWord_p gr (el_word ⟨4, x, (p : Nat)⟩).sl (app_ok 32 (by decide) acc ⟨4, x, (p : Nat)⟩ (by omega))
      have m0 := (hk2 0 (by omega) (Gr.not_acc gr g0)).trans g0
      have m1 := (hk2 1 nx (Gr.not_acc gr g1)).trans g1
      have pa : appendA false (h) 3 32 v (.lst [.int .i64 (⟨4, x, (p : Nat)⟩ : Word).Kind, .str (⟨4, x, (p : Nat)⟩ : Word).Text, .int .i64 (⟨4, x, (p : Nat)⟩ : Word).At] 1 .full) = some (v', h2) := pa
      dsimp only at pa
      have pp : ∃ t', ex Cp lpW ⟨a, h⟩ = some (.normal, ⟨t', h2⟩) ∧ t'.length = 203 ∧ t'[0]? = some (.str text) ∧ t'[3]? = some (.ptr 0 0) ∧ t'[4]? = some v' ∧ t'[5]? = some (.int .i64 ((p + (k + 1) : Nat) : Int)) ∧ t'[6]? = some (.ptr 1 0) := by
        simp only [lpW, bodyOf, Tryz.f20, Cat, Zs, awanted, aoper, evalO, put, acallOp, abuiltin, Nat.reduceEqDiff, Nat.reduceLT, ofV, ofCell, ↓reduceIte, hl, i0, i3, i4, i5, i6, CP, bq1, bq2, bq3, bq4, List.append_eq, Pw.lns, hlt, hx, hk58, TyP.fa42_0, TyP.fa42_1, dropCells, Nat.zero_add, Nat.add_zero, TyP.ld9, TyP.ld42, TyP.st3, TyP.st42, Pw.st9, TyP.ze42, Pw.own, Pw.sl9, c41, c42, c43, c44, e64, ex_tup, aun_not, Bool.not_false, Bool.not_true, d64, Pw.bd42, Pw.sb38, Pw.ap38, pa]
        exact ⟨_, rfl, by simp [hl], by simp [i0], by simp [i3], by simp [hl], by simp [hl], by simp [i6]⟩
      obtain ⟨t', e, s0, s1, s2, s3, s4, s5⟩ := pp
      exact ⟨t', h2, v', e, s0, s1, s2, s3, s4, s5, m0, m1, Nat.lt_of_lt_of_le nx hn2, gr2⟩
set_option maxHeartbeats 8000000 in
theorem w_sign (htl : text.length ≤ 4096) (hd : text.drop p = c :: t) (S : WS text p acc v a h) (hacc : acc.length ≤ 5000) (hk : kindB c = 5) : Steps text p acc v a h (lexStep p c t) := by
  obtain ⟨hl, i0, i3, i4, i5, i6, g0, g1, nx, gr⟩ := S
  have hlen := dlen hd
  have hx := Bx.ixs text p c (dat hd)
  have hlt : decide ((p : Int) < (text.length : Int)) = true := by simp; omega
  have hk58 := kind_run c h
  rw [hk] at hk58
  have c51 : (((5 : Nat) : Int) == 1) = false := rfl
  have c52 : (((5 : Nat) : Int) == 2) = false := rfl
  have c53 : (((5 : Nat) : Int) == 3) = false := rfl
  have c54 : (((5 : Nat) : Int) == 4) = false := rfl
  have c55 : (((5 : Nat) : Int) == 5) = true := rfl
  have hs : lexStep p c t = .word ⟨5, (c :: t).take (signLen c t), p⟩ (signLen c t) := by unfold lexStep; rw [if_neg (by omega), if_neg (by omega), if_neg (by omega), if_neg (by omega), if_pos hk]
  rw [hs]
  have hw : IntKind.i64.wrap ((p : Int) + 1) = ((p + 1 : Nat) : Int) := by rw [wrap64 (by omega) (by omega)]; rfl
  have es1 := sub_str (s := text) (p := p) (n := 1) (by omega)
  rw [hd] at es1
  have h60 : ((c.toNat : Int) == 60) = decide (c = 60) := u8_eq c 60 (by decide)
  have h62 : ((c.toNat : Int) == 62) = decide (c = 62) := u8_eq c 62 (by decide)
  cases t with
  | nil =>
    have hsl : signLen c [] = 1 := rfl
    rw [hsl]
    have dl : decide (((p + 1 : Nat) : Int) < (text.length : Int)) = false := by simp only [List.length_nil] at hlen; simp; omega
    obtain ⟨v', h2, pa, gr2, hn2, hk2, _⟩ := Gr.app rWord_p gr (el_word ⟨5, [c].take 1, (p : Nat)⟩).sl (app_ok 32 (by decide) acc ⟨5, [c].take 1, (p : Nat)⟩ (by omega))
    have m0 := (hk2 0 (by omega) (Gr.not_acc gr g0)).trans g0
    have m1 := (hk2 1 nx (Gr.not_acc gr g1)).trans g1
    have pa : appendA false (h) 3 32 v (.lst [.int .i64 (⟨5, [c].take 1, (p : Nat)⟩ : Word).Kind, .str (⟨5, [c].take 1, (p : Nat)⟩ : Word).Text, .int .i64 (⟨5, [c].take 1, (p : Nat)⟩ : Word).At] 1 .full) = some (v', h2) := pa
    dsimp only at pa
    have pp : ∃ t', ex Cp lpW ⟨a, h⟩ = some (.normal, ⟨t', h2⟩) ∧ t'.length = 203 ∧ t'[0]? = some (.str text) ∧ t'[3]? = some (.ptr 0 0) ∧ t'[4]? = some v' ∧ t'[5]? = some (.int .i64 ((p + 1 : Nat) : Int)) ∧ t'[6]? = some (.ptr 1 0) := by
      simp only [lpW, bodyOf, Tryz.f20, Cat, Zs, awanted, aoper, evalO, put, acallOp, abuiltin, Nat.reduceEqDiff, Nat.reduceLT, ofV, ofCell, ↓reduceIte, hl, i0, i3, i4, i5, i6, CP, bq1, bq2, bq3, bq4, List.append_eq, Pw.lns, hlt, hx, hk58, TyP.fa42_0, TyP.fa42_1, dropCells, Nat.zero_add, Nat.add_zero, TyP.ld9, TyP.ld42, TyP.st3, TyP.st42, Pw.st9, TyP.ze42, Pw.own, Pw.sl9, c51, c52, c53, c54, c55, hw, dl, es1, Pw.bd42, Pw.sb38, Pw.ap38, pa]
      exact ⟨_, rfl, by simp [hl], by simp [i0], by simp [i3], by simp [hl], by simp [hl], by simp [i6]⟩
    obtain ⟨t', e, s0, s1, s2, s3, s4, s5⟩ := pp
    exact ⟨t', h2, v', e, s0, s1, s2, s3, s4, s5, m0, m1, Nat.lt_of_lt_of_le nx hn2, gr2⟩
  | cons d r =>
    have htd : text.drop (p + 1) = d :: r := by rw [← List.drop_drop, hd]; rfl
    have hx2 := Bx.ixs text (p + 1) d (dat htd)
    have dl : decide (((p + 1 : Nat) : Int) < (text.length : Int)) = true := by simp only [List.length_cons] at hlen; simp; omega
    have d62 : ((d.toNat : Int) == 62) = decide (d = 62) := u8_eq d 62 (by decide)
    have d61 : ((d.toNat : Int) == 61) = decide (d = 61) := u8_eq d 61 (by decide)
    have hw2 : IntKind.i64.wrap (((p + 1 : Nat) : Int) + 1) = ((p + 2 : Nat) : Int) := by simp only [List.length_cons] at hlen; rw [wrap64 (by omega) (by omega)]; rfl
    have es2 := sub_str (s := text) (p := p) (n := 2) (by simp only [List.length_cons] at hlen; omega)
    rw [hd] at es2
    have hsl : signLen c (d :: r) = if (c = 60 ∧ (d = 62 ∨ d = 61)) ∨ (c = 62 ∧ d = 61) then 2 else 1 := rfl
    rw [hsl]
    by_cases q60 : c = 60
    · by_cases q62 : c = 62
      · rw [q60] at q62; exact absurd q62 (by decide)
      · by_cases r62 : d = 62
        · by_cases r61 : d = 61
          · rw [r62] at r61; exact absurd r61 (by decide)
          · have f60 : ((c.toNat : Int) == 60) = true := by rw [h60]; simp [q60]
            have f62 : ((c.toNat : Int) == 62) = false := by rw [h62]; simp [q62]
            have f63 : ((d.toNat : Int) == 62) = true := by rw [d62]; simp [r62]
            have f61 : ((d.toNat : Int) == 61) = false := by rw [d61]; simp [r61]
            rw [if_pos (by simp [q60, q62, r62, r61])]
            obtain ⟨v', h2, pa, gr2, hn2, hk2, _⟩ := Gr.app rWord_p gr (el_word ⟨5, (c :: d :: r).take 2, (p : Nat)⟩).sl (app_ok 32 (by decide) acc ⟨5, (c :: d :: r).take 2, (p : Nat)⟩ (by omega))
            have m0 := (hk2 0 (by omega) (Gr.not_acc gr g0)).trans g0
            have m1 := (hk2 1 nx (Gr.not_acc gr g1)).trans g1
            have pa : appendA false (h) 3 32 v (.lst [.int .i64 (⟨5, (c :: d :: r).take 2, (p : Nat)⟩ : Word).Kind, .str (⟨5, (c :: d :: r).take 2, (p : Nat)⟩ : Word).Text, .int .i64 (⟨5, (c :: d :: r).take 2, (p : Nat)⟩ : Word).At] 1 .full) = some (v', h2) := pa
            dsimp only at pa
            have pp : ∃ t', ex Cp lpW ⟨a, h⟩ = some (.normal, ⟨t', h2⟩) ∧ t'.length = 203 ∧ t'[0]? = some (.str text) ∧ t'[3]? = some (.ptr 0 0) ∧ t'[4]? = some v' ∧ t'[5]? = some (.int .i64 ((p + 2 : Nat) : Int)) ∧ t'[6]? = some (.ptr 1 0) := by
              simp only [lpW, bodyOf, Tryz.f20, Cat, Zs, awanted, aoper, evalO, put, acallOp, abuiltin, Nat.reduceEqDiff, Nat.reduceLT, ofV, ofCell, ↓reduceIte, hl, i0, i3, i4, i5, i6, CP, bq1, bq2, bq3, bq4, List.append_eq, Pw.lns, hlt, hx, hk58, TyP.fa42_0, TyP.fa42_1, dropCells, Nat.zero_add, Nat.add_zero, TyP.ld9, TyP.ld42, TyP.st3, TyP.st42, Pw.st9, TyP.ze42, Pw.own, Pw.sl9, c51, c52, c53, c54, c55, hw, dl, hx2, hx, f60, f62, f63, f61, hw2, es2, Pw.bd42, Pw.sb38, Pw.ap38, pa]
              exact ⟨_, rfl, by simp [hl], by simp [i0], by simp [i3], by simp [hl], by simp [hl], by simp [i6]⟩
            obtain ⟨t', e, s0, s1, s2, s3, s4, s5⟩ := pp
            exact ⟨t', h2, v', e, s0, s1, s2, s3, s4, s5, m0, m1, Nat.lt_of_lt_of_le nx hn2, gr2⟩
        · by_cases r61 : d = 61
          · have f60 : ((c.toNat : Int) == 60) = true := by rw [h60]; simp [q60]
            have f62 : ((c.toNat : Int) == 62) = false := by rw [h62]; simp [q62]
            have f63 : ((d.toNat : Int) == 62) = false := by rw [d62]; simp [r62]
            have f61 : ((d.toNat : Int) == 61) = true := by rw [d61]; simp [r61]
            rw [if_pos (by simp [q60, q62, r62, r61])]
            obtain ⟨v', h2, pa, gr2, hn2, hk2, _⟩ := Gr.app rWord_p gr (el_word ⟨5, (c :: d :: r).take 2, (p : Nat)⟩).sl (app_ok 32 (by decide) acc ⟨5, (c :: d :: r).take 2, (p : Nat)⟩ (by omega))
            have m0 := (hk2 0 (by omega) (Gr.not_acc gr g0)).trans g0
            have m1 := (hk2 1 nx (Gr.not_acc gr g1)).trans g1
            have pa : appendA false (h) 3 32 v (.lst [.int .i64 (⟨5, (c :: d :: r).take 2, (p : Nat)⟩ : Word).Kind, .str (⟨5, (c :: d :: r).take 2, (p : Nat)⟩ : Word).Text, .int .i64 (⟨5, (c :: d :: r).take 2, (p : Nat)⟩ : Word).At] 1 .full) = some (v', h2) := pa
            dsimp only at pa
            have pp : ∃ t', ex Cp lpW ⟨a, h⟩ = some (.normal, ⟨t', h2⟩) ∧ t'.length = 203 ∧ t'[0]? = some (.str text) ∧ t'[3]? = some (.ptr 0 0) ∧ t'[4]? = some v' ∧ t'[5]? = some (.int .i64 ((p + 2 : Nat) : Int)) ∧ t'[6]? = some (.ptr 1 0) := by
              simp only [lpW, bodyOf, Tryz.f20, Cat, Zs, awanted, aoper, evalO, put, acallOp, abuiltin, Nat.reduceEqDiff, Nat.reduceLT, ofV, ofCell, ↓reduceIte, hl, i0, i3, i4, i5, i6, CP, bq1, bq2, bq3, bq4, List.append_eq, Pw.lns, hlt, hx, hk58, TyP.fa42_0, TyP.fa42_1, dropCells, Nat.zero_add, Nat.add_zero, TyP.ld9, TyP.ld42, TyP.st3, TyP.st42, Pw.st9, TyP.ze42, Pw.own, Pw.sl9, c51, c52, c53, c54, c55, hw, dl, hx2, hx, f60, f62, f63, f61, hw2, es2, Pw.bd42, Pw.sb38, Pw.ap38, pa]
              exact ⟨_, rfl, by simp [hl], by simp [i0], by simp [i3], by simp [hl], by simp [hl], by simp [i6]⟩
            obtain ⟨t', e, s0, s1, s2, s3, s4, s5⟩ := pp
            exact ⟨t', h2, v', e, s0, s1, s2, s3, s4, s5, m0, m1, Nat.lt_of_lt_of_le nx hn2, gr2⟩
          · have f60 : ((c.toNat : Int) == 60) = true := by rw [h60]; simp [q60]
            have f62 : ((c.toNat : Int) == 62) = false := by rw [h62]; simp [q62]
            have f63 : ((d.toNat : Int) == 62) = false := by rw [d62]; simp [r62]
            have f61 : ((d.toNat : Int) == 61) = false := by rw [d61]; simp [r61]
            rw [if_neg (by simp [q60, q62, r62, r61])]
            obtain ⟨v', h2, pa, gr2, hn2, hk2, _⟩ := Gr.app rWord_p gr (el_word ⟨5, (c :: d :: r).take 1, (p : Nat)⟩).sl (app_ok 32 (by decide) acc ⟨5, (c :: d :: r).take 1, (p : Nat)⟩ (by omega))
            have m0 := (hk2 0 (by omega) (Gr.not_acc gr g0)).trans g0
            have m1 := (hk2 1 nx (Gr.not_acc gr g1)).trans g1
            have pa : appendA false (h) 3 32 v (.lst [.int .i64 (⟨5, (c :: d :: r).take 1, (p : Nat)⟩ : Word).Kind, .str (⟨5, (c :: d :: r).take 1, (p : Nat)⟩ : Word).Text, .int .i64 (⟨5, (c :: d :: r).take 1, (p : Nat)⟩ : Word).At] 1 .full) = some (v', h2) := pa
            dsimp only at pa
            have pp : ∃ t', ex Cp lpW ⟨a, h⟩ = some (.normal, ⟨t', h2⟩) ∧ t'.length = 203 ∧ t'[0]? = some (.str text) ∧ t'[3]? = some (.ptr 0 0) ∧ t'[4]? = some v' ∧ t'[5]? = some (.int .i64 ((p + 1 : Nat) : Int)) ∧ t'[6]? = some (.ptr 1 0) := by
              simp only [lpW, bodyOf, Tryz.f20, Cat, Zs, awanted, aoper, evalO, put, acallOp, abuiltin, Nat.reduceEqDiff, Nat.reduceLT, ofV, ofCell, ↓reduceIte, hl, i0, i3, i4, i5, i6, CP, bq1, bq2, bq3, bq4, List.append_eq, Pw.lns, hlt, hx, hk58, TyP.fa42_0, TyP.fa42_1, dropCells, Nat.zero_add, Nat.add_zero, TyP.ld9, TyP.ld42, TyP.st3, TyP.st42, Pw.st9, TyP.ze42, Pw.own, Pw.sl9, c51, c52, c53, c54, c55, hw, dl, hx2, hx, f60, f62, f63, f61, es1, Pw.bd42, Pw.sb38, Pw.ap38, pa]
              exact ⟨_, rfl, by simp [hl], by simp [i0], by simp [i3], by simp [hl], by simp [hl], by simp [i6]⟩
            obtain ⟨t', e, s0, s1, s2, s3, s4, s5⟩ := pp
            exact ⟨t', h2, v', e, s0, s1, s2, s3, s4, s5, m0, m1, Nat.lt_of_lt_of_le nx hn2, gr2⟩
    · by_cases q62 : c = 62
      · by_cases r62 : d = 62
        · by_cases r61 : d = 61
          · rw [r62] at r61; exact absurd r61 (by decide)
          · have f60 : ((c.toNat : Int) == 60) = false := by rw [h60]; simp [q60]
            have f62 : ((c.toNat : Int) == 62) = true := by rw [h62]; simp [q62]
            have f63 : ((d.toNat : Int) == 62) = true := by rw [d62]; simp [r62]
            have f61 : ((d.toNat : Int) == 61) = false := by rw [d61]; simp [r61]
            rw [if_neg (by simp [q60, q62, r62, r61])]
            obtain ⟨v', h2, pa, gr2, hn2, hk2, _⟩ := Gr.app rWord_p gr (el_word ⟨5, (c :: d :: r).take 1, (p : Nat)⟩).sl (app_ok 32 (by decide) acc ⟨5, (c :: d :: r).take 1, (p : Nat)⟩ (by omega))
            have m0 := (hk2 0 (by omega) (Gr.not_acc gr g0)).trans g0
            have m1 := (hk2 1 nx (Gr.not_acc gr g1)).trans g1
            have pa : appendA false (h) 3 32 v (.lst [.int .i64 (⟨5, (c :: d :: r).take 1, (p : Nat)⟩ : Word).Kind, .str (⟨5, (c :: d :: r).take 1, (p : Nat)⟩ : Word).Text, .int .i64 (⟨5, (c :: d :: r).take 1, (p : Nat)⟩ : Word).At] 1 .full) = some (v', h2) := pa
            dsimp only at pa
            have pp : ∃ t', ex Cp lpW ⟨a, h⟩ = some (.normal, ⟨t', h2⟩) ∧ t'.length = 203 ∧ t'[0]? = some (.str text) ∧ t'[3]? = some (.ptr 0 0) ∧ t'[4]? = some v' ∧ t'[5]? = some (.int .i64 ((p + 1 : Nat) : Int)) ∧ t'[6]? = some (.ptr 1 0) := by
              simp only [lpW, bodyOf, Tryz.f20, Cat, Zs, awanted, aoper, evalO, put, acallOp, abuiltin, Nat.reduceEqDiff, Nat.reduceLT, ofV, ofCell, ↓reduceIte, hl, i0, i3, i4, i5, i6, CP, bq1, bq2, bq3, bq4, List.append_eq, Pw.lns, hlt, hx, hk58, TyP.fa42_0, TyP.fa42_1, dropCells, Nat.zero_add, Nat.add_zero, TyP.ld9, TyP.ld42, TyP.st3, TyP.st42, Pw.st9, TyP.ze42, Pw.own, Pw.sl9, c51, c52, c53, c54, c55, hw, dl, hx2, hx, f60, f62, f63, f61, es1, Pw.bd42, Pw.sb38, Pw.ap38, pa]
              exact ⟨_, rfl, by simp [hl], by simp [i0], by simp [i3], by simp [hl], by simp [hl], by simp [i6]⟩
            obtain ⟨t', e, s0, s1, s2, s3, s4, s5⟩ := pp
            exact ⟨t', h2, v', e, s0, s1, s2, s3, s4, s5, m0, m1, Nat.lt_of_lt_of_le nx hn2, gr2⟩
        · by_cases r61 : d = 61
          · have f60 : ((c.toNat : Int) == 60) = false := by rw [h60]; simp [q60]
            have f62 : ((c.toNat : Int) == 62) = true := by rw [h62]; simp [q62]
            have f63 : ((d.toNat : Int) == 62) = false := by rw [d62]; simp [r62]
            have f61 : ((d.toNat : Int) == 61) = true := by rw [d61]; simp [r61]
            rw [if_pos (by simp [q60, q62, r62, r61])]
            obtain ⟨v', h2, pa, gr2, hn2, hk2, _⟩ := Gr.app rWord_p gr (el_word ⟨5, (c :: d :: r).take 2, (p : Nat)⟩).sl (app_ok 32 (by decide) acc ⟨5, (c :: d :: r).take 2, (p : Nat)⟩ (by omega))
            have m0 := (hk2 0 (by omega) (Gr.not_acc gr g0)).trans g0
            have m1 := (hk2 1 nx (Gr.not_acc gr g1)).trans g1
            have pa : appendA false (h) 3 32 v (.lst [.int .i64 (⟨5, (c :: d :: r).take 2, (p : Nat)⟩ : Word).Kind, .str (⟨5, (c :: d :: r).take 2, (p : Nat)⟩ : Word).Text, .int .i64 (⟨5, (c :: d :: r).take 2, (p : Nat)⟩ : Word).At] 1 .full) = some (v', h2) := pa
            dsimp only at pa
            have pp : ∃ t', ex Cp lpW ⟨a, h⟩ = some (.normal, ⟨t', h2⟩) ∧ t'.length = 203 ∧ t'[0]? = some (.str text) ∧ t'[3]? = some (.ptr 0 0) ∧ t'[4]? = some v' ∧ t'[5]? = some (.int .i64 ((p + 2 : Nat) : Int)) ∧ t'[6]? = some (.ptr 1 0) := by
              simp only [lpW, bodyOf, Tryz.f20, Cat, Zs, awanted, aoper, evalO, put, acallOp, abuiltin, Nat.reduceEqDiff, Nat.reduceLT, ofV, ofCell, ↓reduceIte, hl, i0, i3, i4, i5, i6, CP, bq1, bq2, bq3, bq4, List.append_eq, Pw.lns, hlt, hx, hk58, TyP.fa42_0, TyP.fa42_1, dropCells, Nat.zero_add, Nat.add_zero, TyP.ld9, TyP.ld42, TyP.st3, TyP.st42, Pw.st9, TyP.ze42, Pw.own, Pw.sl9, c51, c52, c53, c54, c55, hw, dl, hx2, hx, f60, f62, f63, f61, hw2, es2, Pw.bd42, Pw.sb38, Pw.ap38, pa]
              exact ⟨_, rfl, by simp [hl], by simp [i0], by simp [i3], by simp [hl], by simp [hl], by simp [i6]⟩
            obtain ⟨t', e, s0, s1, s2, s3, s4, s5⟩ := pp
            exact ⟨t', h2, v', e, s0, s1, s2, s3, s4, s5, m0, m1, Nat.lt_of_lt_of_le nx hn2, gr2⟩
          · have f60 : ((c.toNat : Int) == 60) = false := by rw [h60]; simp [q60]
            have f62 : ((c.toNat : Int) == 62) = true := by rw [h62]; simp [q62]
            have f63 : ((d.toNat : Int) == 62) = false := by rw [d62]; simp [r62]
            have f61 : ((d.toNat : Int) == 61) = false := by rw [d61]; simp [r61]
            rw [if_neg (by simp [q60, q62, r62, r61])]
            obtain ⟨v', h2, pa, gr2, hn2, hk2, _⟩ := Gr.app rWord_p gr (el_word ⟨5, (c :: d :: r).take 1, (p : Nat)⟩).sl (app_ok 32 (by decide) acc ⟨5, (c :: d :: r).take 1, (p : Nat)⟩ (by omega))
            have m0 := (hk2 0 (by omega) (Gr.not_acc gr g0)).trans g0
            have m1 := (hk2 1 nx (Gr.not_acc gr g1)).trans g1
            have pa : appendA false (h) 3 32 v (.lst [.int .i64 (⟨5, (c :: d :: r).take 1, (p : Nat)⟩ : Word).Kind, .str (⟨5, (c :: d :: r).take 1, (p : Nat)⟩ : Word).Text, .int .i64 (⟨5, (c :: d :: r).take 1, (p : Nat)⟩ : Word).At] 1 .full) = some (v', h2) := pa
            dsimp only at pa
            have pp : ∃ t', ex Cp lpW ⟨a, h⟩ = some (.normal, ⟨t', h2⟩) ∧ t'.length = 203 ∧ t'[0]? = some (.str text) ∧ t'[3]? = some (.ptr 0 0) ∧ t'[4]? = some v' ∧ t'[5]? = some (.int .i64 ((p + 1 : Nat) : Int)) ∧ t'[6]? = some (.ptr 1 0) := by
              simp only [lpW, bodyOf, Tryz.f20, Cat, Zs, awanted, aoper, evalO, put, acallOp, abuiltin, Nat.reduceEqDiff, Nat.reduceLT, ofV, ofCell, ↓reduceIte, hl, i0, i3, i4, i5, i6, CP, bq1, bq2, bq3, bq4, List.append_eq, Pw.lns, hlt, hx, hk58, TyP.fa42_0, TyP.fa42_1, dropCells, Nat.zero_add, Nat.add_zero, TyP.ld9, TyP.ld42, TyP.st3, TyP.st42, Pw.st9, TyP.ze42, Pw.own, Pw.sl9, c51, c52, c53, c54, c55, hw, dl, hx2, hx, f60, f62, f63, f61, es1, Pw.bd42, Pw.sb38, Pw.ap38, pa]
              exact ⟨_, rfl, by simp [hl], by simp [i0], by simp [i3], by simp [hl], by simp [hl], by simp [i6]⟩
            obtain ⟨t', e, s0, s1, s2, s3, s4, s5⟩ := pp
            exact ⟨t', h2, v', e, s0, s1, s2, s3, s4, s5, m0, m1, Nat.lt_of_lt_of_le nx hn2, gr2⟩
      · by_cases r62 : d = 62
        · by_cases r61 : d = 61
          · rw [r62] at r61; exact absurd r61 (by decide)
          · have f60 : ((c.toNat : Int) == 60) = false := by rw [h60]; simp [q60]
            have f62 : ((c.toNat : Int) == 62) = false := by rw [h62]; simp [q62]
            have f63 : ((d.toNat : Int) == 62) = true := by rw [d62]; simp [r62]
            have f61 : ((d.toNat : Int) == 61) = false := by rw [d61]; simp [r61]
            rw [if_neg (by simp [q60, q62, r62, r61])]
            obtain ⟨v', h2, pa, gr2, hn2, hk2, _⟩ := Gr.app rWord_p gr (el_word ⟨5, (c :: d :: r).take 1, (p : Nat)⟩).sl (app_ok 32 (by decide) acc ⟨5, (c :: d :: r).take 1, (p : Nat)⟩ (by omega))
            have m0 := (hk2 0 (by omega) (Gr.not_acc gr g0)).trans g0
            have m1 := (hk2 1 nx (Gr.not_acc gr g1)).trans g1
            have pa : appendA false (h) 3 32 v (.lst [.int .i64 (⟨5, (c :: d :: r).take 1, (p : Nat)⟩ : Word).Kind, .str (⟨5, (c :: d :: r).take 1, (p : Nat)⟩ : Word).Text, .int .i64 (⟨5, (c :: d :: r).take 1, (p : Nat)⟩ : Word).At] 1 .full) = some (v', h2) := pa
            dsimp only at pa
            have pp : ∃ t', ex Cp lpW ⟨a, h⟩ = some (.normal, ⟨t', h2⟩) ∧ t'.length = 203 ∧ t'[0]? = some (.str text) ∧ t'[3]? = some (.ptr 0 0) ∧ t'[4]? = some v' ∧ t'[5]? = some (.int .i64 ((p + 1 : Nat) : Int)) ∧ t'[6]? = some (.ptr 1 0) := by
              simp only [lpW, bodyOf, Tryz.f20, Cat, Zs, awanted, aoper, evalO, put, acallOp, abuiltin, Nat.reduceEqDiff, Nat.reduceLT, ofV, ofCell, ↓reduceIte, hl, i0, i3, i4, i5, i6, CP, bq1, bq2, bq3, bq4, List.append_eq, Pw.lns, hlt, hx, hk58, TyP.fa42_0, TyP.fa42_1, dropCells, Nat.zero_add, Nat.add_zero, TyP.ld9, TyP.ld42, TyP.st3, TyP.st42, Pw.st9, TyP.ze42, Pw.own, Pw.sl9, c51, c52, c53, c54, c55, hw, dl, hx2, hx, f60, f62, f63, f61, es1, Pw.bd42, Pw.sb38, Pw.ap38, pa]
              exact ⟨_, rfl, by simp [hl], by simp [i0], by simp [i3], by simp [hl], by simp [hl], by simp [i6]⟩
            obtain ⟨t', e, s0, s1, s2, s3, s4, s5⟩ := pp
            exact ⟨t', h2, v', e, s0, s1, s2, s3, s4, s5, m0, m1, Nat.lt_of_lt_of_le nx hn2, gr2⟩
        · by_cases r61 : d = 61
          · have f60 : ((c.toNat : Int) == 60) = false := by rw [h60]; simp [q60]
            have f62 : ((c.toNat : Int) == 62) = false := by rw [h62]; simp [q62]
            have f63 : ((d.toNat : Int) == 62) = false := by rw [d62]; simp [r62]
            have f61 : ((d.toNat : Int) == 61) = true := by rw [d61]; simp [r61]
            rw [if_neg (by simp [q60, q62, r62, r61])]
            obtain ⟨v', h2, pa, gr2, hn2, hk2, _⟩ := Gr.app rWord_p gr (el_word ⟨5, (c :: d :: r).take 1, (p : Nat)⟩).sl (app_ok 32 (by decide) acc ⟨5, (c :: d :: r).take 1, (p : Nat)⟩ (by omega))
            have m0 := (hk2 0 (by omega) (Gr.not_acc gr g0)).trans g0
            have m1 := (hk2 1 nx (Gr.not_acc gr g1)).trans g1
            have pa : appendA false (h) 3 32 v (.lst [.int .i64 (⟨5, (c :: d :: r).take 1, (p : Nat)⟩ : Word).Kind, .str (⟨5, (c :: d :: r).take 1, (p : Nat)⟩ : Word).Text, .int .i64 (⟨5, (c :: d :: r).take 1, (p : Nat)⟩ : Word).At] 1 .full) = some (v', h2) := pa
            dsimp only at pa
            have pp : ∃ t', ex Cp lpW ⟨a, h⟩ = some (.normal, ⟨t', h2⟩) ∧ t'.length = 203 ∧ t'[0]? = some (.str text) ∧ t'[3]? = some (.ptr 0 0) ∧ t'[4]? = some v' ∧ t'[5]? = some (.int .i64 ((p + 1 : Nat) : Int)) ∧ t'[6]? = some (.ptr 1 0) := by
              simp only [lpW, bodyOf, Tryz.f20, Cat, Zs, awanted, aoper, evalO, put, acallOp, abuiltin, Nat.reduceEqDiff, Nat.reduceLT, ofV, ofCell, ↓reduceIte, hl, i0, i3, i4, i5, i6, CP, bq1, bq2, bq3, bq4, List.append_eq, Pw.lns, hlt, hx, hk58, TyP.fa42_0, TyP.fa42_1, dropCells, Nat.zero_add, Nat.add_zero, TyP.ld9, TyP.ld42, TyP.st3, TyP.st42, Pw.st9, TyP.ze42, Pw.own, Pw.sl9, c51, c52, c53, c54, c55, hw, dl, hx2, hx, f60, f62, f63, f61, es1, Pw.bd42, Pw.sb38, Pw.ap38, pa]
              exact ⟨_, rfl, by simp [hl], by simp [i0], by simp [i3], by simp [hl], by simp [hl], by simp [i6]⟩
            obtain ⟨t', e, s0, s1, s2, s3, s4, s5⟩ := pp
            exact ⟨t', h2, v', e, s0, s1, s2, s3, s4, s5, m0, m1, Nat.lt_of_lt_of_le nx hn2, gr2⟩
          · have f60 : ((c.toNat : Int) == 60) = false := by rw [h60]; simp [q60]
            have f62 : ((c.toNat : Int) == 62) = false := by rw [h62]; simp [q62]
            have f63 : ((d.toNat : Int) == 62) = false := by rw [d62]; simp [r62]
            have f61 : ((d.toNat : Int) == 61) = false := by rw [d61]; simp [r61]
            rw [if_neg (by simp [q60, q62, r62, r61])]
            obtain ⟨v', h2, pa, gr2, hn2, hk2, _⟩ := Gr.app rWord_p gr (el_word ⟨5, (c :: d :: r).take 1, (p : Nat)⟩).sl (app_ok 32 (by decide) acc ⟨5, (c :: d :: r).take 1, (p : Nat)⟩ (by omega))
            have m0 := (hk2 0 (by omega) (Gr.not_acc gr g0)).trans g0
            have m1 := (hk2 1 nx (Gr.not_acc gr g1)).trans g1
            have pa : appendA false (h) 3 32 v (.lst [.int .i64 (⟨5, (c :: d :: r).take 1, (p : Nat)⟩ : Word).Kind, .str (⟨5, (c :: d :: r).take 1, (p : Nat)⟩ : Word).Text, .int .i64 (⟨5, (c :: d :: r).take 1, (p : Nat)⟩ : Word).At] 1 .full) = some (v', h2) := pa
            dsimp only at pa
            have pp : ∃ t', ex Cp lpW ⟨a, h⟩ = some (.normal, ⟨t', h2⟩) ∧ t'.length = 203 ∧ t'[0]? = some (.str text) ∧ t'[3]? = some (.ptr 0 0) ∧ t'[4]? = some v' ∧ t'[5]? = some (.int .i64 ((p + 1 : Nat) : Int)) ∧ t'[6]? = some (.ptr 1 0) := by
              simp only [lpW, bodyOf, Tryz.f20, Cat, Zs, awanted, aoper, evalO, put, acallOp, abuiltin, Nat.reduceEqDiff, Nat.reduceLT, ofV, ofCell, ↓reduceIte, hl, i0, i3, i4, i5, i6, CP, bq1, bq2, bq3, bq4, List.append_eq, Pw.lns, hlt, hx, hk58, TyP.fa42_0, TyP.fa42_1, dropCells, Nat.zero_add, Nat.add_zero, TyP.ld9, TyP.ld42, TyP.st3, TyP.st42, Pw.st9, TyP.ze42, Pw.own, Pw.sl9, c51, c52, c53, c54, c55, hw, dl, hx2, hx, f60, f62, f63, f61, es1, Pw.bd42, Pw.sb38, Pw.ap38, pa]
              exact ⟨_, rfl, by simp [hl], by simp [i0], by simp [i3], by simp [hl], by simp [hl], by simp [i6]⟩
            obtain ⟨t', e, s0, s1, s2, s3, s4, s5⟩ := pp
            exact ⟨t', h2, v', e, s0, s1, s2, s3, s4, s5, m0, m1, Nat.lt_of_lt_of_le nx hn2, gr2⟩
theorem w_step (htl : text.length ≤ 4096) (hd : text.drop p = c :: t) (S : WS text p acc v a h) (hacc : acc.length ≤ 5000) : Steps text p acc v a h (lexStep p c t) := by
  have hk : kindB c = 0 ∨ kindB c = 1 ∨ kindB c = 2 ∨ kindB c = 3 ∨ kindB c = 4 ∨ kindB c = 5 := by
    unfold kindB kindN
    repeat (split; · simp)
    simp
  rcases hk with e | e | e | e | e | e
  · exact w_other htl hd S hacc e
  · exact w_blank htl hd S hacc e
  · exact w_letter htl hd S hacc e
  · exact w_digit htl hd S hacc e
  · exact w_quote htl hd S hacc e
  · exact w_sign htl hd S hacc e
end
end Go.Proofs.Q.Par



set_option linter.unusedSimpArgs false
set_option linter.unusedVariables false
set_option maxRecDepth 100000
namespace Go.Proofs.Q.Par
open Go Go.Am Go.Proofs
theorem loopW {text : Bs} (htl : text.length ≤ 4096) : ∀ (n : Nat) (s : Bs) (p : Nat) (hs : s.length = n) (hd : text.drop p = s) (hp : p ≤ text.length) (acc : List Word) (hacc : acc.length + s.length ≤ 5000) (v : AVal) (a : List AVal) (h : AHeap) (S : WS text p acc v a h),
    match lx p s with
    | .ok ws => ∃ l t' h' v' q, ws = l ++ [⟨6, [], (text.length : Nat)⟩] ∧ ex Cp (.loop lpW) ⟨a, h⟩ = some (.exit 0, ⟨t', h'⟩) ∧ WS text q (acc ++ l) v' t' h' ∧ acc.length + l.length ≤ 5000
    | .er f => ∃ t' h', ex Cp (.loop lpW) ⟨a, h⟩ = some (.exit 0, ⟨t', h'⟩) ∧ WE f t' h' := by
  intro n
  induction n using Nat.strongRecOn with
  | _ n ih =>
    intro s p hs hd hp acc hacc v a h S
    cases s with
    | nil =>
      rw [lx_nil]
      obtain ⟨hl, i0, i3, i4, i5, i6, g0, g1, nx, gr⟩ := S
      have hpl : text.length ≤ p := by
        have := congrArg List.length hd
        simp only [List.length_drop, List.length_nil] at this
        omega
      have hlt : decide ((p : Int) < (text.length : Int)) = false := by simp; omega
      have pp : ∃ t', ex Cp lpW ⟨a, h⟩ = some (.exit 0, ⟨t', h⟩) ∧ WS text p acc v t' h := by
        simp only [lpW, bodyOf, Tryz.f20, Cat, Zs, awanted, aoper, evalO, put, acallOp, abuiltin, Nat.reduceEqDiff, Nat.reduceLT, ofV, ofCell, ↓reduceIte, hl, i0, i3, i4, i5, i6, CP, bq1, bq2, bq3, bq4, Pw.lns, hlt]
        exact ⟨_, rfl, by simp [hl], by simp [i0], by simp [i3], by simp [i4], by simp [i5], by simp [i6], g0, g1, nx, gr⟩
      obtain ⟨t', e, s'⟩ := pp
      obtain rfl : p = text.length := by omega
      exact ⟨[], t', h, v, text.length, rfl, by rw [e_loop, e]; rfl, by rw [List.append_nil]; exact s', by simpa using hacc⟩
    | cons c t =>
      have st := w_step htl hd S (by simp only [List.length_cons] at hacc; omega)
      simp only [List.length_cons] at hs hacc
      cases hst : lexStep p c t with
      | blank =>
        rw [hst] at st
        obtain ⟨t', h', e, s'⟩ := st
        rw [lx_blank hst]
        have hd' : text.drop (p + 1) = t := by rw [← List.drop_drop, hd]; rfl
        have k := ih t.length (by omega) t (p + 1) rfl hd' (by have := dlen hd; omega) acc (by omega) v t' h' s'
        rw [e_loop, e]
        exact k
      | bad f =>
        rw [hst] at st
        obtain ⟨t', h', e, s'⟩ := st
        rw [lx_bad hst]
        exact ⟨t', h', by rw [e_loop, e]; rfl, s'⟩
      | word x m =>
        rw [hst] at st
        obtain ⟨t', h', v', e, s'⟩ := st
        rw [lx_word hst]
        have hm := lexStep_pos hst
        have hm2 := (lexStep_ok hst).2.2.1
        have hdl0 := dlen hd
        have hd' : text.drop (p + m) = (c :: t).drop m := by rw [← List.drop_drop, hd]
        have hdl : ((c :: t).drop m).length = t.length + 1 - m := by simp
        have k := ih ((c :: t).drop m).length (by omega) _ (p + m) rfl hd' (by omega) (acc ++ [x]) (by rw [List.length_append, hdl]; simp only [List.length_cons, List.length_nil]; omega) v' t' h' s'
        cases hq : lx (p + m) ((c :: t).drop m) with
        | er f =>
          rw [hq] at k
          obtain ⟨t2, h2, e2, s2⟩ := k
          exact ⟨t2, h2, by rw [e_loop, e]; exact e2, s2⟩
        | ok ws =>
          rw [hq] at k
          obtain ⟨l, t2, h2, v2, q, e0, e2, s2, hle⟩ := k
          refine ⟨x :: l, t2, h2, v2, q, by rw [e0]; rfl, by rw [e_loop, e]; exact e2, by rw [List.append_assoc] at s2; exact s2, ?_⟩
          simp only [List.length_append, List.length_cons, List.length_nil] at hle ⊢
          omega
theorem sa38 (h : AHeap) (x : AVal) (lo hi mx : Option AVal) (hx : ∀ s, x ≠ .str s) : aslice Tryz.prog h 38 x lo hi mx = sliceA 3 x lo hi mx := by
  cases x with
  | str s => exact absurd rfl (hx s)
  | _ => kernel_rfl
theorem clip38 {xs : List Word} {v : AVal} (hv : Sl rWord xs v) : ∃ v', Sl rWord xs v' ∧ ∀ h, run Cp 65 [v] h = some (.ret v', h) := by
  have hs := hv.strip rWord_p
  obtain ⟨c, hc⟩ : ∃ c, c = strip v := ⟨_, rfl⟩
  rw [← hc] at hs
  obtain ⟨v', hi, hv', _⟩ := Sl.cut rWord_p hs (cut_all xs)
  simp only [Option.map_some, Option.map_none] at hi
  have un : Tryz.prog.underlying 38 = some (.slice 42) := by kernel_rfl
  have lu := fun h => Sl.len hs un h
  have p : ∃ t, ex Cp (bodyOf Tryz.f65) ⟨slots Tryz.f65 [c], bare⟩ = some (.ret, ⟨t, bare⟩) ∧ t[2]? = some v' := by
    obtain ⟨a0, ha0⟩ : ∃ a0, a0 = slots Tryz.f65 [c] := ⟨_, rfl⟩
    have hl : a0.length = 9 := by rw [ha0]; rfl
    have i0 : a0[0]? = some c := by rw [ha0]; rfl
    rw [← ha0]
    simp only [bodyOf, Tryz.f65, Cat, Zs, awanted, aoper, evalO, put, acallOp, abuiltin, Nat.reduceEqDiff, Nat.reduceLT, ofV, ofCell, ↓reduceIte, hl, i0, CP, lu, hi, sa38 _ _ _ _ _ (Sl.ne_str hs)]
    exact ⟨_, rfl, by simp [hl]⟩
  obtain ⟨t, he, t2⟩ := p
  rw [hc] at he
  exact ⟨strip v', hv'.strip rWord_p, pok (f := 65) (args := [v]) Tryz.func65 rfl rfl rfl rfl (by simp only [refsL, hv.refs rWord_p, List.append_nil]) he (.inl rfl) (vs := [v']) (by simp only [show Tryz.f65.results.toList = [ResultVar.tmp 2] from rfl, aresults, ares1, t2]; rfl) (Nrm.of (w := v') (hv'.refs rWord_p))⟩
namespace Pw
theorem bd30c (k : Int) : abuild Tryz.prog 30 [(0, .int .i64 k)] = some (.agg [.int .i64 k, .int .i64 0]) := by kernel_rfl
theorem bd30z : abuild Tryz.prog 30 [] = some (.agg [.int .i64 0, .int .i64 0]) := by kernel_rfl
theorem bd42e (k a : Int) : abuild Tryz.prog 42 [(0, .int .i64 k), (2, .int .i64 a)] = some (.agg [.int .i64 k, .str [], .int .i64 a]) := by kernel_rfl
theorem f30_0 (p : AVal) : afieldAddr Tryz.prog 30 p 0 = dropCells 0 p := by kernel_rfl
theorem ld28 (h : AHeap) (p : AVal) : aload Tryz.prog h 28 p = loadA h false 1 p := by kernel_rfl
theorem ld30 (h : AHeap) (p : AVal) : aload Tryz.prog h 30 p = loadA h true 2 p := by kernel_rfl
end Pw
set_option maxHeartbeats 4000000 in
theorem words_run (s : Bs) : match words s with
    | .ok ws => ∃ v, Sl rWord ws v ∧ ∀ h, run Cp 20 [.str s] h = some (.ret (.tup [v, .agg [.int .i64 0, .int .i64 0]]), h)
    | .er f => ∀ h, run Cp 20 [.str s] h = some (.ret (.tup [.nilSl, .agg [.int .i64 f.Code, .int .i64 f.At]]), h) := by
  obtain ⟨a0, ha0⟩ : ∃ a0, a0 = slots Tryz.f20 [.str s] := ⟨_, rfl⟩
  have hl : a0.length = 203 := by rw [ha0]; rfl
  have i0 : a0[0]? = some (.str s) := by rw [ha0]; rfl
  have hb : bodyOf Tryz.f20 = .seq (Cat [false] (bodyOf Tryz.f20)) (.scope (.seq (Cat [true, true, false] (bodyOf Tryz.f20)) (.seq (Cat [true, true, true, false] (bodyOf Tryz.f20)) (.seq (Cat [true, true, true, true, false] (bodyOf Tryz.f20)) (.seq (Cat [true, true, true, true, true, false] (bodyOf Tryz.f20)) (.seq (.label 0) (.seq (.block 0 (.loop lpW)) (.seq (Cat [true, true, true, true, true, true, true, true, false] (bodyOf Tryz.f20)) (.seq (Cat [true, true, true, true, true, true, true, true, true, false] (bodyOf Tryz.f20)) (Cat [true, true, true, true, true, true, true, true, true, true] (bodyOf Tryz.f20))))))))))) := rfl
  obtain ⟨h1, eh1⟩ : ∃ h1 : AHeap, h1 = bare.new (.arr [.int .i64 0, .int .i64 0]) := ⟨_, rfl⟩
  have ab : abox bare (.agg [.int .i64 0, .int .i64 0]) = some (.ptr 0 0, h1) := by rw [eh1]; rfl
  have p0 : ∃ t, ex Cp (Cat [false] (bodyOf Tryz.f20)) ⟨a0, bare⟩ = some (.normal, ⟨t, h1⟩) ∧ t.length = 203 ∧ t[0]? = some (.str s) ∧ t[2]? = some .nilSl ∧ t[3]? = some (.ptr 0 0) := by
    simp only [bodyOf, Tryz.f20, Cat, Zs, awanted, aoper, evalO, put, acallOp, abuiltin, Nat.reduceEqDiff, Nat.reduceLT, ofV, ofCell, ↓reduceIte, hl, i0, CP, Pw.z30, Pw.own, ab]
    exact ⟨_, rfl, by simp [hl], by simp [i0], by simp [hl], by simp [hl]⟩
  obtain ⟨t0, x0, tl0, t00, t02, t03⟩ := p0
  unfold words
  by_cases hlen : s.length > 4096
  · rw [if_pos hlen]
    have hd : decide ((s.length : Int) > 4096) = true := by simp; omega
    have sp : storeA h1 2 (.ptr 0 0) (.agg [.int .i64 45, .int .i64 0]) = some (h1.set 0 (some (.arr [.int .i64 45, .int .i64 0]))) := by rw [eh1]; exact put_all (cs := [.int .i64 0, .int .i64 0]) rfl rfl rfl rfl
    have p1 : ∃ t, ex Cp (Cat [true, true, false] (bodyOf Tryz.f20)) ⟨t0, h1⟩ = some (.ret, ⟨t, h1.set 0 (some (.arr [.int .i64 45, .int .i64 0]))⟩) ∧ t[2]? = some .nilSl ∧ t[3]? = some (.ptr 0 0) := by
      simp only [bodyOf, Tryz.f20, Cat, Zs, awanted, aoper, evalO, put, acallOp, abuiltin, Nat.reduceEqDiff, Nat.reduceLT, ofV, ofCell, ↓reduceIte, tl0, t00, t02, t03, CP, Pw.lns, hd, Pw.bd30c, Pw.st30, sp]
      exact ⟨_, rfl, by simp [tl0], by simp [t03]⟩
    obtain ⟨t1, x1, t12, t13⟩ := p1
    have he : ex Cp (bodyOf Tryz.f20) ⟨slots Tryz.f20 (stripL [.str s]), bare⟩ = some (.ret, ⟨t1, h1.set 0 (some (.arr [.int .i64 45, .int .i64 0]))⟩) := by
      rw [hb, show stripL [.str s] = [.str s] from rfl, ← ha0, e_seq, x0]
      simp only [k_seq]
      rw [ex_scope, e_seq, x1]
      rfl
    exact pok (f := 20) (args := [.str s]) Tryz.func20 rfl rfl rfl rfl rfl he (.inl rfl) (vs := [.nilSl, .agg [.int .i64 45, .int .i64 0]]) (by simp only [show Tryz.f20.results.toList = [ResultVar.tmp 2, ResultVar.cell 3 30] from rfl, aresults, ares1, CP, t12, t13, Option.getD_some, Pw.ld30, ld_all Heap.get_set_eq (show [AVal.int .i64 45, .int .i64 0].length = 2 from rfl)]) (Nrm.of (w := .tup [.nilSl, .agg [.int .i64 45, .int .i64 0]]) rfl)
  · rw [if_neg hlen]
    have hd : decide ((s.length : Int) > 4096) = false := by simp; omega
    have p1 : ∃ t, ex Cp (Cat [true, true, false] (bodyOf Tryz.f20)) ⟨t0, h1⟩ = some (.normal, ⟨t, h1⟩) ∧ t.length = 203 ∧ t[0]? = some (.str s) ∧ t[3]? = some (.ptr 0 0) := by
      simp only [bodyOf, Tryz.f20, Cat, Zs, awanted, aoper, evalO, put, acallOp, abuiltin, Nat.reduceEqDiff, Nat.reduceLT, ofV, ofCell, ↓reduceIte, tl0, t00, t02, t03, CP, Pw.lns, hd]
      exact ⟨_, rfl, by simp [tl0], by simp [t00], by simp [t03]⟩
    obtain ⟨t1, x1, tl1, t10, t13⟩ := p1
    have p3 : ∃ t, ex Cp (Cat [true, true, true, false] (bodyOf Tryz.f20)) ⟨t1, h1⟩ = some (.normal, ⟨t, h1⟩) ∧ t.length = 203 ∧ t[0]? = some (.str s) ∧ t[3]? = some (.ptr 0 0) ∧ t[4]? = some .nilSl := by
      simp only [bodyOf, Tryz.f20, Cat, Zs, awanted, aoper, evalO, put, acallOp, abuiltin, Nat.reduceEqDiff, Nat.reduceLT, ofV, ofCell, ↓reduceIte, tl1, t10, t13, CP]
      exact ⟨_, rfl, by simp [tl1], by simp [t10], by simp [t13], by simp [tl1]⟩
    obtain ⟨t3, x3, tl3, t30, t33, t34⟩ := p3
    have p4 : ∃ t, ex Cp (Cat [true, true, true, true, false] (bodyOf Tryz.f20)) ⟨t3, h1⟩ = some (.normal, ⟨t, h1⟩) ∧ t.length = 203 ∧ t[0]? = some (.str s) ∧ t[3]? = some (.ptr 0 0) ∧ t[4]? = some .nilSl ∧ t[5]? = some (.int .i64 ((0 : Nat) : Int)) := by
      simp only [bodyOf, Tryz.f20, Cat, Zs, awanted, aoper, evalO, put, acallOp, abuiltin, Nat.reduceEqDiff, Nat.reduceLT, ofV, ofCell, ↓reduceIte, tl3, t30, t33, t34, CP]
      exact ⟨_, rfl, by simp [tl3], by simp [t30], by simp [t33], by simp [t34], by simp [tl3]⟩
    obtain ⟨t4, x4, tl4, t40, t43, t44, t45⟩ := p4
    obtain ⟨h2, eh2⟩ : ∃ h2 : AHeap, h2 = h1.new (.arr [.int .i64 0, .int .i64 0]) := ⟨_, rfl⟩
    have ab2 : abox h1 (.agg [.int .i64 0, .int .i64 0]) = some (.ptr 1 0, h2) := by rw [eh2, eh1]; rfl
    have p5 : ∃ t, ex Cp (Cat [true, true, true, true, true, false] (bodyOf Tryz.f20)) ⟨t4, h1⟩ = some (.normal, ⟨t, h2⟩) ∧ WS s 0 [] .nilSl t h2 := by
      simp only [bodyOf, Tryz.f20, Cat, Zs, awanted, aoper, evalO, put, acallOp, abuiltin, Nat.reduceEqDiff, Nat.reduceLT, ofV, ofCell, ↓reduceIte, tl4, t40, t43, t44, t45, CP, Pw.z30, Pw.own, ab2]
      exact ⟨_, rfl, by simp [tl4], by simp [t40], by simp [t43], by simp [t44], by simp [t45], by simp [tl4], by rw [eh2, eh1]; rfl, by rw [eh2, eh1]; rfl, by rw [eh2, eh1]; decide, Gr.nil _⟩
    obtain ⟨t5, x5, S5⟩ := p5
    have lp := loopW (by omega) s.length s 0 rfl rfl (by omega) [] (by simp only [List.length_nil]; omega) .nilSl t5 h2 S5
    have hlx : lexGo s.length 0 s = lx 0 s := rfl
    rw [hlx]
    cases hq : lx 0 s with
    | er f =>
      rw [hq] at lp
      obtain ⟨t6, h6, x6, hl6, i63, i66, g60, g61⟩ := lp
      have hf : f.Code ≠ 0 := by
        have := ((lx_ok _ s 0 rfl).2 f hq).1
        omega
      have hne : (f.Code != 0) = true := by simpa using hf
      have lc : loadA h6 false 1 (.ptr 1 0) = some (.int .i64 f.Code) := Heap.load_at g61 rfl
      have lf : loadA h6 true 2 (.ptr 1 0) = some (.agg [.int .i64 f.Code, .int .i64 f.At]) := ld_all g61 rfl
      have sp : storeA h6 2 (.ptr 0 0) (.agg [.int .i64 f.Code, .int .i64 f.At]) = some (h6.set 0 (some (.arr [.int .i64 f.Code, .int .i64 f.At]))) := put_all g60 rfl rfl rfl
      have p8 : ∃ t, ex Cp (Cat [true, true, true, true, true, true, true, true, false] (bodyOf Tryz.f20)) ⟨t6, h6⟩ = some (.ret, ⟨t, h6.set 0 (some (.arr [.int .i64 f.Code, .int .i64 f.At]))⟩) ∧ t[2]? = some .nilSl ∧ t[3]? = some (.ptr 0 0) := by
        simp only [bodyOf, Tryz.f20, Cat, Zs, awanted, aoper, evalO, put, acallOp, abuiltin, Nat.reduceEqDiff, Nat.reduceLT, ofV, ofCell, ↓reduceIte, hl6, i63, i66, CP, Pw.f30_0, dropCells, Nat.add_zero, Nat.zero_add, Pw.ld28, lc, hne, Pw.ld30, lf, Pw.st30, sp, areads, topRefs, List.flatMap_cons, List.flatMap_nil]
        rw [k_draw _ _ _ (by kernel_rfl)]
        simp only [k_seq, ex_ret]
        exact ⟨_, rfl, by simp [hl6], by simp [i63]⟩
      obtain ⟨t8, x8, t82, t83⟩ := p8
      have he : ex Cp (bodyOf Tryz.f20) ⟨slots Tryz.f20 (stripL [.str s]), bare⟩ = some (.ret, ⟨t8, h6.set 0 (some (.arr [.int .i64 f.Code, .int .i64 f.At]))⟩) := by
        rw [hb, show stripL [.str s] = [.str s] from rfl, ← ha0, e_seq, x0]
        simp only [k_seq]
        rw [ex_scope, e_seq, x1]
        simp only [k_seq]
        rw [e_seq, x3]
        simp only [k_seq]
        rw [e_seq, x4]
        simp only [k_seq]
        rw [e_seq, x5]
        simp only [k_seq]
        rw [e_seq, ex_label]
        simp only [k_seq]
        rw [e_seq, e_block, x6]
        simp only [k_block_exit, if_true, k_seq]
        rw [e_seq, x8]
        rfl
      exact pok (f := 20) (args := [.str s]) Tryz.func20 rfl rfl rfl rfl rfl he (.inl rfl) (vs := [.nilSl, .agg [.int .i64 f.Code, .int .i64 f.At]]) (by simp only [show Tryz.f20.results.toList = [ResultVar.tmp 2, ResultVar.cell 3 30] from rfl, aresults, ares1, CP, t82, t83, Option.getD_some, Pw.ld30, ld_all Heap.get_set_eq (show [AVal.int .i64 f.Code, .int .i64 f.At].length = 2 from rfl)]) (Nrm.of (w := .tup [.nilSl, .agg [.int .i64 f.Code, .int .i64 f.At]]) rfl)
    | ok ws =>
      rw [hq] at lp
      obtain ⟨l, t6, h6, v6, q, rfl, x6, S6, hle⟩ := lp
      obtain ⟨hl6, i60, i63, i64, i65, i66, g60, g61, nx6, gr6⟩ := S6
      rw [List.nil_append] at gr6
      simp only [List.length_nil, Nat.zero_add] at hle
      have lc : loadA h6 false 1 (.ptr 1 0) = some (.int .i64 0) := Heap.load_at g61 rfl
      have hne : ((0 : Int) != 0) = false := rfl
      have p8 : ∃ t, ex Cp (Cat [true, true, true, true, true, true, true, true, false] (bodyOf Tryz.f20)) ⟨t6, h6⟩ = some (.normal, ⟨t, h6⟩) ∧ t.length = 203 ∧ t[0]? = some (.str s) ∧ t[3]? = some (.ptr 0 0) ∧ t[4]? = some v6 := by
        simp only [bodyOf, Tryz.f20, Cat, Zs, awanted, aoper, evalO, put, acallOp, abuiltin, Nat.reduceEqDiff, Nat.reduceLT, ofV, ofCell, ↓reduceIte, hl6, i60, i63, i64, i66, CP, Pw.f30_0, dropCells, Nat.add_zero, Nat.zero_add, Pw.ld28, lc, hne]
        exact ⟨_, rfl, by simp [hl6], by simp [i60], by simp [i63], by simp [i64]⟩
      obtain ⟨t8, x8, tl8, t80, t83, t84⟩ := p8
      obtain ⟨v', h7, pa, gr7, hn7, hk7, _⟩ := Gr.app rWord_p gr6 (el_word ⟨6, [], (s.length : Nat)⟩).sl (app_ok 32 (by decide) l ⟨6, [], (s.length : Nat)⟩ (by omega))
      have m0 := (hk7 0 (by omega) (Gr.not_acc gr6 g60)).trans g60
      have pa : appendA false h6 3 32 v6 (.lst [.int .i64 6, .str [], .int .i64 (s.length : Nat)] 1 .full) = some (v', h7) := pa
      obtain ⟨v9, hv9, ec⟩ := clip38 gr7.1
      have sp : storeA h7 2 (.ptr 0 0) (.agg [.int .i64 0, .int .i64 0]) = some (h7.set 0 (some (.arr [.int .i64 0, .int .i64 0]))) := put_all m0 rfl rfl rfl
      have p9 : ∃ t, ex Cp (Cat [true, true, true, true, true, true, true, true, true, false] (bodyOf Tryz.f20)) ⟨t8, h6⟩ = some (.normal, ⟨t, h7.set 0 (some (.arr [.int .i64 0, .int .i64 0]))⟩) ∧ t[2]? = some v9 ∧ t[3]? = some (.ptr 0 0) := by
        simp only [bodyOf, Tryz.f20, Cat, Zs, awanted, aoper, evalO, put, acallOp, abuiltin, Nat.reduceEqDiff, Nat.reduceLT, ofV, ofCell, ↓reduceIte, tl8, t80, t83, t84, CP, Pw.lns, Pw.bd42e, Pw.sb38, Pw.own, Pw.ap38, pa, ec, Pw.bd30z, Pw.st30, sp]
        exact ⟨_, rfl, by simp [tl8], by simp [t83]⟩
      obtain ⟨t9, x9, t92, t93⟩ := p9
      refine ⟨strip v9, hv9.strip rWord_p, ?_⟩
      have he : ex Cp (bodyOf Tryz.f20) ⟨slots Tryz.f20 (stripL [.str s]), bare⟩ = some (.ret, ⟨t9, h7.set 0 (some (.arr [.int .i64 0, .int .i64 0]))⟩) := by
        rw [hb, show stripL [.str s] = [.str s] from rfl, ← ha0, e_seq, x0]
        simp only [k_seq]
        rw [ex_scope, e_seq, x1]
        simp only [k_seq]
        rw [e_seq, x3]
        simp only [k_seq]
        rw [e_seq, x4]
        simp only [k_seq]
        rw [e_seq, x5]
        simp only [k_seq]
        rw [e_seq, ex_label]
        simp only [k_seq]
        rw [e_seq, e_block, x6]
        simp only [k_block_exit, if_true, k_seq]
        rw [e_seq, x8]
        simp only [k_seq]
        rw [e_seq, x9]
        simp only [k_seq]
        exact ex_ret _
      exact pok (f := 20) (args := [.str s]) Tryz.func20 rfl rfl rfl rfl rfl he (.inl rfl) (vs := [v9, .agg [.int .i64 0, .int .i64 0]]) (by simp only [show Tryz.f20.results.toList = [ResultVar.tmp 2, ResultVar.cell 3 30] from rfl, aresults, ares1, CP, t92, t93, Option.getD_some, Pw.ld30, ld_all Heap.get_set_eq (show [AVal.int .i64 0, .int .i64 0].length = 2 from rfl)]) (Nrm.of (w := .tup [v9, .agg [.int .i64 0, .int .i64 0]]) (by simp only [refs, refsL, hv9.refs rWord_p, List.append_nil, List.nil_append]))
end Go.Proofs.Q.Par

