/-
  CACHE: the whole of a cache in memory; leave and shrink.
-/
import Derived.Test.YtgjjmngcmbpjjaaCacheInv
set_option linter.unusedSimpArgs false
set_option linter.unusedVariables false
set_option maxRecDepth 100000
namespace Go.Am.Cache
open Go Go.Am Go.Proofs

structure CEnt where
  p : Nat
  key : List UInt8
  seq : Int
  cv : AVal
  rv : AVal
  err : Int
  n : Int
def CEnt.cells (e : CEnt) : List AVal := [.str e.key, .int .i64 e.seq, e.cv, e.rv, .int .i64 e.err, .int .i64 e.n]
structure Cst where
  room : Int
  bytes : Int
  mv : AVal
  ov : AVal
  hits : Int
  misses : Int
  L : List CEnt
def Cst.cells (s : Cst) : List AVal := [.int .i64 s.room, .int .i64 s.bytes, s.mv, s.ov, .int .i64 s.hits, .int .i64 s.misses]
def foot (c : Nat) (s : Cst) : List Nat := c :: (ordId s.ov ++ (mapId s.mv ++ s.L.map CEnt.p))
structure CInv (K : Nat) (h : AHeap) (c : Nat) (s : Cst) : Prop where
  cell : h.get c = some (.arr s.cells)
  ord : OrdP K h s.ov (s.L.map CEnt.p)
  map : MapP h s.mv (s.L.map fun e => (e.key, e.p))
  ent : ∀ e ∈ s.L, h.get e.p = some (.arr e.cells)
  keys : (s.L.map CEnt.key).Nodup
  ids : (foot c s).Nodup
  lt : ∀ i ∈ foot c s, i < h.next
  sum : s.bytes = (s.L.map CEnt.n).sum
  small : ∀ e ∈ s.L, 0 ≤ e.n ∧ e.n ≤ 1099511627776
  len : s.L.length ≤ K
  le : K ≤ 1000000
/-- what a step may turn -/
structure Stp (F F' : List Nat) (h h' : AHeap) : Prop where
  next : h.next ≤ h'.next
  same : ∀ j, j < h.next → j ∉ F → h'.get j = h.get j
  own : ∀ j ∈ F', j ∈ F ∨ h.next ≤ j
theorem Stp.refl (F : List Nat) (h : AHeap) : Stp F F h h := ⟨Nat.le_refl _, fun _ _ _ => rfl, fun _ h => .inl h⟩
theorem Stp.trans {F F' F'' : List Nat} {h h' h'' : AHeap} (a : Stp F F' h h') (b : Stp F' F'' h' h'') : Stp F F'' h h'' :=
  ⟨Nat.le_trans a.next b.next, fun j hj hF => (b.same j (Nat.lt_of_lt_of_le hj a.next) (fun hm => by rcases a.own j hm with h1 | h1; exact hF h1; omega)).trans (a.same j hj hF),
   fun j hj => by
    rcases b.own j hj with h1 | h1
    · exact a.own j h1
    · right; have := a.next; omega⟩

theorem sum_le {L : List CEnt} (h : ∀ e ∈ L, 0 ≤ e.n ∧ e.n ≤ 1099511627776) : 0 ≤ (L.map CEnt.n).sum ∧ (L.map CEnt.n).sum ≤ L.length * 1099511627776 := by
  induction L with
  | nil => simp
  | cons e L ih =>
    obtain ⟨h1, h2⟩ := ih fun x hx => h x (List.mem_cons_of_mem _ hx)
    have h3 := h e List.mem_cons_self
    simp only [List.map_cons, List.sum_cons, List.length_cons]
    constructor
    · omega
    · push_cast; omega
theorem CInv.bytes {K : Nat} {h : AHeap} {c : Nat} {s : Cst} (I : CInv K h c s) : 0 ≤ s.bytes ∧ s.bytes ≤ 1099511627776000000 := by
  have := sum_le I.small
  have hl := I.len; have hk := I.le
  rw [I.sum]; omega
theorem CInv.isEnt {K : Nat} {h : AHeap} {c : Nat} {s : Cst} (I : CInv K h c s) : ∀ p ∈ s.L.map CEnt.p, IsEnt h p := by
  intro p hp
  obtain ⟨e, he, rfl⟩ := List.mem_map.1 hp
  exact ⟨_, _, I.ent e he⟩

theorem own_nilCheck (id off : Nat) (h : AHeap) : True := trivial
theorem foot_split {c : Nat} {s : Cst} (h : (foot c s).Nodup) : c ∉ ordId s.ov ∧ c ∉ mapId s.mv ∧ (∀ e ∈ s.L, c ≠ e.p) ∧ (∀ i ∈ ordId s.ov, i ∉ mapId s.mv ∧ ∀ e ∈ s.L, i ≠ e.p) ∧ (∀ i ∈ mapId s.mv, ∀ e ∈ s.L, i ≠ e.p) ∧ (s.L.map CEnt.p).Nodup := by
  unfold foot at h
  rw [List.nodup_cons] at h
  obtain ⟨h1, h2⟩ := h
  simp only [List.mem_append, not_or] at h1
  rw [List.nodup_append] at h2
  obtain ⟨_, h3, h4⟩ := h2
  rw [List.nodup_append] at h3
  obtain ⟨_, h5, h6⟩ := h3
  refine ⟨h1.1, h1.2.1, fun e he hc => h1.2.2 (hc ▸ List.mem_map_of_mem he), fun i hi => ⟨fun hm => h4 i hi i (List.mem_append_left _ hm) rfl, fun e he hc => h4 i hi e.p (List.mem_append_right _ (List.mem_map_of_mem he)) hc⟩, fun i hi e he hc => h6 i hi e.p (List.mem_map_of_mem he) hc, h5⟩

/-- AN ENTRY GOES. -/
theorem leave_run {K : Nat} (h : AHeap) (c : Nat) (s : Cst) (I : CInv K h c s) (pre post : List CEnt) (e : CEnt) (hL : s.L = pre ++ e :: post) :
    ∃ h' ov', run Cf 27 [.ptr c 0, .ptr e.p 0] h = some (.ret (.tup []), h') ∧ CInv K h' c { s with bytes := s.bytes - e.n, ov := ov', L := pre ++ post } ∧ h'.get e.p = some (.arr e.cells) ∧ Stp (foot c s) (foot c { s with bytes := s.bytes - e.n, ov := ov', L := pre ++ post }) h h' ∧ ordId ov' = ordId s.ov := by
  have he : e ∈ s.L := by rw [hL]; simp
  obtain ⟨f1, f2, f3, f4, f5, f6⟩ := foot_split I.ids
  have hec := I.ent e he
  have hce : c ≠ e.p := f3 e he
  obtain ⟨b1, b2⟩ := I.bytes
  have hen := I.small e he
  have hcc := I.cell
  -- the bytes
  obtain ⟨h1, hh1⟩ : ∃ h1, h1 = h.set c (some (.arr (s.cells.set 1 (.int .i64 (s.bytes - e.n))))) := ⟨_, rfl⟩
  have hst1 : storeA h 1 (.ptr c 1) (.int .i64 (s.bytes - e.n)) = some h1 := by rw [hh1]; exact Heap.store_at hcc rfl (by simp [Cst.cells])
  have hld1 : loadA h false 1 (.ptr c 1) = some (.int .i64 s.bytes) := Heap.load_at hcc rfl
  have hld2 : loadA h false 1 (.ptr e.p 5) = some (.int .i64 e.n) := Heap.load_at hec rfl
  have hw : IntKind.i64.wrap (s.bytes - e.n) = s.bytes - e.n := wrap64 (by omega) (by omega)
  have g1c : h1.get c = some (.arr (s.cells.set 1 (.int .i64 (s.bytes - e.n)))) := by rw [hh1]; exact Heap.get_set_eq
  have g1 : ∀ j, j ≠ c → h1.get j = h.get j := fun j hj => by rw [hh1]; exact Heap.get_set_ne hj
  have ne_of : ∀ {i : Nat} {l : List Nat}, i ∈ l → c ∉ l → i ≠ c := fun hi hc e => hc (e ▸ hi)
  have o1 : OrdP K h1 s.ov (s.L.map CEnt.p) := I.ord.congr fun i hi => g1 i (ne_of hi f1)
  -- the order list
  obtain ⟨h2, ov2, hr2, hc2, o2, id2, n2, g2⟩ := drop_run h1 c e.p s.ov (s.L.map CEnt.p) (s.cells.set 1 (.int .i64 (s.bytes - e.n))) g1c rfl o1 ⟨_, _, by rw [g1 _ (Ne.symm hce)]; exact hec⟩
    (fun p hp => by
      obtain ⟨v, vs, hv⟩ := I.isEnt p hp
      exact ⟨v, vs, by rw [g1 p (by obtain ⟨x, hx, rfl⟩ := List.mem_map.1 hp; exact Ne.symm (f3 x hx))]; exact hv⟩) I.le f1
  have g2' : ∀ j, j ≠ c → j ∉ ordId s.ov → h2.get j = h.get j := fun j hj hjo => (g2 j hj hjo).trans (g1 j hj)
  have m2 : MapP h2 s.mv (s.L.map fun e => (e.key, e.p)) := I.map.congr fun i hi => g2' i (ne_of hi f2) (fun hio => (f4 i hio).1 hi)
  have e2 : ∀ x ∈ s.L, h2.get x.p = some (.arr x.cells) := fun x hx => by rw [g2' x.p (Ne.symm (f3 x hx)) (fun hio => (f4 _ hio).2 x hx rfl)]; exact I.ent x hx
  -- the map
  obtain ⟨h3, hd3, m3, n3, g3⟩ := delete_some m2 (by rw [List.map_map]; exact I.keys) (k := e.key) (p := e.p) (pre := pre.map fun e => (e.key, e.p)) (post := post.map fun e => (e.key, e.p)) (by rw [hL]; simp)
  have hc2' : h2.get c = some (.arr [.int .i64 s.room, .int .i64 (s.bytes - e.n), s.mv, ov2, .int .i64 s.hits, .int .i64 s.misses]) := hc2
  have hld3 : loadA h2 false 1 (.ptr c 2) = some s.mv := Heap.load_at hc2' rfl
  have hld4 : loadA h2 false 1 (.ptr e.p 0) = some (.str e.key) := Heap.load_at (e2 e he) rfl
  obtain ⟨a0, ha0⟩ : ∃ a0, a0 = slots Try.f27 [.ptr c 0, .ptr e.p 0] := ⟨_, rfl⟩
  have hl : a0.length = 28 := by rw [ha0]; rfl
  have i0 : a0[0]? = some (.ptr c 0) := by rw [ha0]; rfl
  have i1 : a0[1]? = some (.ptr e.p 0) := by rw [ha0]; rfl
  have hbody : bodyOf Try.f27 = .seq (Cat [false] (bodyOf Try.f27)) (.seq (Cat [true, false] (bodyOf Try.f27)) (Cat [true, true] (bodyOf Try.f27))) := rfl
  have p0 : ∃ t, ex Cf (Cat [false] (bodyOf Try.f27)) ⟨a0, h⟩ = some (.normal, ⟨t, h1⟩) ∧ t.length = 28 ∧ t[0]? = some (.ptr c 0) ∧ t[1]? = some (.ptr e.p 0) := by
    simp only [bodyOf, Try.f27, Cat, Bool.false_eq_true, e_seq, e_region, e_cond, e_block, ex_skip, ex_exit, ex_ret, o_cons, xops_nil, k_want_none, k_want_false, k_val, k_pan, k_call, k_ret, k_seq, k_seq_exit, k_seq_ret, k_true, k_false, k_block, k_block_exit, k_block_ret, k_loop, k_loop_exit, k_loop_ret, awanted, aoper, evalO, put, Option.getD_some, List.getElem?_set, acallOp, abuiltin, List.map_cons, List.map_nil, Nat.reduceEqDiff, Nat.reduceLT, List.length_set, Option.map_some, Option.bind_some, Option.bind_eq_bind, add_i, sub_i, mul_i, eql_i, neq_i, lss_i, leq_i, gtr_i, geq_i, ofV, ofCell, ↓reduceIte, List.cons_append, List.nil_append, List.append_nil, List.getElem?_toArray, List.getElem?_cons_succ, List.getElem?_cons_zero, e_draw, g_nil, g_cons, g_want, g_skip, g_val, g_call, g_ret, Option.map_none, hl, i0, i1, CP, Ty.fa61_1, Ty.fa68_4, dropCells, Nat.zero_add, Nat.add_zero, Ty.ld3, Ty.st3, hld1, hld2, hw, hst1]
    rw [k_draw _ _ _ (by kernel_rfl)]
    exact ⟨_, rfl, by simp [hl], by simp [i0], by simp [i1]⟩
  obtain ⟨t0, e0, l0, t00, t01⟩ := p0
  have p1 : ∃ t, ex Cf (Cat [true, false] (bodyOf Try.f27)) ⟨t0, h1⟩ = some (.normal, ⟨t, h2⟩) ∧ t.length = 28 ∧ t[0]? = some (.ptr c 0) ∧ t[1]? = some (.ptr e.p 0) := by
    simp only [bodyOf, Try.f27, Cat, Bool.false_eq_true, e_seq, e_region, e_cond, e_block, ex_skip, ex_exit, ex_ret, o_cons, xops_nil, k_want_none, k_want_false, k_val, k_pan, k_call, k_ret, k_seq, k_seq_exit, k_seq_ret, k_true, k_false, k_block, k_block_exit, k_block_ret, k_loop, k_loop_exit, k_loop_ret, awanted, aoper, evalO, put, Option.getD_some, List.getElem?_set, acallOp, abuiltin, List.map_cons, List.map_nil, Nat.reduceEqDiff, Nat.reduceLT, List.length_set, Option.map_some, Option.bind_some, Option.bind_eq_bind, add_i, sub_i, mul_i, eql_i, neq_i, lss_i, leq_i, gtr_i, geq_i, ofV, ofCell, ↓reduceIte, List.cons_append, List.nil_append, List.append_nil, List.getElem?_toArray, List.getElem?_cons_succ, List.getElem?_cons_zero, e_draw, g_nil, g_cons, g_want, g_skip, g_val, g_call, g_ret, Option.map_none, l0, t00, t01, CP, Ty.fa61_3, dropCells, Nat.zero_add, hr2]
    exact ⟨_, rfl, by simp [l0], by simp [t00], by simp [t01]⟩
  obtain ⟨t1, e1, l1, t10, t11⟩ := p1
  have p2 : ∃ t, ex Cf (Cat [true, true] (bodyOf Try.f27)) ⟨t1, h2⟩ = some (.normal, ⟨t, h3⟩) := by
    simp only [bodyOf, Try.f27, Cat, Bool.false_eq_true, e_seq, e_region, e_cond, e_block, ex_skip, ex_exit, ex_ret, o_cons, xops_nil, k_want_none, k_want_false, k_val, k_pan, k_call, k_ret, k_seq, k_seq_exit, k_seq_ret, k_true, k_false, k_block, k_block_exit, k_block_ret, k_loop, k_loop_exit, k_loop_ret, awanted, aoper, evalO, put, Option.getD_some, List.getElem?_set, acallOp, abuiltin, List.map_cons, List.map_nil, Nat.reduceEqDiff, Nat.reduceLT, List.length_set, Option.map_some, Option.bind_some, Option.bind_eq_bind, add_i, sub_i, mul_i, eql_i, neq_i, lss_i, leq_i, gtr_i, geq_i, ofV, ofCell, ↓reduceIte, List.cons_append, List.nil_append, List.append_nil, List.getElem?_toArray, List.getElem?_cons_succ, List.getElem?_cons_zero, e_draw, g_nil, g_cons, g_want, g_skip, g_val, g_call, g_ret, Option.map_none, l1, t10, t11, CP, Ty.fa61_2, Ty.fa68_0, dropCells, Nat.zero_add, Nat.add_zero, Ty.ld51, Ty.ld9, hld3, hld4, hd3]
    rw [k_draw _ _ _ (by kernel_rfl)]
    exact ⟨_, rfl⟩
  obtain ⟨t2, e3⟩ := p2
  have hrun : run Cf 27 [.ptr c 0, .ptr e.p 0] h = some (.ret (.tup []), h3) := fn_run (fn := Try.f27) (x := .normal) Try.func27 rfl rfl rfl (.inr rfl) (by rw [← ha0, hbody, e_seq, e0, k_seq, e_seq, e1, k_seq, e3]) (vs := []) rfl
  have hps : (s.L.map CEnt.p).erase e.p = (pre ++ post).map CEnt.p := by
    rw [hL, List.map_append, List.map_cons, erase_at, List.map_append]
    rw [hL, List.map_append, List.map_cons, List.nodup_append] at f6
    exact fun hm => f6.2.2 _ hm _ List.mem_cons_self rfl
  rw [hps] at o2
  have g3' : ∀ j, j ∉ mapId s.mv → h3.get j = h2.get j := g3
  have hsub : ∀ x ∈ pre ++ post, x ∈ s.L := fun x hx => by rw [hL]; simp at hx ⊢; rcases hx with hx | hx <;> simp [hx]
  have hfoot : ∀ j ∈ foot c { s with bytes := s.bytes - e.n, ov := ov2, L := pre ++ post }, j ∈ foot c s := by
    intro j hj
    simp only [foot, List.mem_cons, List.mem_append, id2] at hj ⊢
    rcases hj with hj | hj | hj | hj
    · exact .inl hj
    · exact .inr (.inl hj)
    · exact .inr (.inr (.inl hj))
    · obtain ⟨x, hx, rfl⟩ := List.mem_map.1 hj
      exact .inr (.inr (.inr (List.mem_map_of_mem (hsub x hx))))
  refine ⟨h3, ov2, hrun, ⟨?_, ?_, ?_, ?_, ?_, ?_, ?_, ?_, ?_, ?_, I.le⟩, ?_, ⟨?_, ?_, fun j hj => .inl (hfoot j hj)⟩, id2⟩
  · rw [g3' c f2]; exact hc2'
  · refine o2.congr fun i hi => g3' i (fun hm => ?_)
    rw [id2] at hi; exact (f4 i hi).1 hm
  · simpa using m3
  · intro x hx
    rw [g3' x.p (fun hm => f5 _ hm x (hsub x hx) rfl)]; exact e2 x (hsub x hx)
  · have := I.keys
    rw [hL, List.map_append, List.map_cons, List.nodup_append, List.nodup_cons] at this
    simp only [List.map_append]
    rw [List.nodup_append]
    exact ⟨this.1, this.2.1.2, fun a ha b hb => this.2.2 a ha b (List.mem_cons_of_mem _ hb)⟩
  · have := I.ids
    simp only [foot, hL, id2] at this ⊢
    refine this.sublist ?_
    refine List.Sublist.cons_cons _ (List.Sublist.append (List.Sublist.refl _) (List.Sublist.append (List.Sublist.refl _) ?_))
    exact (List.Sublist.append (List.Sublist.refl _) (List.sublist_cons_self _ _)).map _
  · intro i hi
    have := I.lt i (hfoot i hi)
    rw [n3, n2, hh1, Heap.set_next]; exact this
  · have := I.sum
    rw [hL] at this
    simp only [List.map_append, List.map_cons, List.sum_append, List.sum_cons] at this ⊢
    omega
  · exact fun x hx => I.small x (hsub x hx)
  · have := I.len; rw [hL] at this; simp at this ⊢; omega
  · rw [g3' e.p (fun hm => f5 _ hm e he rfl)]; exact e2 e he
  · rw [n3, n2, hh1, Heap.set_next]; exact Nat.le_refl _
  · intro j hj hjf
    simp only [foot, List.mem_cons, List.mem_append, not_or] at hjf
    rw [g3' j hjf.2.2.1, g2' j hjf.1 hjf.2.1]
end Go.Am.Cache
