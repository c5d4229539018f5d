/-
  CACHE: Put lays an entry down.
-/
import Derived.Test.YtgjjmngcmbpjjaaCacheGet
set_option linter.unusedSimpArgs false
set_option linter.unusedVariables false
set_option maxRecDepth 100000
namespace Go.Am.Cache
open Go Go.Am Go.Proofs

def without (key : List UInt8) (L : List CEnt) : List CEnt := L.filter fun e => e.key ≠ key
theorem without_no {key : List UInt8} {L : List CEnt} (h : key ∉ L.map CEnt.key) : without key L = L := by
  refine List.filter_eq_self.2 fun e he => ?_
  simp only [ne_eq, decide_not, Bool.not_eq_eq_eq_not, Bool.not_true, decide_eq_false_iff_not]
  exact fun hk => h (hk ▸ List.mem_map_of_mem he)
theorem without_at {e : CEnt} {pre post : List CEnt} (h : ((pre ++ e :: post).map CEnt.key).Nodup) : without e.key (pre ++ e :: post) = pre ++ post := by
  rw [List.map_append, List.map_cons, List.nodup_append, List.nodup_cons] at h
  have h1 : without e.key pre = pre := without_no fun hm => h.2.2 _ hm _ List.mem_cons_self rfl
  have h2 : without e.key post = post := without_no h.2.1.1
  unfold without at h1 h2 ⊢
  rw [List.filter_append, h1, List.filter_cons, if_neg (by simp), h2]

theorem bu68 (k : List UInt8) (s : Int) (cv rv : AVal) (e n : Int) (h1 : cv.isCell = true) (h2 : rv.isCell = true) :
    abuild Try.prog 68 [(0, .str k), (1, .int .i64 s), (2, .agg [cv, rv]), (3, .int .i64 e), (4, .int .i64 n)] = some (.agg [.str k, .int .i64 s, cv, rv, .int .i64 e, .int .i64 n]) := by
  have h3 : abuild Try.prog 68 [(0, .str k), (1, .int .i64 s), (2, .agg [cv, rv]), (3, .int .i64 e), (4, .int .i64 n)] = (fillA (fun i => #[(0, 1), (1, 1), (2, 2), (4, 1), (5, 1)][i]?) [.str [], .int .i64 0, .nilSl, .nilSl, .int .i64 0, .int .i64 0] [(0, .str k), (1, .int .i64 s), (2, .agg [cv, rv]), (3, .int .i64 e), (4, .int .i64 n)]).map .agg := by kernel_rfl
  rw [h3]
  have i1 : ∀ s, (AVal.str s).isCell = true := fun _ => rfl
  have i2 : ∀ k n, (AVal.int k n).isCell = true := fun _ _ => rfl
  simp [fillA, AVal.cells, AVal.boxable, i1, i2, h1, h2, setRange]

theorem gt_no {n room : Int} (h : n ≤ room) : decide (n > room) = false := by simpa using h

/-- an entry is laid behind what is there -/
theorem lay_run {K : Nat} (h : AHeap) (c mid : Nat) (s : Cst) (I : CInv K h c s) (hmv : s.mv = .map mid) (e : CEnt) (hp : e.p = h.next) (hnew : e.key ∉ s.L.map CEnt.key) (hn : 0 ≤ e.n ∧ e.n ≤ 1099511627776) (hK : K + 1 ≤ 1000000) :
    ∃ h2 h3 h4 ov', amapUpdate Try.prog (h.new (.arr e.cells)) 51 (.map mid) (.str e.key) (.ptr e.p 0) = some h2 ∧ h2.get c = some (.arr s.cells) ∧ h3 = h2.set c (some (.arr (s.cells.set 1 (.int .i64 (s.bytes + e.n))))) ∧
      run Cf 25 [.ptr c 3, .ptr e.p 0] h3 = some (.ret (.tup []), h4) ∧ CInv (K + 1) h4 c { s with bytes := s.bytes + e.n, ov := ov', L := s.L ++ [e] } ∧ Stp (foot c s) (foot c { s with bytes := s.bytes + e.n, ov := ov', L := s.L ++ [e] }) h h4 := by
  obtain ⟨f1, f2, f3, f4, f5, f6⟩ := foot_split I.ids
  have hcn : c < h.next := I.lt c (by simp [foot])
  obtain ⟨h1, hh1⟩ : ∃ h1, h1 = h.new (.arr e.cells) := ⟨_, rfl⟩
  have n1 : h1.next = h.next + 1 := by rw [hh1]; rfl
  have I1 : CInv K h1 c s := by rw [hh1]; exact I.congr (by rw [Heap.new_next]; omega) fun i hi => Heap.get_new_lt (I.lt i hi)
  have ge1 : h1.get e.p = some (.arr e.cells) := by rw [hh1, hp]; exact Heap.get_new_eq
  have hmid : mid ∈ foot c s := by simp [foot, hmv, mapId]
  have hmidlt := I.lt mid hmid
  have hcm : c ≠ mid := fun q => f2 (by rw [hmv, q]; simp [mapId])
  have hpm : e.p ≠ mid := by omega
  have hpc : e.p ≠ c := by omega
  have hm1 := I1.map
  rw [hmv] at hm1
  obtain ⟨h2, hu, m2, n2, g2⟩ := update_new hm1 (k := e.key) (by rw [List.map_map]; exact hnew) e.p
  have hc2 : h2.get c = some (.arr s.cells) := by rw [g2 c hcm]; exact I1.cell
  have ge2 : h2.get e.p = some (.arr e.cells) := by rw [g2 _ hpm]; exact ge1
  obtain ⟨h3, hh3⟩ : ∃ h3, h3 = h2.set c (some (.arr (s.cells.set 1 (.int .i64 (s.bytes + e.n))))) := ⟨_, rfl⟩
  have g3 : ∀ j, j ≠ c → j ≠ mid → h3.get j = h1.get j := fun j hj hjm => by rw [hh3, Heap.get_set_ne hj, g2 j hjm]
  have hc3 : h3.get c = some (.arr (s.cells.set 1 (.int .i64 (s.bytes + e.n)))) := by rw [hh3]; exact Heap.get_set_eq
  have n3 : h3.next = h.next + 1 := by rw [hh3, Heap.set_next, n2, n1]
  have nem : ∀ i ∈ ordId s.ov, i ≠ mid := fun i hi q => (f4 i hi).1 (by rw [hmv, q]; simp [mapId])
  have nec : ∀ i ∈ ordId s.ov, i ≠ c := fun i hi q => f1 (q ▸ hi)
  have pnm : ∀ x ∈ s.L, x.p ≠ mid := fun x hx q => f5 mid (by rw [hmv]; simp [mapId]) x hx q.symm
  have o3 : OrdP K h3 s.ov (s.L.map CEnt.p) := I1.ord.congr fun i hi => g3 i (nec i hi) (nem i hi)
  have e3 : ∀ x ∈ s.L, h3.get x.p = some (.arr x.cells) := fun x hx => by rw [g3 x.p (Ne.symm (f3 x hx)) (pnm x hx)]; exact I1.ent x hx
  have ge3 : h3.get e.p = some (.arr e.cells) := by rw [g3 _ hpc hpm]; exact ge1
  have hmem : e.p ∉ s.L.map CEnt.p := fun hm => by
    have := I.lt e.p (by simp only [foot, List.mem_cons, List.mem_append]; exact .inr (.inr (.inr hm)))
    omega
  obtain ⟨h4, ov', hus, hc4, o4, id4, n4, g4⟩ := use_run h3 c e.p s.ov (s.L.map CEnt.p) _ hc3 rfl o3 ⟨_, _, ge3⟩ (fun p hp => by
    obtain ⟨x, hx, rfl⟩ := List.mem_map.1 hp
    exact ⟨_, _, e3 x hx⟩) I.le f1 (by rw [n3]; omega) (fun i hi => by rw [n3]; have := I.lt i (by simp [foot, hi]); omega)
  rw [List.erase_of_not_mem hmem] at o4
  have hps : s.L.map CEnt.p ++ [e.p] = (s.L ++ [e]).map CEnt.p := by simp
  rw [hps] at o4
  have ee4 : ∀ x ∈ s.L ++ [e], h4.get x.p = some (.arr x.cells) := fun x hx => by
    rcases List.mem_append.1 hx with hx | hx
    · rw [g4 x.p (by rw [n3]; have := I.lt x.p (by simp only [foot, List.mem_cons, List.mem_append]; exact .inr (.inr (.inr (List.mem_map_of_mem hx)))); omega) (Ne.symm (f3 x hx)) (fun hio => (f4 _ hio).2 x hx rfl)]
      exact e3 x hx
    · simp only [List.mem_singleton] at hx; subst hx
      rw [g4 x.p (by rw [n3]; omega) hpc (fun hio => by have := I.lt _ (show x.p ∈ foot c s by simp [foot, hio]); omega)]
      exact ge3
  have hfoot : ∀ j ∈ foot c { s with bytes := s.bytes + e.n, ov := ov', L := s.L ++ [e] }, (j ∈ foot c s ∨ h.next ≤ j) ∧ j < h4.next := by
    intro j hj
    simp only [foot, List.mem_cons, List.mem_append, List.map_append, List.map_cons, List.map_nil, List.not_mem_nil, or_false] at hj
    rcases hj with hj | hj | hj | hj | hj
    · exact ⟨.inl (by simp [foot, hj]), by rw [hj]; omega⟩
    · obtain ⟨h5, h6⟩ := id4 j hj
      rw [n3] at h5
      refine ⟨?_, h6⟩
      rcases h5 with h5 | h5
      · exact .inl (by simp [foot, h5])
      · right; omega
    · exact ⟨.inl (by simp [foot, hj]), by have := I.lt j (by simp [foot, hj]); omega⟩
    · have hm : j ∈ foot c s := by simp only [foot, List.mem_cons, List.mem_append]; exact .inr (.inr (.inr hj))
      exact ⟨.inl hm, by have := I.lt _ hm; omega⟩
    · exact ⟨.inr (by omega), by omega⟩
  refine ⟨h2, h3, h4, ov', by rw [← hh1]; exact hu, hc2, hh3, hus, ⟨hc4, o4, ?_, ee4, ?_, ?_, fun i hi => (hfoot i hi).2, ?_, ?_, ?_, hK⟩, by omega, ?_, fun j hj => (hfoot j hj).1⟩
  · simp only [hmv, List.map_append, List.map_cons, List.map_nil]
    refine (m2.congr fun i hi => ?_)
    simp only [mapId, List.mem_singleton] at hi
    rw [hi, g4 mid (by rw [n3]; omega) (Ne.symm hcm) (fun hio => nem mid hio rfl), hh3, Heap.get_set_ne (Ne.symm hcm)]
  · simp only [List.map_append, List.map_cons, List.map_nil]
    rw [List.nodup_append]
    refine ⟨I.keys, by simp, fun a ha b hb hab => ?_⟩
    simp only [List.mem_singleton] at hb
    rw [hab, hb] at ha; exact hnew ha
  · have hids := I.ids
    simp only [foot] at hids ⊢
    rw [List.nodup_cons, List.nodup_append] at hids ⊢
    obtain ⟨q1, q2, q3, q4⟩ := hids
    have hnotin : ∀ j, j ∈ ordId ov' → j ∈ mapId s.mv ++ s.L.map CEnt.p → False := fun j hj hj2 => by
      have hjf : j ∈ foot c s := by simp only [foot, List.mem_cons, List.mem_append] at hj2 ⊢; exact .inr (.inr hj2)
      rcases (id4 j hj).1 with h5 | h5
      · exact q4 j h5 j hj2 rfl
      · rw [n3] at h5; have := I.lt j hjf; omega
    have hne : ∀ j, j ∈ ordId ov' → j ≠ e.p := fun j hj q => by
      rcases (id4 j hj).1 with h5 | h5
      · have := I.lt j (by simp [foot, h5]); omega
      · rw [n3] at h5; omega
    refine ⟨?_, ?_, ?_, ?_⟩
    · simp only [List.mem_append, not_or, List.map_append, List.map_cons, List.map_nil, List.mem_singleton] at q1 ⊢
      refine ⟨fun hm => ?_, q1.2.1, q1.2.2, fun q => hpc q.symm⟩
      rcases (id4 c hm).1 with h5 | h5
      · exact f1 h5
      · rw [n3] at h5; omega
    · rcases o4 with ⟨q, _⟩ | ⟨oi, cs, q, _⟩ <;> rw [q] <;> simp [ordId]
    · simp only [List.map_append, List.map_cons, List.map_nil]
      rw [← List.append_assoc, List.nodup_append]
      refine ⟨q3, by simp, fun a ha b hb hab => ?_⟩
      simp only [List.mem_singleton] at hb
      subst hab
      have haf : a ∈ foot c s := by simp only [foot, List.mem_cons, List.mem_append] at ha ⊢; exact .inr (.inr ha)
      have := I.lt a haf; omega
    · intro a ha b' hb' hab
      subst hab
      simp only [List.map_append, List.map_cons, List.map_nil, ← List.append_assoc] at hb'
      rw [List.mem_append] at hb'
      rcases hb' with hb' | hb'
      · exact hnotin a ha hb'
      · simp only [List.mem_singleton] at hb'; exact hne a ha hb'
  · simp only [List.map_append, List.map_cons, List.map_nil, List.sum_append, List.sum_cons, List.sum_nil]
    have := I.sum; omega
  · intro x hx
    rcases List.mem_append.1 hx with hx | hx
    · exact I.small x hx
    · simp only [List.mem_singleton] at hx; rw [hx]; exact hn
  · have := I.len; simp; omega
  · intro j hj hjf
    have q1 : j ≠ c := fun e => hjf (by simp [foot, e])
    have q2 : j ∉ ordId s.ov := fun e => hjf (by simp [foot, e])
    have q3 : j ≠ mid := fun e => hjf (e ▸ hmid)
    rw [g4 j (by rw [n3]; omega) q1 q2, g3 j q1 q3, hh1, Heap.get_new_lt hj]
end Go.Am.Cache
