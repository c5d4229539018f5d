import Derived.Test.YthfbbjoaidajfaaGreatDoorPrsOne
import Derived.Test.YthfbbjoaidajfaaGreatDoorAmDeferLim
set_option linter.unusedVariables false
set_option linter.unusedSimpArgs false
set_option linter.unusedSimpArgs false
set_option linter.unusedVariables false
set_option maxRecDepth 100000
namespace Go.Proofs.Q.Par
open Go Go.Am Go.Proofs
section
variable {w : AVal} {all ws : List Word}
def kB (w : AVal) (all ws : List Word) (c : List AVal) (r : List Word) (cs : List AVal) : AHeap := (to0 w all r (hB w all ws c)).set 3 (some (.arr cs))
theorem kB_at {c cs : List AVal} {r : List Word} : At0 w all r (kB w all ws c r cs) := rfl
theorem kB_1 {c cs : List AVal} {r : List Word} : (kB w all ws c r cs).get 3 = some (.arr cs) := rfl
theorem hset_comm (h : AHeap) {i j : Nat} (hij : i ≠ j) (x y : Option ABlk) : (h.set i x).set j y = (h.set j y).set i x := by
  unfold AHeap.set
  congr 1
  funext k
  by_cases h1 : k = i <;> by_cases h2 : k = j
  · exact absurd (h1.symm.trans h2) hij
  all_goals simp only [h1, h2, if_true, if_false]
  · simp [hij]
  · have : ¬ (j = i) := fun e => hij e.symm
    simp [this]
theorem kB_to {c cs : List AVal} {r r' : List Word} : to0 w all r' (kB w all ws c r cs) = kB w all ws c r' cs := by
  unfold kB to0
  rw [hset_comm _ (by decide), hset_set]
theorem hB_k {c : List AVal} : hB w all ws c = kB w all ws c ws c := by
  unfold kB
  rw [At0.same hB_at]
  exact (Heap.set_same (show (hB w all ws c).get 3 = some (.arr c) from rfl)).symm
theorem kB_st {c cs : List AVal} {r : List Word} {j : Nat} {v : AVal} (hv : v.isCell = true) (hj : j < cs.length) : storeA (kB w all ws c r cs) 1 (.ptr 3 j) v = some (kB w all ws c r (cs.set j v)) := by
  rw [Heap.store_at kB_1 hv hj]
  unfold kB
  rw [hset_set]
theorem kB_ab {c : List AVal} (hc : c.all AVal.isCell = true) : abox (H0 w all ws) (.agg c) = some (.ptr 3 0, kB w all ws c ws c) := by
  rw [← hB_k]
  unfold abox
  rw [if_pos (show (AVal.agg c).boxable = true from hc)]
  rfl
abbrev rC (x : CondT) (v : AVal) : Prop := rCondT x [v]
namespace Pz
theorem bd50c (c : Bs) : abuild Tryz.prog 50 [(3, .str c)] = some (.agg [.int .i64 0, .nilPtr, .nilPtr, .str c, .int .i64 0, .nilSl]) := by kernel_rfl
theorem f50_0 (p : AVal) : afieldAddr Tryz.prog 50 p 0 = dropCells 0 p := by kernel_rfl
theorem f50_4 (p : AVal) : afieldAddr Tryz.prog 50 p 4 = dropCells 4 p := by kernel_rfl
theorem f50_5 (p : AVal) : afieldAddr Tryz.prog 50 p 5 = dropCells 5 p := by kernel_rfl
theorem st48 (h : AHeap) (p v : AVal) : astore Tryz.prog h 48 p v = storeA h 1 p v := by kernel_rfl
theorem bs52o : abuildSlice Tryz.prog 52 6 [(0, .str ([61] : List UInt8)), (1, .str ([60, 62] : List UInt8)), (2, .str ([60] : List UInt8)), (3, .str ([60, 61] : List UInt8)), (4, .str ([62] : List UInt8)), (5, .str ([62, 61] : List UInt8))] = some ([.str ([61] : List UInt8), .str ([60, 62] : List UInt8), .str ([60] : List UInt8), .str ([60, 61] : List UInt8), .str ([62] : List UInt8), .str ([62, 61] : List UInt8)], 1) := by kernel_rfl
theorem bs52n : abuildSlice Tryz.prog 52 2 [(0, .str ([73, 78] : List UInt8)), (1, .str ([40] : List UInt8))] = some ([.str ([73, 78] : List UInt8), .str ([40] : List UInt8)], 1) := by kernel_rfl
end Pz
theorem test_does (E : Mem w all) (hw : Wf all ws) : Does 156 [.ptr 2 0] w all ws rC (pTest ws) := by
  obtain ⟨a0, ha0⟩ : ∃ a0, a0 = slots Tryz.f156 [.ptr 2 0] := ⟨_, rfl⟩
  have hl : a0.length = 46 := by rw [ha0]; rfl
  have i0 : a0[0]? = some (.ptr 2 0) := by rw [ha0]; rfl
  have d0 := name_does E hw
  unfold pTest
  cases h0 : pName ws with
  | out => exact trivial
  | er e =>
    rw [h0] at d0
    intro h hg
    obtain ⟨cs, hcs, ef⟩ := d0 (H0 w all ws) At0.H0
    have pp : ∃ t, ex Cp (bodyOf Tryz.f156) ⟨a0, H0 w all (ws)⟩ = some (.pan (flt e), ⟨t, (H0 w all ws).set 2 (some (.arr cs))⟩) := by
      simp only [bodyOf, Tryz.f156, Cat, Zs, awanted, aoper, evalO, put, acallOp, abuiltin, Nat.reduceEqDiff, Nat.reduceLT, ofV, ofCell, ↓reduceIte, hl, i0, CP, TyP.fa97_1, TyP.fa97_0, dropCells, Nat.zero_add, Nat.add_zero, TyP.ld3, TyP.ld9, TyP.st3, TyP.ld42, TyP.st42, TyP.ze42, Pz.f42_0, wv, Pz.bs52, TyP.own_parse_go_115, TyP.nc_parse_go_115, TyP.own_parse_go_116, TyP.own_parse_go_118, TyP.own_parse_go_121, TyP.own_parse_go_123, Pz.bd50c, Pz.f50_0, Pz.f50_4, Pz.f50_5, Pz.st48, Pz.bs52o, Pz.bs52n, ef, kc_pan]
      exact ⟨_, rfl⟩
    obtain ⟨t, he⟩ := pp
    rw [ha0] at he
    exact dpan (f := 156) (args := [.ptr 2 0]) E hg Tryz.func156 rfl rfl rfl rfl rfl rfl he Heap.get_set_eq hcs
  | ok c r0 =>
    rw [h0] at d0
    obtain ⟨w0, d0⟩ := d0
    obtain ⟨v0, rfl, e0⟩ := d0 (H0 w all ws) At0.H0
    rw [to_H0] at e0
    rw [R.bind_ok]
    have ab := kB_ab (w := w) (all := all) (ws := r0) (c := [.int .i64 0, .nilPtr, .nilPtr, .str c, .int .i64 0, .nilSl]) rfl
    cases hq : which [([61] : List UInt8), ([60, 62] : List UInt8), ([60] : List UInt8), ([60, 61] : List UInt8), ([62] : List UInt8), ([62, 61] : List UInt8)] r0 with
    | some i =>
      have et : run Cp 110 [.ptr 2 0, .lst [.str ([61] : List UInt8), .str ([60, 62] : List UInt8), .str ([60] : List UInt8), .str ([60, 61] : List UInt8), .str ([62] : List UInt8), .str ([62, 61] : List UInt8)] 6 .full] _ = _ := take_some E w0 _ _ (litS_sl [([61] : List UInt8), ([60, 62] : List UInt8), ([60] : List UInt8), ([60, 61] : List UInt8), ([62] : List UInt8), ([62, 61] : List UInt8)]) (litS_st _) (by decide) hq (kB_at (w := w) (all := all) (ws := r0) (c := [.int .i64 0, .nilPtr, .nilPtr, .str c, .int .i64 0, .nilSl]) (cs := [.int .i64 0, .nilPtr, .nilPtr, .str c, .int .i64 0, .nilSl]))
      rw [kB_to] at et
      have hw2 := w0.which hq
      have hil := which_lt _ _ _ hq
      simp only [List.length_cons, List.length_nil] at hil
      have hd : decide ((i : Int) ≥ 0) = true := by simp
      have hwr : IntKind.i64.wrap (1 + (i : Int)) = 1 + (i : Int) := wrap64 (by omega) (by omega)
      dsimp only
      have d1 := value_does E hw2
      cases h1 : pValue (r0.drop 1) with
      | out => exact trivial
      | er e =>
        rw [h1] at d1
        intro h hg
        obtain ⟨cs, hcs, ef⟩ := d1 (kB w all r0 [.int .i64 0, .nilPtr, .nilPtr, .str c, .int .i64 0, .nilSl] (r0.drop 1) [.int .i64 0, .nilPtr, .nilPtr, .str c, .int .i64 0, .nilSl]) kB_at
        have pp : ∃ t, ex Cp (bodyOf Tryz.f156) ⟨a0, H0 w all (ws)⟩ = some (.pan (flt e), ⟨t, (kB w all r0 [.int .i64 0, .nilPtr, .nilPtr, .str c, .int .i64 0, .nilSl] (r0.drop 1) [.int .i64 0, .nilPtr, .nilPtr, .str c, .int .i64 0, .nilSl]).set 2 (some (.arr cs))⟩) := by
          simp only [bodyOf, Tryz.f156, Cat, Zs, awanted, aoper, evalO, put, acallOp, abuiltin, Nat.reduceEqDiff, Nat.reduceLT, ofV, ofCell, ↓reduceIte, hl, i0, CP, TyP.fa97_1, TyP.fa97_0, dropCells, Nat.zero_add, Nat.add_zero, TyP.ld3, TyP.ld9, TyP.st3, TyP.ld42, TyP.st42, TyP.ze42, Pz.f42_0, wv, Pz.bs52, TyP.own_parse_go_115, TyP.nc_parse_go_115, TyP.own_parse_go_116, TyP.own_parse_go_118, TyP.own_parse_go_121, TyP.own_parse_go_123, Pz.bd50c, Pz.f50_0, Pz.f50_4, Pz.f50_5, Pz.st48, Pz.bs52o, Pz.bs52n, e0, ab, et, hd, hwr, ef, kc_pan]
          exact ⟨_, rfl⟩
        obtain ⟨t, he⟩ := pp
        rw [ha0] at he
        exact dpan (f := 156) (args := [.ptr 2 0]) E hg Tryz.func156 rfl rfl rfl rfl rfl rfl he Heap.get_set_eq hcs
      | ok x1 r1 =>
        rw [h1] at d1
        obtain ⟨w1, d1⟩ := d1
        obtain ⟨v1, hx, e1⟩ := d1 (kB w all r0 [.int .i64 0, .nilPtr, .nilPtr, .str c, .int .i64 0, .nilSl] (r0.drop 1) [.int .i64 0, .nilPtr, .nilPtr, .str c, .int .i64 0, .nilSl]) kB_at
        rw [kB_to] at e1
        rw [R.bind_ok]
        refine ⟨w1, fun h hg => ?_⟩
        have s1 : storeA (kB w all r0 [.int .i64 0, .nilPtr, .nilPtr, .str c, .int .i64 0, .nilSl] r1 [.int .i64 0, .nilPtr, .nilPtr, .str c, .int .i64 0, .nilSl]) 1 (.ptr 3 0) (.int .i64 4) = some (kB w all r0 [.int .i64 0, .nilPtr, .nilPtr, .str c, .int .i64 0, .nilSl] r1 [.int .i64 4, .nilPtr, .nilPtr, .str c, .int .i64 0, .nilSl]) := kB_st rfl (Nat.le_of_ble_eq_true rfl)
        have s2 : storeA (kB w all r0 [.int .i64 0, .nilPtr, .nilPtr, .str c, .int .i64 0, .nilSl] r1 [.int .i64 4, .nilPtr, .nilPtr, .str c, .int .i64 0, .nilSl]) 1 (.ptr 3 4) (.int .i64 (1 + (i : Int))) = some (kB w all r0 [.int .i64 0, .nilPtr, .nilPtr, .str c, .int .i64 0, .nilSl] r1 [.int .i64 4, .nilPtr, .nilPtr, .str c, .int .i64 (1 + (i : Int)), .nilSl]) := kB_st rfl (Nat.le_of_ble_eq_true rfl)
        have s3 : storeA (kB w all r0 [.int .i64 0, .nilPtr, .nilPtr, .str c, .int .i64 0, .nilSl] r1 [.int .i64 4, .nilPtr, .nilPtr, .str c, .int .i64 (1 + (i : Int)), .nilSl]) 1 (.ptr 3 5) (.lst v1.cells 1 .full) = some (kB w all r0 [.int .i64 0, .nilPtr, .nilPtr, .str c, .int .i64 0, .nilSl] r1 [.int .i64 4, .nilPtr, .nilPtr, .str c, .int .i64 (1 + (i : Int)), .lst v1.cells 1 .full]) := kB_st rfl (Nat.le_of_ble_eq_true rfl)
        have hsl := hx.sl
        have hrf : refsL [.int .i64 4, .nilPtr, .nilPtr, .str c, .int .i64 (1 + (i : Int)), .lst v1.cells 1 .full] = [] := by simp only [refsL, refs, List.append_nil, List.nil_append]; simpa [refs] using hsl.refs rValue_p
        have pp : ∃ t, ex Cp (bodyOf Tryz.f156) ⟨a0, H0 w all (ws)⟩ = some (.ret, ⟨t, kB w all r0 [.int .i64 0, .nilPtr, .nilPtr, .str c, .int .i64 0, .nilSl] r1 [.int .i64 4, .nilPtr, .nilPtr, .str c, .int .i64 (1 + (i : Int)), .lst v1.cells 1 .full]⟩) ∧ t[2]? = some (.ptr 3 0) := by
          simp only [bodyOf, Tryz.f156, Cat, Zs, awanted, aoper, evalO, put, acallOp, abuiltin, Nat.reduceEqDiff, Nat.reduceLT, ofV, ofCell, ↓reduceIte, hl, i0, CP, TyP.fa97_1, TyP.fa97_0, dropCells, Nat.zero_add, Nat.add_zero, TyP.ld3, TyP.ld9, TyP.st3, TyP.ld42, TyP.st42, TyP.ze42, Pz.f42_0, wv, Pz.bs52, TyP.own_parse_go_115, TyP.nc_parse_go_115, TyP.own_parse_go_116, TyP.own_parse_go_118, TyP.own_parse_go_121, TyP.own_parse_go_123, Pz.bd50c, Pz.f50_0, Pz.f50_4, Pz.f50_5, Pz.st48, Pz.bs52o, Pz.bs52n, e0, ab, et, hd, hwr, e1, s1, s2, s3, Pz.sb48 hx]
          exact ⟨_, rfl, by simp [hl]⟩
        obtain ⟨t, he, ts⟩ := pp
        rw [ha0] at he
        exact ⟨.iptr (stripL [.int .i64 4, .nilPtr, .nilPtr, .str c, .int .i64 (1 + (i : Int)), .lst v1.cells 1 .full]), ⟨.nilPtr, .nilPtr, strip (.lst v1.cells 1 .full), rfl, rfl, rfl, hsl.strip rValue_p⟩, dok (f := 156) (args := [.ptr 2 0]) (r := r1) E hg Tryz.func156 rfl rfl rfl rfl rfl rfl he (.inl rfl) (vs := [.ptr 3 0]) (v := .iptr (stripL [.int .i64 4, .nilPtr, .nilPtr, .str c, .int .i64 (1 + (i : Int)), .lst v1.cells 1 .full])) (by simp only [show Tryz.f156.results.toList = [ResultVar.tmp 2] from rfl, aresults, ares1, ts]; rfl) (Nrm.box kB_1 rfl hrf) (kB_at)⟩
    | none =>
      have et : run Cp 110 [.ptr 2 0, .lst [.str ([61] : List UInt8), .str ([60, 62] : List UInt8), .str ([60] : List UInt8), .str ([60, 61] : List UInt8), .str ([62] : List UInt8), .str ([62, 61] : List UInt8)] 6 .full] _ = _ := take_none E w0 _ _ (litS_sl [([61] : List UInt8), ([60, 62] : List UInt8), ([60] : List UInt8), ([60, 61] : List UInt8), ([62] : List UInt8), ([62, 61] : List UInt8)]) (litS_st _) (by decide) hq (kB_at (w := w) (all := all) (ws := r0) (c := [.int .i64 0, .nilPtr, .nilPtr, .str c, .int .i64 0, .nilSl]) (cs := [.int .i64 0, .nilPtr, .nilPtr, .str c, .int .i64 0, .nilSl]))
      have hd : decide ((-1 : Int) ≥ 0) = false := rfl
      dsimp only
      have d1 := must_lit E w0 [([73, 78] : List UInt8), ([40] : List UInt8)] (by decide)
      cases h1 : must [([73, 78] : List UInt8), ([40] : List UInt8)] r0 with
      | out => exact trivial
      | er e =>
        rw [h1] at d1
        intro h hg
        obtain ⟨cs, hcs, ef⟩ : Pn e _ (run Cp 106 [.ptr 2 0, .lst [.str ([73, 78] : List UInt8), .str ([40] : List UInt8)] 2 .full] _) := d1 (kB w all r0 [.int .i64 0, .nilPtr, .nilPtr, .str c, .int .i64 0, .nilSl] r0 [.int .i64 0, .nilPtr, .nilPtr, .str c, .int .i64 0, .nilSl]) kB_at
        have pp : ∃ t, ex Cp (bodyOf Tryz.f156) ⟨a0, H0 w all (ws)⟩ = some (.pan (flt e), ⟨t, (kB w all r0 [.int .i64 0, .nilPtr, .nilPtr, .str c, .int .i64 0, .nilSl] r0 [.int .i64 0, .nilPtr, .nilPtr, .str c, .int .i64 0, .nilSl]).set 2 (some (.arr cs))⟩) := by
          simp only [bodyOf, Tryz.f156, Cat, Zs, awanted, aoper, evalO, put, acallOp, abuiltin, Nat.reduceEqDiff, Nat.reduceLT, ofV, ofCell, ↓reduceIte, hl, i0, CP, TyP.fa97_1, TyP.fa97_0, dropCells, Nat.zero_add, Nat.add_zero, TyP.ld3, TyP.ld9, TyP.st3, TyP.ld42, TyP.st42, TyP.ze42, Pz.f42_0, wv, Pz.bs52, TyP.own_parse_go_115, TyP.nc_parse_go_115, TyP.own_parse_go_116, TyP.own_parse_go_118, TyP.own_parse_go_121, TyP.own_parse_go_123, Pz.bd50c, Pz.f50_0, Pz.f50_4, Pz.f50_5, Pz.st48, Pz.bs52o, Pz.bs52n, e0, ab, et, hd, ef, kc_pan]
          exact ⟨_, rfl⟩
        obtain ⟨t, he⟩ := pp
        rw [ha0] at he
        exact dpan (f := 156) (args := [.ptr 2 0]) E hg Tryz.func156 rfl rfl rfl rfl rfl rfl he Heap.get_set_eq hcs
      | ok x1 r1 =>
        rw [h1] at d1
        obtain ⟨w1, d1⟩ := d1
        obtain ⟨v1, rfl, e1⟩ := d1 (kB w all r0 [.int .i64 0, .nilPtr, .nilPtr, .str c, .int .i64 0, .nilSl] r0 [.int .i64 0, .nilPtr, .nilPtr, .str c, .int .i64 0, .nilSl]) kB_at
        have e1 : run Cp 106 [.ptr 2 0, .lst [.str ([73, 78] : List UInt8), .str ([40] : List UInt8)] 2 .full] _ = _ := e1
        rw [kB_to] at e1
        rw [R.bind_ok]
        have d2 := sev168 E (fun ws hw => value_does E hw) w1
        cases h2 : several pValue r1 with
        | out => exact trivial
        | er e =>
          rw [h2] at d2
          intro h hg
          obtain ⟨cs, hcs, ef⟩ := d2 (kB w all r0 [.int .i64 0, .nilPtr, .nilPtr, .str c, .int .i64 0, .nilSl] r1 [.int .i64 0, .nilPtr, .nilPtr, .str c, .int .i64 0, .nilSl]) kB_at
          have pp : ∃ t, ex Cp (bodyOf Tryz.f156) ⟨a0, H0 w all (ws)⟩ = some (.pan (flt e), ⟨t, (kB w all r0 [.int .i64 0, .nilPtr, .nilPtr, .str c, .int .i64 0, .nilSl] r1 [.int .i64 0, .nilPtr, .nilPtr, .str c, .int .i64 0, .nilSl]).set 2 (some (.arr cs))⟩) := by
            simp only [bodyOf, Tryz.f156, Cat, Zs, awanted, aoper, evalO, put, acallOp, abuiltin, Nat.reduceEqDiff, Nat.reduceLT, ofV, ofCell, ↓reduceIte, hl, i0, CP, TyP.fa97_1, TyP.fa97_0, dropCells, Nat.zero_add, Nat.add_zero, TyP.ld3, TyP.ld9, TyP.st3, TyP.ld42, TyP.st42, TyP.ze42, Pz.f42_0, wv, Pz.bs52, TyP.own_parse_go_115, TyP.nc_parse_go_115, TyP.own_parse_go_116, TyP.own_parse_go_118, TyP.own_parse_go_121, TyP.own_parse_go_123, Pz.bd50c, Pz.f50_0, Pz.f50_4, Pz.f50_5, Pz.st48, Pz.bs52o, Pz.bs52n, e0, ab, et, hd, e1, ef, kc_pan]
            exact ⟨_, rfl⟩
          obtain ⟨t, he⟩ := pp
          rw [ha0] at he
          exact dpan (f := 156) (args := [.ptr 2 0]) E hg Tryz.func156 rfl rfl rfl rfl rfl rfl he Heap.get_set_eq hcs
        | ok x2 r2 =>
          rw [h2] at d2
          obtain ⟨w2, d2⟩ := d2
          obtain ⟨v2, hl2, e2⟩ := d2 (kB w all r0 [.int .i64 0, .nilPtr, .nilPtr, .str c, .int .i64 0, .nilSl] r1 [.int .i64 0, .nilPtr, .nilPtr, .str c, .int .i64 0, .nilSl]) kB_at
          rw [kB_to] at e2
          rw [R.bind_ok]
          have s1 : storeA (kB w all r0 [.int .i64 0, .nilPtr, .nilPtr, .str c, .int .i64 0, .nilSl] r2 [.int .i64 0, .nilPtr, .nilPtr, .str c, .int .i64 0, .nilSl]) 1 (.ptr 3 0) (.int .i64 5) = some (kB w all r0 [.int .i64 0, .nilPtr, .nilPtr, .str c, .int .i64 0, .nilSl] r2 [.int .i64 5, .nilPtr, .nilPtr, .str c, .int .i64 0, .nilSl]) := kB_st rfl (Nat.le_of_ble_eq_true rfl)
          have s2 : storeA (kB w all r0 [.int .i64 0, .nilPtr, .nilPtr, .str c, .int .i64 0, .nilSl] r2 [.int .i64 5, .nilPtr, .nilPtr, .str c, .int .i64 0, .nilSl]) 1 (.ptr 3 5) v2 = some (kB w all r0 [.int .i64 0, .nilPtr, .nilPtr, .str c, .int .i64 0, .nilSl] r2 [.int .i64 5, .nilPtr, .nilPtr, .str c, .int .i64 0, v2]) := kB_st hl2.isCell (Nat.le_of_ble_eq_true rfl)
          have d3 := must_lit E w2 [([41] : List UInt8)] (by decide)
          cases h3 : must [([41] : List UInt8)] r2 with
          | out => exact trivial
          | er e =>
            rw [h3] at d3
            intro h hg
            obtain ⟨cs, hcs, ef⟩ : Pn e _ (run Cp 106 [.ptr 2 0, .lst [.str ([41] : List UInt8)] 1 .full] _) := d3 (kB w all r0 [.int .i64 0, .nilPtr, .nilPtr, .str c, .int .i64 0, .nilSl] r2 [.int .i64 5, .nilPtr, .nilPtr, .str c, .int .i64 0, v2]) kB_at
            have pp : ∃ t, ex Cp (bodyOf Tryz.f156) ⟨a0, H0 w all (ws)⟩ = some (.pan (flt e), ⟨t, (kB w all r0 [.int .i64 0, .nilPtr, .nilPtr, .str c, .int .i64 0, .nilSl] r2 [.int .i64 5, .nilPtr, .nilPtr, .str c, .int .i64 0, v2]).set 2 (some (.arr cs))⟩) := by
              simp only [bodyOf, Tryz.f156, Cat, Zs, awanted, aoper, evalO, put, acallOp, abuiltin, Nat.reduceEqDiff, Nat.reduceLT, ofV, ofCell, ↓reduceIte, hl, i0, CP, TyP.fa97_1, TyP.fa97_0, dropCells, Nat.zero_add, Nat.add_zero, TyP.ld3, TyP.ld9, TyP.st3, TyP.ld42, TyP.st42, TyP.ze42, Pz.f42_0, wv, Pz.bs52, TyP.own_parse_go_115, TyP.nc_parse_go_115, TyP.own_parse_go_116, TyP.own_parse_go_118, TyP.own_parse_go_121, TyP.own_parse_go_123, Pz.bd50c, Pz.f50_0, Pz.f50_4, Pz.f50_5, Pz.st48, Pz.bs52o, Pz.bs52n, e0, ab, et, hd, e1, e2, s1, s2, ef, kc_pan]
              exact ⟨_, rfl⟩
            obtain ⟨t, he⟩ := pp
            rw [ha0] at he
            exact dpan (f := 156) (args := [.ptr 2 0]) E hg Tryz.func156 rfl rfl rfl rfl rfl rfl he Heap.get_set_eq hcs
          | ok x3 r3 =>
            rw [h3] at d3
            obtain ⟨w3, d3⟩ := d3
            obtain ⟨v3, rfl, e3⟩ := d3 (kB w all r0 [.int .i64 0, .nilPtr, .nilPtr, .str c, .int .i64 0, .nilSl] r2 [.int .i64 5, .nilPtr, .nilPtr, .str c, .int .i64 0, v2]) kB_at
            have e3 : run Cp 106 [.ptr 2 0, .lst [.str ([41] : List UInt8)] 1 .full] _ = _ := e3
            rw [kB_to] at e3
            rw [R.bind_ok]
            refine ⟨w3, fun h hg => ?_⟩
            have hrf : refsL [.int .i64 5, .nilPtr, .nilPtr, .str c, .int .i64 0, v2] = [] := by simp only [refsL, refs, List.append_nil, List.nil_append]; simpa [refs] using hl2.refs rValue_p
            have pp : ∃ t, ex Cp (bodyOf Tryz.f156) ⟨a0, H0 w all (ws)⟩ = some (.ret, ⟨t, kB w all r0 [.int .i64 0, .nilPtr, .nilPtr, .str c, .int .i64 0, .nilSl] r3 [.int .i64 5, .nilPtr, .nilPtr, .str c, .int .i64 0, v2]⟩) ∧ t[2]? = some (.ptr 3 0) := by
              simp only [bodyOf, Tryz.f156, Cat, Zs, awanted, aoper, evalO, put, acallOp, abuiltin, Nat.reduceEqDiff, Nat.reduceLT, ofV, ofCell, ↓reduceIte, hl, i0, CP, TyP.fa97_1, TyP.fa97_0, dropCells, Nat.zero_add, Nat.add_zero, TyP.ld3, TyP.ld9, TyP.st3, TyP.ld42, TyP.st42, TyP.ze42, Pz.f42_0, wv, Pz.bs52, TyP.own_parse_go_115, TyP.nc_parse_go_115, TyP.own_parse_go_116, TyP.own_parse_go_118, TyP.own_parse_go_121, TyP.own_parse_go_123, Pz.bd50c, Pz.f50_0, Pz.f50_4, Pz.f50_5, Pz.st48, Pz.bs52o, Pz.bs52n, e0, ab, et, hd, e1, e2, s1, s2, e3]
              exact ⟨_, rfl, by simp [hl]⟩
            obtain ⟨t, he, ts⟩ := pp
            rw [ha0] at he
            exact ⟨.iptr (stripL [.int .i64 5, .nilPtr, .nilPtr, .str c, .int .i64 0, v2]), ⟨.nilPtr, .nilPtr, strip v2, rfl, rfl, rfl, hl2.strip rValue_p⟩, dok (f := 156) (args := [.ptr 2 0]) (r := r3) E hg Tryz.func156 rfl rfl rfl rfl rfl rfl he (.inl rfl) (vs := [.ptr 3 0]) (v := .iptr (stripL [.int .i64 5, .nilPtr, .nilPtr, .str c, .int .i64 0, v2])) (by simp only [show Tryz.f156.results.toList = [ResultVar.tmp 2] from rfl, aresults, ares1, ts]; rfl) (Nrm.box kB_1 rfl hrf) (kB_at)⟩
end
end Go.Proofs.Q.Par



set_option linter.unusedSimpArgs false
set_option linter.unusedVariables false
set_option maxRecDepth 100000
namespace Go.Proofs.Q.Par
open Go Go.Am Go.Proofs
section
variable {w : AVal} {all ws : List Word}
namespace Pz
theorem bd50k (k : Int) {a b : AVal} (ha : a.isCell = true) (hb : b.isCell = true) : abuild Tryz.prog 50 [(0, .int .i64 k), (1, a), (2, b)] = some (.agg [.int .i64 k, a, b, .str [], .int .i64 0, .nilSl]) := by
  have ca : a.cells = [a] := by cases a <;> first | rfl | simp [AVal.isCell] at ha
  have cb : b.cells = [b] := by cases b <;> first | rfl | simp [AVal.isCell] at hb
  have ba : a.boxable = true := by cases a <;> first | rfl | simp [AVal.isCell] at ha
  have bb : b.boxable = true := by cases b <;> first | rfl | simp [AVal.isCell] at hb
  rw [TyP.bu50]
  simp [fillA, ca, cb, ba, bb, setRange, cl_i, bx_i]
theorem bd50n {a : AVal} (ha : a.isCell = true) : abuild Tryz.prog 50 [(0, .int .i64 3), (1, a)] = some (.agg [.int .i64 3, a, .nilPtr, .str [], .int .i64 0, .nilSl]) := by
  have ca : a.cells = [a] := by cases a <;> first | rfl | simp [AVal.isCell] at ha
  have ba : a.boxable = true := by cases a <;> first | rfl | simp [AVal.isCell] at ha
  rw [TyP.bu50]
  simp [fillA, ca, ba, setRange, cl_i, bx_i]
theorem bx50 (k : Int) {a b : AVal} (ha : a.isCell = true) (hb : b.isCell = true) : (AVal.agg [.int .i64 k, a, b, .str [], .int .i64 0, .nilSl]).boxable = true := by
  simp only [AVal.boxable, List.all_cons, List.all_nil, ha, hb]; rfl
end Pz
noncomputable def lp141 : Code := Cat [true, true, false, true, true] (bodyOf Tryz.f141)
theorem loop141N (E : Mem w all) (k : Int) (s : Bs) {p : List Word → R CondT} (HP : ∀ ws, Wf all ws → Does 143 [.ptr 2 0] w all ws rC (p ws)) :
    ∀ (m : Nat) (ws : List Word) (hw : Wf all ws) (c : CondT) (v : AVal) (hv : rC c v) (a : List AVal) (hl : a.length = 24) (i0 : a[0]? = some (.ptr 2 0)) (i1 : a[1]? = some (.int .i64 k)) (i2 : a[2]? = some (.str s)) (i3 : a[3]? = some (.fn (.func 143) [.ptr 2 0] [])) (i9 : a[9]? = some v),
      match chainRest k s p m c ws with
      | .ok d r => Wf all r ∧ ∃ t v', ex Cp (.loop lp141) ⟨a, H0 w all ws⟩ = some (.exit 0, ⟨t, H0 w all r⟩) ∧ t.length = 24 ∧ t[9]? = some v' ∧ rC d v'
      | .er e => ∃ t h' cs, ex Cp (.loop lp141) ⟨a, H0 w all ws⟩ = some (.pan (flt e), ⟨t, h'⟩) ∧ h'.get 2 = some (.arr cs) ∧ refsL cs = []
      | .out => True := by
  intro m
  induction m with
  | zero => intro ws hw c v hv a hl i0 i1 i2 i3 i9; exact trivial
  | succ m ih =>
    intro ws hw c v hv a hl i0 i1 i2 i3 i9
    unfold chainRest
    cases hb : isH s ws with
    | false =>
      simp only [Bool.false_eq_true, if_false]
      have en := one_no E hw s hb (At0.H0 (w := w) (all := all) (ws := ws))
      have hd : decide ((-1 : Int) ≥ 0) = false := rfl
      have pp : ∃ t, ex Cp lp141 ⟨a, H0 w all ws⟩ = some (.exit 0, ⟨t, H0 w all ws⟩) ∧ t.length = 24 ∧ t[9]? = some v := by
        simp only [lp141, bodyOf, Tryz.f141, Cat, Zs, awanted, aoper, evalO, put, acallOp, abuiltin, Nat.reduceEqDiff, Nat.reduceLT, ofV, ofCell, ↓reduceIte, hl, i0, i1, i2, i3, i9, CP, bq1, bq2, bq3, bq4, Pz.bs52, TyP.own_parse_go_142, en, hd]
        exact ⟨_, rfl, by simp [hl], by simp [i9]⟩
      obtain ⟨t, e, tl, t9⟩ := pp
      exact ⟨hw, t, v, by rw [e_loop, e]; rfl, tl, t9, hv⟩
    | true =>
      simp only [if_true]
      have ey := one_yes E hw s hb (At0.H0 (w := w) (all := all) (ws := ws))
      rw [to_H0] at ey
      have hd : decide (((0 : Nat) : Int) ≥ 0) = true := rfl
      have hw1 := hw.isH hb
      have dp := HP (ws.drop 1) hw1
      cases hp : p (ws.drop 1) with
      | out => exact trivial
      | er e =>
        rw [hp] at dp
        rw [R.bind_er]
        obtain ⟨cs, hcs, ef⟩ := dp (H0 w all (ws.drop 1)) At0.H0
        have pp : ∃ t, ex Cp lp141 ⟨a, H0 w all ws⟩ = some (.pan (flt e), ⟨t, (H0 w all (ws.drop 1)).set 2 (some (.arr cs))⟩) := by
          simp only [lp141, bodyOf, Tryz.f141, Cat, Zs, awanted, aoper, evalO, put, acallOp, abuiltin, Nat.reduceEqDiff, Nat.reduceLT, ofV, ofCell, ↓reduceIte, hl, i0, i1, i2, i3, i9, CP, bq1, bq2, bq3, bq4, Pz.bs52, TyP.own_parse_go_142, ey, hd, ef, kc_pan]
          exact ⟨_, rfl⟩
        obtain ⟨t, e1⟩ := pp
        exact ⟨t, _, cs, by rw [e_loop, e1]; rfl, Heap.get_set_eq, hcs⟩
      | ok d r =>
        rw [hp] at dp
        rw [R.bind_ok]
        obtain ⟨hwr, dp⟩ := dp
        obtain ⟨vd, hvd, ex1⟩ := dp (H0 w all (ws.drop 1)) At0.H0
        rw [to_H0] at ex1
        have bd := Pz.bd50k k (rCondT_cell hv) (rCondT_cell hvd)
        have bx := Pz.bx50 k (rCondT_cell hv) (rCondT_cell hvd)
        have pp : ∃ t, ex Cp lp141 ⟨a, H0 w all ws⟩ = some (.normal, ⟨t, H0 w all r⟩) ∧ t.length = 24 ∧ t[0]? = some (.ptr 2 0) ∧ t[1]? = some (.int .i64 k) ∧ t[2]? = some (.str s) ∧ t[3]? = some (.fn (.func 143) [.ptr 2 0] []) ∧ t[9]? = some (.iptr [.int .i64 k, v, vd, .str [], .int .i64 0, .nilSl]) := by
          simp only [lp141, bodyOf, Tryz.f141, Cat, Zs, awanted, aoper, evalO, put, acallOp, abuiltin, Nat.reduceEqDiff, Nat.reduceLT, ofV, ofCell, ↓reduceIte, hl, i0, i1, i2, i3, i9, CP, bq1, bq2, bq3, bq4, Pz.bs52, TyP.own_parse_go_142, ey, hd, ex1, bd, TyP.cb_parse_go_143, bx, cl_a]
          exact ⟨_, rfl, by simp [hl], by simp [i0], by simp [i1], by simp [i2], by simp [i3], by simp [hl]⟩
        obtain ⟨t, e, tl, t0, t1, t2, t3, t9⟩ := pp
        have kk := ih r hwr (.mk k c d [] 0 []) _ (show rC (.mk k c d [] 0 []) (.iptr [.int .i64 k, v, vd, .str [], .int .i64 0, .nilSl]) from ⟨v, vd, .nilSl, rfl, hv, hvd, .nil⟩) t tl t0 t1 t2 t3 t9
        cases hq : chainRest k s p m (.mk k c d [] 0 []) r with
        | out => exact trivial
        | er f =>
          rw [hq] at kk
          obtain ⟨t', h', cs, e1, k1⟩ := kk
          exact ⟨t', h', cs, by rw [e_loop, e]; exact e1, k1⟩
        | ok l r' =>
          rw [hq] at kk
          obtain ⟨k0, t', v1, e1, k1⟩ := kk
          exact ⟨k0, t', v1, by rw [e_loop, e]; exact e1, k1⟩
theorem chainN (E : Mem w all) (k : Int) (s : Bs) {p : List Word → R CondT} (HP : ∀ ws, Wf all ws → Does 143 [.ptr 2 0] w all ws rC (p ws)) (hw : Wf all ws) : Does 141 [.ptr 2 0, .int .i64 k, .str s, .fn (.func 143) [.ptr 2 0] []] w all ws rC (chain k s p ws) := by
  obtain ⟨a0, ha0⟩ : ∃ a0, a0 = slots Tryz.f141 [.ptr 2 0, .int .i64 k, .str s, .fn (.func 143) [.ptr 2 0] []] := ⟨_, rfl⟩
  have hl : a0.length = 24 := by rw [ha0]; rfl
  have i0 : a0[0]? = some (.ptr 2 0) := by rw [ha0]; rfl
  have i1 : a0[1]? = some (.int .i64 k) := by rw [ha0]; rfl
  have i2 : a0[2]? = some (.str s) := by rw [ha0]; rfl
  have i3 : a0[3]? = some (.fn (.func 143) [.ptr 2 0] []) := by rw [ha0]; rfl
  have hb : bodyOf Tryz.f141 = .seq (Cat [false] (bodyOf Tryz.f141)) (.seq (Cat [true, false] (bodyOf Tryz.f141)) (.seq (.block 0 (.loop lp141)) (Cat [true, true, true] (bodyOf Tryz.f141)))) := rfl
  unfold chain
  have dp := HP ws hw
  have p0 : ∃ t, ex Cp (Cat [false] (bodyOf Tryz.f141)) ⟨a0, H0 w all ws⟩ = some (.normal, ⟨t, H0 w all ws⟩) ∧ t.length = 24 ∧ t[0]? = some (.ptr 2 0) ∧ t[1]? = some (.int .i64 k) ∧ t[2]? = some (.str s) ∧ t[3]? = some (.fn (.func 143) [.ptr 2 0] []) := by
    simp only [bodyOf, Tryz.f141, Cat, Zs, awanted, aoper, evalO, put, acallOp, abuiltin, Nat.reduceEqDiff, Nat.reduceLT, ofV, ofCell, ↓reduceIte, hl, i0, i1, i2, i3, CP]
    exact ⟨_, rfl, by simp [hl], by simp [i0], by simp [i1], by simp [i2], by simp [i3]⟩
  obtain ⟨t0, x0, tl0, t00, t01, t02, t03⟩ := p0
  cases hp : p ws with
  | out => exact trivial
  | er e =>
    rw [hp] at dp
    intro h hg
    obtain ⟨cs, hcs, ef⟩ := dp (H0 w all ws) At0.H0
    have pp : ∃ t, ex Cp (Cat [true, false] (bodyOf Tryz.f141)) ⟨t0, H0 w all ws⟩ = some (.pan (flt e), ⟨t, (H0 w all ws).set 2 (some (.arr cs))⟩) := by
      simp only [bodyOf, Tryz.f141, Cat, Zs, awanted, aoper, evalO, put, acallOp, abuiltin, Nat.reduceEqDiff, Nat.reduceLT, ofV, ofCell, ↓reduceIte, tl0, t00, t01, t02, t03, CP, ef, kc_pan]
      exact ⟨_, rfl⟩
    obtain ⟨t, e1⟩ := pp
    have he : ex Cp (bodyOf Tryz.f141) ⟨a0, H0 w all ws⟩ = some (.pan (flt e), ⟨t, (H0 w all ws).set 2 (some (.arr cs))⟩) := by
      rw [hb, e_seq, x0]
      simp only [k_seq]
      rw [e_seq, e1]
      rfl
    rw [ha0] at he
    exact dpan (f := 141) (args := [.ptr 2 0, .int .i64 k, .str s, .fn (.func 143) [.ptr 2 0] []]) E hg Tryz.func141 rfl rfl rfl rfl rfl rfl he Heap.get_set_eq hcs
  | ok c r =>
    rw [hp] at dp
    obtain ⟨hwr, dp⟩ := dp
    obtain ⟨cv, hcv, ex1⟩ := dp (H0 w all ws) At0.H0
    rw [to_H0] at ex1
    have pp : ∃ t, ex Cp (Cat [true, false] (bodyOf Tryz.f141)) ⟨t0, H0 w all ws⟩ = some (.normal, ⟨t, H0 w all r⟩) ∧ t.length = 24 ∧ t[0]? = some (.ptr 2 0) ∧ t[1]? = some (.int .i64 k) ∧ t[2]? = some (.str s) ∧ t[3]? = some (.fn (.func 143) [.ptr 2 0] []) ∧ t[9]? = some cv := by
      simp only [bodyOf, Tryz.f141, Cat, Zs, awanted, aoper, evalO, put, acallOp, abuiltin, Nat.reduceEqDiff, Nat.reduceLT, ofV, ofCell, ↓reduceIte, tl0, t00, t01, t02, t03, CP, ex1]
      exact ⟨_, rfl, by simp [tl0], by simp [t00], by simp [t01], by simp [t02], by simp [t03], by simp [tl0]⟩
    obtain ⟨t1, x1, tl1, t10, t11, t12, t13, t19⟩ := pp
    have kk := loop141N E k s HP (r.length + 1) r hwr c cv hcv t1 tl1 t10 t11 t12 t13 t19
    simp only [R.bind_ok]
    cases hq : chainRest k s p (r.length + 1) c r with
    | out => exact trivial
    | er f =>
      rw [hq] at kk
      intro h hg
      obtain ⟨t', h', cs, e1, k1, k2⟩ := kk
      have he : ex Cp (bodyOf Tryz.f141) ⟨a0, H0 w all ws⟩ = some (.pan (flt f), ⟨t', h'⟩) := by
        rw [hb, e_seq, x0]
        simp only [k_seq]
        rw [e_seq, x1]
        simp only [k_seq]
        rw [e_seq, e_block, e1]
        rfl
      rw [ha0] at he
      exact dpan (f := 141) (args := [.ptr 2 0, .int .i64 k, .str s, .fn (.func 143) [.ptr 2 0] []]) E hg Tryz.func141 rfl rfl rfl rfl rfl rfl he k1 k2
    | ok d r' =>
      rw [hq] at kk
      obtain ⟨k0, t', v1, e1, k1, k2, k3⟩ := kk
      refine ⟨k0, fun h hg => ?_⟩
      have p3 : ∃ t, ex Cp (Cat [true, true, true] (bodyOf Tryz.f141)) ⟨t', H0 w all r'⟩ = some (.ret, ⟨t, H0 w all r'⟩) ∧ t[8]? = some v1 := by
        simp only [bodyOf, Tryz.f141, Cat, Zs, awanted, aoper, evalO, put, acallOp, abuiltin, Nat.reduceEqDiff, Nat.reduceLT, ofV, ofCell, ↓reduceIte, k1, k2, CP]
        exact ⟨_, rfl, by simp [k1]⟩
      obtain ⟨t3, x3, t38⟩ := p3
      have he : ex Cp (bodyOf Tryz.f141) ⟨a0, H0 w all ws⟩ = some (.ret, ⟨t3, H0 w all r'⟩) := by
        rw [hb, e_seq, x0]
        simp only [k_seq]
        rw [e_seq, x1]
        simp only [k_seq]
        rw [e_seq, e_block, e1]
        simp only [k_block_exit, if_true, k_seq]
        exact x3
      rw [ha0] at he
      exact ⟨strip v1, rCondT_str _ _ k3, dok (f := 141) (args := [.ptr 2 0, .int .i64 k, .str s, .fn (.func 143) [.ptr 2 0] []]) (r := r') E hg Tryz.func141 rfl rfl rfl rfl rfl rfl he (.inl rfl) (vs := [v1]) (v := strip v1)
        (by simp only [show Tryz.f141.results.toList = [ResultVar.tmp 8] from rfl, aresults, ares1, t38]; rfl) (Nrm.of (w := v1) (by have := rCondT_ref _ _ k3; simpa [refsL] using this)) At0.H0⟩
theorem loop141A (E : Mem w all) (k : Int) (s : Bs) {p : List Word → R CondT} (HP : ∀ ws, Wf all ws → Does 142 [.iptr [.ptr 2 0]] w all ws rC (p ws)) :
    ∀ (m : Nat) (ws : List Word) (hw : Wf all ws) (c : CondT) (v : AVal) (hv : rC c v) (a : List AVal) (hl : a.length = 24) (i0 : a[0]? = some (.ptr 2 0)) (i1 : a[1]? = some (.int .i64 k)) (i2 : a[2]? = some (.str s)) (i3 : a[3]? = some (.fn (.func 142) [] [.iptr [.ptr 2 0]])) (i9 : a[9]? = some v),
      match chainRest k s p m c ws with
      | .ok d r => Wf all r ∧ ∃ t v', ex Cp (.loop lp141) ⟨a, H0 w all ws⟩ = some (.exit 0, ⟨t, H0 w all r⟩) ∧ t.length = 24 ∧ t[9]? = some v' ∧ rC d v'
      | .er e => ∃ t h' cs, ex Cp (.loop lp141) ⟨a, H0 w all ws⟩ = some (.pan (flt e), ⟨t, h'⟩) ∧ h'.get 2 = some (.arr cs) ∧ refsL cs = []
      | .out => True := by
  intro m
  induction m with
  | zero => intro ws hw c v hv a hl i0 i1 i2 i3 i9; exact trivial
  | succ m ih =>
    intro ws hw c v hv a hl i0 i1 i2 i3 i9
    unfold chainRest
    cases hb : isH s ws with
    | false =>
      simp only [Bool.false_eq_true, if_false]
      have en := one_no E hw s hb (At0.H0 (w := w) (all := all) (ws := ws))
      have hd : decide ((-1 : Int) ≥ 0) = false := rfl
      have pp : ∃ t, ex Cp lp141 ⟨a, H0 w all ws⟩ = some (.exit 0, ⟨t, H0 w all ws⟩) ∧ t.length = 24 ∧ t[9]? = some v := by
        simp only [lp141, bodyOf, Tryz.f141, Cat, Zs, awanted, aoper, evalO, put, acallOp, abuiltin, Nat.reduceEqDiff, Nat.reduceLT, ofV, ofCell, ↓reduceIte, hl, i0, i1, i2, i3, i9, CP, bq1, bq2, bq3, bq4, Pz.bs52, TyP.own_parse_go_142, en, hd]
        exact ⟨_, rfl, by simp [hl], by simp [i9]⟩
      obtain ⟨t, e, tl, t9⟩ := pp
      exact ⟨hw, t, v, by rw [e_loop, e]; rfl, tl, t9, hv⟩
    | true =>
      simp only [if_true]
      have ey := one_yes E hw s hb (At0.H0 (w := w) (all := all) (ws := ws))
      rw [to_H0] at ey
      have hd : decide (((0 : Nat) : Int) ≥ 0) = true := rfl
      have hw1 := hw.isH hb
      have dp := HP (ws.drop 1) hw1
      cases hp : p (ws.drop 1) with
      | out => exact trivial
      | er e =>
        rw [hp] at dp
        rw [R.bind_er]
        obtain ⟨cs, hcs, ef⟩ := dp (H0 w all (ws.drop 1)) At0.H0
        have pp : ∃ t, ex Cp lp141 ⟨a, H0 w all ws⟩ = some (.pan (flt e), ⟨t, (H0 w all (ws.drop 1)).set 2 (some (.arr cs))⟩) := by
          simp only [lp141, bodyOf, Tryz.f141, Cat, Zs, awanted, aoper, evalO, put, acallOp, abuiltin, Nat.reduceEqDiff, Nat.reduceLT, ofV, ofCell, ↓reduceIte, hl, i0, i1, i2, i3, i9, CP, bq1, bq2, bq3, bq4, Pz.bs52, TyP.own_parse_go_142, ey, hd, ef, kc_pan]
          exact ⟨_, rfl⟩
        obtain ⟨t, e1⟩ := pp
        exact ⟨t, _, cs, by rw [e_loop, e1]; rfl, Heap.get_set_eq, hcs⟩
      | ok d r =>
        rw [hp] at dp
        rw [R.bind_ok]
        obtain ⟨hwr, dp⟩ := dp
        obtain ⟨vd, hvd, ex1⟩ := dp (H0 w all (ws.drop 1)) At0.H0
        rw [to_H0] at ex1
        have bd := Pz.bd50k k (rCondT_cell hv) (rCondT_cell hvd)
        have bx := Pz.bx50 k (rCondT_cell hv) (rCondT_cell hvd)
        have pp : ∃ t, ex Cp lp141 ⟨a, H0 w all ws⟩ = some (.normal, ⟨t, H0 w all r⟩) ∧ t.length = 24 ∧ t[0]? = some (.ptr 2 0) ∧ t[1]? = some (.int .i64 k) ∧ t[2]? = some (.str s) ∧ t[3]? = some (.fn (.func 142) [] [.iptr [.ptr 2 0]]) ∧ t[9]? = some (.iptr [.int .i64 k, v, vd, .str [], .int .i64 0, .nilSl]) := by
          simp only [lp141, bodyOf, Tryz.f141, Cat, Zs, awanted, aoper, evalO, put, acallOp, abuiltin, Nat.reduceEqDiff, Nat.reduceLT, ofV, ofCell, ↓reduceIte, hl, i0, i1, i2, i3, i9, CP, bq1, bq2, bq3, bq4, Pz.bs52, TyP.own_parse_go_142, ey, hd, ex1, bd, TyP.cb_parse_go_143, bx, cl_a]
          exact ⟨_, rfl, by simp [hl], by simp [i0], by simp [i1], by simp [i2], by simp [i3], by simp [hl]⟩
        obtain ⟨t, e, tl, t0, t1, t2, t3, t9⟩ := pp
        have kk := ih r hwr (.mk k c d [] 0 []) _ (show rC (.mk k c d [] 0 []) (.iptr [.int .i64 k, v, vd, .str [], .int .i64 0, .nilSl]) from ⟨v, vd, .nilSl, rfl, hv, hvd, .nil⟩) t tl t0 t1 t2 t3 t9
        cases hq : chainRest k s p m (.mk k c d [] 0 []) r with
        | out => exact trivial
        | er f =>
          rw [hq] at kk
          obtain ⟨t', h', cs, e1, k1⟩ := kk
          exact ⟨t', h', cs, by rw [e_loop, e]; exact e1, k1⟩
        | ok l r' =>
          rw [hq] at kk
          obtain ⟨k0, t', v1, e1, k1⟩ := kk
          exact ⟨k0, t', v1, by rw [e_loop, e]; exact e1, k1⟩
theorem chainA (E : Mem w all) (k : Int) (s : Bs) {p : List Word → R CondT} (HP : ∀ ws, Wf all ws → Does 142 [.iptr [.ptr 2 0]] w all ws rC (p ws)) (hw : Wf all ws) : Does 141 [.ptr 2 0, .int .i64 k, .str s, .fn (.func 142) [] [.iptr [.ptr 2 0]]] w all ws rC (chain k s p ws) := by
  obtain ⟨a0, ha0⟩ : ∃ a0, a0 = slots Tryz.f141 [.ptr 2 0, .int .i64 k, .str s, .fn (.func 142) [] [.iptr [.ptr 2 0]]] := ⟨_, rfl⟩
  have hl : a0.length = 24 := by rw [ha0]; rfl
  have i0 : a0[0]? = some (.ptr 2 0) := by rw [ha0]; rfl
  have i1 : a0[1]? = some (.int .i64 k) := by rw [ha0]; rfl
  have i2 : a0[2]? = some (.str s) := by rw [ha0]; rfl
  have i3 : a0[3]? = some (.fn (.func 142) [] [.iptr [.ptr 2 0]]) := by rw [ha0]; rfl
  have hb : bodyOf Tryz.f141 = .seq (Cat [false] (bodyOf Tryz.f141)) (.seq (Cat [true, false] (bodyOf Tryz.f141)) (.seq (.block 0 (.loop lp141)) (Cat [true, true, true] (bodyOf Tryz.f141)))) := rfl
  unfold chain
  have dp := HP ws hw
  have p0 : ∃ t, ex Cp (Cat [false] (bodyOf Tryz.f141)) ⟨a0, H0 w all ws⟩ = some (.normal, ⟨t, H0 w all ws⟩) ∧ t.length = 24 ∧ t[0]? = some (.ptr 2 0) ∧ t[1]? = some (.int .i64 k) ∧ t[2]? = some (.str s) ∧ t[3]? = some (.fn (.func 142) [] [.iptr [.ptr 2 0]]) := by
    simp only [bodyOf, Tryz.f141, Cat, Zs, awanted, aoper, evalO, put, acallOp, abuiltin, Nat.reduceEqDiff, Nat.reduceLT, ofV, ofCell, ↓reduceIte, hl, i0, i1, i2, i3, CP]
    exact ⟨_, rfl, by simp [hl], by simp [i0], by simp [i1], by simp [i2], by simp [i3]⟩
  obtain ⟨t0, x0, tl0, t00, t01, t02, t03⟩ := p0
  cases hp : p ws with
  | out => exact trivial
  | er e =>
    rw [hp] at dp
    intro h hg
    obtain ⟨cs, hcs, ef⟩ := dp (H0 w all ws) At0.H0
    have pp : ∃ t, ex Cp (Cat [true, false] (bodyOf Tryz.f141)) ⟨t0, H0 w all ws⟩ = some (.pan (flt e), ⟨t, (H0 w all ws).set 2 (some (.arr cs))⟩) := by
      simp only [bodyOf, Tryz.f141, Cat, Zs, awanted, aoper, evalO, put, acallOp, abuiltin, Nat.reduceEqDiff, Nat.reduceLT, ofV, ofCell, ↓reduceIte, tl0, t00, t01, t02, t03, CP, ef, kc_pan]
      exact ⟨_, rfl⟩
    obtain ⟨t, e1⟩ := pp
    have he : ex Cp (bodyOf Tryz.f141) ⟨a0, H0 w all ws⟩ = some (.pan (flt e), ⟨t, (H0 w all ws).set 2 (some (.arr cs))⟩) := by
      rw [hb, e_seq, x0]
      simp only [k_seq]
      rw [e_seq, e1]
      rfl
    rw [ha0] at he
    exact dpan (f := 141) (args := [.ptr 2 0, .int .i64 k, .str s, .fn (.func 142) [] [.iptr [.ptr 2 0]]]) E hg Tryz.func141 rfl rfl rfl rfl rfl rfl he Heap.get_set_eq hcs
  | ok c r =>
    rw [hp] at dp
    obtain ⟨hwr, dp⟩ := dp
    obtain ⟨cv, hcv, ex1⟩ := dp (H0 w all ws) At0.H0
    rw [to_H0] at ex1
    have pp : ∃ t, ex Cp (Cat [true, false] (bodyOf Tryz.f141)) ⟨t0, H0 w all ws⟩ = some (.normal, ⟨t, H0 w all r⟩) ∧ t.length = 24 ∧ t[0]? = some (.ptr 2 0) ∧ t[1]? = some (.int .i64 k) ∧ t[2]? = some (.str s) ∧ t[3]? = some (.fn (.func 142) [] [.iptr [.ptr 2 0]]) ∧ t[9]? = some cv := by
      simp only [bodyOf, Tryz.f141, Cat, Zs, awanted, aoper, evalO, put, acallOp, abuiltin, Nat.reduceEqDiff, Nat.reduceLT, ofV, ofCell, ↓reduceIte, tl0, t00, t01, t02, t03, CP, ex1]
      exact ⟨_, rfl, by simp [tl0], by simp [t00], by simp [t01], by simp [t02], by simp [t03], by simp [tl0]⟩
    obtain ⟨t1, x1, tl1, t10, t11, t12, t13, t19⟩ := pp
    have kk := loop141A E k s HP (r.length + 1) r hwr c cv hcv t1 tl1 t10 t11 t12 t13 t19
    simp only [R.bind_ok]
    cases hq : chainRest k s p (r.length + 1) c r with
    | out => exact trivial
    | er f =>
      rw [hq] at kk
      intro h hg
      obtain ⟨t', h', cs, e1, k1, k2⟩ := kk
      have he : ex Cp (bodyOf Tryz.f141) ⟨a0, H0 w all ws⟩ = some (.pan (flt f), ⟨t', h'⟩) := by
        rw [hb, e_seq, x0]
        simp only [k_seq]
        rw [e_seq, x1]
        simp only [k_seq]
        rw [e_seq, e_block, e1]
        rfl
      rw [ha0] at he
      exact dpan (f := 141) (args := [.ptr 2 0, .int .i64 k, .str s, .fn (.func 142) [] [.iptr [.ptr 2 0]]]) E hg Tryz.func141 rfl rfl rfl rfl rfl rfl he k1 k2
    | ok d r' =>
      rw [hq] at kk
      obtain ⟨k0, t', v1, e1, k1, k2, k3⟩ := kk
      refine ⟨k0, fun h hg => ?_⟩
      have p3 : ∃ t, ex Cp (Cat [true, true, true] (bodyOf Tryz.f141)) ⟨t', H0 w all r'⟩ = some (.ret, ⟨t, H0 w all r'⟩) ∧ t[8]? = some v1 := by
        simp only [bodyOf, Tryz.f141, Cat, Zs, awanted, aoper, evalO, put, acallOp, abuiltin, Nat.reduceEqDiff, Nat.reduceLT, ofV, ofCell, ↓reduceIte, k1, k2, CP]
        exact ⟨_, rfl, by simp [k1]⟩
      obtain ⟨t3, x3, t38⟩ := p3
      have he : ex Cp (bodyOf Tryz.f141) ⟨a0, H0 w all ws⟩ = some (.ret, ⟨t3, H0 w all r'⟩) := by
        rw [hb, e_seq, x0]
        simp only [k_seq]
        rw [e_seq, x1]
        simp only [k_seq]
        rw [e_seq, e_block, e1]
        simp only [k_block_exit, if_true, k_seq]
        exact x3
      rw [ha0] at he
      exact ⟨strip v1, rCondT_str _ _ k3, dok (f := 141) (args := [.ptr 2 0, .int .i64 k, .str s, .fn (.func 142) [] [.iptr [.ptr 2 0]]]) (r := r') E hg Tryz.func141 rfl rfl rfl rfl rfl rfl he (.inl rfl) (vs := [v1]) (v := strip v1)
        (by simp only [show Tryz.f141.results.toList = [ResultVar.tmp 8] from rfl, aresults, ares1, t38]; rfl) (Nrm.of (w := v1) (by have := rCondT_ref _ _ k3; simpa [refsL] using this)) At0.H0⟩
theorem and_does (E : Mem w all) {p : List Word → R CondT} (HP : ∀ ws, Wf all ws → Does 143 [.ptr 2 0] w all ws rC (p ws)) (hw : Wf all ws) : Does 142 [.iptr [.ptr 2 0]] w all ws rC (chain 1 ([65, 78, 68] : List UInt8) p ws) := by
  have dp := chainN E 1 ([65, 78, 68] : List UInt8) HP hw
  obtain ⟨a0, ha0⟩ : ∃ a0, a0 = slots Tryz.f142 [.iptr [.ptr 2 0]] := ⟨_, rfl⟩
  have hl : a0.length = 6 := by rw [ha0]; rfl
  have i0 : a0[0]? = some (.iptr [.ptr 2 0]) := by rw [ha0]; rfl
  cases hp : chain 1 ([65, 78, 68] : List UInt8) p ws with
  | out => exact trivial
  | er e =>
    rw [hp] at dp
    intro h hg
    obtain ⟨cs, hcs, ef⟩ := dp (H0 w all ws) At0.H0
    have pp : ∃ t, ex Cp (bodyOf Tryz.f142) ⟨a0, H0 w all (ws)⟩ = some (.pan (flt e), ⟨t, (H0 w all ws).set 2 (some (.arr cs))⟩) := by
      simp only [bodyOf, Tryz.f142, Cat, Zs, awanted, aoper, evalO, put, acallOp, abuiltin, Nat.reduceEqDiff, Nat.reduceLT, ofV, ofCell, ↓reduceIte, hl, i0, CP, TyP.fa97_1, TyP.fa97_0, dropCells, Nat.zero_add, Nat.add_zero, TyP.ld3, TyP.ld9, TyP.st3, TyP.ld42, TyP.st42, TyP.ze42, Pz.f42_0, wv, Pz.bs52, TyP.ld95, ld_ip, ofc1, ef, kc_pan]
      exact ⟨_, rfl⟩
    obtain ⟨t, he⟩ := pp
    rw [ha0] at he
    exact dpan (f := 142) (args := [.iptr [.ptr 2 0]]) E hg Tryz.func142 rfl rfl rfl rfl rfl rfl he Heap.get_set_eq hcs
  | ok c r =>
    rw [hp] at dp
    obtain ⟨w1, dp⟩ := dp
    obtain ⟨v1, hv, e1⟩ := dp (H0 w all ws) At0.H0
    rw [to_H0] at e1
    refine ⟨w1, fun h hg => ?_⟩
    have hrf : refs v1 = [] := by have := rCondT_ref _ _ hv; simpa [refsL] using this
    have pp : ∃ t, ex Cp (bodyOf Tryz.f142) ⟨a0, H0 w all (ws)⟩ = some (.ret, ⟨t, H0 w all r⟩) ∧ t[1]? = some (v1) := by
      simp only [bodyOf, Tryz.f142, Cat, Zs, awanted, aoper, evalO, put, acallOp, abuiltin, Nat.reduceEqDiff, Nat.reduceLT, ofV, ofCell, ↓reduceIte, hl, i0, CP, TyP.fa97_1, TyP.fa97_0, dropCells, Nat.zero_add, Nat.add_zero, TyP.ld3, TyP.ld9, TyP.st3, TyP.ld42, TyP.st42, TyP.ze42, Pz.f42_0, wv, Pz.bs52, TyP.ld95, ld_ip, ofc1, e1]
      exact ⟨_, rfl, by simp [hl]⟩
    obtain ⟨t, he, ts⟩ := pp
    rw [ha0] at he
    exact ⟨strip (v1), rCondT_str _ _ hv, dok (f := 142) (args := [.iptr [.ptr 2 0]]) (r := r) E hg Tryz.func142 rfl rfl rfl rfl rfl rfl he (.inl rfl) (vs := [v1]) (v := strip (v1)) (by simp only [show Tryz.f142.results.toList = [ResultVar.tmp 1] from rfl, aresults, ares1, ts]; rfl) (Nrm.of (w := v1) (hrf)) (At0.H0)⟩
theorem or_does (E : Mem w all) {p : List Word → R CondT} (HP : ∀ ws, Wf all ws → Does 143 [.ptr 2 0] w all ws rC (p ws)) (hw : Wf all ws) : Does 111 [.ptr 2 0] w all ws rC (chain 2 ([79, 82] : List UInt8) (chain 1 ([65, 78, 68] : List UInt8) p) ws) := by
  have dp := chainA E 2 ([79, 82] : List UInt8) (fun ws hw => and_does E HP hw) hw
  have bx_p : (AVal.ptr 2 0).boxable = true := rfl
  have cl_p : (AVal.ptr 2 0).cells = [.ptr 2 0] := rfl
  obtain ⟨a0, ha0⟩ : ∃ a0, a0 = slots Tryz.f111 [.ptr 2 0] := ⟨_, rfl⟩
  have hl : a0.length = 6 := by rw [ha0]; rfl
  have i0 : a0[0]? = some (.ptr 2 0) := by rw [ha0]; rfl
  cases hp : chain 2 ([79, 82] : List UInt8) (chain 1 ([65, 78, 68] : List UInt8) p) ws with
  | out => exact trivial
  | er e =>
    rw [hp] at dp
    intro h hg
    obtain ⟨cs, hcs, ef⟩ := dp (H0 w all ws) At0.H0
    have pp : ∃ t, ex Cp (bodyOf Tryz.f111) ⟨a0, H0 w all (ws)⟩ = some (.pan (flt e), ⟨t, (H0 w all ws).set 2 (some (.arr cs))⟩) := by
      simp only [bodyOf, Tryz.f111, Cat, Zs, awanted, aoper, evalO, put, acallOp, abuiltin, Nat.reduceEqDiff, Nat.reduceLT, ofV, ofCell, ↓reduceIte, hl, i0, CP, TyP.fa97_1, TyP.fa97_0, dropCells, Nat.zero_add, Nat.add_zero, TyP.ld3, TyP.ld9, TyP.st3, TyP.ld42, TyP.st42, TyP.ze42, Pz.f42_0, wv, Pz.bs52, TyP.ld95, ld_ip, ofc1, TyP.cb_parse_go_148, bx_p, cl_p, ef, kc_pan]
      exact ⟨_, rfl⟩
    obtain ⟨t, he⟩ := pp
    rw [ha0] at he
    exact dpan (f := 111) (args := [.ptr 2 0]) E hg Tryz.func111 rfl rfl rfl rfl rfl rfl he Heap.get_set_eq hcs
  | ok c r =>
    rw [hp] at dp
    obtain ⟨w1, dp⟩ := dp
    obtain ⟨v1, hv, e1⟩ := dp (H0 w all ws) At0.H0
    rw [to_H0] at e1
    refine ⟨w1, fun h hg => ?_⟩
    have hrf : refs v1 = [] := by have := rCondT_ref _ _ hv; simpa [refsL] using this
    have pp : ∃ t, ex Cp (bodyOf Tryz.f111) ⟨a0, H0 w all (ws)⟩ = some (.ret, ⟨t, H0 w all r⟩) ∧ t[2]? = some (v1) := by
      simp only [bodyOf, Tryz.f111, Cat, Zs, awanted, aoper, evalO, put, acallOp, abuiltin, Nat.reduceEqDiff, Nat.reduceLT, ofV, ofCell, ↓reduceIte, hl, i0, CP, TyP.fa97_1, TyP.fa97_0, dropCells, Nat.zero_add, Nat.add_zero, TyP.ld3, TyP.ld9, TyP.st3, TyP.ld42, TyP.st42, TyP.ze42, Pz.f42_0, wv, Pz.bs52, TyP.ld95, ld_ip, ofc1, TyP.cb_parse_go_148, bx_p, cl_p, e1]
      exact ⟨_, rfl, by simp [hl]⟩
    obtain ⟨t, he, ts⟩ := pp
    rw [ha0] at he
    exact ⟨strip (v1), rCondT_str _ _ hv, dok (f := 111) (args := [.ptr 2 0]) (r := r) E hg Tryz.func111 rfl rfl rfl rfl rfl rfl he (.inl rfl) (vs := [v1]) (v := strip (v1)) (by simp only [show Tryz.f111.results.toList = [ResultVar.tmp 2] from rfl, aresults, ares1, ts]; rfl) (Nrm.of (w := v1) (hrf)) (At0.H0)⟩
theorem Pz.bs52b : abuildSlice Tryz.prog 52 2 [(0, .str ([78, 79, 84] : List UInt8)), (1, .str ([40] : List UInt8))] = some ([.str ([78, 79, 84] : List UInt8), .str ([40] : List UInt8)], 1) := by kernel_rfl
theorem not_does (E : Mem w all) : ∀ (n : Nat) (ws : List Word), Wf all ws → Does 143 [.ptr 2 0] w all ws rC (pNot n ws)
  | 0, _, _ => trivial
  | n + 1, ws, hw => by
    obtain ⟨a0, ha0⟩ : ∃ a0, a0 = slots Tryz.f143 [.ptr 2 0] := ⟨_, rfl⟩
    have hl : a0.length = 23 := by rw [ha0]; rfl
    have i0 : a0[0]? = some (.ptr 2 0) := by rw [ha0]; rfl
    unfold pNot
    cases hq : which [([78, 79, 84] : List UInt8), ([40] : List UInt8)] ws with
    | none =>
      have et : run Cp 110 [.ptr 2 0, .lst [.str ([78, 79, 84] : List UInt8), .str ([40] : List UInt8)] 2 .full] _ = _ := take_none E hw _ _ (litS_sl [([78, 79, 84] : List UInt8), ([40] : List UInt8)]) (litS_st _) (by decide) hq (At0.H0 (w := w) (all := all) (ws := ws))
      have c0 : ((-1 : Int) == 0) = false := rfl
      have c1 : ((-1 : Int) == 1) = false := rfl
      dsimp only
      have dp := test_does E hw
      cases hp : pTest ws with
      | out => exact trivial
      | er e =>
        rw [hp] at dp
        intro h hg
        obtain ⟨cs, hcs, ef⟩ := dp (H0 w all ws) At0.H0
        have pp : ∃ t, ex Cp (bodyOf Tryz.f143) ⟨a0, H0 w all (ws)⟩ = some (.pan (flt e), ⟨t, (H0 w all ws).set 2 (some (.arr cs))⟩) := by
          simp only [bodyOf, Tryz.f143, Cat, Zs, awanted, aoper, evalO, put, acallOp, abuiltin, Nat.reduceEqDiff, Nat.reduceLT, ofV, ofCell, ↓reduceIte, hl, i0, CP, TyP.fa97_1, TyP.fa97_0, dropCells, Nat.zero_add, Nat.add_zero, TyP.ld3, TyP.ld9, TyP.st3, TyP.ld42, TyP.st42, TyP.ze42, Pz.f42_0, wv, Pz.bs52, TyP.own_parse_go_128, TyP.own_parse_go_133, TyP.cb_parse_go_130, Pz.bs52b, et, c0, c1, ef, kc_pan]
          exact ⟨_, rfl⟩
        obtain ⟨t, he⟩ := pp
        rw [ha0] at he
        exact dpan (f := 143) (args := [.ptr 2 0]) E hg Tryz.func143 rfl rfl rfl rfl rfl rfl he Heap.get_set_eq hcs
      | ok c r =>
        rw [hp] at dp
        obtain ⟨w1, dp⟩ := dp
        obtain ⟨v1, hv, e1⟩ := dp (H0 w all ws) At0.H0
        rw [to_H0] at e1
        refine ⟨w1, fun h hg => ?_⟩
        have hrf : refs v1 = [] := by have := rCondT_ref _ _ hv; simpa [refsL] using this
        have pp : ∃ t, ex Cp (bodyOf Tryz.f143) ⟨a0, H0 w all (ws)⟩ = some (.ret, ⟨t, H0 w all r⟩) ∧ t[2]? = some (v1) := by
          simp only [bodyOf, Tryz.f143, Cat, Zs, awanted, aoper, evalO, put, acallOp, abuiltin, Nat.reduceEqDiff, Nat.reduceLT, ofV, ofCell, ↓reduceIte, hl, i0, CP, TyP.fa97_1, TyP.fa97_0, dropCells, Nat.zero_add, Nat.add_zero, TyP.ld3, TyP.ld9, TyP.st3, TyP.ld42, TyP.st42, TyP.ze42, Pz.f42_0, wv, Pz.bs52, TyP.own_parse_go_128, TyP.own_parse_go_133, TyP.cb_parse_go_130, Pz.bs52b, et, c0, c1, e1]
          exact ⟨_, rfl, by simp [hl]⟩
        obtain ⟨t, he, ts⟩ := pp
        rw [ha0] at he
        exact ⟨strip (v1), rCondT_str _ _ hv, dok (f := 143) (args := [.ptr 2 0]) (r := r) E hg Tryz.func143 rfl rfl rfl rfl rfl rfl he (.inl rfl) (vs := [v1]) (v := strip (v1)) (by simp only [show Tryz.f143.results.toList = [ResultVar.tmp 2] from rfl, aresults, ares1, ts]; rfl) (Nrm.of (w := v1) (hrf)) (At0.H0)⟩
    | some i =>
      have et : run Cp 110 [.ptr 2 0, .lst [.str ([78, 79, 84] : List UInt8), .str ([40] : List UInt8)] 2 .full] _ = _ := take_some E hw _ _ (litS_sl [([78, 79, 84] : List UInt8), ([40] : List UInt8)]) (litS_st _) (by decide) hq (At0.H0 (w := w) (all := all) (ws := ws))
      rw [to_H0] at et
      have hw1 := hw.which hq
      have hil := which_lt _ _ _ hq
      simp only [List.length_cons, List.length_nil] at hil
      cases i with
      | zero =>
        have c0 : (((0 : Nat) : Int) == 0) = true := rfl
        have dp := not_does E n (ws.drop 1) hw1
        cases hp : pNot n (ws.drop 1) with
        | out => exact trivial
        | er e =>
          rw [hp] at dp
          intro h hg
          obtain ⟨cs, hcs, ef⟩ := dp (H0 w all (ws.drop 1)) At0.H0
          have pp : ∃ t, ex Cp (bodyOf Tryz.f143) ⟨a0, H0 w all (ws)⟩ = some (.pan (flt e), ⟨t, (H0 w all (ws.drop 1)).set 2 (some (.arr cs))⟩) := by
            simp only [bodyOf, Tryz.f143, Cat, Zs, awanted, aoper, evalO, put, acallOp, abuiltin, Nat.reduceEqDiff, Nat.reduceLT, ofV, ofCell, ↓reduceIte, hl, i0, CP, TyP.fa97_1, TyP.fa97_0, dropCells, Nat.zero_add, Nat.add_zero, TyP.ld3, TyP.ld9, TyP.st3, TyP.ld42, TyP.st42, TyP.ze42, Pz.f42_0, wv, Pz.bs52, TyP.own_parse_go_128, TyP.own_parse_go_133, TyP.cb_parse_go_130, Pz.bs52b, et, c0, ef, kc_pan]
            exact ⟨_, rfl⟩
          obtain ⟨t, he⟩ := pp
          rw [ha0] at he
          exact dpan (f := 143) (args := [.ptr 2 0]) E hg Tryz.func143 rfl rfl rfl rfl rfl rfl he Heap.get_set_eq hcs
        | ok c r =>
          rw [hp] at dp
          obtain ⟨w1, dp⟩ := dp
          obtain ⟨v1, hv, e1⟩ := dp (H0 w all (ws.drop 1)) At0.H0
          rw [to_H0] at e1
          refine ⟨w1, fun h hg => ?_⟩
          have hrf : refs v1 = [] := by have := rCondT_ref _ _ hv; simpa [refsL] using this
          have bd := Pz.bd50n (rCondT_cell hv)
          have bx := Pz.bx50 3 (b := .nilPtr) (rCondT_cell hv) rfl
          have pp : ∃ t, ex Cp (bodyOf Tryz.f143) ⟨a0, H0 w all (ws)⟩ = some (.ret, ⟨t, H0 w all r⟩) ∧ t[2]? = some (.iptr [.int .i64 3, v1, .nilPtr, .str [], .int .i64 0, .nilSl]) := by
            simp only [bodyOf, Tryz.f143, Cat, Zs, awanted, aoper, evalO, put, acallOp, abuiltin, Nat.reduceEqDiff, Nat.reduceLT, ofV, ofCell, ↓reduceIte, hl, i0, CP, TyP.fa97_1, TyP.fa97_0, dropCells, Nat.zero_add, Nat.add_zero, TyP.ld3, TyP.ld9, TyP.st3, TyP.ld42, TyP.st42, TyP.ze42, Pz.f42_0, wv, Pz.bs52, TyP.own_parse_go_128, TyP.own_parse_go_133, TyP.cb_parse_go_130, Pz.bs52b, et, c0, e1, bd, bx, cl_a]
            exact ⟨_, rfl, by simp [hl]⟩
          obtain ⟨t, he, ts⟩ := pp
          rw [ha0] at he
          exact ⟨strip (.iptr [.int .i64 3, v1, .nilPtr, .str [], .int .i64 0, .nilSl]), ⟨strip v1, .nilPtr, .nilSl, rfl, rCondT_str _ _ hv, rfl, .nil⟩, dok (f := 143) (args := [.ptr 2 0]) (r := r) E hg Tryz.func143 rfl rfl rfl rfl rfl rfl he (.inl rfl) (vs := [.iptr [.int .i64 3, v1, .nilPtr, .str [], .int .i64 0, .nilSl]]) (v := strip (.iptr [.int .i64 3, v1, .nilPtr, .str [], .int .i64 0, .nilSl])) (by simp only [show Tryz.f143.results.toList = [ResultVar.tmp 2] from rfl, aresults, ares1, ts]; rfl) (Nrm.of (w := .iptr [.int .i64 3, v1, .nilPtr, .str [], .int .i64 0, .nilSl]) (by simp only [refs, refsL, hrf, List.append_nil, List.nil_append])) (At0.H0)⟩
      | succ i =>
        obtain rfl : i = 0 := by omega
        have c0 : (((0 + 1 : Nat) : Int) == 0) = false := rfl
        have c1 : (((0 + 1 : Nat) : Int) == 1) = true := rfl
        have dp := or_does E (not_does E n) hw1
        cases hp : chain 2 ([79, 82] : List UInt8) (chain 1 ([65, 78, 68] : List UInt8) (pNot n)) (ws.drop 1) with
        | out => exact trivial
        | er e =>
          rw [hp] at dp
          intro h hg
          obtain ⟨cs, hcs, ef⟩ := dp (H0 w all (ws.drop 1)) At0.H0
          have pp : ∃ t, ex Cp (bodyOf Tryz.f143) ⟨a0, H0 w all (ws)⟩ = some (.pan (flt e), ⟨t, (H0 w all (ws.drop 1)).set 2 (some (.arr cs))⟩) := by
            simp only [bodyOf, Tryz.f143, Cat, Zs, awanted, aoper, evalO, put, acallOp, abuiltin, Nat.reduceEqDiff, Nat.reduceLT, ofV, ofCell, ↓reduceIte, hl, i0, CP, TyP.fa97_1, TyP.fa97_0, dropCells, Nat.zero_add, Nat.add_zero, TyP.ld3, TyP.ld9, TyP.st3, TyP.ld42, TyP.st42, TyP.ze42, Pz.f42_0, wv, Pz.bs52, TyP.own_parse_go_128, TyP.own_parse_go_133, TyP.cb_parse_go_130, Pz.bs52b, et, c0, c1, ef, kc_pan]
            exact ⟨_, rfl⟩
          obtain ⟨t, he⟩ := pp
          rw [ha0] at he
          exact dpan (f := 143) (args := [.ptr 2 0]) E hg Tryz.func143 rfl rfl rfl rfl rfl rfl he Heap.get_set_eq hcs
        | ok c r =>
          rw [hp] at dp
          obtain ⟨w1, dp⟩ := dp
          obtain ⟨v1, hv, e1⟩ := dp (H0 w all (ws.drop 1)) At0.H0
          rw [to_H0] at e1
          rw [R.bind_ok]
          have d3 := must_lit E w1 [([41] : List UInt8)] (by decide)
          cases h3 : must [([41] : List UInt8)] r with
          | out => exact trivial
          | er e =>
            rw [h3] at d3
            intro h hg
            obtain ⟨cs, hcs, ef⟩ : Pn e _ (run Cp 106 [.ptr 2 0, .lst [.str ([41] : List UInt8)] 1 .full] _) := d3 (H0 w all r) At0.H0
            have pp : ∃ t, ex Cp (bodyOf Tryz.f143) ⟨a0, H0 w all (ws)⟩ = some (.pan (flt e), ⟨t, (H0 w all r).set 2 (some (.arr cs))⟩) := by
              simp only [bodyOf, Tryz.f143, Cat, Zs, awanted, aoper, evalO, put, acallOp, abuiltin, Nat.reduceEqDiff, Nat.reduceLT, ofV, ofCell, ↓reduceIte, hl, i0, CP, TyP.fa97_1, TyP.fa97_0, dropCells, Nat.zero_add, Nat.add_zero, TyP.ld3, TyP.ld9, TyP.st3, TyP.ld42, TyP.st42, TyP.ze42, Pz.f42_0, wv, Pz.bs52, TyP.own_parse_go_128, TyP.own_parse_go_133, TyP.cb_parse_go_130, Pz.bs52b, et, c0, c1, e1, ef, kc_pan]
              exact ⟨_, rfl⟩
            obtain ⟨t, he⟩ := pp
            rw [ha0] at he
            exact dpan (f := 143) (args := [.ptr 2 0]) E hg Tryz.func143 rfl rfl rfl rfl rfl rfl he Heap.get_set_eq hcs
          | ok u r3 =>
            rw [h3] at d3
            obtain ⟨w3, d3⟩ := d3
            obtain ⟨v3, rfl, e3⟩ := d3 (H0 w all r) At0.H0
            have e3 : run Cp 106 [.ptr 2 0, .lst [.str ([41] : List UInt8)] 1 .full] _ = _ := e3
            rw [to_H0] at e3
            refine ⟨w3, fun h hg => ?_⟩
            have hrf : refs v1 = [] := by have := rCondT_ref _ _ hv; simpa [refsL] using this
            have pp : ∃ t, ex Cp (bodyOf Tryz.f143) ⟨a0, H0 w all (ws)⟩ = some (.ret, ⟨t, H0 w all r3⟩) ∧ t[2]? = some (v1) := by
              simp only [bodyOf, Tryz.f143, Cat, Zs, awanted, aoper, evalO, put, acallOp, abuiltin, Nat.reduceEqDiff, Nat.reduceLT, ofV, ofCell, ↓reduceIte, hl, i0, CP, TyP.fa97_1, TyP.fa97_0, dropCells, Nat.zero_add, Nat.add_zero, TyP.ld3, TyP.ld9, TyP.st3, TyP.ld42, TyP.st42, TyP.ze42, Pz.f42_0, wv, Pz.bs52, TyP.own_parse_go_128, TyP.own_parse_go_133, TyP.cb_parse_go_130, Pz.bs52b, et, c0, c1, e1, e3]
              exact ⟨_, rfl, by simp [hl]⟩
            obtain ⟨t, he, ts⟩ := pp
            rw [ha0] at he
            exact ⟨strip (v1), rCondT_str _ _ hv, dok (f := 143) (args := [.ptr 2 0]) (r := r3) E hg Tryz.func143 rfl rfl rfl rfl rfl rfl he (.inl rfl) (vs := [v1]) (v := strip (v1)) (by simp only [show Tryz.f143.results.toList = [ResultVar.tmp 2] from rfl, aresults, ares1, ts]; rfl) (Nrm.of (w := v1) (hrf)) (At0.H0)⟩
end
end Go.Proofs.Q.Par



set_option linter.unusedSimpArgs false
set_option linter.unusedVariables false
set_option maxRecDepth 100000
namespace Go.Proofs.Q.Par
open Go Go.Am Go.Proofs
section
variable {w : AVal} {all ws : List Word}
theorem Pz.bs52p : abuildSlice Tryz.prog 52 2 [(0, .str ([40] : List UInt8)), (1, .str ([41] : List UInt8))] = some ([.str ([40] : List UInt8), .str ([41] : List UInt8)], 1) := by kernel_rfl
theorem Pz.bs52r : abuildSlice Tryz.prog 52 3 [(0, .str ([82, 79, 76, 76, 85, 80] : List UInt8)), (1, .str ([67, 85, 66, 69] : List UInt8)), (2, .str ([71, 82, 79, 85, 80, 73, 78, 71] : List UInt8))] = some ([.str ([82, 79, 76, 76, 85, 80] : List UInt8), .str ([67, 85, 66, 69] : List UInt8), .str ([71, 82, 79, 85, 80, 73, 78, 71] : List UInt8)], 1) := by kernel_rfl
theorem Pz.bs52g : abuildSlice Tryz.prog 52 2 [(0, .str ([83, 69, 84, 83] : List UInt8)), (1, .str ([40] : List UInt8))] = some ([.str ([83, 69, 84, 83] : List UInt8), .str ([40] : List UInt8)], 1) := by kernel_rfl
theorem cells_one {v : AVal} (h : v.isCell = true) : v.cells = [v] ∧ v.boxable = true := by cases v <;> first | exact ⟨rfl, rfl⟩ | simp [AVal.isCell] at h
theorem rfl_cells {l : List Bs} {v : AVal} (h : Sl rS l v) : (strip v).cells = [strip v] := (cells_one (h.strip rS_p).isCell).1
theorem len_cells {l : List Bs} {v : AVal} (h : Sl rS l v) : (strip v).cells.length = 1 := by rw [rfl_cells h]; rfl
theorem box_cells {l : List Bs} {v : AVal} (h : Sl rS l v) : (strip v).boxable = true := (cells_one (h.strip rS_p).isCell).2
theorem set_does (E : Mem w all) (hw : Wf all ws) : Does 147 [.ptr 2 0] w all ws (El (rSl rS) 1) (pSet ws) := by
  obtain ⟨x, r0, rfl⟩ := hw.cons
  obtain ⟨a0, ha0⟩ : ∃ a0, a0 = slots Tryz.f147 [.ptr 2 0] := ⟨_, rfl⟩
  have hl : a0.length = 47 := by rw [ha0]; rfl
  have i0 : a0[0]? = some (.ptr 2 0) := by rw [ha0]; rfl
  have ew := word_run E hw (At0.H0 (w := w) (all := all) (ws := x :: r0))
  have ei := is_run E hw ([40] : List UInt8) (At0.H0 (w := w) (all := all) (ws := x :: r0))
  have l0 : loadA (H0 w all (x :: r0)) false 1 (.ptr 2 0) = some w := Heap.load_at At0.H0 rfl
  have l1 : loadA (H0 w all (x :: r0)) false 1 (.ptr 2 1) = some (.int .i64 ((all.length - (x :: r0).length : Nat) : Int)) := Heap.load_at At0.H0 rfl
  have hx1 := all_next hw
  unfold pSet
  by_cases hk : hKind (x :: r0) = 1
  · rw [if_pos hk]
    have hk' : x.Kind = 1 := hk
    have hd : (x.Kind == 1) = true := by simp [hk']
    have hn : pName (x :: r0) = .ok x.Text r0 := by simp [pName, ofKind, hk']
    have d1 := name_does E hw
    rw [hn] at d1 ⊢
    obtain ⟨w1, d1⟩ := d1
    obtain ⟨v1, rfl, e1⟩ := d1 (H0 w all (x :: r0)) At0.H0
    rw [to_H0] at e1
    rw [R.bind_ok]
    refine ⟨w1, fun h hg => ?_⟩
    have pp : ∃ t, ex Cp (bodyOf Tryz.f147) ⟨a0, H0 w all (x :: r0)⟩ = some (.ret, ⟨t, H0 w all r0⟩) ∧ t[2]? = some (.lst [.str x.Text] 1 .full) := by
      simp only [bodyOf, Tryz.f147, Cat, Zs, awanted, aoper, evalO, put, acallOp, abuiltin, Nat.reduceEqDiff, Nat.reduceLT, ofV, ofCell, ↓reduceIte, hl, i0, CP, TyP.fa97_1, TyP.fa97_0, dropCells, Nat.zero_add, Nat.add_zero, TyP.ld3, TyP.ld9, TyP.st3, TyP.ld42, TyP.st42, TyP.ze42, Pz.f42_0, wv, Pz.bs52, bq1, bq2, bq3, bq4, List.append_eq, TyP.own_parse_go_154, TyP.own_parse_go_157, Pz.bs52p, TyP.ld38, TyP.ix38, ld_ip, ofc1, TyP.fa42_0, TyP.fa42_1, List.drop_succ_cons, List.drop_zero, eql_s, ew, hd, e1]
      exact ⟨_, rfl, by simp [hl]⟩
    obtain ⟨t, he, ts⟩ := pp
    rw [ha0] at he
    exact ⟨.lst [.str x.Text] 1 .full, ⟨⟨_, rfl, litS_sl [x.Text]⟩, rfl, rfl⟩, dok (f := 147) (args := [.ptr 2 0]) (r := r0) E hg Tryz.func147 rfl rfl rfl rfl rfl rfl he (.inl rfl) (vs := [.lst [.str x.Text] 1 .full]) (v := .lst [.str x.Text] 1 .full) (by simp only [show Tryz.f147.results.toList = [ResultVar.tmp 2] from rfl, aresults, ares1, ts]; rfl) (Nrm.of (w := .lst [.str x.Text] 1 .full) (rfl)) (At0.H0)⟩
  · rw [if_neg hk]
    have hd : (x.Kind == 1) = false := beq_eq_false_iff_ne.2 hk
    cases hq : isH ([40] : List UInt8) (x :: r0) with
    | false =>
      rw [hq] at ei
      rw [if_neg (by simp)]
      have dp := names_does E hw
      cases hp : pNames (x :: r0) with
      | out => exact trivial
      | er e =>
        rw [hp] at dp
        intro h hg
        obtain ⟨cs, hcs, ef⟩ := dp (H0 w all (x :: r0)) At0.H0
        have pp : ∃ t, ex Cp (bodyOf Tryz.f147) ⟨a0, H0 w all (x :: r0)⟩ = some (.pan (flt e), ⟨t, (H0 w all (x :: r0)).set 2 (some (.arr cs))⟩) := by
          simp only [bodyOf, Tryz.f147, Cat, Zs, awanted, aoper, evalO, put, acallOp, abuiltin, Nat.reduceEqDiff, Nat.reduceLT, ofV, ofCell, ↓reduceIte, hl, i0, CP, TyP.fa97_1, TyP.fa97_0, dropCells, Nat.zero_add, Nat.add_zero, TyP.ld3, TyP.ld9, TyP.st3, TyP.ld42, TyP.st42, TyP.ze42, Pz.f42_0, wv, Pz.bs52, bq1, bq2, bq3, bq4, List.append_eq, TyP.own_parse_go_154, TyP.own_parse_go_157, Pz.bs52p, TyP.ld38, TyP.ix38, ld_ip, ofc1, TyP.fa42_0, TyP.fa42_1, List.drop_succ_cons, List.drop_zero, eql_s, ew, hd, ei, ef, kc_pan]
          rw [k_draw _ _ _ (by kernel_rfl)]
          simp only [bodyOf, Tryz.f147, Cat, Zs, awanted, aoper, evalO, put, acallOp, abuiltin, Nat.reduceEqDiff, Nat.reduceLT, ofV, ofCell, ↓reduceIte, hl, i0, CP, TyP.fa97_1, TyP.fa97_0, dropCells, Nat.zero_add, Nat.add_zero, TyP.ld3, TyP.ld9, TyP.st3, TyP.ld42, TyP.st42, TyP.ze42, Pz.f42_0, wv, Pz.bs52, bq1, bq2, bq3, bq4, List.append_eq, TyP.own_parse_go_154, TyP.own_parse_go_157, Pz.bs52p, TyP.ld38, TyP.ix38, ld_ip, ofc1, TyP.fa42_0, TyP.fa42_1, List.drop_succ_cons, List.drop_zero, eql_s, ew, hd, ei, ef, kc_pan]
          exact ⟨_, rfl⟩
        obtain ⟨t, he⟩ := pp
        rw [ha0] at he
        exact dpan (f := 147) (args := [.ptr 2 0]) E hg Tryz.func147 rfl rfl rfl rfl rfl rfl he Heap.get_set_eq hcs
      | ok l r =>
        rw [hp] at dp
        obtain ⟨w1, dp⟩ := dp
        obtain ⟨v1, hv, e1⟩ := dp (H0 w all (x :: r0)) At0.H0
        rw [to_H0] at e1
        refine ⟨w1, fun h hg => ?_⟩
        have pp : ∃ t, ex Cp (bodyOf Tryz.f147) ⟨a0, H0 w all (x :: r0)⟩ = some (.ret, ⟨t, H0 w all r⟩) ∧ t[2]? = some (v1) := by
          simp only [bodyOf, Tryz.f147, Cat, Zs, awanted, aoper, evalO, put, acallOp, abuiltin, Nat.reduceEqDiff, Nat.reduceLT, ofV, ofCell, ↓reduceIte, hl, i0, CP, TyP.fa97_1, TyP.fa97_0, dropCells, Nat.zero_add, Nat.add_zero, TyP.ld3, TyP.ld9, TyP.st3, TyP.ld42, TyP.st42, TyP.ze42, Pz.f42_0, wv, Pz.bs52, bq1, bq2, bq3, bq4, List.append_eq, TyP.own_parse_go_154, TyP.own_parse_go_157, Pz.bs52p, TyP.ld38, TyP.ix38, ld_ip, ofc1, TyP.fa42_0, TyP.fa42_1, List.drop_succ_cons, List.drop_zero, eql_s, ew, hd, ei, e1]
          rw [k_draw _ _ _ (by kernel_rfl)]
          simp only [bodyOf, Tryz.f147, Cat, Zs, awanted, aoper, evalO, put, acallOp, abuiltin, Nat.reduceEqDiff, Nat.reduceLT, ofV, ofCell, ↓reduceIte, hl, i0, CP, TyP.fa97_1, TyP.fa97_0, dropCells, Nat.zero_add, Nat.add_zero, TyP.ld3, TyP.ld9, TyP.st3, TyP.ld42, TyP.st42, TyP.ze42, Pz.f42_0, wv, Pz.bs52, bq1, bq2, bq3, bq4, List.append_eq, TyP.own_parse_go_154, TyP.own_parse_go_157, Pz.bs52p, TyP.ld38, TyP.ix38, ld_ip, ofc1, TyP.fa42_0, TyP.fa42_1, List.drop_succ_cons, List.drop_zero, eql_s, ew, hd, ei, e1]
          exact ⟨_, rfl, by simp [hl]⟩
        obtain ⟨t, he, ts⟩ := pp
        rw [ha0] at he
        exact ⟨strip (v1), ⟨⟨_, rfl_cells hv, hv.strip rS_p⟩, len_cells hv, box_cells hv⟩, dok (f := 147) (args := [.ptr 2 0]) (r := r) E hg Tryz.func147 rfl rfl rfl rfl rfl rfl he (.inl rfl) (vs := [v1]) (v := strip (v1)) (by simp only [show Tryz.f147.results.toList = [ResultVar.tmp 2] from rfl, aresults, ares1, ts]; rfl) (Nrm.of (w := v1) (hv.refs rS_p)) (At0.H0)⟩
    | true =>
      rw [hq] at ei
      have hw0 : Wf all r0 := hw.isH hq
      obtain ⟨y, r1, rfl⟩ := hw0.cons
      obtain ⟨d, hi⟩ := E.hd hw0
      simp only [List.drop_succ_cons, List.drop_zero]
      cases h5 : (y.Kind == 5) with
      | false =>
        rw [if_neg (by
          rintro ⟨_, h, _⟩
          have h : y.Kind = 5 := h
          simp [h] at h5)]
        have dp := names_does E hw
        cases hp : pNames (x :: y :: r1) with
        | out => exact trivial
        | er e =>
          rw [hp] at dp
          intro h hg
          obtain ⟨cs, hcs, ef⟩ := dp (H0 w all (x :: y :: r1)) At0.H0
          have pp : ∃ t, ex Cp (bodyOf Tryz.f147) ⟨a0, H0 w all (x :: y :: r1)⟩ = some (.pan (flt e), ⟨t, (H0 w all (x :: y :: r1)).set 2 (some (.arr cs))⟩) := by
            simp only [bodyOf, Tryz.f147, Cat, Zs, awanted, aoper, evalO, put, acallOp, abuiltin, Nat.reduceEqDiff, Nat.reduceLT, ofV, ofCell, ↓reduceIte, hl, i0, CP, TyP.fa97_1, TyP.fa97_0, dropCells, Nat.zero_add, Nat.add_zero, TyP.ld3, TyP.ld9, TyP.st3, TyP.ld42, TyP.st42, TyP.ze42, Pz.f42_0, wv, Pz.bs52, bq1, bq2, bq3, bq4, List.append_eq, TyP.own_parse_go_154, TyP.own_parse_go_157, Pz.bs52p, TyP.ld38, TyP.ix38, ld_ip, ofc1, TyP.fa42_0, TyP.fa42_1, List.drop_succ_cons, List.drop_zero, eql_s, ew, hd, ei, l0, l1, hx1, hi, h5, ef, kc_pan]
            rw [k_draw _ _ _ (by kernel_rfl)]
            simp only [bodyOf, Tryz.f147, Cat, Zs, awanted, aoper, evalO, put, acallOp, abuiltin, Nat.reduceEqDiff, Nat.reduceLT, ofV, ofCell, ↓reduceIte, hl, i0, CP, TyP.fa97_1, TyP.fa97_0, dropCells, Nat.zero_add, Nat.add_zero, TyP.ld3, TyP.ld9, TyP.st3, TyP.ld42, TyP.st42, TyP.ze42, Pz.f42_0, wv, Pz.bs52, bq1, bq2, bq3, bq4, List.append_eq, TyP.own_parse_go_154, TyP.own_parse_go_157, Pz.bs52p, TyP.ld38, TyP.ix38, ld_ip, ofc1, TyP.fa42_0, TyP.fa42_1, List.drop_succ_cons, List.drop_zero, eql_s, ew, hd, ei, l0, l1, hx1, hi, h5, ef, kc_pan]
            exact ⟨_, rfl⟩
          obtain ⟨t, he⟩ := pp
          rw [ha0] at he
          exact dpan (f := 147) (args := [.ptr 2 0]) E hg Tryz.func147 rfl rfl rfl rfl rfl rfl he Heap.get_set_eq hcs
        | ok l r =>
          rw [hp] at dp
          obtain ⟨w1, dp⟩ := dp
          obtain ⟨v1, hv, e1⟩ := dp (H0 w all (x :: y :: r1)) At0.H0
          rw [to_H0] at e1
          refine ⟨w1, fun h hg => ?_⟩
          have pp : ∃ t, ex Cp (bodyOf Tryz.f147) ⟨a0, H0 w all (x :: y :: r1)⟩ = some (.ret, ⟨t, H0 w all r⟩) ∧ t[2]? = some (v1) := by
            simp only [bodyOf, Tryz.f147, Cat, Zs, awanted, aoper, evalO, put, acallOp, abuiltin, Nat.reduceEqDiff, Nat.reduceLT, ofV, ofCell, ↓reduceIte, hl, i0, CP, TyP.fa97_1, TyP.fa97_0, dropCells, Nat.zero_add, Nat.add_zero, TyP.ld3, TyP.ld9, TyP.st3, TyP.ld42, TyP.st42, TyP.ze42, Pz.f42_0, wv, Pz.bs52, bq1, bq2, bq3, bq4, List.append_eq, TyP.own_parse_go_154, TyP.own_parse_go_157, Pz.bs52p, TyP.ld38, TyP.ix38, ld_ip, ofc1, TyP.fa42_0, TyP.fa42_1, List.drop_succ_cons, List.drop_zero, eql_s, ew, hd, ei, l0, l1, hx1, hi, h5, e1]
            rw [k_draw _ _ _ (by kernel_rfl)]
            simp only [bodyOf, Tryz.f147, Cat, Zs, awanted, aoper, evalO, put, acallOp, abuiltin, Nat.reduceEqDiff, Nat.reduceLT, ofV, ofCell, ↓reduceIte, hl, i0, CP, TyP.fa97_1, TyP.fa97_0, dropCells, Nat.zero_add, Nat.add_zero, TyP.ld3, TyP.ld9, TyP.st3, TyP.ld42, TyP.st42, TyP.ze42, Pz.f42_0, wv, Pz.bs52, bq1, bq2, bq3, bq4, List.append_eq, TyP.own_parse_go_154, TyP.own_parse_go_157, Pz.bs52p, TyP.ld38, TyP.ix38, ld_ip, ofc1, TyP.fa42_0, TyP.fa42_1, List.drop_succ_cons, List.drop_zero, eql_s, ew, hd, ei, l0, l1, hx1, hi, h5, e1]
            exact ⟨_, rfl, by simp [hl]⟩
          obtain ⟨t, he, ts⟩ := pp
          rw [ha0] at he
          exact ⟨strip (v1), ⟨⟨_, rfl_cells hv, hv.strip rS_p⟩, len_cells hv, box_cells hv⟩, dok (f := 147) (args := [.ptr 2 0]) (r := r) E hg Tryz.func147 rfl rfl rfl rfl rfl rfl he (.inl rfl) (vs := [v1]) (v := strip (v1)) (by simp only [show Tryz.f147.results.toList = [ResultVar.tmp 2] from rfl, aresults, ares1, ts]; rfl) (Nrm.of (w := v1) (hv.refs rS_p)) (At0.H0)⟩
      | true =>
        have h5' : y.Kind = 5 := by simpa using h5
        have hy : isH ([41] : List UInt8) (y :: r1) = (y.Text == ([41] : List UInt8)) := by simp [isH, isW, h5']
        cases hc : (y.Text == ([41] : List UInt8)) with
        | false =>
          rw [if_neg (by rw [hy, hc]; simp)]
          have dp := names_does E hw
          cases hp : pNames (x :: y :: r1) with
          | out => exact trivial
          | er e =>
            rw [hp] at dp
            intro h hg
            obtain ⟨cs, hcs, ef⟩ := dp (H0 w all (x :: y :: r1)) At0.H0
            have pp : ∃ t, ex Cp (bodyOf Tryz.f147) ⟨a0, H0 w all (x :: y :: r1)⟩ = some (.pan (flt e), ⟨t, (H0 w all (x :: y :: r1)).set 2 (some (.arr cs))⟩) := by
              simp only [bodyOf, Tryz.f147, Cat, Zs, awanted, aoper, evalO, put, acallOp, abuiltin, Nat.reduceEqDiff, Nat.reduceLT, ofV, ofCell, ↓reduceIte, hl, i0, CP, TyP.fa97_1, TyP.fa97_0, dropCells, Nat.zero_add, Nat.add_zero, TyP.ld3, TyP.ld9, TyP.st3, TyP.ld42, TyP.st42, TyP.ze42, Pz.f42_0, wv, Pz.bs52, bq1, bq2, bq3, bq4, List.append_eq, TyP.own_parse_go_154, TyP.own_parse_go_157, Pz.bs52p, TyP.ld38, TyP.ix38, ld_ip, ofc1, TyP.fa42_0, TyP.fa42_1, List.drop_succ_cons, List.drop_zero, eql_s, ew, hd, ei, l0, l1, hx1, hi, h5, hc, ef, kc_pan]
              rw [k_draw _ _ _ (by kernel_rfl)]
              simp only [bodyOf, Tryz.f147, Cat, Zs, awanted, aoper, evalO, put, acallOp, abuiltin, Nat.reduceEqDiff, Nat.reduceLT, ofV, ofCell, ↓reduceIte, hl, i0, CP, TyP.fa97_1, TyP.fa97_0, dropCells, Nat.zero_add, Nat.add_zero, TyP.ld3, TyP.ld9, TyP.st3, TyP.ld42, TyP.st42, TyP.ze42, Pz.f42_0, wv, Pz.bs52, bq1, bq2, bq3, bq4, List.append_eq, TyP.own_parse_go_154, TyP.own_parse_go_157, Pz.bs52p, TyP.ld38, TyP.ix38, ld_ip, ofc1, TyP.fa42_0, TyP.fa42_1, List.drop_succ_cons, List.drop_zero, eql_s, ew, hd, ei, l0, l1, hx1, hi, h5, hc, ef, kc_pan]
              exact ⟨_, rfl⟩
            obtain ⟨t, he⟩ := pp
            rw [ha0] at he
            exact dpan (f := 147) (args := [.ptr 2 0]) E hg Tryz.func147 rfl rfl rfl rfl rfl rfl he Heap.get_set_eq hcs
          | ok l r =>
            rw [hp] at dp
            obtain ⟨w1, dp⟩ := dp
            obtain ⟨v1, hv, e1⟩ := dp (H0 w all (x :: y :: r1)) At0.H0
            rw [to_H0] at e1
            refine ⟨w1, fun h hg => ?_⟩
            have pp : ∃ t, ex Cp (bodyOf Tryz.f147) ⟨a0, H0 w all (x :: y :: r1)⟩ = some (.ret, ⟨t, H0 w all r⟩) ∧ t[2]? = some (v1) := by
              simp only [bodyOf, Tryz.f147, Cat, Zs, awanted, aoper, evalO, put, acallOp, abuiltin, Nat.reduceEqDiff, Nat.reduceLT, ofV, ofCell, ↓reduceIte, hl, i0, CP, TyP.fa97_1, TyP.fa97_0, dropCells, Nat.zero_add, Nat.add_zero, TyP.ld3, TyP.ld9, TyP.st3, TyP.ld42, TyP.st42, TyP.ze42, Pz.f42_0, wv, Pz.bs52, bq1, bq2, bq3, bq4, List.append_eq, TyP.own_parse_go_154, TyP.own_parse_go_157, Pz.bs52p, TyP.ld38, TyP.ix38, ld_ip, ofc1, TyP.fa42_0, TyP.fa42_1, List.drop_succ_cons, List.drop_zero, eql_s, ew, hd, ei, l0, l1, hx1, hi, h5, hc, e1]
              rw [k_draw _ _ _ (by kernel_rfl)]
              simp only [bodyOf, Tryz.f147, Cat, Zs, awanted, aoper, evalO, put, acallOp, abuiltin, Nat.reduceEqDiff, Nat.reduceLT, ofV, ofCell, ↓reduceIte, hl, i0, CP, TyP.fa97_1, TyP.fa97_0, dropCells, Nat.zero_add, Nat.add_zero, TyP.ld3, TyP.ld9, TyP.st3, TyP.ld42, TyP.st42, TyP.ze42, Pz.f42_0, wv, Pz.bs52, bq1, bq2, bq3, bq4, List.append_eq, TyP.own_parse_go_154, TyP.own_parse_go_157, Pz.bs52p, TyP.ld38, TyP.ix38, ld_ip, ofc1, TyP.fa42_0, TyP.fa42_1, List.drop_succ_cons, List.drop_zero, eql_s, ew, hd, ei, l0, l1, hx1, hi, h5, hc, e1]
              exact ⟨_, rfl, by simp [hl]⟩
            obtain ⟨t, he, ts⟩ := pp
            rw [ha0] at he
            exact ⟨strip (v1), ⟨⟨_, rfl_cells hv, hv.strip rS_p⟩, len_cells hv, box_cells hv⟩, dok (f := 147) (args := [.ptr 2 0]) (r := r) E hg Tryz.func147 rfl rfl rfl rfl rfl rfl he (.inl rfl) (vs := [v1]) (v := strip (v1)) (by simp only [show Tryz.f147.results.toList = [ResultVar.tmp 2] from rfl, aresults, ares1, ts]; rfl) (Nrm.of (w := v1) (hv.refs rS_p)) (At0.H0)⟩
        | true =>
          rw [if_pos ⟨by simp, h5', by rw [hy, hc]⟩]
          have hm : must [([40] : List UInt8), ([41] : List UInt8)] (x :: y :: r1) = .ok () r1 := by
            simp only [must, hq, if_true, List.drop_succ_cons, List.drop_zero, hy, hc]
          have dp := must_lit E hw [([40] : List UInt8), ([41] : List UInt8)] (by decide)
          rw [hm] at dp
          obtain ⟨w1, dp⟩ := dp
          obtain ⟨v1, rfl, e1⟩ := dp (H0 w all (x :: y :: r1)) At0.H0
          have e1 : run Cp 106 [.ptr 2 0, .lst [.str ([40] : List UInt8), .str ([41] : List UInt8)] 2 .full] _ = _ := e1
          rw [to_H0] at e1
          refine ⟨w1, fun h hg => ?_⟩
          have pp : ∃ t, ex Cp (bodyOf Tryz.f147) ⟨a0, H0 w all (x :: y :: r1)⟩ = some (.ret, ⟨t, H0 w all r1⟩) ∧ t[2]? = some (.nilSl) := by
            simp only [bodyOf, Tryz.f147, Cat, Zs, awanted, aoper, evalO, put, acallOp, abuiltin, Nat.reduceEqDiff, Nat.reduceLT, ofV, ofCell, ↓reduceIte, hl, i0, CP, TyP.fa97_1, TyP.fa97_0, dropCells, Nat.zero_add, Nat.add_zero, TyP.ld3, TyP.ld9, TyP.st3, TyP.ld42, TyP.st42, TyP.ze42, Pz.f42_0, wv, Pz.bs52, bq1, bq2, bq3, bq4, List.append_eq, TyP.own_parse_go_154, TyP.own_parse_go_157, Pz.bs52p, TyP.ld38, TyP.ix38, ld_ip, ofc1, TyP.fa42_0, TyP.fa42_1, List.drop_succ_cons, List.drop_zero, eql_s, ew, hd, ei, l0, l1, hx1, hi, h5, hc, e1]
            rw [k_draw _ _ _ (by kernel_rfl)]
            simp only [bodyOf, Tryz.f147, Cat, Zs, awanted, aoper, evalO, put, acallOp, abuiltin, Nat.reduceEqDiff, Nat.reduceLT, ofV, ofCell, ↓reduceIte, hl, i0, CP, TyP.fa97_1, TyP.fa97_0, dropCells, Nat.zero_add, Nat.add_zero, TyP.ld3, TyP.ld9, TyP.st3, TyP.ld42, TyP.st42, TyP.ze42, Pz.f42_0, wv, Pz.bs52, bq1, bq2, bq3, bq4, List.append_eq, TyP.own_parse_go_154, TyP.own_parse_go_157, Pz.bs52p, TyP.ld38, TyP.ix38, ld_ip, ofc1, TyP.fa42_0, TyP.fa42_1, List.drop_succ_cons, List.drop_zero, eql_s, ew, hd, ei, l0, l1, hx1, hi, h5, hc, e1]
            exact ⟨_, rfl, by simp [hl]⟩
          obtain ⟨t, he, ts⟩ := pp
          rw [ha0] at he
          exact ⟨.nilSl, ⟨⟨_, rfl, .nil⟩, rfl, rfl⟩, dok (f := 147) (args := [.ptr 2 0]) (r := r1) E hg Tryz.func147 rfl rfl rfl rfl rfl rfl he (.inl rfl) (vs := [.nilSl]) (v := .nilSl) (by simp only [show Tryz.f147.results.toList = [ResultVar.tmp 2] from rfl, aresults, ares1, ts]; rfl) (Nrm.of (w := .nilSl) (rfl)) (At0.H0)⟩
end
end Go.Proofs.Q.Par



set_option linter.unusedSimpArgs false
set_option linter.unusedVariables false
set_option maxRecDepth 100000
namespace Go.Proofs.Q.Par
open Go Go.Am Go.Proofs
section
variable {w : AVal} {all ws : List Word}
namespace Pz
theorem la65 (h : AHeap) (p : AVal) : aload Tryz.prog h 65 p = loadA h true 3 p := by kernel_rfl
theorem ab65 : abox (H0 w all ws) (.agg [.int .i64 0, .nilSl, .nilSl]) = some (.ptr 3 0, hB w all ws [.int .i64 0, .nilSl, .nilSl]) := rfl
theorem bd65a (k : Int) {a : AVal} (ha : a.isCell = true) : abuild Tryz.prog 65 [(0, .int .i64 k), (1, a)] = some (.agg [.int .i64 k, a, .nilSl]) := by
  obtain ⟨ca, ba⟩ := cells_one ha
  rw [TyP.bu65]
  simp [fillA, ca, ba, setRange, cl_i, bx_i]
theorem bd65b (k : Int) {a : AVal} (ha : a.isCell = true) : abuild Tryz.prog 65 [(0, .int .i64 k), (2, a)] = some (.agg [.int .i64 k, .nilSl, a]) := by
  obtain ⟨ca, ba⟩ := cells_one ha
  rw [TyP.bu65]
  simp [fillA, ca, ba, setRange, cl_i, bx_i]
end Pz
theorem el_a (k : Int) {l : List Bs} {v : AVal} (hv : Sl rS l v) : El rGroup 3 ⟨k, l, []⟩ (strip (.agg [.int .i64 k, v, .nilSl])) :=
  ⟨⟨strip v, .nilSl, rfl, hv.strip rS_p, .nil⟩, rfl, by show (AVal.agg [.int .i64 k, strip v, .nilSl]).boxable = true; simp only [AVal.boxable, List.all_cons, List.all_nil, (hv.strip rS_p).isCell]; rfl⟩
theorem el_b (k : Int) {l : List (List Bs)} {v : AVal} (hv : Sl (rSl rS) l v) : El rGroup 3 ⟨k, [], l⟩ (strip (.agg [.int .i64 k, .nilSl, v])) :=
  ⟨⟨.nilSl, strip v, rfl, .nil, hv.strip (rSl_p rS_p)⟩, rfl, by show (AVal.agg [.int .i64 k, .nilSl, strip v]).boxable = true; simp only [AVal.boxable, List.all_cons, List.all_nil, (hv.strip (rSl_p rS_p)).isCell]; rfl⟩
theorem element_does (E : Mem w all) (hw : Wf all ws) : Does 113 [.ptr 2 0] w all ws (El rGroup 3) (pElement ws) := by
  obtain ⟨x, r0, rfl⟩ := hw.cons
  obtain ⟨a0, ha0⟩ : ∃ a0, a0 = slots Tryz.f113 [.ptr 2 0] := ⟨_, rfl⟩
  have hl : a0.length = 42 := by rw [ha0]; rfl
  have i0 : a0[0]? = some (.ptr 2 0) := by rw [ha0]; rfl
  have ew := word_run E hw (hB_at (w := w) (all := all) (ws := x :: r0) (c := [.int .i64 0, .nilSl, .nilSl]))
  unfold pElement
  by_cases hk : hKind (x :: r0) = 1
  · rw [if_pos hk]
    have hk' : x.Kind = 1 := hk
    have hd : (x.Kind == 1) = true := by simp [hk']
    have hn : pName (x :: r0) = .ok x.Text r0 := by simp [pName, ofKind, hk']
    have d1 := name_does E hw
    rw [hn] at d1 ⊢
    obtain ⟨w1, d1⟩ := d1
    obtain ⟨v1, rfl, e1⟩ := d1 (hB w all (x :: r0) [.int .i64 0, .nilSl, .nilSl]) hB_at
    rw [R.bind_ok]
    refine ⟨w1, fun h hg => ?_⟩
    have bd := Pz.bd65a 1 (show Sl rS [x.Text] (.lst [.str x.Text] 1 .full) from litS_sl [x.Text]).isCell
    have sp := hB_put (w := w) (all := all) (ws := x :: r0) (r := r0) (c := [.int .i64 0, .nilSl, .nilSl]) (ds := [.int .i64 1, .lst [.str x.Text] 1 .full, .nilSl]) (n := 3) rfl rfl (by simp only [List.all_cons, List.all_nil, (show Sl rS [x.Text] (.lst [.str x.Text] 1 .full) from litS_sl [x.Text]).isCell]; rfl)
    have hcell : ((to0 w all r0 (hB w all (x :: r0) [.int .i64 0, .nilSl, .nilSl])).set 3 (some (.arr [.int .i64 1, .lst [.str x.Text] 1 .full, .nilSl]))).get 3 = some (.arr [.int .i64 1, .lst [.str x.Text] 1 .full, .nilSl]) := Heap.get_set_eq
    have pp : ∃ t, ex Cp (bodyOf Tryz.f113) ⟨a0, H0 w all (x :: r0)⟩ = some (.ret, ⟨t, (to0 w all r0 (hB w all (x :: r0) [.int .i64 0, .nilSl, .nilSl])).set 3 (some (.arr [.int .i64 1, .lst [.str x.Text] 1 .full, .nilSl]))⟩) ∧ t[2]? = some (.ptr 3 0) := by
      simp only [bodyOf, Tryz.f113, Cat, Zs, awanted, aoper, evalO, put, acallOp, abuiltin, Nat.reduceEqDiff, Nat.reduceLT, ofV, ofCell, ↓reduceIte, hl, i0, CP, TyP.fa97_1, TyP.fa97_0, dropCells, Nat.zero_add, Nat.add_zero, TyP.ld3, TyP.ld9, TyP.st3, TyP.ld42, TyP.st42, TyP.ze42, Pz.f42_0, wv, Pz.bs52, TyP.own_parse_go_163, TyP.own_parse_go_165, TyP.own_parse_go_167, TyP.own_parse_go_173, TyP.own_parse_go_174, TyP.own_parse_go_175, TyP.ze65, TyP.st65, TyP.ld65, Pz.ab65, Pz.bs52r, Pz.bs52g, ew, hd, e1, bd, sp]
      exact ⟨_, rfl, by simp [hl]⟩
    obtain ⟨t, he, ts⟩ := pp
    rw [ha0] at he
    exact ⟨strip (.agg [.int .i64 1, .lst [.str x.Text] 1 .full, .nilSl]), el_a 1 (show Sl rS [x.Text] (.lst [.str x.Text] 1 .full) from litS_sl [x.Text]), dok (f := 113) (args := [.ptr 2 0]) (r := r0) E hg Tryz.func113 rfl rfl rfl rfl rfl rfl he (.inl rfl) (vs := [.agg [.int .i64 1, .lst [.str x.Text] 1 .full, .nilSl]]) (v := strip (.agg [.int .i64 1, .lst [.str x.Text] 1 .full, .nilSl])) (by simp only [show Tryz.f113.results.toList = [ResultVar.cell 2 65] from rfl, aresults, ares1, CP, ts, Option.getD_some, Pz.la65, ld_all hcell (show _ = 3 from rfl)] <;> rfl) (Nrm.of (w := .agg [.int .i64 1, .lst [.str x.Text] 1 .full, .nilSl]) (by simp only [refs, refsL, (show Sl rS [x.Text] (.lst [.str x.Text] 1 .full) from litS_sl [x.Text]).refs rS_p, List.append_nil, List.nil_append])) ((Heap.get_set_ne (by decide)).trans At0.to)⟩
  · rw [if_neg hk]
    have hd : (x.Kind == 1) = false := beq_eq_false_iff_ne.2 hk
    cases hq : which [([82, 79, 76, 76, 85, 80] : List UInt8), ([67, 85, 66, 69] : List UInt8), ([71, 82, 79, 85, 80, 73, 78, 71] : List UInt8)] (x :: r0) with
    | none =>
      intro h hg
      have et : run Cp 110 [.ptr 2 0, .lst [.str ([82, 79, 76, 76, 85, 80] : List UInt8), .str ([67, 85, 66, 69] : List UInt8), .str ([71, 82, 79, 85, 80, 73, 78, 71] : List UInt8)] 3 .full] _ = _ := take_none E hw _ _ (litS_sl [([82, 79, 76, 76, 85, 80] : List UInt8), ([67, 85, 66, 69] : List UInt8), ([71, 82, 79, 85, 80, 73, 78, 71] : List UInt8)]) (litS_st _) (by decide) hq (hB_at (c := [.int .i64 0, .nilSl, .nilSl]))
      have c0 : ((-1 : Int) == 0) = false := rfl
      have c1 : ((-1 : Int) == 1) = false := rfl
      have c2 : ((-1 : Int) == 2) = false := rfl
      obtain ⟨cs, hcs, ef⟩ := fail_run E hw 41 (hB_at (w := w) (all := all) (ws := x :: r0) (c := [.int .i64 0, .nilSl, .nilSl]))
      have pp : ∃ t, ex Cp (bodyOf Tryz.f113) ⟨a0, H0 w all (x :: r0)⟩ = some (.pan (flt ⟨41, x.At⟩), ⟨t, (hB w all (x :: r0) [.int .i64 0, .nilSl, .nilSl]).set 2 (some (.arr cs))⟩) := by
        simp only [bodyOf, Tryz.f113, Cat, Zs, awanted, aoper, evalO, put, acallOp, abuiltin, Nat.reduceEqDiff, Nat.reduceLT, ofV, ofCell, ↓reduceIte, hl, i0, CP, TyP.fa97_1, TyP.fa97_0, dropCells, Nat.zero_add, Nat.add_zero, TyP.ld3, TyP.ld9, TyP.st3, TyP.ld42, TyP.st42, TyP.ze42, Pz.f42_0, wv, Pz.bs52, TyP.own_parse_go_163, TyP.own_parse_go_165, TyP.own_parse_go_167, TyP.own_parse_go_173, TyP.own_parse_go_174, TyP.own_parse_go_175, TyP.ze65, TyP.st65, TyP.ld65, Pz.ab65, Pz.bs52r, Pz.bs52g, ew, hd, et, c0, c1, c2, ef, kc_pan]
        exact ⟨_, rfl⟩
      obtain ⟨t, he⟩ := pp
      rw [ha0] at he
      exact dpan (f := 113) (args := [.ptr 2 0]) E hg Tryz.func113 rfl rfl rfl rfl rfl rfl he Heap.get_set_eq hcs
    | some k =>
      have et : run Cp 110 [.ptr 2 0, .lst [.str ([82, 79, 76, 76, 85, 80] : List UInt8), .str ([67, 85, 66, 69] : List UInt8), .str ([71, 82, 79, 85, 80, 73, 78, 71] : List UInt8)] 3 .full] _ = _ := take_some E hw _ _ (litS_sl [([82, 79, 76, 76, 85, 80] : List UInt8), ([67, 85, 66, 69] : List UInt8), ([71, 82, 79, 85, 80, 73, 78, 71] : List UInt8)]) (litS_st _) (by decide) hq (hB_at (c := [.int .i64 0, .nilSl, .nilSl]))
      have hw0 : Wf all r0 := hw.which hq
      rw [List.drop_succ_cons, List.drop_zero] at et
      have hkl := which_lt _ _ _ hq
      simp only [List.length_cons, List.length_nil] at hkl
      simp only [List.drop_succ_cons, List.drop_zero]
      match k, hkl, et with
      | 0, _, et =>
        have c0 : (((0 : Nat) : Int) == 0) = true := rfl
        have d1 := names_does E hw0
        cases h1 : pNames r0 with
        | out => exact trivial
        | er e =>
          rw [h1] at d1
          intro h hg
          obtain ⟨cs, hcs, ef⟩ := d1 (to0 w all r0 (hB w all (x :: r0) [.int .i64 0, .nilSl, .nilSl])) At0.to
          have pp : ∃ t, ex Cp (bodyOf Tryz.f113) ⟨a0, H0 w all (x :: r0)⟩ = some (.pan (flt e), ⟨t, (to0 w all r0 (hB w all (x :: r0) [.int .i64 0, .nilSl, .nilSl])).set 2 (some (.arr cs))⟩) := by
            simp only [bodyOf, Tryz.f113, Cat, Zs, awanted, aoper, evalO, put, acallOp, abuiltin, Nat.reduceEqDiff, Nat.reduceLT, ofV, ofCell, ↓reduceIte, hl, i0, CP, TyP.fa97_1, TyP.fa97_0, dropCells, Nat.zero_add, Nat.add_zero, TyP.ld3, TyP.ld9, TyP.st3, TyP.ld42, TyP.st42, TyP.ze42, Pz.f42_0, wv, Pz.bs52, TyP.own_parse_go_163, TyP.own_parse_go_165, TyP.own_parse_go_167, TyP.own_parse_go_173, TyP.own_parse_go_174, TyP.own_parse_go_175, TyP.ze65, TyP.st65, TyP.ld65, Pz.ab65, Pz.bs52r, Pz.bs52g, ew, hd, et, c0, ef, kc_pan]
            exact ⟨_, rfl⟩
          obtain ⟨t, he⟩ := pp
          rw [ha0] at he
          exact dpan (f := 113) (args := [.ptr 2 0]) E hg Tryz.func113 rfl rfl rfl rfl rfl rfl he Heap.get_set_eq hcs
        | ok x1 r1 =>
          rw [h1] at d1
          obtain ⟨w1, d1⟩ := d1
          obtain ⟨v1, hv, e1⟩ := d1 (to0 w all r0 (hB w all (x :: r0) [.int .i64 0, .nilSl, .nilSl])) At0.to
          rw [to_to] at e1
          rw [R.bind_ok]
          refine ⟨w1, fun h hg => ?_⟩
          have bd := Pz.bd65a 2 (hv).isCell
          have sp := hB_put (w := w) (all := all) (ws := x :: r0) (r := r1) (c := [.int .i64 0, .nilSl, .nilSl]) (ds := [.int .i64 2, v1, .nilSl]) (n := 3) rfl rfl (by simp only [List.all_cons, List.all_nil, (hv).isCell]; rfl)
          have hcell : ((to0 w all r1 (hB w all (x :: r0) [.int .i64 0, .nilSl, .nilSl])).set 3 (some (.arr [.int .i64 2, v1, .nilSl]))).get 3 = some (.arr [.int .i64 2, v1, .nilSl]) := Heap.get_set_eq
          have pp : ∃ t, ex Cp (bodyOf Tryz.f113) ⟨a0, H0 w all (x :: r0)⟩ = some (.ret, ⟨t, (to0 w all r1 (hB w all (x :: r0) [.int .i64 0, .nilSl, .nilSl])).set 3 (some (.arr [.int .i64 2, v1, .nilSl]))⟩) ∧ t[2]? = some (.ptr 3 0) := by
            simp only [bodyOf, Tryz.f113, Cat, Zs, awanted, aoper, evalO, put, acallOp, abuiltin, Nat.reduceEqDiff, Nat.reduceLT, ofV, ofCell, ↓reduceIte, hl, i0, CP, TyP.fa97_1, TyP.fa97_0, dropCells, Nat.zero_add, Nat.add_zero, TyP.ld3, TyP.ld9, TyP.st3, TyP.ld42, TyP.st42, TyP.ze42, Pz.f42_0, wv, Pz.bs52, TyP.own_parse_go_163, TyP.own_parse_go_165, TyP.own_parse_go_167, TyP.own_parse_go_173, TyP.own_parse_go_174, TyP.own_parse_go_175, TyP.ze65, TyP.st65, TyP.ld65, Pz.ab65, Pz.bs52r, Pz.bs52g, ew, hd, et, c0, e1, bd, sp]
            exact ⟨_, rfl, by simp [hl]⟩
          obtain ⟨t, he, ts⟩ := pp
          rw [ha0] at he
          exact ⟨strip (.agg [.int .i64 2, v1, .nilSl]), el_a 2 (hv), dok (f := 113) (args := [.ptr 2 0]) (r := r1) E hg Tryz.func113 rfl rfl rfl rfl rfl rfl he (.inl rfl) (vs := [.agg [.int .i64 2, v1, .nilSl]]) (v := strip (.agg [.int .i64 2, v1, .nilSl])) (by simp only [show Tryz.f113.results.toList = [ResultVar.cell 2 65] from rfl, aresults, ares1, CP, ts, Option.getD_some, Pz.la65, ld_all hcell (show _ = 3 from rfl)] <;> rfl) (Nrm.of (w := .agg [.int .i64 2, v1, .nilSl]) (by simp only [refs, refsL, (hv).refs rS_p, List.append_nil, List.nil_append])) ((Heap.get_set_ne (by decide)).trans At0.to)⟩
      | 1, _, et =>
        have c0 : (((1 : Nat) : Int) == 0) = false := rfl
        have c1 : (((1 : Nat) : Int) == 1) = true := rfl
        have d1 := names_does E hw0
        cases h1 : pNames r0 with
        | out => exact trivial
        | er e =>
          rw [h1] at d1
          intro h hg
          obtain ⟨cs, hcs, ef⟩ := d1 (to0 w all r0 (hB w all (x :: r0) [.int .i64 0, .nilSl, .nilSl])) At0.to
          have pp : ∃ t, ex Cp (bodyOf Tryz.f113) ⟨a0, H0 w all (x :: r0)⟩ = some (.pan (flt e), ⟨t, (to0 w all r0 (hB w all (x :: r0) [.int .i64 0, .nilSl, .nilSl])).set 2 (some (.arr cs))⟩) := by
            simp only [bodyOf, Tryz.f113, Cat, Zs, awanted, aoper, evalO, put, acallOp, abuiltin, Nat.reduceEqDiff, Nat.reduceLT, ofV, ofCell, ↓reduceIte, hl, i0, CP, TyP.fa97_1, TyP.fa97_0, dropCells, Nat.zero_add, Nat.add_zero, TyP.ld3, TyP.ld9, TyP.st3, TyP.ld42, TyP.st42, TyP.ze42, Pz.f42_0, wv, Pz.bs52, TyP.own_parse_go_163, TyP.own_parse_go_165, TyP.own_parse_go_167, TyP.own_parse_go_173, TyP.own_parse_go_174, TyP.own_parse_go_175, TyP.ze65, TyP.st65, TyP.ld65, Pz.ab65, Pz.bs52r, Pz.bs52g, ew, hd, et, c0, c1, ef, kc_pan]
            exact ⟨_, rfl⟩
          obtain ⟨t, he⟩ := pp
          rw [ha0] at he
          exact dpan (f := 113) (args := [.ptr 2 0]) E hg Tryz.func113 rfl rfl rfl rfl rfl rfl he Heap.get_set_eq hcs
        | ok x1 r1 =>
          rw [h1] at d1
          obtain ⟨w1, d1⟩ := d1
          obtain ⟨v1, hv, e1⟩ := d1 (to0 w all r0 (hB w all (x :: r0) [.int .i64 0, .nilSl, .nilSl])) At0.to
          rw [to_to] at e1
          rw [R.bind_ok]
          refine ⟨w1, fun h hg => ?_⟩
          have bd := Pz.bd65a 3 (hv).isCell
          have sp := hB_put (w := w) (all := all) (ws := x :: r0) (r := r1) (c := [.int .i64 0, .nilSl, .nilSl]) (ds := [.int .i64 3, v1, .nilSl]) (n := 3) rfl rfl (by simp only [List.all_cons, List.all_nil, (hv).isCell]; rfl)
          have hcell : ((to0 w all r1 (hB w all (x :: r0) [.int .i64 0, .nilSl, .nilSl])).set 3 (some (.arr [.int .i64 3, v1, .nilSl]))).get 3 = some (.arr [.int .i64 3, v1, .nilSl]) := Heap.get_set_eq
          have pp : ∃ t, ex Cp (bodyOf Tryz.f113) ⟨a0, H0 w all (x :: r0)⟩ = some (.ret, ⟨t, (to0 w all r1 (hB w all (x :: r0) [.int .i64 0, .nilSl, .nilSl])).set 3 (some (.arr [.int .i64 3, v1, .nilSl]))⟩) ∧ t[2]? = some (.ptr 3 0) := by
            simp only [bodyOf, Tryz.f113, Cat, Zs, awanted, aoper, evalO, put, acallOp, abuiltin, Nat.reduceEqDiff, Nat.reduceLT, ofV, ofCell, ↓reduceIte, hl, i0, CP, TyP.fa97_1, TyP.fa97_0, dropCells, Nat.zero_add, Nat.add_zero, TyP.ld3, TyP.ld9, TyP.st3, TyP.ld42, TyP.st42, TyP.ze42, Pz.f42_0, wv, Pz.bs52, TyP.own_parse_go_163, TyP.own_parse_go_165, TyP.own_parse_go_167, TyP.own_parse_go_173, TyP.own_parse_go_174, TyP.own_parse_go_175, TyP.ze65, TyP.st65, TyP.ld65, Pz.ab65, Pz.bs52r, Pz.bs52g, ew, hd, et, c0, c1, e1, bd, sp]
            exact ⟨_, rfl, by simp [hl]⟩
          obtain ⟨t, he, ts⟩ := pp
          rw [ha0] at he
          exact ⟨strip (.agg [.int .i64 3, v1, .nilSl]), el_a 3 (hv), dok (f := 113) (args := [.ptr 2 0]) (r := r1) E hg Tryz.func113 rfl rfl rfl rfl rfl rfl he (.inl rfl) (vs := [.agg [.int .i64 3, v1, .nilSl]]) (v := strip (.agg [.int .i64 3, v1, .nilSl])) (by simp only [show Tryz.f113.results.toList = [ResultVar.cell 2 65] from rfl, aresults, ares1, CP, ts, Option.getD_some, Pz.la65, ld_all hcell (show _ = 3 from rfl)] <;> rfl) (Nrm.of (w := .agg [.int .i64 3, v1, .nilSl]) (by simp only [refs, refsL, (hv).refs rS_p, List.append_nil, List.nil_append])) ((Heap.get_set_ne (by decide)).trans At0.to)⟩
      | 2, _, et =>
        have c0 : (((2 : Nat) : Int) == 0) = false := rfl
        have c1 : (((2 : Nat) : Int) == 1) = false := rfl
        have c2 : (((2 : Nat) : Int) == 2) = true := rfl
        have d1 := must_lit E hw0 [([83, 69, 84, 83] : List UInt8), ([40] : List UInt8)] (by decide)
        cases h1 : must [([83, 69, 84, 83] : List UInt8), ([40] : List UInt8)] r0 with
        | out => exact trivial
        | er e =>
          rw [h1] at d1
          intro h hg
          obtain ⟨cs, hcs, ef⟩ : Pn e _ (run Cp 106 [.ptr 2 0, .lst [.str ([83, 69, 84, 83] : List UInt8), .str ([40] : List UInt8)] 2 .full] _) := d1 (to0 w all r0 (hB w all (x :: r0) [.int .i64 0, .nilSl, .nilSl])) At0.to
          have pp : ∃ t, ex Cp (bodyOf Tryz.f113) ⟨a0, H0 w all (x :: r0)⟩ = some (.pan (flt e), ⟨t, (to0 w all r0 (hB w all (x :: r0) [.int .i64 0, .nilSl, .nilSl])).set 2 (some (.arr cs))⟩) := by
            simp only [bodyOf, Tryz.f113, Cat, Zs, awanted, aoper, evalO, put, acallOp, abuiltin, Nat.reduceEqDiff, Nat.reduceLT, ofV, ofCell, ↓reduceIte, hl, i0, CP, TyP.fa97_1, TyP.fa97_0, dropCells, Nat.zero_add, Nat.add_zero, TyP.ld3, TyP.ld9, TyP.st3, TyP.ld42, TyP.st42, TyP.ze42, Pz.f42_0, wv, Pz.bs52, TyP.own_parse_go_163, TyP.own_parse_go_165, TyP.own_parse_go_167, TyP.own_parse_go_173, TyP.own_parse_go_174, TyP.own_parse_go_175, TyP.ze65, TyP.st65, TyP.ld65, Pz.ab65, Pz.bs52r, Pz.bs52g, ew, hd, et, c0, c1, c2, ef, kc_pan]
            exact ⟨_, rfl⟩
          obtain ⟨t, he⟩ := pp
          rw [ha0] at he
          exact dpan (f := 113) (args := [.ptr 2 0]) E hg Tryz.func113 rfl rfl rfl rfl rfl rfl he Heap.get_set_eq hcs
        | ok x1 r1 =>
          rw [h1] at d1
          obtain ⟨w1, d1⟩ := d1
          obtain ⟨v1, rfl, e1⟩ := d1 (to0 w all r0 (hB w all (x :: r0) [.int .i64 0, .nilSl, .nilSl])) At0.to
          have e1 : run Cp 106 [.ptr 2 0, .lst [.str ([83, 69, 84, 83] : List UInt8), .str ([40] : List UInt8)] 2 .full] _ = _ := e1
          rw [to_to] at e1
          rw [R.bind_ok]
          have d2 := sev146 E (fun ws hw => set_does E hw) w1
          cases h2 : several pSet r1 with
          | out => exact trivial
          | er e =>
            rw [h2] at d2
            intro h hg
            obtain ⟨cs, hcs, ef⟩ := d2 (to0 w all r1 (hB w all (x :: r0) [.int .i64 0, .nilSl, .nilSl])) At0.to
            have pp : ∃ t, ex Cp (bodyOf Tryz.f113) ⟨a0, H0 w all (x :: r0)⟩ = some (.pan (flt e), ⟨t, (to0 w all r1 (hB w all (x :: r0) [.int .i64 0, .nilSl, .nilSl])).set 2 (some (.arr cs))⟩) := by
              simp only [bodyOf, Tryz.f113, Cat, Zs, awanted, aoper, evalO, put, acallOp, abuiltin, Nat.reduceEqDiff, Nat.reduceLT, ofV, ofCell, ↓reduceIte, hl, i0, CP, TyP.fa97_1, TyP.fa97_0, dropCells, Nat.zero_add, Nat.add_zero, TyP.ld3, TyP.ld9, TyP.st3, TyP.ld42, TyP.st42, TyP.ze42, Pz.f42_0, wv, Pz.bs52, TyP.own_parse_go_163, TyP.own_parse_go_165, TyP.own_parse_go_167, TyP.own_parse_go_173, TyP.own_parse_go_174, TyP.own_parse_go_175, TyP.ze65, TyP.st65, TyP.ld65, Pz.ab65, Pz.bs52r, Pz.bs52g, ew, hd, et, c0, c1, c2, e1, ef, kc_pan]
              exact ⟨_, rfl⟩
            obtain ⟨t, he⟩ := pp
            rw [ha0] at he
            exact dpan (f := 113) (args := [.ptr 2 0]) E hg Tryz.func113 rfl rfl rfl rfl rfl rfl he Heap.get_set_eq hcs
          | ok x2 r2 =>
            rw [h2] at d2
            obtain ⟨w2, d2⟩ := d2
            obtain ⟨v2, hv, e2⟩ := d2 (to0 w all r1 (hB w all (x :: r0) [.int .i64 0, .nilSl, .nilSl])) At0.to
            rw [to_to] at e2
            rw [R.bind_ok]
            have bd := Pz.bd65b 4 hv.isCell
            obtain ⟨G, eG⟩ : ∃ G, G = ((to0 w all r2 (hB w all (x :: r0) [.int .i64 0, .nilSl, .nilSl])).new (.arr [.int .i64 0, .nilSl, .nilSl])).set 4 (some (.arr [.int .i64 4, .nilSl, v2])) := ⟨_, rfl⟩
            have ab2 : abox (to0 w all r2 (hB w all (x :: r0) [.int .i64 0, .nilSl, .nilSl])) (.agg [.int .i64 0, .nilSl, .nilSl]) = some (.ptr 4 0, (to0 w all r2 (hB w all (x :: r0) [.int .i64 0, .nilSl, .nilSl])).new (.arr [.int .i64 0, .nilSl, .nilSl])) := rfl
            have st2 : storeA ((to0 w all r2 (hB w all (x :: r0) [.int .i64 0, .nilSl, .nilSl])).new (.arr [.int .i64 0, .nilSl, .nilSl])) 3 (.ptr 4 0) (.agg [.int .i64 4, .nilSl, v2]) = some G := by rw [eG]; exact put_all (cs := [.int .i64 0, .nilSl, .nilSl]) rfl rfl rfl (by simp only [List.all_cons, List.all_nil, hv.isCell]; rfl)
            have gG : At0 w all r2 G := by rw [eG]; rfl
            have g1 : G.get 3 = some (.arr [.int .i64 0, .nilSl, .nilSl]) := by rw [eG]; rfl
            have g2 : G.get 4 = some (.arr [.int .i64 4, .nilSl, v2]) := by rw [eG]; rfl
            have d3 := must_lit E w2 [([41] : List UInt8)] (by decide)
            cases h3 : must [([41] : List UInt8)] r2 with
            | out => exact trivial
            | er e =>
              rw [h3] at d3
              intro h hg
              obtain ⟨cs, hcs, ef⟩ : Pn e _ (run Cp 106 [.ptr 2 0, .lst [.str ([41] : List UInt8)] 1 .full] _) := d3 (G) gG
              have pp : ∃ t, ex Cp (bodyOf Tryz.f113) ⟨a0, H0 w all (x :: r0)⟩ = some (.pan (flt e), ⟨t, (G).set 2 (some (.arr cs))⟩) := by
                simp only [bodyOf, Tryz.f113, Cat, Zs, awanted, aoper, evalO, put, acallOp, abuiltin, Nat.reduceEqDiff, Nat.reduceLT, ofV, ofCell, ↓reduceIte, hl, i0, CP, TyP.fa97_1, TyP.fa97_0, dropCells, Nat.zero_add, Nat.add_zero, TyP.ld3, TyP.ld9, TyP.st3, TyP.ld42, TyP.st42, TyP.ze42, Pz.f42_0, wv, Pz.bs52, TyP.own_parse_go_163, TyP.own_parse_go_165, TyP.own_parse_go_167, TyP.own_parse_go_173, TyP.own_parse_go_174, TyP.own_parse_go_175, TyP.ze65, TyP.st65, TyP.ld65, Pz.ab65, Pz.bs52r, Pz.bs52g, ew, hd, et, c0, c1, c2, e1, e2, bd, ab2, st2, ef, kc_pan]
                exact ⟨_, rfl⟩
              obtain ⟨t, he⟩ := pp
              rw [ha0] at he
              exact dpan (f := 113) (args := [.ptr 2 0]) E hg Tryz.func113 rfl rfl rfl rfl rfl rfl he Heap.get_set_eq hcs
            | ok x3 r3 =>
              rw [h3] at d3
              obtain ⟨w3, d3⟩ := d3
              obtain ⟨v3, rfl, e3⟩ := d3 (G) gG
              have e3 : run Cp 106 [.ptr 2 0, .lst [.str ([41] : List UInt8)] 1 .full] _ = _ := e3
              rw [R.bind_ok]
              refine ⟨w3, fun h hg => ?_⟩
              have l2 : loadA (to0 w all r3 G) true 3 (.ptr 4 0) = some (.agg [.int .i64 4, .nilSl, v2]) := ld_all ((Heap.get_set_ne (by decide)).trans g2) rfl
              have sp : storeA (to0 w all r3 G) 3 (.ptr 3 0) (.agg [.int .i64 4, .nilSl, v2]) = some ((to0 w all r3 G).set 3 (some (.arr [.int .i64 4, .nilSl, v2]))) := put_all ((Heap.get_set_ne (by decide)).trans g1) rfl rfl (by simp only [List.all_cons, List.all_nil, hv.isCell]; rfl)
              have hcell : ((to0 w all r3 G).set 3 (some (.arr [.int .i64 4, .nilSl, v2]))).get 3 = some (.arr [.int .i64 4, .nilSl, v2]) := Heap.get_set_eq
              have pp : ∃ t, ex Cp (bodyOf Tryz.f113) ⟨a0, H0 w all (x :: r0)⟩ = some (.ret, ⟨t, (to0 w all r3 G).set 3 (some (.arr [.int .i64 4, .nilSl, v2]))⟩) ∧ t[2]? = some (.ptr 3 0) := by
                simp only [bodyOf, Tryz.f113, Cat, Zs, awanted, aoper, evalO, put, acallOp, abuiltin, Nat.reduceEqDiff, Nat.reduceLT, ofV, ofCell, ↓reduceIte, hl, i0, CP, TyP.fa97_1, TyP.fa97_0, dropCells, Nat.zero_add, Nat.add_zero, TyP.ld3, TyP.ld9, TyP.st3, TyP.ld42, TyP.st42, TyP.ze42, Pz.f42_0, wv, Pz.bs52, TyP.own_parse_go_163, TyP.own_parse_go_165, TyP.own_parse_go_167, TyP.own_parse_go_173, TyP.own_parse_go_174, TyP.own_parse_go_175, TyP.ze65, TyP.st65, TyP.ld65, Pz.ab65, Pz.bs52r, Pz.bs52g, ew, hd, et, c0, c1, c2, e1, e2, bd, ab2, st2, e3, l2, sp]
                exact ⟨_, rfl, by simp [hl]⟩
              obtain ⟨t, he, ts⟩ := pp
              rw [ha0] at he
              exact ⟨strip (.agg [.int .i64 4, .nilSl, v2]), el_b 4 hv, dok (f := 113) (args := [.ptr 2 0]) (r := r3) E hg Tryz.func113 rfl rfl rfl rfl rfl rfl he (.inl rfl) (vs := [.agg [.int .i64 4, .nilSl, v2]]) (v := strip (.agg [.int .i64 4, .nilSl, v2])) (by simp only [show Tryz.f113.results.toList = [ResultVar.cell 2 65] from rfl, aresults, ares1, CP, ts, Option.getD_some, Pz.la65, ld_all hcell (show _ = 3 from rfl)] <;> rfl) (Nrm.of (w := .agg [.int .i64 4, .nilSl, v2]) (by simp only [refs, refsL, hv.refs (rSl_p rS_p), List.append_nil, List.nil_append])) ((Heap.get_set_ne (by decide)).trans At0.to)⟩
end
end Go.Proofs.Q.Par



set_option linter.unusedSimpArgs false
set_option linter.unusedVariables false
set_option maxRecDepth 100000
namespace Go.Proofs.Q.Par
open Go Go.Am Go.Proofs
section
variable {w : AVal} {all ws : List Word}
def z27 : List AVal := [.nilSl, .str [], .nilPtr, .bool false, .nilSl]
structure QB (w : AVal) (all ws : List Word) (H : AHeap) (cs : List AVal) : Prop where
  at0 : At0 w all ws H
  g3 : H.get 3 = some (.arr z27)
  g4 : H.get 4 = some (.arr cs)
theorem QB.to {H : AHeap} {cs : List AVal} {r : List Word} (q : QB w all ws H cs) : QB w all r (to0 w all r H) cs :=
  ⟨At0.to, (Heap.get_set_ne (by decide)).trans q.g3, (Heap.get_set_ne (by decide)).trans q.g4⟩
theorem QB.st {H : AHeap} {cs : List AVal} (q : QB w all ws H cs) {j : Nat} {v : AVal} (hv : v.isCell = true) (hj : j < cs.length) : storeA H 1 (.ptr 4 j) v = some (H.set 4 (some (.arr (cs.set j v)))) ∧ QB w all ws (H.set 4 (some (.arr (cs.set j v)))) (cs.set j v) :=
  ⟨Heap.store_at q.g4 hv hj, (Heap.get_set_ne (by decide)).trans q.at0, (Heap.get_set_ne (by decide)).trans q.g3, Heap.get_set_eq⟩
namespace Pz
theorem z27 : zeroA Tryz.prog 27 = some (.agg [.nilSl, .str [], .nilPtr, .bool false, .nilSl]) := by kernel_rfl
theorem own182 : Cp.own "parse.go:182" = false ∧ Cp.own "parse.go:183" = false ∧ Cp.own "parse.go:184" = false ∧ Cp.own "parse.go:185" = false ∧ Cp.own "parse.go:187" = false ∧ Cp.own "parse.go:190" = false ∧ Cp.own "parse.go:191" = false := by refine ⟨?_, ?_, ?_, ?_, ?_, ?_, ?_⟩ <;> kernel_rfl
theorem st27 (h : AHeap) (p v : AVal) : astore Tryz.prog h 27 p v = storeA h 5 p v := by kernel_rfl
theorem ld27 (h : AHeap) (p : AVal) : aload Tryz.prog h 27 p = loadA h true 5 p := by kernel_rfl
theorem st9 (h : AHeap) (p v : AVal) : astore Tryz.prog h 9 p v = storeA h 1 p v := by kernel_rfl
theorem st24 (h : AHeap) (p v : AVal) : astore Tryz.prog h 24 p v = storeA h 1 p v := by kernel_rfl
theorem st4 (h : AHeap) (p v : AVal) : astore Tryz.prog h 4 p v = storeA h 1 p v := by kernel_rfl
theorem st25 (h : AHeap) (p v : AVal) : astore Tryz.prog h 25 p v = storeA h 1 p v := by kernel_rfl
theorem f27_1 (p : AVal) : afieldAddr Tryz.prog 27 p 1 = dropCells 1 p := by kernel_rfl
theorem f27_2 (p : AVal) : afieldAddr Tryz.prog 27 p 2 = dropCells 2 p := by kernel_rfl
theorem f27_3 (p : AVal) : afieldAddr Tryz.prog 27 p 3 = dropCells 3 p := by kernel_rfl
theorem f27_4 (p : AVal) : afieldAddr Tryz.prog 27 p 4 = dropCells 4 p := by kernel_rfl
theorem bu27 {v : AVal} (hv : v.isCell = true) : abuild Tryz.prog 27 [(0, v)] = some (.agg [v, .str [], .nilPtr, .bool false, .nilSl]) := by
  obtain ⟨ca, ba⟩ := cells_one hv
  have h1 : abuild Tryz.prog 27 [(0, v)] = ((fillA ([(0, 1), (1, 1), (2, 1), (3, 1), (4, 1)].toArray[·]?) [.nilSl, .str [], .nilPtr, .bool false, .nilSl] [(0, v)]).bind fun c => some (.agg c)) := by kernel_rfl
  rw [h1]
  simp [fillA, ca, ba, setRange]
end Pz
def Ends {α : Type} (c : Code) (a : List AVal) (H : AHeap) (res : R α) (Q : α → List Word → List AVal → AHeap → Prop) : Prop := match res with
  | .ok x r => ∃ t H', ex Cp c ⟨a, H⟩ = some (.normal, ⟨t, H'⟩) ∧ Q x r t H'
  | .er e => ∃ t H' cs, ex Cp c ⟨a, H⟩ = some (.pan (flt e), ⟨t, H'⟩) ∧ H'.get 2 = some (.arr cs) ∧ refsL cs = []
  | .out => True
structure QS (t : List AVal) : Prop where
  l : t.length = 41
  i0 : t[0]? = some (.ptr 2 0)
  i2 : t[2]? = some (.ptr 3 0)
  i3 : t[3]? = some (.ptr 4 0)
theorem whereE (E : Mem w all) (hw : Wf all ws) {a : List AVal} (s : QS a) {H : AHeap} {v n : AVal} (q : QB w all ws H [v, n, .nilPtr, .bool false, .nilSl]) :
    Ends (Cat [true, true, true, true, true, false] (bodyOf Tryz.f67)) a H (pWhere ws) fun c r t H' => Wf all r ∧ QS t ∧ ∃ u, rCondT c [u] ∧ QB w all r H' [v, n, u, .bool false, .nilSl] := by
  obtain ⟨hl, i0, i2, i3⟩ := s
  unfold pWhere
  cases hb : isH ([87, 72, 69, 82, 69] : List UInt8) ws with
  | false =>
    have en := one_no E hw ([87, 72, 69, 82, 69] : List UInt8) hb q.at0
    have hd : decide ((-1 : Int) ≥ 0) = false := rfl
    rw [if_neg (by simp)]
    have pp : ∃ t, ex Cp (Cat [true, true, true, true, true, false] (bodyOf Tryz.f67)) ⟨a, H⟩ = some (.normal, ⟨t, H⟩) ∧ QS t := by
      simp only [bodyOf, Tryz.f67, Cat, Zs, awanted, aoper, evalO, put, acallOp, abuiltin, Nat.reduceEqDiff, Nat.reduceLT, ofV, ofCell, ↓reduceIte, hl, i0, i2, i3, CP, Pz.bs52, Pz.own182, en, hd]
      exact ⟨_, rfl, by simp [hl], by simp [i0], by simp [i2], by simp [i3]⟩
    obtain ⟨t, e, st⟩ := pp
    exact ⟨t, H, e, hw, st, .nilPtr, rfl, q⟩
  | true =>
    have ey := one_yes E hw ([87, 72, 69, 82, 69] : List UInt8) hb q.at0
    have hd : decide (((0 : Nat) : Int) ≥ 0) = true := rfl
    rw [if_pos rfl]
    have hw1 := hw.isH hb
    have q1 := q.to (r := ws.drop 1)
    obtain ⟨H1, e1⟩ : ∃ H1, H1 = to0 w all (ws.drop 1) H := ⟨_, rfl⟩
    rw [← e1] at q1 ey
    have dp : Does 111 [.ptr 2 0] w all (ws.drop 1) rC (pOr (ws.length + 2) (ws.drop 1)) := or_does E (not_does E _) hw1
    cases hp : pOr (ws.length + 2) (ws.drop 1) with
    | out => exact trivial
    | er e =>
      rw [hp] at dp
      obtain ⟨cs, hcs, ef⟩ := dp H1 q1.at0
      have pp : ∃ t, ex Cp (Cat [true, true, true, true, true, false] (bodyOf Tryz.f67)) ⟨a, H⟩ = some (.pan (flt e), ⟨t, H1.set 2 (some (.arr cs))⟩) := by
        simp only [bodyOf, Tryz.f67, Cat, Zs, awanted, aoper, evalO, put, acallOp, abuiltin, Nat.reduceEqDiff, Nat.reduceLT, ofV, ofCell, ↓reduceIte, hl, i0, i2, i3, CP, Pz.bs52, Pz.own182, ey, hd, ef, kc_pan]
        exact ⟨_, rfl⟩
      obtain ⟨t, e⟩ := pp
      exact ⟨t, _, cs, e, Heap.get_set_eq, hcs⟩
    | ok c r =>
      rw [hp] at dp
      obtain ⟨w2, dp⟩ := dp
      obtain ⟨u, hu, e2⟩ := dp H1 q1.at0
      have q2 := q1.to (r := r)
      obtain ⟨H2, e3⟩ : ∃ H2, H2 = to0 w all r H1 := ⟨_, rfl⟩
      rw [← e3] at q2 e2
      obtain ⟨s1, q3⟩ := q2.st (j := 2) (rCondT_cell hu) (Nat.le_of_ble_eq_true rfl)
      have pp : ∃ t, ex Cp (Cat [true, true, true, true, true, false] (bodyOf Tryz.f67)) ⟨a, H⟩ = some (.normal, ⟨t, H2.set 4 (some (.arr ([v, n, .nilPtr, .bool false, .nilSl].set 2 u)))⟩) ∧ QS t := by
        simp only [bodyOf, Tryz.f67, Cat, Zs, awanted, aoper, evalO, put, acallOp, abuiltin, Nat.reduceEqDiff, Nat.reduceLT, ofV, ofCell, ↓reduceIte, hl, i0, i2, i3, CP, Pz.bs52, Pz.own182, ey, hd, e2, Pz.f27_2, dropCells, Nat.zero_add, Pz.st24, s1]
        exact ⟨_, rfl, by simp [hl], by simp [i0], by simp [i2], by simp [i3]⟩
      obtain ⟨t, e, st⟩ := pp
      exact ⟨t, _, e, w2, st, u, hu, q3⟩
theorem groupE (E : Mem w all) (hw : Wf all ws) {a : List AVal} (s : QS a) {H : AHeap} {v n u : AVal} (q : QB w all ws H [v, n, u, .bool false, .nilSl]) :
    Ends (Cat [true, true, true, true, true, true, false] (bodyOf Tryz.f67)) a H (pGroups ws) fun g r t H' => Wf all r ∧ QS t ∧ ∃ x, Sl rGroup g.2 x ∧ QB w all r H' [v, n, u, .bool g.1, x] := by
  obtain ⟨hl, i0, i2, i3⟩ := s
  unfold pGroups
  cases hb : isH ([71, 82, 79, 85, 80] : List UInt8) ws with
  | false =>
    have en := one_no E hw ([71, 82, 79, 85, 80] : List UInt8) hb q.at0
    have hd : decide ((-1 : Int) ≥ 0) = false := rfl
    rw [if_neg (by simp)]
    have pp : ∃ t, ex Cp (Cat [true, true, true, true, true, true, false] (bodyOf Tryz.f67)) ⟨a, H⟩ = some (.normal, ⟨t, H⟩) ∧ QS t := by
      simp only [bodyOf, Tryz.f67, Cat, Zs, awanted, aoper, evalO, put, acallOp, abuiltin, Nat.reduceEqDiff, Nat.reduceLT, ofV, ofCell, ↓reduceIte, hl, i0, i2, i3, CP, Pz.bs52, Pz.own182, en, hd]
      exact ⟨_, rfl, by simp [hl], by simp [i0], by simp [i2], by simp [i3]⟩
    obtain ⟨t, e, st⟩ := pp
    exact ⟨t, H, e, hw, st, .nilSl, .nil, q⟩
  | true =>
    have ey := one_yes E hw ([71, 82, 79, 85, 80] : List UInt8) hb q.at0
    have hd : decide (((0 : Nat) : Int) ≥ 0) = true := rfl
    rw [if_pos rfl]
    have hw1 := hw.isH hb
    have q1 := q.to (r := ws.drop 1)
    obtain ⟨H1, e1⟩ : ∃ H1, H1 = to0 w all (ws.drop 1) H := ⟨_, rfl⟩
    rw [← e1] at q1 ey
    have d1 := must_lit E hw1 [([66, 89] : List UInt8)] (by decide)
    cases h1 : must [([66, 89] : List UInt8)] (ws.drop 1) with
    | out => exact trivial
    | er e =>
      rw [h1] at d1
      obtain ⟨cs, hcs, ef⟩ : Pn e _ (run Cp 106 [.ptr 2 0, .lst [.str ([66, 89] : List UInt8)] 1 .full] _) := d1 H1 q1.at0
      have pp : ∃ t, ex Cp (Cat [true, true, true, true, true, true, false] (bodyOf Tryz.f67)) ⟨a, H⟩ = some (.pan (flt e), ⟨t, H1.set 2 (some (.arr cs))⟩) := by
        simp only [bodyOf, Tryz.f67, Cat, Zs, awanted, aoper, evalO, put, acallOp, abuiltin, Nat.reduceEqDiff, Nat.reduceLT, ofV, ofCell, ↓reduceIte, hl, i0, i2, i3, CP, Pz.bs52, Pz.own182, ey, hd, ef, kc_pan]
        exact ⟨_, rfl⟩
      obtain ⟨t, e⟩ := pp
      exact ⟨t, _, cs, e, Heap.get_set_eq, hcs⟩
    | ok x1 r1 =>
      rw [h1] at d1
      obtain ⟨w1, d1⟩ := d1
      obtain ⟨v1, rfl, em⟩ := d1 H1 q1.at0
      have em : run Cp 106 [.ptr 2 0, .lst [.str ([66, 89] : List UInt8)] 1 .full] _ = _ := em
      have q2 := q1.to (r := r1)
      obtain ⟨H2, e2⟩ : ∃ H2, H2 = to0 w all r1 H1 := ⟨_, rfl⟩
      rw [← e2] at q2 em
      rw [R.bind_ok]
      have dp := sev112 E (fun ws hw => element_does E hw) w1
      cases hp : several pElement r1 with
      | out => exact trivial
      | er e =>
        rw [hp] at dp
        obtain ⟨cs, hcs, ef⟩ := dp H2 q2.at0
        have pp : ∃ t, ex Cp (Cat [true, true, true, true, true, true, false] (bodyOf Tryz.f67)) ⟨a, H⟩ = some (.pan (flt e), ⟨t, H2.set 2 (some (.arr cs))⟩) := by
          simp only [bodyOf, Tryz.f67, Cat, Zs, awanted, aoper, evalO, put, acallOp, abuiltin, Nat.reduceEqDiff, Nat.reduceLT, ofV, ofCell, ↓reduceIte, hl, i0, i2, i3, CP, Pz.bs52, Pz.own182, ey, hd, em, ef, kc_pan]
          exact ⟨_, rfl⟩
        obtain ⟨t, e⟩ := pp
        exact ⟨t, _, cs, e, Heap.get_set_eq, hcs⟩
      | ok l r =>
        rw [hp] at dp
        obtain ⟨w2, dp⟩ := dp
        obtain ⟨x, hx, e3⟩ := dp H2 q2.at0
        have q3 := q2.to (r := r)
        obtain ⟨H3, e4⟩ : ∃ H3, H3 = to0 w all r H2 := ⟨_, rfl⟩
        rw [← e4] at q3 e3
        obtain ⟨s1, q4⟩ := q3.st (j := 3) (v := .bool true) rfl (Nat.le_of_ble_eq_true rfl)
        obtain ⟨H4, e5⟩ : ∃ H4, H4 = H3.set 4 (some (.arr ([v, n, u, .bool false, .nilSl].set 3 (.bool true)))) := ⟨_, rfl⟩
        rw [← e5] at s1 q4
        obtain ⟨s2, q5⟩ := q4.st (j := 4) (v := x) hx.isCell (Nat.le_of_ble_eq_true rfl)
        have pp : ∃ t, ex Cp (Cat [true, true, true, true, true, true, false] (bodyOf Tryz.f67)) ⟨a, H⟩ = some (.normal, ⟨t, H4.set 4 (some (.arr (([v, n, u, .bool false, .nilSl].set 3 (.bool true)).set 4 x)))⟩) ∧ QS t := by
          simp only [bodyOf, Tryz.f67, Cat, Zs, awanted, aoper, evalO, put, acallOp, abuiltin, Nat.reduceEqDiff, Nat.reduceLT, ofV, ofCell, ↓reduceIte, hl, i0, i2, i3, CP, Pz.bs52, Pz.own182, ey, hd, em, e3, Pz.f27_3, Pz.f27_4, dropCells, Nat.zero_add, Pz.st4, Pz.st25, s1, s2]
          exact ⟨_, rfl, by simp [hl], by simp [i0], by simp [i2], by simp [i3]⟩
        obtain ⟨t, e, st⟩ := pp
        exact ⟨t, _, e, w2, st, x, hx, q5⟩
theorem query_runs (E : Mem w all) (hw : Wf all ws) : match pQuery ws with
    | .ok q r => ∀ h, At0 w all ws h → ∃ y0 y1 y2, Sl rItem q.Items y0 ∧ rCondT q.Where [y1] ∧ Sl rGroup q.Groups y2 ∧ run Cp 67 [.ptr 2 0] h = some (.ret (.agg [y0, .str q.Table, y1, .bool q.Grouped, y2]), to0 w all r h)
    | .er e => ∀ h, At0 w all ws h → Pn e h (run Cp 67 [.ptr 2 0] h)
    | .out => True := by
  obtain ⟨a0, ha0⟩ : ∃ a0, a0 = slots Tryz.f67 [.ptr 2 0] := ⟨_, rfl⟩
  have hl : a0.length = 41 := by rw [ha0]; rfl
  have i0 : a0[0]? = some (.ptr 2 0) := by rw [ha0]; rfl
  have hb : bodyOf Tryz.f67 = .seq (Cat [false] (bodyOf Tryz.f67)) (.seq (Cat [true, false] (bodyOf Tryz.f67)) (.seq (Cat [true, true, false] (bodyOf Tryz.f67)) (.seq (Cat [true, true, true, false] (bodyOf Tryz.f67)) (.seq (Cat [true, true, true, true, false] (bodyOf Tryz.f67)) (.seq (Cat [true, true, true, true, true, false] (bodyOf Tryz.f67)) (.seq (Cat [true, true, true, true, true, true, false] (bodyOf Tryz.f67)) (.seq (Cat [true, true, true, true, true, true, true, false] (bodyOf Tryz.f67)) (.seq (Cat [true, true, true, true, true, true, true, true, false] (bodyOf Tryz.f67)) (Cat [true, true, true, true, true, true, true, true, true] (bodyOf Tryz.f67)))))))))) := rfl
  have ab : abox (H0 w all ws) (.agg [.nilSl, .str [], .nilPtr, .bool false, .nilSl]) = some (.ptr 3 0, hB w all ws z27) := rfl
  have p0 : ∃ t, ex Cp (Cat [false] (bodyOf Tryz.f67)) ⟨a0, H0 w all ws⟩ = some (.normal, ⟨t, hB w all ws z27⟩) ∧ t.length = 41 ∧ t[0]? = some (.ptr 2 0) ∧ t[2]? = some (.ptr 3 0) := by
    simp only [bodyOf, Tryz.f67, Cat, Zs, awanted, aoper, evalO, put, acallOp, abuiltin, Nat.reduceEqDiff, Nat.reduceLT, ofV, ofCell, ↓reduceIte, hl, i0, CP, Pz.z27, Pz.own182, ab]
    exact ⟨_, rfl, by simp [hl], by simp [i0], by simp [hl]⟩
  obtain ⟨t0, x0, tl0, t00, t02⟩ := p0
  unfold pQuery
  have d1 := must_lit E hw [([83, 69, 76, 69, 67, 84] : List UInt8)] (by decide)
  cases h1 : must [([83, 69, 76, 69, 67, 84] : List UInt8)] ws with
  | out => exact trivial
  | er e =>
    rw [h1] at d1
    intro h hg
    obtain ⟨cs, hcs, ef⟩ : Pn e _ (run Cp 106 [.ptr 2 0, .lst [.str ([83, 69, 76, 69, 67, 84] : List UInt8)] 1 .full] _) := d1 (hB w all ws z27) hB_at
    have pp : ∃ t, ex Cp (Cat [true, false] (bodyOf Tryz.f67)) ⟨t0, hB w all ws z27⟩ = some (.pan (flt e), ⟨t, (hB w all ws z27).set 2 (some (.arr cs))⟩) := by
      simp only [bodyOf, Tryz.f67, Cat, Zs, awanted, aoper, evalO, put, acallOp, abuiltin, Nat.reduceEqDiff, Nat.reduceLT, ofV, ofCell, ↓reduceIte, tl0, t00, t02, CP, Pz.bs52, Pz.own182, ef, kc_pan]
      exact ⟨_, rfl⟩
    obtain ⟨t, xe⟩ := pp
    have he : ex Cp (bodyOf Tryz.f67) ⟨slots Tryz.f67 [.ptr 2 0], H0 w all ws⟩ = some (.pan (flt e), ⟨t, (hB w all ws z27).set 2 (some (.arr cs))⟩) := by
      rw [hb, ← ha0]
      rw [e_seq, x0]
      simp only [k_seq]
      rw [e_seq, xe]
      rfl
    exact dpan (f := 67) (args := [.ptr 2 0]) E hg Tryz.func67 rfl rfl rfl rfl rfl rfl he Heap.get_set_eq hcs
  | ok u1 r1 =>
    rw [h1] at d1
    obtain ⟨w1, d1⟩ := d1
    obtain ⟨v1, rfl, e1⟩ := d1 (hB w all ws z27) hB_at
    have e1 : run Cp 106 [.ptr 2 0, .lst [.str ([83, 69, 76, 69, 67, 84] : List UInt8)] 1 .full] _ = _ := e1
    have p1 : ∃ t, ex Cp (Cat [true, false] (bodyOf Tryz.f67)) ⟨t0, hB w all ws z27⟩ = some (.normal, ⟨t, to0 w all r1 (hB w all ws z27)⟩) ∧ t.length = 41 ∧ t[0]? = some (.ptr 2 0) ∧ t[2]? = some (.ptr 3 0) := by
      simp only [bodyOf, Tryz.f67, Cat, Zs, awanted, aoper, evalO, put, acallOp, abuiltin, Nat.reduceEqDiff, Nat.reduceLT, ofV, ofCell, ↓reduceIte, tl0, t00, t02, CP, Pz.bs52, Pz.own182, e1]
      exact ⟨_, rfl, by simp [tl0], by simp [t00], by simp [t02]⟩
    obtain ⟨t1, x1, tl1, t10, t12⟩ := p1
    rw [R.bind_ok]
    have d2 := sev107 E (fun ws hw => item_does E hw) w1
    cases h2 : several pItem r1 with
    | out => exact trivial
    | er e =>
      rw [h2] at d2
      intro h hg
      obtain ⟨cs, hcs, ef⟩ := d2 (to0 w all r1 (hB w all ws z27)) At0.to
      have pp : ∃ t, ex Cp (Cat [true, true, false] (bodyOf Tryz.f67)) ⟨t1, to0 w all r1 (hB w all ws z27)⟩ = some (.pan (flt e), ⟨t, (to0 w all r1 (hB w all ws z27)).set 2 (some (.arr cs))⟩) := by
        simp only [bodyOf, Tryz.f67, Cat, Zs, awanted, aoper, evalO, put, acallOp, abuiltin, Nat.reduceEqDiff, Nat.reduceLT, ofV, ofCell, ↓reduceIte, tl1, t10, t12, CP, ef, kc_pan]
        exact ⟨_, rfl⟩
      obtain ⟨t, xe⟩ := pp
      have he : ex Cp (bodyOf Tryz.f67) ⟨slots Tryz.f67 [.ptr 2 0], H0 w all ws⟩ = some (.pan (flt e), ⟨t, (to0 w all r1 (hB w all ws z27)).set 2 (some (.arr cs))⟩) := by
        rw [hb, ← ha0]
        rw [e_seq, x0]
        simp only [k_seq]
        rw [e_seq, x1]
        simp only [k_seq]
        rw [e_seq, xe]
        rfl
      exact dpan (f := 67) (args := [.ptr 2 0]) E hg Tryz.func67 rfl rfl rfl rfl rfl rfl he Heap.get_set_eq hcs
    | ok items r2 =>
      rw [h2] at d2
      obtain ⟨w2, d2⟩ := d2
      obtain ⟨v2, hv2, e2⟩ := d2 (to0 w all r1 (hB w all ws z27)) At0.to
      rw [to_to] at e2
      have bu := Pz.bu27 hv2.isCell
      obtain ⟨G, eG⟩ : ∃ G, G = ((to0 w all r2 (hB w all ws z27)).new (.arr z27)).set 4 (some (.arr [v2, .str [], .nilPtr, .bool false, .nilSl])) := ⟨_, rfl⟩
      have ab2 : abox (to0 w all r2 (hB w all ws z27)) (.agg [.nilSl, .str [], .nilPtr, .bool false, .nilSl]) = some (.ptr 4 0, (to0 w all r2 (hB w all ws z27)).new (.arr z27)) := rfl
      have st2 : storeA ((to0 w all r2 (hB w all ws z27)).new (.arr z27)) 5 (.ptr 4 0) (.agg [v2, .str [], .nilPtr, .bool false, .nilSl]) = some G := by
        rw [eG]; exact put_all (cs := z27) rfl rfl rfl (by simp only [List.all_cons, List.all_nil, hv2.isCell]; rfl)
      have q2 : QB w all r2 G [v2, .str [], .nilPtr, .bool false, .nilSl] := by rw [eG]; exact ⟨rfl, rfl, rfl⟩
      have p2 : ∃ t, ex Cp (Cat [true, true, false] (bodyOf Tryz.f67)) ⟨t1, to0 w all r1 (hB w all ws z27)⟩ = some (.normal, ⟨t, G⟩) ∧ QS t := by
        simp only [bodyOf, Tryz.f67, Cat, Zs, awanted, aoper, evalO, put, acallOp, abuiltin, Nat.reduceEqDiff, Nat.reduceLT, ofV, ofCell, ↓reduceIte, tl1, t10, t12, CP, e2, bu, Pz.z27, Pz.own182, ab2, Pz.st27, st2]
        exact ⟨_, rfl, by simp [tl1], by simp [t10], by simp [t12], by simp [tl1]⟩
      obtain ⟨t2, x2, tl2, t20, t22, t23⟩ := p2
      rw [R.bind_ok]
      have d3 := must_lit E w2 [([70, 82, 79, 77] : List UInt8)] (by decide)
      cases h3 : must [([70, 82, 79, 77] : List UInt8)] r2 with
      | out => exact trivial
      | er e =>
        rw [h3] at d3
        intro h hg
        obtain ⟨cs, hcs, ef⟩ : Pn e _ (run Cp 106 [.ptr 2 0, .lst [.str ([70, 82, 79, 77] : List UInt8)] 1 .full] _) := d3 G q2.at0
        have pp : ∃ t, ex Cp (Cat [true, true, true, false] (bodyOf Tryz.f67)) ⟨t2, G⟩ = some (.pan (flt e), ⟨t, G.set 2 (some (.arr cs))⟩) := by
          simp only [bodyOf, Tryz.f67, Cat, Zs, awanted, aoper, evalO, put, acallOp, abuiltin, Nat.reduceEqDiff, Nat.reduceLT, ofV, ofCell, ↓reduceIte, tl2, t20, t22, t23, CP, Pz.bs52, Pz.own182, ef, kc_pan]
          exact ⟨_, rfl⟩
        obtain ⟨t, xe⟩ := pp
        have he : ex Cp (bodyOf Tryz.f67) ⟨slots Tryz.f67 [.ptr 2 0], H0 w all ws⟩ = some (.pan (flt e), ⟨t, G.set 2 (some (.arr cs))⟩) := by
          rw [hb, ← ha0]
          rw [e_seq, x0]
          simp only [k_seq]
          rw [e_seq, x1]
          simp only [k_seq]
          rw [e_seq, x2]
          simp only [k_seq]
          rw [e_seq, xe]
          rfl
        exact dpan (f := 67) (args := [.ptr 2 0]) E hg Tryz.func67 rfl rfl rfl rfl rfl rfl he Heap.get_set_eq hcs
      | ok u3 r3 =>
        rw [h3] at d3
        obtain ⟨w3, d3⟩ := d3
        obtain ⟨v3, rfl, e3⟩ := d3 G q2.at0
        have e3 : run Cp 106 [.ptr 2 0, .lst [.str ([70, 82, 79, 77] : List UInt8)] 1 .full] _ = _ := e3
        have q3 := q2.to (r := r3)
        obtain ⟨G3, eG3⟩ : ∃ G3, G3 = to0 w all r3 G := ⟨_, rfl⟩
        rw [← eG3] at q3 e3
        have p3 : ∃ t, ex Cp (Cat [true, true, true, false] (bodyOf Tryz.f67)) ⟨t2, G⟩ = some (.normal, ⟨t, G3⟩) ∧ QS t := by
          simp only [bodyOf, Tryz.f67, Cat, Zs, awanted, aoper, evalO, put, acallOp, abuiltin, Nat.reduceEqDiff, Nat.reduceLT, ofV, ofCell, ↓reduceIte, tl2, t20, t22, t23, CP, Pz.bs52, Pz.own182, e3]
          exact ⟨_, rfl, by simp [tl2], by simp [t20], by simp [t22], by simp [t23]⟩
        obtain ⟨t3, x3, tl3, t30, t32, t33⟩ := p3
        rw [R.bind_ok]
        have d4 := name_does E w3
        cases h4 : pName r3 with
        | out => exact trivial
        | er e =>
          rw [h4] at d4
          intro h hg
          obtain ⟨cs, hcs, ef⟩ := d4 G3 q3.at0
          have pp : ∃ t, ex Cp (Cat [true, true, true, true, false] (bodyOf Tryz.f67)) ⟨t3, G3⟩ = some (.pan (flt e), ⟨t, G3.set 2 (some (.arr cs))⟩) := by
            simp only [bodyOf, Tryz.f67, Cat, Zs, awanted, aoper, evalO, put, acallOp, abuiltin, Nat.reduceEqDiff, Nat.reduceLT, ofV, ofCell, ↓reduceIte, tl3, t30, t32, t33, CP, ef, kc_pan]
            exact ⟨_, rfl⟩
          obtain ⟨t, xe⟩ := pp
          have he : ex Cp (bodyOf Tryz.f67) ⟨slots Tryz.f67 [.ptr 2 0], H0 w all ws⟩ = some (.pan (flt e), ⟨t, G3.set 2 (some (.arr cs))⟩) := by
            rw [hb, ← ha0]
            rw [e_seq, x0]
            simp only [k_seq]
            rw [e_seq, x1]
            simp only [k_seq]
            rw [e_seq, x2]
            simp only [k_seq]
            rw [e_seq, x3]
            simp only [k_seq]
            rw [e_seq, xe]
            rfl
          exact dpan (f := 67) (args := [.ptr 2 0]) E hg Tryz.func67 rfl rfl rfl rfl rfl rfl he Heap.get_set_eq hcs
        | ok tb r4 =>
          rw [h4] at d4
          obtain ⟨w4, d4⟩ := d4
          obtain ⟨v4, rfl, e4⟩ := d4 G3 q3.at0
          have q4 := q3.to (r := r4)
          obtain ⟨G4, eG4⟩ : ∃ G4, G4 = to0 w all r4 G3 := ⟨_, rfl⟩
          rw [← eG4] at q4 e4
          obtain ⟨s4, q5⟩ := q4.st (j := 1) (v := .str tb) rfl (Nat.le_of_ble_eq_true rfl)
          have p4 : ∃ t, ex Cp (Cat [true, true, true, true, false] (bodyOf Tryz.f67)) ⟨t3, G3⟩ = some (.normal, ⟨t, G4.set 4 (some (.arr ([v2, .str [], .nilPtr, .bool false, .nilSl].set 1 (.str tb))))⟩) ∧ QS t := by
            simp only [bodyOf, Tryz.f67, Cat, Zs, awanted, aoper, evalO, put, acallOp, abuiltin, Nat.reduceEqDiff, Nat.reduceLT, ofV, ofCell, ↓reduceIte, tl3, t30, t32, t33, CP, e4, Pz.f27_1, dropCells, Nat.zero_add, Pz.st9, s4]
            exact ⟨_, rfl, by simp [tl3], by simp [t30], by simp [t32], by simp [t33]⟩
          obtain ⟨t4, x4, s4'⟩ := p4
          rw [R.bind_ok]
          have d5 := whereE E w4 s4' (v := v2) (n := .str tb) q5
          cases h5 : pWhere r4 with
          | out => exact trivial
          | er e =>
            rw [h5] at d5
            obtain ⟨t, H', cs, xe, g, hcs⟩ := d5
            intro h hg
            have he : ex Cp (bodyOf Tryz.f67) ⟨slots Tryz.f67 [.ptr 2 0], H0 w all ws⟩ = some (.pan (flt e), ⟨t, H'⟩) := by
              rw [hb, ← ha0]
              rw [e_seq, x0]
              simp only [k_seq]
              rw [e_seq, x1]
              simp only [k_seq]
              rw [e_seq, x2]
              simp only [k_seq]
              rw [e_seq, x3]
              simp only [k_seq]
              rw [e_seq, x4]
              simp only [k_seq]
              rw [e_seq, xe]
              rfl
            exact dpan (f := 67) (args := [.ptr 2 0]) E hg Tryz.func67 rfl rfl rfl rfl rfl rfl he g hcs
          | ok c r5 =>
            rw [h5] at d5
            obtain ⟨t5, H5, x5, w5, s5, vc, hvc, q6⟩ := d5
            rw [R.bind_ok]
            have d6 := groupE E w5 s5 q6
            cases h6 : pGroups r5 with
            | out => exact trivial
            | er e =>
              rw [h6] at d6
              obtain ⟨t, H', cs, xe, g, hcs⟩ := d6
              intro h hg
              have he : ex Cp (bodyOf Tryz.f67) ⟨slots Tryz.f67 [.ptr 2 0], H0 w all ws⟩ = some (.pan (flt e), ⟨t, H'⟩) := by
                rw [hb, ← ha0]
                rw [e_seq, x0]
                simp only [k_seq]
                rw [e_seq, x1]
                simp only [k_seq]
                rw [e_seq, x2]
                simp only [k_seq]
                rw [e_seq, x3]
                simp only [k_seq]
                rw [e_seq, x4]
                simp only [k_seq]
                rw [e_seq, x5]
                simp only [k_seq]
                rw [e_seq, xe]
                rfl
              exact dpan (f := 67) (args := [.ptr 2 0]) E hg Tryz.func67 rfl rfl rfl rfl rfl rfl he g hcs
            | ok g r6 =>
              rw [h6] at d6
              obtain ⟨t6, H6, x6, w6, s6, vg, hvg, q7⟩ := d6
              obtain ⟨tl6, t60, t62, t63⟩ := s6
              rw [R.bind_ok]
              obtain ⟨y, r7, rfl⟩ := w6.cons
              have d7 := of_run E 6 w6
              unfold ofKind
              by_cases hk : y.Kind = 6
              · simp only [hk, if_true] at d7 ⊢
                intro h hg
                have e7 := d7 H6 q7.at0
                have q8 := q7.to (r := r7)
                obtain ⟨H7, eH7⟩ : ∃ H7, H7 = to0 w all r7 H6 := ⟨_, rfl⟩
                rw [← eH7] at q8 e7
                have p7 : ∃ t, ex Cp (Cat [true, true, true, true, true, true, true, false] (bodyOf Tryz.f67)) ⟨t6, H6⟩ = some (.normal, ⟨t, H7⟩) ∧ QS t := by
                  simp only [bodyOf, Tryz.f67, Cat, Zs, awanted, aoper, evalO, put, acallOp, abuiltin, Nat.reduceEqDiff, Nat.reduceLT, ofV, ofCell, ↓reduceIte, tl6, t60, t62, t63, CP, e7]
                  exact ⟨_, rfl, by simp [tl6], by simp [t60], by simp [t62], by simp [t63]⟩
                obtain ⟨t7, x7, tl7, t70, t72, t73⟩ := p7
                have hall : [v2, .str tb, vc, .bool g.1, vg].all AVal.isCell = true := by simp only [List.all_cons, List.all_nil, hv2.isCell, rCondT_cell hvc, hvg.isCell]; rfl
                have l8 : loadA H7 true 5 (.ptr 4 0) = some (.agg [v2, .str tb, vc, .bool g.1, vg]) := ld_all q8.g4 rfl
                have s8 : storeA H7 5 (.ptr 3 0) (.agg [v2, .str tb, vc, .bool g.1, vg]) = some (H7.set 3 (some (.arr [v2, .str tb, vc, .bool g.1, vg]))) := put_all q8.g3 rfl rfl hall
                have p8 : ∃ t, ex Cp (Cat [true, true, true, true, true, true, true, true, false] (bodyOf Tryz.f67)) ⟨t7, H7⟩ = some (.normal, ⟨t, H7.set 3 (some (.arr [v2, .str tb, vc, .bool g.1, vg]))⟩) ∧ QS t := by
                  simp only [bodyOf, Tryz.f67, Cat, Zs, awanted, aoper, evalO, put, acallOp, abuiltin, Nat.reduceEqDiff, Nat.reduceLT, ofV, ofCell, ↓reduceIte, tl7, t70, t72, t73, CP, Pz.ld27, l8, Pz.st27, s8]
                  exact ⟨_, rfl, by simp [tl7], by simp [t70], by simp [t72], by simp [t73]⟩
                obtain ⟨t8, x8, tl8, t80, t82, t83⟩ := p8
                have he : ex Cp (bodyOf Tryz.f67) ⟨slots Tryz.f67 [.ptr 2 0], H0 w all ws⟩ = some (.ret, ⟨t8, H7.set 3 (some (.arr [v2, .str tb, vc, .bool g.1, vg]))⟩) := by
                  rw [hb, ← ha0]
                  rw [e_seq, x0]
                  simp only [k_seq]
                  rw [e_seq, x1]
                  simp only [k_seq]
                  rw [e_seq, x2]
                  simp only [k_seq]
                  rw [e_seq, x3]
                  simp only [k_seq]
                  rw [e_seq, x4]
                  simp only [k_seq]
                  rw [e_seq, x5]
                  simp only [k_seq]
                  rw [e_seq, x6]
                  simp only [k_seq]
                  rw [e_seq, x7]
                  simp only [k_seq]
                  rw [e_seq, x8]
                  simp only [k_seq]
                  exact ex_ret _
                have hrf : refs (.agg [v2, .str tb, vc, .bool g.1, vg]) = [] := by
                  have := rCondT_ref _ _ hvc
                  simp only [refsL, List.append_nil] at this
                  simp only [refs, refsL, hv2.refs rItem_p, hvg.refs rGroup_p, this, List.append_nil, List.nil_append]
                refine ⟨strip v2, strip vc, strip vg, hv2.strip rItem_p, rCondT_str _ _ hvc, hvg.strip rGroup_p, ?_⟩
                exact dok (f := 67) (args := [.ptr 2 0]) (r := r7) E hg Tryz.func67 rfl rfl rfl rfl rfl rfl he (.inl rfl) (vs := [.agg [v2, .str tb, vc, .bool g.1, vg]]) (v := strip (.agg [v2, .str tb, vc, .bool g.1, vg]))
                  (by simp only [show Tryz.f67.results.toList = [ResultVar.cell 2 27] from rfl, aresults, ares1, CP, t82, Option.getD_some, Pz.ld27, ld_all (Heap.get_set_eq) (show [v2, .str tb, vc, .bool g.1, vg].length = 5 from rfl)]) (Nrm.of hrf) ((Heap.get_set_ne (by decide)).trans q8.at0)
              · simp only [hk, if_false] at d7 ⊢
                intro h hg
                obtain ⟨cs, hcs, ef⟩ := d7 H6 q7.at0
                have pp : ∃ t, ex Cp (Cat [true, true, true, true, true, true, true, false] (bodyOf Tryz.f67)) ⟨t6, H6⟩ = some (.pan (flt ⟨41, y.At⟩), ⟨t, H6.set 2 (some (.arr cs))⟩) := by
                  simp only [bodyOf, Tryz.f67, Cat, Zs, awanted, aoper, evalO, put, acallOp, abuiltin, Nat.reduceEqDiff, Nat.reduceLT, ofV, ofCell, ↓reduceIte, tl6, t60, t62, t63, CP, ef, kc_pan]
                  exact ⟨_, rfl⟩
                obtain ⟨t, xe⟩ := pp
                have he : ex Cp (bodyOf Tryz.f67) ⟨slots Tryz.f67 [.ptr 2 0], H0 w all ws⟩ = some (.pan (flt ⟨41, y.At⟩), ⟨t, H6.set 2 (some (.arr cs))⟩) := by
                  rw [hb, ← ha0]
                  rw [e_seq, x0]
                  simp only [k_seq]
                  rw [e_seq, x1]
                  simp only [k_seq]
                  rw [e_seq, x2]
                  simp only [k_seq]
                  rw [e_seq, x3]
                  simp only [k_seq]
                  rw [e_seq, x4]
                  simp only [k_seq]
                  rw [e_seq, x5]
                  simp only [k_seq]
                  rw [e_seq, x6]
                  simp only [k_seq]
                  rw [e_seq, xe]
                  rfl
                exact dpan (f := 67) (args := [.ptr 2 0]) E hg Tryz.func67 rfl rfl rfl rfl rfl rfl he Heap.get_set_eq hcs
end
end Go.Proofs.Q.Par



set_option linter.unusedSimpArgs false
set_option linter.unusedVariables false
set_option maxRecDepth 100000
namespace Go.Proofs.Q.Par
open Go Go.Am Go.Proofs
namespace Rx
theorem z27 : zeroA Tryz.prog 27 = some (.agg [.nilSl, .str [], .nilPtr, .bool false, .nilSl]) := by kernel_rfl
theorem z30 : zeroA Tryz.prog 30 = some (.agg [.int .i64 0, .int .i64 0]) := by kernel_rfl
theorem own : Cp.own "parse.go:199" = false ∧ Cp.own "parse.go:211" = false ∧ Cp.own "parse.go:205" = false := by refine ⟨?_, ?_, ?_⟩ <;> kernel_rfl
theorem cb : Cp.cbox "parse.go:211" = false := by kernel_rfl
theorem st27 (h : AHeap) (p v : AVal) : astore Tryz.prog h 27 p v = storeA h 5 p v := by kernel_rfl
theorem st30 (h : AHeap) (p v : AVal) : astore Tryz.prog h 30 p v = storeA h 2 p v := by kernel_rfl
theorem ld30 (h : AHeap) (p : AVal) : aload Tryz.prog h 30 p = loadA h true 2 p := by kernel_rfl
theorem bu30 : abuild Tryz.prog 30 [] = some (.agg [.int .i64 0, .int .i64 0]) := by kernel_rfl
theorem bu27 : abuild Tryz.prog 27 [] = some (.agg [.nilSl, .str [], .nilPtr, .bool false, .nilSl]) := by kernel_rfl
theorem bu97 (v : AVal) (hv : v.isCell = true) (hb : v.boxable = true) (hc : v.cells = [v]) : abuild Tryz.prog 97 [(0, v)] = some (.agg [v, .int .i64 0]) := by
  have h1 : abuild Tryz.prog 97 [(0, v)] = ((fillA ([(0, 1), (1, 1)].toArray[·]?) [.nilSl, .int .i64 0] [(0, v)]).bind fun c => some (.agg c)) := by kernel_rfl
  rw [h1]
  simp [fillA, hv, hb, hc, setRange]
theorem eqn (xo : Nat) (h : AHeap) : abin Cp .eql 20 (.tmp xo) (.const .nilIface) h .nilI .nilI = some (.bool true) := by kernel_rfl
theorem eqi (xo yo : Operand) (h : AHeap) (t : TypeId) (v : AVal) : abin Cp .eql 20 xo yo h (.iface t v) .nilI = some (.bool false) := by kernel_rfl
theorem un30 : ∃ fs, Tryz.prog.underlying 30 = some (.struct fs) := ⟨_, rfl⟩
end Rx
def hd66 : List AVal := [.ptr 0 0, .ptr 1 0]
theorem calm66 (h : AHeap) : ∃ n0, ∀ n, n0 ≤ n → adefer Cp (arun Cp n) n 66 hd66 .calm h = some (.ret (.tup []), h, .calm) := by
  obtain ⟨a0, ha0⟩ : ∃ a0, a0 = slots Tryz.f66 hd66 := ⟨_, rfl⟩
  have hl : a0.length = 18 := by rw [ha0]; rfl
  have h0 : ∀ n, aexecR Cp (arun Cp n) n (Cat [false] (bodyOf Tryz.f66)) ⟨slots Tryz.f66 hd66, h⟩ .calm = some (.normal, ⟨(a0.set 5 .nilI).set 2 .nilI, h⟩, .calm) := by
    intro n
    rw [← ha0]
    simp [bodyOf, Tryz.f66, Cat, aexecR, aopsR, awanted, isRecover, put, aoper, evalO, hl]
  have p : ∃ t, ex Cp (Cat [true] (bodyOf Tryz.f66)) ⟨(a0.set 5 .nilI).set 2 .nilI, h⟩ = some (.ret, ⟨t, h⟩) := by
    simp only [bodyOf, Tryz.f66, Cat, Zs, awanted, aoper, evalO, put, acallOp, abuiltin, Nat.reduceEqDiff, Nat.reduceLT, ofV, ofCell, ↓reduceIte, hl, CP, Rx.eqn]
    exact ⟨_, rfl⟩
  obtain ⟨t, e⟩ := p
  exact adefer_of (fn := Tryz.f66) Tryz.func66 (show Tryz.f66.body = some (.seq (Cat [false] (bodyOf Tryz.f66)) (Cat [true] (bodyOf Tryz.f66))) from rfl) h0 (by kernel_rfl) e (.inl rfl) (vs := []) rfl
theorem pan66 (c a : Int) (h : AHeap) (q0 q1 q2 q3 q4 e0 e1 : AVal) (hn : 2 ≤ h.next) (g0 : h.get 0 = some (.arr [q0, q1, q2, q3, q4])) (g1 : h.get 1 = some (.arr [e0, e1])) : ∃ h' n0, h'.get 0 = some (.arr [.nilSl, .str [], .nilPtr, .bool false, .nilSl]) ∧ h'.get 1 = some (.arr [.int .i64 c, .int .i64 a]) ∧
    ∀ n, n0 ≤ n → adefer Cp (arun Cp n) n 66 hd66 (.pan (.iface 30 (.agg [.int .i64 c, .int .i64 a]))) h = some (.ret (.tup []), h', .done (.iface 30 (.agg [.int .i64 c, .int .i64 a]))) := by
  obtain ⟨v, hv⟩ : ∃ v, v = AVal.iface 30 (.agg [.int .i64 c, .int .i64 a]) := ⟨_, rfl⟩
  obtain ⟨a0, ha0⟩ : ∃ a0, a0 = slots Tryz.f66 hd66 := ⟨_, rfl⟩
  have hl : a0.length = 18 := by rw [ha0]; rfl
  have i0 : a0[0]? = some (.ptr 0 0) := by rw [ha0]; rfl
  have i1 : a0[1]? = some (.ptr 1 0) := by rw [ha0]; rfl
  rw [← hv]
  have h0 : ∀ n, aexecR Cp (arun Cp n) n (Cat [false] (bodyOf Tryz.f66)) ⟨slots Tryz.f66 hd66, h⟩ (.pan v) = some (.normal, ⟨(a0.set 5 v).set 2 v, h⟩, .done v) := by
    intro n
    rw [← ha0]
    simp [bodyOf, Tryz.f66, Cat, aexecR, aopsR, awanted, isRecover, put, aoper, evalO, hl]
  subst hv
  obtain ⟨k, hk⟩ : ∃ k, k = h.next := ⟨_, rfl⟩
  obtain ⟨h1, hh1⟩ : ∃ h1 : AHeap, h1 = (h.new (.arr [.int .i64 0, .int .i64 0])).set k (some (.arr [.int .i64 c, .int .i64 a])) := ⟨_, rfl⟩
  have bx : abox h (.agg [.int .i64 0, .int .i64 0]) = some (.ptr k 0, h.new (.arr [.int .i64 0, .int .i64 0])) := by rw [hk]; rfl
  have gk : (h.new (.arr [.int .i64 0, .int .i64 0])).get k = some (.arr [.int .i64 0, .int .i64 0]) := by rw [hk]; exact Heap.get_new_eq
  have sk : storeA (h.new (.arr [.int .i64 0, .int .i64 0])) 2 (.ptr k 0) (.agg [.int .i64 c, .int .i64 a]) = some h1 := by
    rw [hh1]; simp [storeA, gk, AVal.cells, AVal.isCell, setRange]
  have gk1 : h1.get k = some (.arr [.int .i64 c, .int .i64 a]) := by rw [hh1]; exact Heap.get_set_eq
  have l30 : loadA h1 true 2 (.ptr k 0) = some (.agg [.int .i64 c, .int .i64 a]) := by simp [loadA, gk1, ofCells]
  have g01 : h1.get 0 = some (.arr [q0, q1, q2, q3, q4]) := by rw [hh1, Heap.get_set_ne (by omega), Heap.get_new_lt (by omega)]; exact g0
  have g11 : h1.get 1 = some (.arr [e0, e1]) := by rw [hh1, Heap.get_set_ne (by omega), Heap.get_new_lt (by omega)]; exact g1
  obtain ⟨h2, hh2⟩ : ∃ h2 : AHeap, h2 = h1.set 0 (some (.arr [.nilSl, .str [], .nilPtr, .bool false, .nilSl])) := ⟨_, rfl⟩
  have s0 : storeA h1 5 (.ptr 0 0) (.agg [.nilSl, .str [], .nilPtr, .bool false, .nilSl]) = some h2 := by rw [hh2]; simp [storeA, g01, AVal.cells, AVal.isCell, setRange]
  have g12 : h2.get 1 = some (.arr [e0, e1]) := by rw [hh2, Heap.get_set_ne (by omega)]; exact g11
  have gk2 : h2.get k = some (.arr [.int .i64 c, .int .i64 a]) := by rw [hh2, Heap.get_set_ne (by omega)]; exact gk1
  obtain ⟨h3, hh3⟩ : ∃ h3 : AHeap, h3 = h2.set 1 (some (.arr [.int .i64 c, .int .i64 a])) := ⟨_, rfl⟩
  have s1 : storeA h2 2 (.ptr 1 0) (.agg [.int .i64 c, .int .i64 a]) = some h3 := by rw [hh3]; simp [storeA, g12, AVal.cells, AVal.isCell, setRange]
  obtain ⟨fs, hfs⟩ := Rx.un30
  have p : ∃ t, ex Cp (Cat [true] (bodyOf Tryz.f66)) ⟨(a0.set 5 (.iface 30 (.agg [.int .i64 c, .int .i64 a]))).set 2 (.iface 30 (.agg [.int .i64 c, .int .i64 a])), h⟩ = some (.normal, ⟨t, h3⟩) := by
    simp only [bodyOf, Tryz.f66, Cat, Zs, awanted, aoper, evalO, put, acallOp, abuiltin, Nat.reduceEqDiff, Nat.reduceLT, ofV, ofCell, ↓reduceIte, hl, i0, i1, CP, Rx.eqi, hfs, Rx.z30, bx, Rx.own.2.2, Rx.st30, sk, ex_tup, aun_not, Bool.not_true, Rx.bu27, Rx.ld30, l30, Rx.st27, s0, s1, e_draw, g_nil, g_cons, g_want, g_skip, g_val, g_call, g_ret, Option.map_none, areads, topRefs, List.flatMap_cons, List.flatMap_nil]
    rw [k_owes [(h1, h2, k)] (by kernel_rfl) (fun o ho => by simp only [List.mem_cons, List.not_mem_nil, or_false] at ho; subst ho; exact same_arr gk1 gk2)]
    exact ⟨_, rfl⟩
  obtain ⟨t, e⟩ := p
  obtain ⟨n0, hn0⟩ := adefer_of (fn := Tryz.f66) Tryz.func66 (show Tryz.f66.body = some (.seq (Cat [false] (bodyOf Tryz.f66)) (Cat [true] (bodyOf Tryz.f66))) from rfl) h0 (by kernel_rfl) e (.inr rfl) (vs := []) rfl
  refine ⟨h3, n0, ?_, by rw [hh3]; exact Heap.get_set_eq, hn0⟩
  rw [hh3, Heap.get_set_ne (by omega), hh2]; exact Heap.get_set_eq
mutual
theorem strip_strip : ∀ v, strip (strip v) = strip v
  | .iptr cs => by simp only [strip, stripL_stripL cs]
  | .lst cs n c => by cases c <;> simp only [strip, stripL_stripL cs]
  | .fn f a b => by simp only [strip, stripL_stripL a, stripL_stripL b]
  | .iface t v => by simp only [strip, strip_strip v]
  | .agg cs => by simp only [strip, stripL_stripL cs]
  | .tup cs => by simp only [strip, stripL_stripL cs]
  | .top | .bool _ | .int _ _ | .str _ | .nilPtr | .nilSl | .nilMap | .nilI | .nilFn | .ptr _ _ | .sl _ _ _ _ _ _ | .map _ => rfl
theorem stripL_stripL : ∀ vs, stripL (stripL vs) = stripL vs
  | [] => rfl
  | v :: vs => by simp only [stripL, strip_strip v, stripL_stripL vs]
end
theorem refs_one {v : AVal} (h : refsL [v] = []) : refs v = [] := by simpa [refsL] using h
theorem read_run {ws : List Word} (hw : Wf ws ws) {v0 : AVal} (hv0 : Sl rWord ws v0) : match pQuery ws with
    | .ok q _ => ∃ y0 y1 y2, Sl rItem q.Items y0 ∧ rCondT q.Where [y1] ∧ Sl rGroup q.Groups y2 ∧ ∀ h, run Cp 22 [v0] h = some (.ret (.tup [.agg [y0, .str q.Table, y1, .bool q.Grouped, y2], .agg [.int .i64 0, .int .i64 0]]), h)
    | .er e => ∀ h, run Cp 22 [v0] h = some (.ret (.tup [.agg [.nilSl, .str [], .nilPtr, .bool false, .nilSl], .agg [.int .i64 e.Code, .int .i64 e.At]]), h)
    | .out => True := by
  have hrf : refsL [v0] = [] := by simp only [refsL, hv0.refs rWord_p, List.append_nil]
  obtain ⟨w, hw'⟩ : ∃ w, w = strip v0 := ⟨_, rfl⟩
  have hsl : Sl rWord ws w := by rw [hw']; exact hv0.strip rWord_p
  have hic : w.isCell = true := Sl.isCell hsl
  obtain ⟨a0, ha0⟩ : ∃ a0, a0 = slots Tryz.f22 (stripL [v0]) := ⟨_, rfl⟩
  have hl : a0.length = 12 := by rw [ha0]; rfl
  have i0 : a0[0]? = some w := by rw [ha0, hw']; rfl
  obtain ⟨hA, hhA⟩ : ∃ hA : AHeap, hA = (bare.new (.arr [.nilSl, .str [], .nilPtr, .bool false, .nilSl])).new (.arr [.int .i64 0, .int .i64 0]) := ⟨_, rfl⟩
  have bx0 : abox bare (.agg [.nilSl, .str [], .nilPtr, .bool false, .nilSl]) = some (.ptr 0 0, bare.new (.arr [.nilSl, .str [], .nilPtr, .bool false, .nilSl])) := rfl
  have bx1 : abox (bare.new (.arr [.nilSl, .str [], .nilPtr, .bool false, .nilSl])) (.agg [.int .i64 0, .int .i64 0]) = some (.ptr 1 0, hA) := by rw [hhA]; rfl
  have bx2 : abox hA (.agg [w, .int .i64 0]) = some (.ptr 2 0, hA.new (.arr [w, .int .i64 0])) := by
    simp only [abox, bx_a, cl_a, List.all_cons, List.all_nil, hic, c_i, Bool.and_self, if_true]
    rw [hhA]; rfl
  obtain ⟨hB, hhB⟩ : ∃ hB : AHeap, hB = hA.new (.arr [w, .int .i64 0]) := ⟨_, rfl⟩
  rw [← hhB] at bx2
  have gB0 : hB.get 0 = some (.arr [.nilSl, .str [], .nilPtr, .bool false, .nilSl]) := by rw [hhB, hhA]; rfl
  have gB1 : hB.get 1 = some (.arr [.int .i64 0, .int .i64 0]) := by rw [hhB, hhA]; rfl
  have gB2 : hB.get 2 = some (.arr [w, .int .i64 0]) := by rw [hhB, hhA]; rfl
  have nB : hB.next = 3 := by rw [hhB, hhA]; rfl
  have p0 : ∃ t, ex Cp (Cat [false] (bodyOf Tryz.f22)) ⟨a0, bare⟩ = some (.normal, ⟨t, hA⟩) ∧ t.length = 12 ∧ t[0]? = some w ∧ t[2]? = some (.ptr 0 0) ∧ t[3]? = some (.ptr 1 0) := by
    simp only [bodyOf, Tryz.f22, Cat, Zs, awanted, aoper, evalO, put, acallOp, abuiltin, Nat.reduceEqDiff, Nat.reduceLT, ofV, ofCell, ↓reduceIte, hl, i0, CP, Rx.z27, Rx.z30, Rx.own.1, bx0, bx1]
    exact ⟨_, rfl, by simp [hl], by simp [i0], by simp [hl], by simp [hl]⟩
  obtain ⟨t1, e1, l1, j0, j2, j3⟩ := p0
  obtain ⟨t2, ht2⟩ : ∃ t2, t2 = t1.set 5 (.fn (.func 66) [] [.ptr 0 0, .ptr 1 0]) := ⟨_, rfl⟩
  have l2 : t2.length = 12 := by rw [ht2]; simp [l1]
  have k0 : t2[0]? = some w := by rw [ht2]; simp [j0]
  have k2 : t2[2]? = some (.ptr 0 0) := by rw [ht2]; simp [j2]
  have k3 : t2[3]? = some (.ptr 1 0) := by rw [ht2]; simp [j3]
  have p2 : ∃ t, ex Cp (Cat [true, true, false] (bodyOf Tryz.f22)) ⟨t2, hA⟩ = some (.normal, ⟨t, hB⟩) ∧ t.length = 12 ∧ t[2]? = some (.ptr 0 0) ∧ t[3]? = some (.ptr 1 0) ∧ t[4]? = some (.ptr 2 0) := by
    simp only [bodyOf, Tryz.f22, Cat, Zs, awanted, aoper, evalO, put, acallOp, abuiltin, Nat.reduceEqDiff, Nat.reduceLT, ofV, ofCell, ↓reduceIte, l2, k0, CP, Rx.bu97 w hic (bx_c hic) (cl_c hic), Rx.cb, bx2]
    exact ⟨_, rfl, by simp [l2], by simp [k2], by simp [k3], by simp [l2]⟩
  obtain ⟨t3, e3, l3, m2, m3, m4⟩ := p2
  have fin : ∀ (x : AExit) (s3 : ASt) (n0 : Nat) (rr : ARes) (h' : AHeap) (rv : AVal), ex Cp (Cat [true, true] (bodyOf Tryz.f22)) ⟨t2, hA⟩ = some (x, s3) → aleave Cp (arun Cp n0) n0 Tryz.f22 66 hd66 (some (x, s3)) = some (rr, h') → normRes (fun _ => false) h' Am.depth rr = some (.ret rv) → ∀ h, run Cp 22 [v0] h = some (.ret rv, h) := by
    intro x s3 n0 rr h' rv hx hlv hnr h
    refine run_deferC (C := Cp) (f := 22) (fn := Tryz.f22) (r0 := Cat [false] (bodyOf Tryz.f22)) (r1 := Cat [true, false] (bodyOf Tryz.f22)) (b := Cat [true, true] (bodyOf Tryz.f22)) Tryz.func22 rfl rfl rfl rfl hrf (by kernel_rfl) (s1 := ⟨t1, hA⟩) (s2 := ⟨t2, hA⟩) (g := 66) (dargs := hd66) (by rw [← ha0]; exact e1) rfl ?_ ?_ (x := x) (s3 := s3) ?_ hlv hnr h
    · simp only [List.reverse_cons, List.reverse_nil, List.nil_append, Zs, awanted, aoper, evalO, put, acallOp, abuiltin, Nat.reduceEqDiff, Nat.reduceLT, ofV, ofCell, ↓reduceIte, l1, j0, j2, j3, CP]
      rw [ht2]
    · have i5 : t2[5]? = some (.fn (.func 66) [] [.ptr 0 0, .ptr 1 0]) := by rw [ht2]; simp [l1]
      simp only [calleeOf, evalO, i5, Option.getD_some, List.map_nil, List.nil_append, hd66]
    · exact hx
  have E : Mem w ws := ⟨hsl, by rw [hw', strip_strip]⟩
  have gat : At0 w ws ws hB := by unfold At0; rw [gB2]; simp [cel]
  have qr := query_runs E hw
  cases hq : pQuery ws with
  | out => exact trivial
  | ok q r =>
    rw [hq] at qr
    obtain ⟨y0, y1, y2, hy0, hy1, hy2, hrun⟩ := qr hB gat
    obtain ⟨hC, hhC⟩ : ∃ hC : AHeap, hC = to0 w ws r hB := ⟨_, rfl⟩
    rw [← hhC] at hrun
    have c0 := Sl.isCell hy0
    have c1 := rCondT_cell hy1
    have c2 := Sl.isCell hy2
    have gC0 : hC.get 0 = some (.arr [.nilSl, .str [], .nilPtr, .bool false, .nilSl]) := by rw [hhC]; exact (Heap.get_set_ne (by decide)).trans gB0
    have gC1 : hC.get 1 = some (.arr [.int .i64 0, .int .i64 0]) := by rw [hhC]; exact (Heap.get_set_ne (by decide)).trans gB1
    obtain ⟨hD, hhD⟩ : ∃ hD : AHeap, hD = hC.set 0 (some (.arr [y0, .str q.Table, y1, .bool q.Grouped, y2])) := ⟨_, rfl⟩
    have sD : storeA hC 5 (.ptr 0 0) (.agg [y0, .str q.Table, y1, .bool q.Grouped, y2]) = some hD := by rw [hhD]; simp [storeA, gC0, cl_a, c0, c1, c2, c_s, c_b, setRange]
    have gD1 : hD.get 1 = some (.arr [.int .i64 0, .int .i64 0]) := by rw [hhD, Heap.get_set_ne (by omega)]; exact gC1
    obtain ⟨hE, hhE⟩ : ∃ hE : AHeap, hE = hD.set 1 (some (.arr [.int .i64 0, .int .i64 0])) := ⟨_, rfl⟩
    have sE : storeA hD 2 (.ptr 1 0) (.agg [.int .i64 0, .int .i64 0]) = some hE := by rw [hhE]; simp [storeA, gD1, AVal.cells, AVal.isCell, setRange]
    have gE1 : hE.get 1 = some (.arr [.int .i64 0, .int .i64 0]) := by rw [hhE]; exact Heap.get_set_eq
    have gE0 : hE.get 0 = some (.arr [y0, .str q.Table, y1, .bool q.Grouped, y2]) := by rw [hhE, Heap.get_set_ne (by omega), hhD]; exact Heap.get_set_eq
    have p3 : ∃ t, ex Cp (Cat [true, true] (bodyOf Tryz.f22)) ⟨t2, hA⟩ = some (.ret, ⟨t, hE⟩) ∧ t[2]? = some (.ptr 0 0) ∧ t[3]? = some (.ptr 1 0) := by
      rw [show Cat [true, true] (bodyOf Tryz.f22) = .seq (Cat [true, true, false] (bodyOf Tryz.f22)) (Cat [true, true, true] (bodyOf Tryz.f22)) from rfl]
      simp only [e_seq, e3, k_seq]
      simp only [bodyOf, Tryz.f22, Cat, Zs, awanted, aoper, evalO, put, acallOp, abuiltin, Nat.reduceEqDiff, Nat.reduceLT, ofV, ofCell, ↓reduceIte, l3, m2, m3, m4, CP, hrun, Rx.bu30, Rx.st27, sD, Rx.st30, sE]
      exact ⟨_, rfl, by simp [m2], by simp [m3]⟩
    obtain ⟨t4, e4, n2, n3⟩ := p3
    obtain ⟨n0, hn0⟩ := calm66 hE
    have ld0 : aload Tryz.prog hE 27 (.ptr 0 0) = some (.agg [y0, .str q.Table, y1, .bool q.Grouped, y2]) := by
      rw [show aload Tryz.prog hE 27 (.ptr 0 0) = loadA hE true 5 (.ptr 0 0) from by kernel_rfl]
      simp [loadA, gE0, ofCells]
    have ld1 : aload Tryz.prog hE 30 (.ptr 1 0) = some (.agg [.int .i64 0, .int .i64 0]) := by
      rw [Rx.ld30]; simp [loadA, gE1, ofCells]
    have hlv : aleave Cp (arun Cp n0) n0 Tryz.f22 66 hd66 (some (.ret, ⟨t4, hE⟩)) = some (.ret (.tup [.agg [y0, .str q.Table, y1, .bool q.Grouped, y2], .agg [.int .i64 0, .int .i64 0]]), hE) := by
      simp only [aleave, hn0 n0 (Nat.le_refl _)]
      simp only [show Tryz.f22.results.toList = [ResultVar.cell 2 27, ResultVar.cell 3 30] from rfl, aresults, ares1, n2, n3, CP, ld0, ld1, Option.getD_some]
      rfl
    have hrf2 : refs (.tup [.agg [y0, .str q.Table, y1, .bool q.Grouped, y2], .agg [.int .i64 0, .int .i64 0]]) = [] := by
      simp only [refs, refsL, hy0.refs rItem_p, refs_one (rCondT_p.ref _ _ hy1), hy2.refs rGroup_p, List.append_nil]
    refine ⟨strip y0, strip y1, strip y2, hy0.strip rItem_p, rCondT_p.str _ _ hy1, hy2.strip rGroup_p, fin .ret ⟨t4, hE⟩ n0 _ hE _ e4 hlv ?_⟩
    simp only [normRes, norm]
    rw [norm_strip _ _ _ hrf2]
    rfl
  | er e =>
    rw [hq] at qr
    obtain ⟨cs, hcs, hrun⟩ := qr hB gat
    have hrun' : run Cp 67 [.ptr 2 0] hB = some (.pan (.iface 30 (.agg [.int .i64 e.Code, .int .i64 e.At])), hB.set 2 (some (.arr cs))) := hrun
    obtain ⟨hC, hhC⟩ : ∃ hC : AHeap, hC = hB.set 2 (some (.arr cs)) := ⟨_, rfl⟩
    rw [← hhC] at hrun'
    have gC0 : hC.get 0 = some (.arr [.nilSl, .str [], .nilPtr, .bool false, .nilSl]) := by rw [hhC, Heap.get_set_ne (by omega)]; exact gB0
    have gC1 : hC.get 1 = some (.arr [.int .i64 0, .int .i64 0]) := by rw [hhC, Heap.get_set_ne (by omega)]; exact gB1
    have nC : 2 ≤ hC.next := by rw [hhC]; show 2 ≤ hB.next; omega
    have p3 : ∃ t, ex Cp (Cat [true, true] (bodyOf Tryz.f22)) ⟨t2, hA⟩ = some (.pan (.iface 30 (.agg [.int .i64 e.Code, .int .i64 e.At])), ⟨t, hC⟩) ∧ t[2]? = some (.ptr 0 0) ∧ t[3]? = some (.ptr 1 0) := by
      rw [show Cat [true, true] (bodyOf Tryz.f22) = .seq (Cat [true, true, false] (bodyOf Tryz.f22)) (Cat [true, true, true] (bodyOf Tryz.f22)) from rfl]
      simp only [e_seq, e3, k_seq]
      simp only [bodyOf, Tryz.f22, Cat, Zs, awanted, aoper, evalO, put, acallOp, abuiltin, Nat.reduceEqDiff, Nat.reduceLT, ofV, ofCell, ↓reduceIte, l3, m2, m3, m4, CP, hrun', kc_pan]
      exact ⟨_, rfl, by simp [m2], by simp [m3]⟩
    obtain ⟨t4, e4, n2, n3⟩ := p3
    obtain ⟨hE, n0, gE0, gE1, hn0⟩ := pan66 e.Code e.At hC _ _ _ _ _ _ _ nC gC0 gC1
    have ld0 : aload Tryz.prog hE 27 (.ptr 0 0) = some (.agg [.nilSl, .str [], .nilPtr, .bool false, .nilSl]) := by
      rw [show aload Tryz.prog hE 27 (.ptr 0 0) = loadA hE true 5 (.ptr 0 0) from by kernel_rfl]
      simp [loadA, gE0, ofCells]
    have ld1 : aload Tryz.prog hE 30 (.ptr 1 0) = some (.agg [.int .i64 e.Code, .int .i64 e.At]) := by
      rw [Rx.ld30]; simp [loadA, gE1, ofCells]
    have hlv : aleave Cp (arun Cp n0) n0 Tryz.f22 66 hd66 (some (.pan (.iface 30 (.agg [.int .i64 e.Code, .int .i64 e.At])), ⟨t4, hC⟩)) = some (.ret (.tup [.agg [.nilSl, .str [], .nilPtr, .bool false, .nilSl], .agg [.int .i64 e.Code, .int .i64 e.At]]), hE) := by
      simp only [aleave, hn0 n0 (Nat.le_refl _)]
      simp only [show Tryz.f22.results.toList = [ResultVar.cell 2 27, ResultVar.cell 3 30] from rfl, aresults, ares1, n2, n3, CP, ld0, ld1, Option.getD_some]
      rfl
    refine fin _ ⟨t4, hC⟩ n0 _ hE _ e4 hlv ?_
    simp only [normRes, norm]
    rw [norm_strip _ _ _ rfl]
    rfl
end Go.Proofs.Q.Par

