/-
  CUBE: Children.
-/
import Derived.Test.YtgjdlakemaabfaaCubeSort
set_option linter.unusedVariables false
set_option linter.unusedSimpArgs false
set_option maxRecDepth 100000
namespace Go.Proofs.Cube
open Go.RowKit Go.Shelf Go.Proofs

attribute [local go_sem] Oper.semAt_some

set_option maxHeartbeats 1000000 in
theorem isSet_in (F : Fence) (n : Nat) (h31 : F.fn 31) (hro : F.round = none) (x : Int) (w : World) :
    CallsIn F n Try.prog 31 #[.int .i64 x] w fun e w' => e = .returned (.bool (decide (0 ≤ x) && decide (x ≤ 63))) ∧ w' = w := by
  refine callsIn_of_wp Try.func31 rfl h31 ?_ hro
  simp only [Try.ntmps31, List.size_toArray, List.length_cons, List.length_nil, Nat.reduceAdd, Nat.reduceSub, Array.replicate_succ, Array.replicate_zero, List.push_toArray, List.append_toArray, List.nil_append, List.cons_append]
  gi_wp2
  all_goals go_ret
  all_goals refine ⟨?_, rfl⟩
  · simp; omega
  · simp; omega

theorem lt_of_heapD {W : World} {b : Nat} {o : Obj} (h : W.heap[b]? = some o) : b < W.heap.size := (Array.getElem?_eq_some_iff.1 h).1
theorem cellD {W W' : World} {b o : Nat} (h : W'.heap[b]? = W.heap[b]?) : W'.cell? ⟨b, o, none⟩ = W.cell? ⟨b, o, none⟩ := by simp [World.cell?, h]
theorem RowAt.mono {W : World} {b b' : Nat} (hb : b' ≤ b) {v : Value} {xs : List Int} (h : RowAt W b v xs) : RowAt W b' v xs := by
  rcases h with h | ⟨h0, g, cap, h1, h2, h3⟩
  · exact .inl h
  · exact .inr ⟨h0, g, cap, h1, Nat.le_trans hb h2, h3⟩
theorem RowAt.putObj {W : World} {b : Nat} {v : Value} {xs : List Int} (h : RowAt W b v xs) {l : Nat} {o : Obj} (o' : Obj) (hl : W.heap[l]? = some o) (ho : o.isCells = false) : RowAt (W.putObj l o') b v xs := by
  rcases h with h | ⟨h0, g, cap, h1, h2, h3, h4⟩
  · exact .inl h
  · refine .inr ⟨h0, g, cap, h1, h2, h3, fun j x hj => ?_⟩
    have h5 := h4 j x hj
    have hne : g ≠ l := by
      rintro rfl
      simp only [World.cell?, hl] at h5
      cases o <;> simp_all [Obj.isCells]
    exact (cellD (World.putObj_heap_other hne)).trans h5

def children (set : Int) : List Int := if 0 ≤ set ∧ set ≤ 63 then (turnedL set set).reverse else []

set_option maxHeartbeats 2000000 in
theorem Children_in (n : Nat) (hn : 3 ≤ n) (set : Int) (w : World) :
    CallsIn Fence.wide n Try.prog 13 #[.int .i64 set] w fun e W' => ∃ v, e = .returned v ∧ RowAt W' w.heap.size v (children set) ∧ Below w.heap.size w W' := by
  have h1 : 1 ≤ n := by omega
  obtain ⟨i0, hi, hz0, hz1, hz2⟩ := info_parts info3
  refine callsIn_of_wp_marks Try.func13 rfl trivial ?_ rfl
  simp only [Try.ntmps13, List.size_toArray, List.length_cons, List.length_nil, Nat.reduceAdd, Nat.reduceSub, Array.replicate_succ, Array.replicate_zero, List.push_toArray, List.append_toArray, List.nil_append, List.cons_append]
  by_cases hset : 0 ≤ set ∧ set ≤ 63
  · obtain ⟨s, rfl⟩ : ∃ s : Nat, set = s := ⟨set.toNat, by omega⟩
    have he : Hid (children s = (turnedL s s).reverse) := by unfold Hid children; rw [if_pos hset]
    have hs64 : s < 64 := by omega
    have hb : (decide (0 ≤ (s : Int)) && decide ((s : Int) ≤ 63)) = true := by simp; omega
    gi_wp2_with (refine ⟨trivial, ?_⟩; gi_at_call 31; refine (isSet_in _ (n - 1) trivial rfl _ _).mono ?_; rw [hb]; rintro e w' ⟨rfl, rfl⟩)
    gi_wp2_with (refine ⟨trivial, ?_⟩; gi_at_call 30; refine (turned_in _ (n - 1) trivial rfl _ _ _).mono ?_; rintro e w'' ⟨rfl, rfl⟩)
    have bO := Boxed.new w' 24 (.slice none 0 0)
    have bS := Boxed.new (w'.alloc (.cells #[.slice none 0 0] 24)) 3 (.int .i64 (s : Int))
    have bD := Boxed.new ((w'.alloc (.cells #[.slice none 0 0] 24)).alloc (.cells #[.int .i64 (s : Int)] 3)) 3 (.int .i64 (s : Int))
    simp only [World.size_alloc] at bS bD
    have hB0 : Below w'.heap.size w' (((w'.alloc (.cells #[.slice none 0 0] 24)).alloc (.cells #[.int .i64 (s : Int)] 3)).alloc (.cells #[.int .i64 (s : Int)] 3)) := (((Below.refl _ w').alloc (Nat.le_refl _) _).alloc (by simp) _).alloc (by simp; omega) _
    refine wpIn_rangeFunc_ownG rfl h1 (gf := 45) (lb := #[.pointer (some ⟨w'.heap.size + 1 + 1, 0, none⟩), .pointer (some ⟨w'.heap.size + 1, 0, none⟩)]) rfl trivial (enters_of Try.func45 (by kernel_rfl) rfl)
      (turned_stops Fence.wide (n - 1) trivial rfl (by omega) (w'.heap.size + 1 + 1) (w'.heap.size + 1) w'.heap.size s s _ (by simp) (by simp) bD.cell (bS.alloc _).cell) Kp.trans (Kp.putObj (by simp; omega) (by simp) (by simp)) (Below.refl _ _) (fun _ => rfl)
      (Col w'.heap.size w' s s) (fun _ _ _ => False) (Col.own (Nat.le_refl _) s s (by simp; omega)) (fun _ _ _ _ _ hs _ _ => hs)
      ⟨⟨⟨_, (bO.alloc _).alloc _, World.ownsRow_nil _ _ _ _, fun _ => rfl⟩, bD, bS.alloc _⟩, hB0⟩
      (fun x => { tmps :=
        #[Value.int IntKind.i64 s, undef, Value.slice none 0 0,
          Value.pointer (some { block := w'.heap.size, off := 0 }), .int .i64 x, Value.int IntKind.i64 s, Value.bool true,
          Value.bool false, Value.int IntKind.i64 s, Value.int IntKind.i64 s,
          Value.func (Fn.func 45) #[]
            #[Value.pointer (some { block := w'.heap.size + 1 + 1, off := 0 }),
              Value.pointer (some { block := w'.heap.size + 1, off := 0 })],
          .int .i64 x, undef, undef, undef, undef, undef, undef, undef], defers := [] }) ?assign ?body ?done ?stop
    case assign =>
      intro l x W K hK
      gi_wp2
      exact hK
    case body =>
      rintro l pre x W ⟨⟨⟨v, hv, hrow, _⟩, hbD, hbS⟩, hB⟩ hlt
      have hc := hv.cell
      have hlD := hbD.lt
      gi_wp2_with (gi_at_builtin; refine wpListIn_append_own _ rfl _ _ 24 rfl (w'.heap.size + 3) 3 i0 (.int .i64 0) 1 8 underlying24 hi hz0 hz1 hz2 rfl (by decide) _ _ _ rfl (hrow.alloc _) ⟨W.heap.size, 0, none⟩ 1 1 [.int .i64 x] rfl rfl (cell_one_new _ _ _) (by simp [Value.oneCell']) (by unfold maxLen; omega) (by omega) (by simp; omega) ?_; intro v' w1 hown' hgrow _; obtain ⟨g', cap', rfl⟩ := ownsRow_succ hown'; obtain ⟨hv1, hv2, hr2, hk2, hb2⟩ := hv.appended (by decide) (ownsRow_mono (by omega) hrow) hB.size (Nat.le_refl _) (ownsRow_mono (by omega) hown') hgrow; have hc1 := hv1.cell; have hf1 := hv1.frozen)
      have hD2 := (((hbD.alloc _).kept hgrow (row_above (by omega) hrow)).kept (grownBy_setCell' w1 w'.heap.size (.slice (some ⟨g', 0, none⟩) (pre.length + 1) cap')) (by simp))
      have hS2 := (((hbS.alloc _).kept hgrow (row_above (by omega) hrow)).kept (grownBy_setCell' w1 w'.heap.size (.slice (some ⟨g', 0, none⟩) (pre.length + 1) cap')) (by simp))
      refine ⟨hk2.from _, ⟨hb2, hD2.cell.trans hbD.cell.symm, hS2.cell.trans hbS.cell.symm⟩, ⟨⟨_, hv2, ?_, fun e => (by simp at e)⟩, hD2, hS2⟩, hB.trans hb2⟩
      have := hown'.kept (grownBy_setCell' w1 w'.heap.size (.slice (some ⟨g', 0, none⟩) (pre.length + 1) cap')) (.inr (hv1.not_row (by decide) hown').symm)
      simpa using this
    case done =>
      rintro D ys W hD rfl ⟨⟨⟨v, hv, hrow, hnil⟩, hbD, hbS⟩, hB⟩ hK
      have hnil' : Hid (turnedL s s = [] → v = .slice none 0 0) := hnil
      clear hnil
      have hc := hv.cell
      have hlD := hbD.lt
      have hDk : some D ≠ v.ownBlock := by
        rcases hrow.2 with ⟨rfl, _⟩ | ⟨g, cap, cur, rfl, _, hgb, _⟩
        · simp [Value.ownBlock]
        · intro e
          obtain rfl : D = g := by simpa [Value.ownBlock] using e
          rw [hK] at hgb; cases hgb
      have hDl := lt_of_heapD hK
      gi_wp2_with (refine ⟨trivial, ?_⟩; gi_at_call 32; refine (callsIn_wide.2 (sort_calls hs64 (n₀ := w'.heap.size + 3) (by omega) hrow hnil'.out)).mono ?_; rintro e W3 ⟨rfl, hr3, hb3, hk3⟩; have hc3 : W3.cell? ⟨w'.heap.size, 0, none⟩ = some v := (cellD (hk3 _ hv.lt (row_above (by omega) hrow))).trans hc)
      have hK3 := (hk3 D hDl hDk).trans hK
      refine ⟨by simp, .inl ⟨_, _, rfl, run_takeDeferred hK3, ?_⟩⟩
      refine ⟨_, results_tmp rfl _ _ _, v, rfl, ?_, (hB.trans (hb3.mono (by omega))).trans (belowK_b (w := w') (Nat.le_refl _) W3 D _ _ (by simp at hD; omega) hK3 rfl rfl)⟩
      rw [he.out]
      exact (hr3.mono (by omega)).putObj _ hK3 rfl
    case stop =>
      rintro D c pre W _ _ h _
      exact h.elim
  · have hb : (decide (0 ≤ set) && decide (set ≤ 63)) = false := by simp; omega
    have he : children set = [] := by unfold children; rw [if_neg hset]
    gi_wp2_with (refine ⟨trivial, ?_⟩; gi_at_call 31; refine (isSet_in _ (n - 1) trivial rfl _ _).mono ?_; rw [hb]; rintro e w' ⟨rfl, rfl⟩)
    exact ⟨_, results_tmp rfl _ _ _, _, rfl, .inl ⟨rfl, he⟩, Below.refl _ _⟩
end Go.Proofs.Cube
