/-
  CUBE: turned's value, below, Parents.
-/
import Derived.Test.YtgjdlakemaabfaaCubeIter
set_option linter.unusedVariables false
set_option linter.unusedSimpArgs false
namespace Go.Proofs.Cube
open Go.RowKit Go.Shelf Go.Proofs

attribute [local go_sem] Oper.semAt_some

def on (dims : Int) (i : Nat) : Bool := bits BinOp.and IntKind.i64 dims (IntKind.i64.wrap (2 ^ i)) != 0
def fl (set : Int) (i : Nat) : Int := bits BinOp.xor IntKind.i64 set (IntKind.i64.wrap (2 ^ i))
/-- The sets in which one of dims is turned. -/
def turnedL (set dims : Int) : List Int := ((List.range 6).filter (on dims)).map (fl set)

set_option maxHeartbeats 1000000 in
theorem turned_in (F : Fence) (n : Nat) (h30 : F.fn 30) (hro : F.round = none) (set dims : Int) (w : World) :
    CallsIn F n Try.prog 30 #[.int .i64 set, .int .i64 dims] w fun e w' => e = .returned (.func (.func 45) #[] #[.pointer (some ⟨w.heap.size + 1, 0, none⟩), .pointer (some ⟨w.heap.size, 0, none⟩)]) ∧ w' = (w.alloc (.cells #[.int .i64 set] 3)).alloc (.cells #[.int .i64 dims] 3) := by
  refine callsIn_of_wp Try.func30 rfl h30 ?_ hro
  simp only [Try.ntmps30, List.size_toArray, List.length_cons, List.length_nil, Nat.reduceAdd, Nat.reduceSub, Array.replicate_succ, Array.replicate_zero, List.push_toArray, List.append_toArray, List.nil_append, List.cons_append]
  gi_wp2
  go_ret
  exact ⟨rfl, rfl⟩

def below (dims : Int) : Int := 2 ^ (min dims.toNat 6) - 1
theorem below_hi {dims : Int} (h : 6 < if dims < 0 then 0 else dims) : wrap64 (wrap64 64 - 1) = below dims := by
  have : 6 ≤ dims.toNat := by split at h <;> omega
  unfold below
  rw [Nat.min_eq_right this]
  simp [wrap64]
theorem below_lo {dims : Int} (h : dims < 0) : wrap64 (wrap64 1 - 1) = below dims := by
  have : dims.toNat = 0 := by omega
  unfold below
  rw [this]
  simp [wrap64]
theorem below_mid {dims : Int} (h : (if dims < 0 then 0 else dims) ≤ 6) (h0 : 0 ≤ dims) : wrap64 (wrap64 (2 ^ dims.toNat) - 1) = below dims := by
  rw [if_neg (by omega)] at h
  unfold below
  obtain ⟨k, rfl⟩ : ∃ k : Nat, dims = k := ⟨dims.toNat, by omega⟩
  have : k ≤ 6 := by omega
  rw [Int.toNat_natCast, Nat.min_eq_left this]
  obtain rfl | rfl | rfl | rfl | rfl | rfl | rfl : k = 0 ∨ k = 1 ∨ k = 2 ∨ k = 3 ∨ k = 4 ∨ k = 5 ∨ k = 6 := by omega
  all_goals simp [wrap64]
set_option maxHeartbeats 1000000 in
theorem below_in (F : Fence) (n : Nat) (h23 : F.fn 23) (hro : F.round = none) (dims : Int) (w : World) :
    CallsIn F n Try.prog 23 #[.int .i64 dims] w fun e w' => e = .returned (.int .i64 (below dims)) ∧ w' = w := by
  refine callsIn_of_wp Try.func23 rfl h23 ?_ hro
  simp only [Try.ntmps23, List.size_toArray, List.length_cons, List.length_nil, Nat.reduceAdd, Nat.reduceSub, Array.replicate_succ, Array.replicate_zero, List.push_toArray, List.append_toArray, List.nil_append, List.cons_append]
  gi_wp2
  · rename_i h1
    go_ret
    exact ⟨congrArg (fun x => Ending.returned (.int .i64 x)) (below_hi h1), rfl⟩
  · go_ret
    exact ⟨congrArg (fun x => Ending.returned (.int .i64 x)) (below_lo (by assumption)), rfl⟩
  · rename_i h1
    go_ret
    exact ⟨congrArg (fun x => Ending.returned (.int .i64 x)) (below_mid h1 (by assumption)), rfl⟩

def Kp (n₀ bd bs : Nat) (W W' : World) : Prop := Below n₀ W W' ∧ Keeps bd bs W W'
theorem Kp.trans {n₀ bd bs : Nat} {A B C : World} (h : Kp n₀ bd bs A B) (k : Kp n₀ bd bs B C) : Kp n₀ bd bs A C :=
  ⟨h.1.trans k.1, k.2.1.trans h.2.1, k.2.2.trans h.2.2⟩
theorem Kp.putObj {n₀ bd bs : Nat} {w : World} (hn : n₀ ≤ w.heap.size) (hd : bd < w.heap.size) (hs : bs < w.heap.size) (W : World) (l : Nat) (o o' : Obj) (hl : w.heap.size ≤ l) (h : W.heap[l]? = some o) (h1 : o.isCells = false) (h2 : o.isWalk = false) : Kp n₀ bd bs W (W.putObj l o') := by
  refine ⟨belowK_b hn W l o o' hl h h1 h2, ?_, ?_⟩
  · simp only [World.cell?]; rw [World.putObj_heap_other (by omega)]
  · simp only [World.cell?]; rw [World.putObj_heap_other (by omega)]

theorem turned_stops (F : Fence) (n : Nat) (h45 : F.fn 45) (hro : F.round = none) (hn : 1 ≤ n) (bd bs n₀ : Nat) (set dims : Int) (w : World) (hbd : bd < w.heap.size) (hbs : bs < w.heap.size)
    (hd : w.cell? ⟨bd, 0, none⟩ = some (.int .i64 dims)) (hs : w.cell? ⟨bs, 0, none⟩ = some (.int .i64 set)) :
    SeqStopsK F n Try.prog 45 #[.pointer (some ⟨bd, 0, none⟩), .pointer (some ⟨bs, 0, none⟩)] (fun x : Int => #[Value.int .i64 x]) (Kp n₀ bd bs) (fun ys => ys = turnedL set dims) (fun pre => pre <+: turnedL set dims) 6 w := fun l J Jx W hW hJ _ hY h0 => by
  refine turned1_in F n h45 hro hn l bd bs dims set (on dims) (fl set) (fun _ => rfl) (fun _ => rfl) J Jx ?_ ?_ W ((hW.cell (p := ⟨bd, 0, none⟩) hbd).trans hd) ((hW.cell (p := ⟨bs, 0, none⟩) hbs).trans hs) h0
  · intro s W hs
    exact hJ s W _ none hs ⟨rfl, rfl, rfl, Nat.le_refl _, fun _ _ _ => rfl⟩ (fun r e => by cases e)
  · intro pre x W1 hJ1 hl
    refine YieldAt.mono (hY pre x W1 hJ1 hl) ?_
    rintro e W' (⟨h1, h2, h3⟩ | h)
    · exact .inl ⟨h1, h2, h3.2⟩
    · exact .inr h

theorem info3 : (Try.prog.info? 3).map (fun i => (i.zero, i.size, i.bytes)) = some (some (.int .i64 0), 1, 8) := by kernel_rfl
theorem underlying24 : Try.prog.underlying 24 = some (.slice 3) := by kernel_rfl
theorem ownsRow_mono {W : World} {b b' : Nat} (hb : b' ≤ b) {e : TypeId} {size : Nat} {v : Value} {n : Nat} {xs : List Value} (h : W.ownsRow b e size v n xs) : W.ownsRow b' e size v n xs := by
  refine ⟨h.1, ?_⟩
  rcases h.2 with h | ⟨g, cap, cur, h1, h2, h3⟩
  · exact .inl h
  · exact .inr ⟨g, cap, cur, h1, Nat.le_trans hb h2, h3⟩

theorem row_above {W : World} {b k : Nat} (hk : k < b) {e : TypeId} {size : Nat} {v : Value} {n : Nat} {xs : List Value} (h : W.ownsRow b e size v n xs) : some k ≠ v.ownBlock := by
  rcases h.2 with ⟨rfl, _⟩ | ⟨g, cap, cur, rfl, h2, _⟩
  · simp [Value.ownBlock]
  · simp [Value.ownBlock]; omega
theorem boxed_own {β : Type} (b : Nat) (t : TypeId) (v : Value) : Own (fun (_ : β) W => Boxed W b t v) := by
  intro s X Y row hv hg hrow
  refine hv.kept hg (fun e => ?_)
  obtain ⟨o, ho, hc⟩ := hrow b e.symm
  rw [show X.heap[b]? = _ from hv] at ho; cases ho; cases hc

/-- What the loop that collects holds to. -/
def Col (n₀ : Nat) (w : World) (dims set : Int) (pre : List Int) (W : World) : Prop :=
  ((∃ v, Boxed W n₀ 24 v ∧ W.ownsRow (n₀ + 3) 3 1 v pre.length (pre.map (Value.int .i64)) ∧ (pre = [] → v = .slice none 0 0)) ∧ Boxed W (n₀ + 2) 3 (.int .i64 dims) ∧ Boxed W (n₀ + 1) 3 (.int .i64 set)) ∧ Below n₀ w W
theorem Col.own {n₀ : Nat} {w : World} (hn : n₀ ≤ w.heap.size) (dims set : Int) {B : Nat} (hB : n₀ ≤ B) : OwnFrom B (Col n₀ w dims set) :=
  OwnFrom.and (OwnFrom.and (Own.from (holdsRow_own (n₀ + 3) n₀ 24 3 1 (fun pre : List Int => pre.length) (fun pre => pre.map (Value.int .i64)) (fun pre v => pre = [] → v = .slice none 0 0)) _) (OwnFrom.and (Own.from (boxed_own _ _ _) _) (Own.from (boxed_own _ _ _) _))) (ownFrom_below hn hB)

def parents (set dims : Int) : List Int := if set < 0 ∨ below dims < set then [] else turnedL set (bits .andNot .i64 (below dims) set)

set_option maxRecDepth 100000 in
set_option maxHeartbeats 2000000 in
theorem Parents_in (n : Nat) (hn : 3 ≤ n) (set dims : Int) (w : World) :
    CallsIn Fence.wide n Try.prog 11 #[.int .i64 set, .int .i64 dims] w fun e W' => ∃ v, e = .returned v ∧ W'.ownsRow w.heap.size 3 1 v (parents set dims).length ((parents set dims).map (Value.int .i64)) ∧ (parents set dims = [] → v = .slice none 0 0) ∧ Below w.heap.size w W' := by
  have h1 : 1 ≤ n := by omega
  obtain ⟨i0, hi, hz0, hz1, hz2⟩ := info_parts info3
  refine callsIn_of_wp_marks Try.func11 rfl trivial ?_ rfl
  simp only [Try.ntmps11, List.size_toArray, List.length_cons, List.length_nil, Nat.reduceAdd, Nat.reduceSub, Array.replicate_succ, Array.replicate_zero, List.push_toArray, List.append_toArray, List.nil_append, List.cons_append]
  gi_wp2_with (refine ⟨trivial, ?_⟩; gi_at_call 23; refine (below_in _ (n - 1) trivial rfl _ _).mono ?_; rintro e w' ⟨rfl, rfl⟩)
  · -- above all
    rename_i h2 h3
    have he : parents set dims = [] := by unfold parents; rw [if_pos (by first | exact .inl (by omega) | exact .inr (by omega))]
    exact ⟨_, results_tmp rfl _ _ _, _, rfl, by rw [he]; exact World.ownsRow_nil _ _ _ _, fun _ => rfl, Below.refl _ _⟩
  · skip
    gi_wp2_with (refine ⟨trivial, ?_⟩; gi_at_call 30; refine (turned_in _ (n - 1) trivial rfl _ _ _).mono ?_; rintro e w'' ⟨rfl, rfl⟩)
    obtain ⟨ds, hds⟩ : ∃ ds, ds = bits BinOp.andNot IntKind.i64 (below dims) set := ⟨_, rfl⟩
    rw [← hds]
    have he : Hid (parents set dims = turnedL set ds) := by unfold Hid parents; rw [if_neg (by omega), hds]
    clear hds
    have bO := Boxed.new w' 24 (.slice none 0 0)
    have bS := Boxed.new (w'.alloc (.cells #[.slice none 0 0] 24)) 3 (.int .i64 set)
    have bD := Boxed.new ((w'.alloc (.cells #[.slice none 0 0] 24)).alloc (.cells #[.int .i64 set] 3)) 3 (.int .i64 ds)
    simp only [World.size_alloc] at bS bD
    have hB0 : Below w'.heap.size w' (((w'.alloc (.cells #[.slice none 0 0] 24)).alloc (.cells #[.int .i64 set] 3)).alloc (.cells #[.int .i64 ds] 3)) := (((Below.refl _ w').alloc (Nat.le_refl _) _).alloc (by simp) _).alloc (by simp; omega) _
    refine wpIn_rangeFunc_ownG rfl h1 (gf := 45) (lb := #[.pointer (some ⟨w'.heap.size + 1 + 1, 0, none⟩), .pointer (some ⟨w'.heap.size + 1, 0, none⟩)]) rfl trivial (enters_of Try.func45 (by kernel_rfl) rfl)
      (turned_stops Fence.wide (n - 1) trivial rfl (by omega) (w'.heap.size + 1 + 1) (w'.heap.size + 1) w'.heap.size set ds _ (by simp) (by simp) bD.cell (bS.alloc _).cell) Kp.trans (Kp.putObj (by simp; omega) (by simp) (by simp)) (Below.refl _ _) (fun _ => rfl)
      (Col w'.heap.size w' ds set) (fun _ _ _ => False) (Col.own (Nat.le_refl _) ds set (by simp; omega)) (fun _ _ _ _ _ hs _ _ => hs)
      ⟨⟨⟨_, (bO.alloc _).alloc _, World.ownsRow_nil _ _ _ _, fun _ => rfl⟩, bD, bS.alloc _⟩, hB0⟩
      (fun x => { tmps :=
        #[Value.int IntKind.i64 set, Value.int IntKind.i64 dims, undef, undef, Value.slice none 0 0,
          Value.int IntKind.i64 (below dims), Value.pointer (some { block := w'.heap.size, off := 0 }), .int .i64 x,
          Value.int IntKind.i64 dims, Value.int IntKind.i64 (below dims), Value.int IntKind.i64 set,
          Value.bool (decide (set < 0)), Value.bool (decide (set < 0)), Value.int IntKind.i64 set,
          Value.int IntKind.i64 (below dims), Value.bool (decide (below dims < set)),
          Value.bool (decide (set < 0) || decide (below dims < set)), Value.int IntKind.i64 set,
          Value.int IntKind.i64 (below dims), Value.int IntKind.i64 set,
          Value.int IntKind.i64 ds,
          Value.func (Fn.func 45) #[]
            #[Value.pointer (some { block := w'.heap.size + 1 + 1, off := 0 }),
              Value.pointer (some { block := w'.heap.size + 1, off := 0 })],
          .int .i64 x, undef, undef, undef, undef, undef], defers := [] }) ?assign ?body ?done ?stop
    case assign =>
      intro l x W K hK
      gi_wp2
      exact hK
    case body =>
      rintro l pre x W ⟨⟨⟨v, hv, hrow, _⟩, hbD, hbS⟩, hB⟩ hlt
      have hc := hv.cell
      have hlD := hbD.lt
      gi_wp2_with (gi_at_builtin; refine wpListIn_append_own _ rfl _ _ 24 rfl (w'.heap.size + 3) 3 i0 (.int .i64 0) 1 8 underlying24 hi hz0 hz1 hz2 rfl (by decide) _ _ _ rfl (hrow.alloc _) ⟨W.heap.size, 0, none⟩ 1 1 [.int .i64 x] rfl rfl (cell_one_new _ _ _) (by simp [Value.oneCell']) (by unfold maxLen; omega) (by omega) (by simp; omega) ?_; intro v' w1 hown' hgrow _; obtain ⟨g', cap', rfl⟩ := ownsRow_succ hown'; obtain ⟨hv1, hv2, hr2, hk2, hb2⟩ := hv.appended (by decide) (ownsRow_mono (by omega) hrow) hB.size (Nat.le_refl _) (ownsRow_mono (by omega) hown') hgrow; have hc1 := hv1.cell; have hf1 := hv1.frozen)
      have hD2 := (((hbD.alloc _).kept hgrow (row_above (by omega) hrow)).kept (grownBy_setCell' w1 w'.heap.size (.slice (some ⟨g', 0, none⟩) (pre.length + 1) cap')) (by simp))
      have hS2 := (((hbS.alloc _).kept hgrow (row_above (by omega) hrow)).kept (grownBy_setCell' w1 w'.heap.size (.slice (some ⟨g', 0, none⟩) (pre.length + 1) cap')) (by simp))
      refine ⟨hk2.from _, ⟨hb2, hD2.cell.trans hbD.cell.symm, hS2.cell.trans hbS.cell.symm⟩, ⟨⟨_, hv2, ?_, fun e => (by simp at e)⟩, hD2, hS2⟩, hB.trans hb2⟩
      have := hown'.kept (grownBy_setCell' w1 w'.heap.size (.slice (some ⟨g', 0, none⟩) (pre.length + 1) cap')) (.inr (hv1.not_row (by decide) hown').symm)
      simpa using this
    case done =>
      rintro D ys W hD rfl ⟨⟨⟨v, hv, hrow, hnil⟩, hbD, hbS⟩, hB⟩ hK
      have hc := hv.cell
      rw [← he.out] at hrow hnil
      have hnil' : Hid (parents set dims = [] → v = .slice none 0 0) := hnil
      clear hnil
      gi_wp2
      refine ⟨by simp, .inl ⟨_, _, rfl, run_takeDeferred hK, ?_⟩⟩
      exact ⟨_, results_tmp rfl _ _ _, v, rfl, ownsRow_putObj (ownsRow_mono (by omega) hrow) _ hK rfl, hnil'.out, hB.trans (belowK_b (w := w') (Nat.le_refl _) W D _ _ (by simp at hD; omega) hK rfl rfl)⟩
    case stop =>
      rintro D c pre W _ _ h _
      exact h.elim
  · have he : parents set dims = [] := by unfold parents; rw [if_pos (by first | exact .inl (by omega) | exact .inr (by omega))]
    exact ⟨_, results_tmp rfl _ _ _, _, rfl, by rw [he]; exact World.ownsRow_nil _ _ _ _, fun _ => rfl, Below.refl _ _⟩
end Go.Proofs.Cube
