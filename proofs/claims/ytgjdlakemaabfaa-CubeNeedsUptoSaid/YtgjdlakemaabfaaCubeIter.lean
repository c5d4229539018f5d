/-
  CUBE: the sets in which one dimension of some is turned, as an iterator; Parents and Children.
-/
import Derived.RangeFuncBox
import Derived.RangeFuncLeaves
import Derived.Shelf.Abstract
import Derived.Shelf.RegionOpen
import Derived.WalkKit
import Derived.OwnWalkIn
import Derived.TacticsInMore
import Derived.LoopNIn
import Derived.LoopIn
import Derived.Maps.AppendAt
import Derived.RangeFuncCalls
import Derived.RangeFuncBound
import Derived.Test.YtgjdlakemaabfaaChecked
set_option linter.unusedVariables false
set_option linter.unusedSimpArgs false
namespace Go.Proofs.Cube
open Go.RowKit Go.Shelf Go.Proofs

attribute [local go_sem] Oper.semAt_some

/-- What a round must keep: the boxes of the two numbers. -/
def Keeps (bd bs : Nat) (W W' : World) : Prop := W'.cell? ⟨bd, 0, none⟩ = W.cell? ⟨bd, 0, none⟩ ∧ W'.cell? ⟨bs, 0, none⟩ = W.cell? ⟨bs, 0, none⟩

theorem mixed : Try.prog.follows .mixedOrders = true := by kernel_rfl
theorem yield_one {F : Fence} {n : Nat} {l : Nat} {v : Value} {W : World} {A B : World → Prop}
    (h : YieldAt F n Try.prog l #[v] W fun e W' => (e = .returned (.bool true) ∧ A W') ∨ (e = .returned (.bool false) ∧ B W')) :
    YieldAt F n Try.prog l #[v] W fun e W' => ∃ b : Bool, e = .returned (.bool b) ∧ (b = true → A W') ∧ (b = false → B W') :=
  YieldAt.mono h fun e W' => by
    rintro (⟨rfl, h⟩ | ⟨rfl, h⟩)
    · exact ⟨true, rfl, fun _ => h, fun e => by cases e⟩
    · exact ⟨false, rfl, fun e => (by cases e), fun _ => h⟩

theorem pre6 {i : Nat} (h : i < 6) : List.range (i + 1) <+: [0, 1, 2, 3, 4, 5] := by
  obtain rfl | rfl | rfl | rfl | rfl | rfl : i = 0 ∨ i = 1 ∨ i = 2 ∨ i = 3 ∨ i = 4 ∨ i = 5 := by omega
  all_goals decide

set_option maxRecDepth 100000 in
set_option maxHeartbeats 1000000 in
theorem turned1_in (F : Fence) (n : Nat) (h45 : F.fn 45) (hro : F.round = none) (hn : 1 ≤ n) (l bd bs : Nat) (dims set : Int) (on : Nat → Bool) (fl : Nat → Int) (hon : ∀ i, on i = (bits BinOp.and IntKind.i64 dims (IntKind.i64.wrap (2 ^ i)) != 0)) (hfl : ∀ i, fl i = bits BinOp.xor IntKind.i64 set (IntKind.i64.wrap (2 ^ i))) (J Jx : List Int → World → Prop)
    (hJd : ∀ s W, J s W → J s W.drew)
    (hY : ∀ pre x W, J pre W → pre.length < 6 → YieldAt F (n - 1) Try.prog l #[.int .i64 x] W fun e W' =>
      (e = .returned (.bool true) ∧ J (pre ++ [x]) W' ∧ Keeps bd bs W W') ∨ (e = .returned (.bool false) ∧ Jx (pre ++ [x]) W'))
    (W : World) (hd : W.cell? ⟨bd, 0, none⟩ = some (.int .i64 dims)) (hs : W.cell? ⟨bs, 0, none⟩ = some (.int .i64 set)) (h0 : J [] W) :
    CallsIn F n Try.prog 45 #[.func (.yield l) #[] #[], .pointer (some ⟨bd, 0, none⟩), .pointer (some ⟨bs, 0, none⟩)] W fun e W' => (∃ v, e = .returned v) ∧
      ((∃ ys, ys = ((List.range 6).filter on).map fl ∧ J ys W') ∨ (∃ pre, pre <+: ((List.range 6).filter on).map fl ∧ Jx pre W')) := by
  refine callsIn_of_wp Try.func45 rfl h45 ?_ hro
  simp only [Try.ntmps45, List.size_toArray, List.length_cons, List.length_nil, Nat.reduceAdd, Nat.reduceSub, Array.replicate_succ, Array.replicate_zero, List.push_toArray, List.append_toArray, List.nil_append, List.cons_append]
  gi_wp2
  gi_loopw [5] (fun p wr => ∃ (i : Nat), p = .int .i64 i ∧ i ≤ 6 ∧ wr.cell? ⟨bd, 0, none⟩ = some (.int .i64 dims) ∧ wr.cell? ⟨bs, 0, none⟩ = some (.int .i64 set) ∧ J (((List.range i).filter on).map fl) wr)
    (fun p wr => match p with | .int _ i => (6 - i).toNat | _ => 0)
  case atStart =>
    exact ⟨0, rfl, by omega, hd, hs, h0⟩
  case round =>
    obtain ⟨i, rfl, hi, hdr, hsr, hJs⟩ := hrel
    rcases Nat.lt_or_ge i 6 with h6 | h6
    · have hmx : Try.prog.follows .mixedOrders = true := mixed
      gi_wp2
      refine wpIn_region_any hmx ?_
      try (change wpAnyIn _ _ _ _ _ _ _ _ _ (World.drew _))
      refine wpAnyIn_take (i := 1) (v := ?_) hro rfl (by kernel_rfl) (by kernel_rfl) (by kernel_rfl) (fun _ _ _ h => h) ⟨Or.inl ⟨by rfl, ?_⟩, fun _ => rfl⟩ ?_
      case refine_2 => intro w; go_simp; try (with_reducible rfl)
      refine wpAnyIn_take (i := 2) (v := ?_) hro rfl (by kernel_rfl) (by kernel_rfl) (by kernel_rfl) (fun _ _ _ h => h) ⟨Or.inl ⟨by rfl, ?_⟩, fun _ => rfl⟩ ?_
      case refine_2 => intro w; go_simp; try (with_reducible rfl)
      refine wpAnyIn_ready (rs := [0]) (by kernel_rfl) (by simp) ?_
      refine AllReadyIn.cons rfl (fun K hK => ?_) AllReadyIn.nil
      go_simp
      refine hK _ _ ?_; clear hK K
      refine wpAnyIn_ready (rs := [3]) (by kernel_rfl) (by simp) ?_
      refine AllReadyIn.cons rfl (fun K hK => ?_) AllReadyIn.nil
      go_simp
      refine hK _ _ ?_; clear hK K
      refine wpAnyIn_ready (rs := [4]) (by kernel_rfl) (by simp) ?_
      refine AllReadyIn.cons rfl (fun K hK => ?_) AllReadyIn.nil
      go_simp
      refine hK _ _ ?_; clear hK K
      refine wpAnyIn_ready (rs := [5]) (by kernel_rfl) (by simp) ?_
      refine AllReadyIn.cons rfl (fun K hK => ?_) AllReadyIn.nil
      go_simp
      refine hK _ _ ?_; clear hK K
      rw [← hon i]
      cases hoi : on i with
      | false =>
        refine wpAnyIn_take (i := 6) (v := undef) hro rfl (by kernel_rfl) (by kernel_rfl) (by kernel_rfl) (fun _ _ _ h => h) ⟨Or.inr ⟨by rfl, rfl⟩, fun _ => rfl⟩ ?_
        refine wpAnyIn_take (i := 7) (v := undef) hro rfl (by kernel_rfl) (by kernel_rfl) (by kernel_rfl) (fun _ _ _ h => h) ⟨Or.inr ⟨by rfl, rfl⟩, fun _ => rfl⟩ ?_
        refine wpAnyIn_take (i := 8) (v := undef) hro rfl (by kernel_rfl) (by kernel_rfl) (by kernel_rfl) (fun _ _ _ h => h) ⟨Or.inr ⟨by rfl, rfl⟩, fun _ => rfl⟩ ?_
        refine wpAnyIn_take (i := 9) (v := undef) hro rfl (by kernel_rfl) (by kernel_rfl) (by kernel_rfl) (fun _ _ _ h => h) ⟨Or.inr ⟨by rfl, rfl⟩, fun _ => rfl⟩ ?_
        refine wpAnyIn_take (i := 10) (v := undef) hro rfl (by kernel_rfl) (by kernel_rfl) (by kernel_rfl) (fun _ _ _ h => h) ⟨Or.inr ⟨by rfl, rfl⟩, fun _ => rfl⟩ ?_
        refine wpAnyIn_take (i := 11) (v := undef) hro rfl (by kernel_rfl) (by kernel_rfl) (by kernel_rfl) (fun _ _ _ h => h) ⟨Or.inr ⟨by rfl, rfl⟩, fun _ => rfl⟩ ?_
        refine wpAnyIn_take (i := 12) (v := undef) hro rfl (by kernel_rfl) (by kernel_rfl) (by kernel_rfl) (fun _ _ _ h => h) ⟨Or.inr ⟨by rfl, rfl⟩, fun _ => rfl⟩ ?_
        refine wpAnyIn_ready (rs := [13]) (by kernel_rfl) (by simp) ?_
        refine AllReadyIn.cons rfl (fun K hK => ?_) AllReadyIn.nil
        go_simp
        refine hK _ _ ?_; clear hK K
        refine wpAnyIn_done (by kernel_rfl) ?_ _
        gi_wp2
        exact ⟨⟨i + 1, by simp, by omega, hdr, hsr, by rw [List.range_succ]; simp [hoi]; exact hJd _ _ hJs⟩, by simp; omega⟩
      | true =>
        refine wpAnyIn_take (i := 6) (v := ?_) hro rfl (by kernel_rfl) (by kernel_rfl) (by kernel_rfl) (fun _ _ _ h => h) ⟨Or.inl ⟨by rfl, ?_⟩, fun _ => rfl⟩ ?_
        case refine_2 => intro w; go_simp; try (with_reducible rfl)
        refine wpAnyIn_take (i := 8) (v := ?_) hro rfl (by kernel_rfl) (by kernel_rfl) (by kernel_rfl) (fun _ _ _ h => h) ⟨Or.inl ⟨by rfl, ?_⟩, fun _ => rfl⟩ ?_
        case refine_2 => intro w; go_simp; try (with_reducible rfl)
        refine wpAnyIn_take (i := 9) (v := ?_) hro rfl (by kernel_rfl) (by kernel_rfl) (by kernel_rfl) (fun _ _ _ h => h) ⟨Or.inl ⟨by rfl, ?_⟩, fun _ => rfl⟩ ?_
        case refine_2 => intro w; go_simp; try (with_reducible rfl)
        refine wpAnyIn_ready (rs := [7]) (by kernel_rfl) (by simp) ?_
        refine AllReadyIn.cons rfl (fun K hK => ?_) AllReadyIn.nil
        go_simp
        refine hK _ _ ?_; clear hK K
        refine wpAnyIn_ready (rs := [10]) (by kernel_rfl) (by simp) ?_
        refine AllReadyIn.cons rfl (fun K hK => ?_) AllReadyIn.nil
        go_simp
        refine hK _ _ ?_; clear hK K
        refine wpAnyIn_ready (rs := [11]) (by kernel_rfl) (by simp) ?_
        refine AllReadyIn.cons rfl (fun K hK => ?_) AllReadyIn.nil
        have hlen : (((List.range i).filter on).map fl).length < 6 := by
          have := List.length_filter_le on (List.range i); simp at this ⊢; omega
        obtain ⟨fn, tmps, assign, body, hy, hR⟩ := yield_one (hY _ (fl i) _ (hJd _ _ hJs) hlen)
        rw [hfl i] at hy
        go_simp
        gi_wp2
        refine hR.mono ?_
        rintro e W3 ⟨b, rfl, hbt, hbf⟩
        gi_wp2
        refine wpAnyIn_ready (rs := [12]) (by kernel_rfl) (by simp) ?_
        refine AllReadyIn.cons rfl (fun K hK => ?_) AllReadyIn.nil
        go_simp
        refine hK _ _ ?_; clear hK K
        refine wpAnyIn_ready (rs := [13]) (by kernel_rfl) (by simp) ?_
        refine AllReadyIn.cons rfl (fun K hK => ?_) AllReadyIn.nil
        go_simp
        refine hK _ _ ?_; clear hK K
        refine wpAnyIn_done (by kernel_rfl) ?_ _
        have hr1 : List.map fl (List.filter on (List.range (i + 1))) = List.map fl (List.filter on (List.range i)) ++ [fl i] := by
          rw [List.range_succ]; simp [hoi]
        cases b with
        | true =>
          obtain ⟨hJ3, hk1, hk2⟩ := hbt rfl
          gi_wp2
          exact ⟨⟨i + 1, by simp, by omega, hk1.trans hdr, hk2.trans hsr, by rw [hr1]; exact hJ3⟩, by simp; omega⟩
        | false =>
          have hX := hbf rfl
          gi_wp2
          refine bodyPost_ret (results_none rfl _ _ _) rfl ?_
          refine ⟨⟨_, rfl⟩, .inr ⟨_, ?_, hX⟩⟩
          rw [← hr1]
          refine List.IsPrefix.map fl (List.IsPrefix.filter on ?_)
          exact pre6 h6
    · gi_wp2
      have : i = 6 := by omega
      subst this
      go_end0
      exact ⟨⟨_, rfl⟩, .inl ⟨_, rfl, hJs⟩⟩
end Go.Proofs.Cube
