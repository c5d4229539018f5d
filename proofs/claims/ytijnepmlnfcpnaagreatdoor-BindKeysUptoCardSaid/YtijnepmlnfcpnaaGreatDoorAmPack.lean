/-
  PACK: the lemmas of one step of the machine, as one statement for the simplifier.
-/
import Derived.Test.YtijnepmlnfcpnaaGreatDoorAmTyped
set_option linter.unusedVariables false
set_option linter.unusedSimpArgs false
set_option linter.defProp false
namespace Go.Am
open Go
def Zs := And.intro @Bool.false_eq_true <| And.intro @e_seq <| And.intro @e_region <| And.intro @e_cond <| And.intro @e_block <| And.intro @ex_skip <| And.intro @ex_exit <| And.intro @ex_ret <| And.intro @o_cons <| And.intro @xops_nil <| And.intro @k_want_none <| And.intro @k_want_false <| And.intro @k_val <| And.intro @k_pan <| And.intro @k_call <| And.intro @k_ret <| And.intro @k_seq <| And.intro @k_seq_exit <| And.intro @k_seq_ret <| And.intro @k_true <| And.intro @k_false <| And.intro @k_block <| And.intro @k_block_exit <| And.intro @k_block_ret <| And.intro @k_loop <| And.intro @k_loop_exit <| And.intro @k_loop_ret <| And.intro @Option.getD_some.{0} <| And.intro @List.getElem?_set.{0} <| And.intro @List.map_cons.{0, 0} <| And.intro @List.map_nil.{0, 0} <| And.intro @List.length_set.{0} <| And.intro @Option.map_some.{0, 0} <| And.intro @Option.bind_some.{0, 0} <| And.intro @Option.bind_eq_bind.{0} <| And.intro @add_i <| And.intro @sub_i <| And.intro @mul_i <| And.intro @eql_i <| And.intro @neq_i <| And.intro @lss_i <| And.intro @leq_i <| And.intro @gtr_i <| And.intro @geq_i <| And.intro @List.cons_append.{0} <| And.intro @List.nil_append.{0} <| And.intro @List.append_nil.{0} <| And.intro @List.getElem?_toArray.{0} <| And.intro @List.getElem?_cons_succ.{0} <| And.intro @List.getElem?_cons_zero.{0} <| And.intro @e_draw <| And.intro @g_nil <| And.intro @g_cons <| And.intro @g_want <| And.intro @g_skip <| And.intro @g_val <| And.intro @g_call <| And.intro @g_ret <| And.intro @Option.map_none.{0, 0} <| And.intro @bq1 <| And.intro @bq2 <| And.intro @bq3 <| And.intro @bq4 @ex_tup
def Zc := And.intro @cl_i <| And.intro @cl_b <| And.intro @cl_s <| And.intro @cl_a <| And.intro @cl_nl <| And.intro @cl_np <| And.intro @cl_ip <| And.intro @cl_ls <| And.intro @bx_i <| And.intro @bx_b <| And.intro @bx_s <| And.intro @bx_a <| And.intro @bx_nl <| And.intro @bx_np <| And.intro @bx_ip <| And.intro @bx_ls <| And.intro @c_i <| And.intro @c_b <| And.intro @c_s <| And.intro @c_nl <| And.intro @c_np <| And.intro @c_ip <| And.intro @c_ls <| And.intro @List.all_cons.{0} <| And.intro @List.all_nil.{0} <| And.intro @Bool.and_self @Bool.and_true
def Zb := And.intro @cond_true.{1} <| And.intro @cond_false.{1} <| And.intro @Option.bind_some.{0, 0} <| And.intro @Option.bind_assoc.{0, 0, 0} <| And.intro @Bool.not_true <| And.intro @Bool.not_false <| And.intro @Bool.true_and <| And.intro @Bool.false_and <| And.intro @Bool.and_true <| And.intro @Bool.and_false <| And.intro @Bool.true_or @Bool.false_or
/-- what a region that may panic is handed: what holds at a panic -/
abbrev Hp {F : Type} (d0 : Nat) (pe : Nat → F → ASt → Prop) : Prop := ∀ s st, PanOk d0 st → pe panIx s st
/-- a predicate on slots and heap as one on states -/
abbrev up {F : Type} (p : Nat → F → List AVal → AHeap → Prop) (d0 : Nat) (s : F) (st : ASt) : Prop := p d0 s st.tmps st.h
theorem hpd {F : Type} {d0 : Nat} {pe : Nat → F → ASt → Prop} (h : ∀ s st, PanOk d0 st → pe panIx s st := by intro _ _ h_; first | exact ⟨rfl, h_⟩ | exact pan_up (by decide) ⟨rfl, h_⟩ | exact pan_up (by decide) (pan_up (by decide) ⟨rfl, h_⟩) | exact pan_up (by decide) (pan_up (by decide) (pan_up (by decide) ⟨rfl, h_⟩)) | exact pan_up (by decide) (pan_up (by decide) (pan_up (by decide) (pan_up (by decide) ⟨rfl, h_⟩)))) : Hp d0 pe := h
theorem gse {h H : AHeap} {d : Nat} {v : Option ABlk} (e : H = h.set d v) : H.get d = v := by rw [e]; exact Heap.get_set_eq
theorem gsn {h H : AHeap} {d i : Nat} {v w : Option ABlk} (e : H = h.set d v) (n : i ≠ d) (g : h.get i = w) : H.get i = w := by rw [e, Heap.get_set_ne n]; exact g
theorem nxs {h H : AHeap} {d i : Nat} {v : Option ABlk} (e : H = h.set d v) (l : i < h.next) : i < H.next := by rw [e]; exact l
theorem gnl {h H : AHeap} {i : Nat} {b : ABlk} {w : Option ABlk} (e : H = h.new b) (l : i < h.next) (g : h.get i = w) : H.get i = w := by rw [e, Heap.get_new_lt l]; exact g
theorem pkH {C : Cfg} {f : Nat} {as : List AVal} {o : ARes} {h : AHeap} {d : Nat} {v : Option ABlk} (l : d < h.next) (iu : run C f as h = some (o, h.set d v)) : ∃ H : AHeap, H.get d = v ∧ d < H.next ∧ run C f as h = some (o, H) := ⟨_, Heap.get_set_eq, l, iu⟩
end Go.Am
