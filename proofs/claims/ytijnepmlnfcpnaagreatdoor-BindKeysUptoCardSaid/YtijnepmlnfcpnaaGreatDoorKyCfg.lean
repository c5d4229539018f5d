/-
  KEYS: the machine's configuration; strings.Map at lex's capitals as a function whose answer is known.
-/
import Derived.Test.YtijnepmlnfcpnaaGreatDoorKyMapLay
import Derived.Test.YtijnepmlnfcpnaaGreatDoorChecked
import Derived.Lib.TrimAscii
import Derived.Lib.LaidTab
import Derived.Test.YtijnepmlnfcpnaaGreatDoorAmEq
import Derived.Test.YtijnepmlnfcpnaaGreatDoorAmPure
set_option linter.unusedVariables false
set_option linter.unusedSimpArgs false
set_option maxRecDepth 100000
set_option linter.unusedSimpArgs false
namespace Go.Proofs.Ky
open Go Go.Am Go.Proofs Go.RowKit Go.Lib

def capR (z : Int) : Int := if 97 ≤ z ∧ z ≤ 122 then z - 97 + 65 else z
def capB (b : UInt8) : UInt8 := if 97 ≤ b.toNat ∧ b.toNat ≤ 122 then UInt8.ofNat (b.toNat - 32) else b
def capsL (s : List UInt8) : List UInt8 := if s.all (fun b => decide (b.toNat < 128)) then s.map capB else mapD capR s

theorem enc_ascii (z : Int) (h0 : 0 ≤ z) (h1 : z ≤ 127) : encodeRune z = [z.toNat.toUInt8] := by
  unfold encodeRune
  rw [encodeRuneZ_one h0 h1]
  rfl
theorem capR_byte (b : UInt8) (h : b.toNat < 128) : encodeRune (capR (b.toNat : Nat)) = [capB b] := by
  unfold capR capB
  by_cases hc : 97 ≤ b.toNat ∧ b.toNat ≤ 122
  · rw [if_pos (by omega), if_pos hc, enc_ascii _ (by omega) (by omega)]
    have : ((b.toNat : Int) - 97 + 65).toNat = b.toNat - 32 := by omega
    rw [this]
  · rw [if_neg (by omega), if_neg hc, enc_ascii _ (by omega) (by omega)]
    simp
theorem mapD_ascii : ∀ (s : List UInt8), (s.all (fun b => decide (b.toNat < 128))) = true → mapD capR s = s.map capB := by
  intro s
  induction s with
  | nil => intro _; exact mapD_nil _
  | cons b s ih =>
    intro h
    simp only [List.all_cons, Bool.and_eq_true, decide_eq_true_eq] at h
    have hb := h.1
    rw [mapD_step _ _ (by simp), decodeL_ascii b s hb]
    have hnn : (0 : Int) ≤ capR ((b.toNat : Nat) : Int) := by unfold capR; split <;> omega
    simp only
    rw [if_pos hnn, capR_byte b hb, List.drop_succ_cons, List.drop_zero, ih h.2]
    rfl
theorem capsL_eq (s : List UInt8) : mapD capR s = capsL s := by
  unfold capsL
  split
  · rename_i h; exact mapD_ascii s h
  · rfl

theorem cap_gives (w : World) : MapAtRunes Tryz.prog 179 #[] capR w := fun W x hx hb => by
  unfold FnGives
  have hcap : capR (x : Int) = if 97 ≤ (x : Int) ∧ (x : Int) ≤ 122 then (x : Int) - 97 + 65 else (x : Int) := rfl
  by_cases h1 : (97 : Int) ≤ x <;> by_cases h2 : (x : Int) ≤ 122
  all_goals
    simp only [hcap, h1, h2, and_self, and_true, and_false, false_and, if_true, if_false]
    go_enter Tryz.func179, Tryz.ntmps179
    go_wp2
    all_goals first | (exfalso; omega) | (go_ret; exact ⟨by first | rfl | (congr 2; first | omega | (simp [IntKind.wrap, IntKind.bits, IntKind.signed]; omega)), 0, rfl⟩)

def sumMap : List AVal → Option AVal
  | [.fn (.func 179) [] [], .str s] => if s.length < 35184372088832 then some (.str (capsL s)) else none
  | _ => none
/-- strconv.Itoa -/
def sum75 : List AVal → Option AVal
  | [.int .i64 n] => if -9223372036854775808 ≤ n ∧ n ≤ 9223372036854775807 then some (.str (itoa n)) else none
  | _ => none
/-- strconv.FormatInt at base 10 -/
def sum147 : List AVal → Option AVal
  | [.int .i64 n, .int .i64 10] => if -9223372036854775808 ≤ n ∧ n ≤ 9223372036854775807 then some (.str (itoa n)) else none
  | _ => none
/-- what is known of the powers of ten -/
def known1 (o : Option Obj) : Prop := ∃ e f, o = some (.cells (pow10Tab.map fun z => Value.int .u64 z).toArray e f)
def summs (f : Nat) : Option (List AVal → Option AVal) := if f = 178 then some sumMap else if f = 75 then some sum75 else if f = 147 then some sum147 else none

def u8s (l : List Int) : List AVal := l.map fun n => .int .u8 n
def kindT (n : Nat) : Int :=
  if n = 32 ∨ n = 9 ∨ n = 10 ∨ n = 13 then 1
  else if (65 ≤ n ∧ n ≤ 90) ∨ (97 ≤ n ∧ n ≤ 122) ∨ n = 95 then 2
  else if 48 ≤ n ∧ n ≤ 57 then 3
  else if n = 39 then 4
  else if n = 40 ∨ n = 41 ∨ n = 44 ∨ n = 42 ∨ n = 61 ∨ n = 45 ∨ n = 60 ∨ n = 62 then 5
  else 0
def firstL : List Int := (List.range 256).map fun n => (firstT n : Int)
def accL : List Int := (List.range 32).map fun j => if j % 2 = 0 then accLo (j / 2) else accHi (j / 2)
def powL : List Int := (List.range 20).map fun i => ((10 ^ i : Nat) : Int)
def globs (i : Nat) : Option (List AVal) :=
  if i = 0 then some (u8s ((List.range 128).map kindT))
  else if i = 1 then some (powL.map (AVal.int .u64))
  else if i = 2 then some (u8s firstL)
  else if i = 3 then some (u8s accL)
  else none

/-- the functions that are not run apart: the reader's recovery, and the library -/
def nofoc : List Nat := [34, 35, 37, 38, 93, 100, 132, 178, 74, 143, 180, 190, 193, 209, 210, 222, 136, 239, 224, 67, 68, 69, 70, 71, 72, 73, 145, 146, 142]
def owns (p : String) : Bool := ["builder.go:97", "builder.go:114", "lex.go:89", "strings.go:490", "strings.go:520", "strings.go:1149", "bind.go:320"].contains p
noncomputable def Cl : Cfg := { P := Tryz.prog, foc := fun f => decide (3 ≤ f) && !(nofoc.contains f), summ := summs, glob := globs, own := owns, dfr := fun f => f == 57, known := [(1, known1)], cbox := fun p => ["parse.go:148", "parse.go:143", "parse.go:130", "law.go:96", "bind.go:316", "bind.go:321", "ref.go:330"].contains p }

theorem glob_at {ι : Imm} (hG : GlobI Cl ι) {i : Nat} {l : List Int} (hi : Cl.glob i = some (u8s l)) {j : Nat} {n : Int} (hj : l[j]? = some n) : ι i j = some (.int .u8 n) := by
  obtain ⟨vs, hv, hic⟩ := hG i _ hi
  obtain ⟨y, hy, hr⟩ := hv.get (j := j) (x := .int .u8 n) (by unfold u8s; rw [List.getElem?_map, hj]; rfl)
  cases hr
  have := hic j _ hy
  rwa [Nat.zero_add] at this
theorem tabs {B : Nat} {h : AHeap} {g : G} (I : Am.Inv B h g) (hG : GlobOk Cl B g) : Utf8Tabs 2 3 g.w := by
  refine ⟨fun c hc => I.imm _ _ _ (glob_at hG.imm (i := 2) (l := firstL) rfl ?_), fun i hi => ⟨I.imm _ _ _ (glob_at hG.imm (i := 3) (l := accL) rfl ?_), I.imm _ _ _ (glob_at hG.imm (i := 3) (l := accL) rfl ?_)⟩⟩
  · unfold firstL
    rw [List.getElem?_map, List.getElem?_range hc]; rfl
  · unfold accL
    rw [List.getElem?_map, List.getElem?_range (by omega)]
    simp only [Option.map_some]
    rw [if_pos (by omega), show 2 * i / 2 = i from by omega]
  · unfold accL
    rw [List.getElem?_map, List.getElem?_range (by omega)]
    simp only [Option.map_some]
    rw [if_neg (by omega), show (2 * i + 1) / 2 = i from by omega]

theorem names : namesOk Tryz.prog = true := by kernel_rfl
theorem mixed : Tryz.prog.follows .mixedOrders = true := by kernel_rfl

theorem same_resV {B : Nat} {h : AHeap} {g : G} (I : Am.Inv B h g) {W' : World} {v : AVal} {v' : Value} (hv : VRel g.ι g.μ v v') (hb : Below g.w.heap.size g.w W') : ResOk B h g h (.ret v) (.returned v') W' :=
  ⟨g.ι, g.μ, ⟨I.nx, Nat.le_trans I.base hb.size, fun b o v hv => (cell?_congr (hb.block b (Am.lt_of_cell (I.imm b o v hv)))).trans (I.imm b o v hv), fun id x hx => (I.blk id x hx).keep (Le.refl _ _) (fun b hbk => hb.block b (I.lt_own ⟨id, x, hx, hbk⟩)) (fun _ _ _ h => h), I.inj, I.ty⟩,
    ⟨hb.os, hb.tape, hb.output, hb.size, fun b hbl _ => hb.block b hbl, Le.refl _ _, fun _ _ _ _ => rfl, fun _ _ x => x, Nat.le_refl _, fun _ _ => rfl⟩, _, rfl, hv⟩
theorem same_res {B : Nat} {h : AHeap} {g : G} (I : Am.Inv B h g) {W' : World} (s : List UInt8) (hb : Below g.w.heap.size g.w W') : ResOk B h g h (.ret (.str s)) (.returned (.string ⟨s.toArray⟩)) W' := same_resV I (.str s) hb
theorem summMap {B : Nat} {h : AHeap} {g : G} {args : List AVal} {args' : Array Value} {v : AVal} (hv : sumMap args = some v) (I : Am.Inv B h g) (hG : GlobOk Cl B g) (ha : VsRel g.ι (fun _ => none) args args'.toList) : (callFunc 178 args').run Tryz.prog g.w = .ok (.enter 178 args') g.w ∧ Calls Tryz.prog 178 args' g.w (ResOk B h g h (.ret v)) := by
  unfold sumMap at hv
  split at hv
  case h_2 => cases hv
  rename_i s
  split at hv
  case isFalse => cases hv
  rename_i hs
  cases hv
  obtain ⟨l⟩ := args'
  cases ha with | cons h1 ha =>
  cases ha with | cons h2 ha =>
  cases ha
  cases h2
  cases h1 with
  | @fn _ _ _ first' cap' hf1 hf2 =>
  have e1 : first' = #[] := by cases first' with | mk l => cases hf1; rfl
  have e2 : cap' = #[] := by cases cap' with | mk l => cases hf2; rfl
  subst e1; subst e2
  have hN : NameOk Cl := fun f fn hf => (namesOk_get names hf).1
  refine ⟨run_enter (C := Cl) hN (show Tryz.prog.funcs[178]? = some Tryz.f178 from rfl) rfl _ g.w, ?_⟩
  refine (Tryz.strings_Map_runes 179 #[] (fun args w => run_enter (C := Cl) hN (show Tryz.prog.funcs[179]? = some Tryz.f179 from rfl) rfl args w) capR ⟨s.toArray⟩ g.w (by simpa [ByteArray.size] using hs) (cap_gives g.w) (fun x hx => by unfold capR; split <;> omega) (tabs I hG)).mono ?_
  rintro e W' ⟨rfl, hb⟩
  rw [show (mapD capR (ByteArray.mk s.toArray).data.toList) = capsL s from capsL_eq s]
  exact same_res I _ hb
theorem tab1 {B : Nat} {g : G} (hG : GlobOk Cl B g) : Lib.TabIs Tryz.prog g.w "internal/strconv.uint64pow10" .u64 Lib.pow10Tab := by
  obtain ⟨_, e, f, h1⟩ := hG.known (1, known1) (by simp [Cl])
  unfold Lib.TabIs World.var?
  rw [show Tryz.prog.globalNamed "internal/strconv.uint64pow10" = some 1 by kernel_rfl]
  simp only [Option.bind_some, h1]
theorem summ75 {B : Nat} {h : AHeap} {g : G} {args : List AVal} {args' : Array Value} {v : AVal} (hv : sum75 args = some v) (I : Am.Inv B h g) (hG : GlobOk Cl B g) (ha : VsRel g.ι (fun _ => none) args args'.toList) : (callFunc 75 args').run Tryz.prog g.w = .ok (.enter 75 args') g.w ∧ Calls Tryz.prog 75 args' g.w (ResOk B h g h (.ret v)) := by
  have hN : NameOk Cl := fun f fn hf => (namesOk_get names hf).1
  refine ⟨run_enter (C := Cl) hN (show Tryz.prog.funcs[75]? = some Tryz.f75 from rfl) rfl _ g.w, ?_⟩
  unfold sum75 at hv
  obtain ⟨l⟩ := args'
  split at hv
  case h_2 => cases hv
  split at hv
  case isFalse => cases hv
  rename_i n hc
  cases hv
  cases ha with | cons h1 ha =>
  cases ha
  cases h1
  refine (Tryz.strconv_Itoa n hc.1 hc.2 g.w (tab1 hG)).mono ?_
  rintro e W' ⟨rfl, k, os, rfl⟩
  refine same_res I _ ⟨rfl, rfl, rfl, ?_, fun b hb => ?_⟩
  · simp [Go.Sort.grow, World.drewN]
  · simp only [Go.Sort.grow, World.drewN]
    rw [Array.getElem?_append_left hb]
theorem summ147 {B : Nat} {h : AHeap} {g : G} {args : List AVal} {args' : Array Value} {v : AVal} (hv : sum147 args = some v) (I : Am.Inv B h g) (hG : GlobOk Cl B g) (ha : VsRel g.ι (fun _ => none) args args'.toList) : (callFunc 147 args').run Tryz.prog g.w = .ok (.enter 147 args') g.w ∧ Calls Tryz.prog 147 args' g.w (ResOk B h g h (.ret v)) := by
  have hN : NameOk Cl := fun f fn hf => (namesOk_get names hf).1
  refine ⟨run_enter (C := Cl) hN (show Tryz.prog.funcs[147]? = some Tryz.f147 from rfl) rfl _ g.w, ?_⟩
  unfold sum147 at hv
  obtain ⟨l⟩ := args'
  split at hv
  case h_2 => cases hv
  split at hv
  case isFalse => cases hv
  rename_i n hc
  cases hv
  cases ha with | cons h1 ha =>
  cases ha with | cons h2 ha =>
  cases ha
  cases h1
  cases h2
  refine (Tryz.strconv_FormatInt_10 n hc.1 hc.2 g.w (tab1 hG)).mono ?_
  rintro e W' ⟨rfl, k, os, rfl⟩
  refine same_res I _ ⟨rfl, rfl, rfl, ?_, fun b hb => ?_⟩
  · simp [Go.Sort.grow, World.drewN]
  · simp only [Go.Sort.grow, World.drewN]
    rw [Array.getElem?_append_left hb]
theorem summOk : SummOk Cl := by
  intro f s hf args v hv B h g args' I hG ha
  change summs f = some s at hf
  unfold summs at hf
  split at hf
  · rename_i e
    subst e
    cases hf
    exact summMap hv I hG ha
  · split at hf
    · rename_i e; subst e; cases hf; exact summ75 hv I hG ha
    · split at hf
      · rename_i e; subst e; cases hf; exact summ147 hv I hG ha
      · cases hf
end Go.Proofs.Ky
