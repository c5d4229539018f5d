import Derived.Test.YthfbbjoaidajfaaGreatDoorParMapLay
import Derived.Test.YthfbbjoaidajfaaGreatDoorParIntLay
import Derived.Test.YthfbbjoaidajfaaGreatDoorParShowLay
import Derived.Lib.LaidTab
import Derived.Lib.ReplaceLaws
import Derived.Lib.AtoiErrMem
import Derived.Lib.ParseIntB
import Derived.Test.YthfbbjoaidajfaaGreatDoorChecked
import Derived.Lib.TrimAscii
import Derived.Test.YthfbbjoaidajfaaGreatDoorAmEq
import Derived.Test.YthfbbjoaidajfaaGreatDoorAmPure
set_option linter.unusedVariables false
set_option linter.unusedSimpArgs false
set_option maxRecDepth 100000
set_option linter.unusedSimpArgs false
namespace Go.Proofs.Q.Par
open Go Go.Am Go.Proofs Go.RowKit Go.Lib
def capR (z : Int) : Int := if 97 ≤ z ∧ z ≤ 122 then z - 97 + 65 else z
def capB (b : UInt8) : UInt8 := if 97 ≤ b.toNat ∧ b.toNat ≤ 122 then UInt8.ofNat (b.toNat - 32) else b
def capsL (s : List UInt8) : List UInt8 := if s.all (fun b => decide (b.toNat < 128)) then s.map capB else mapD capR s
theorem enc_ascii (z : Int) (h0 : 0 ≤ z) (h1 : z ≤ 127) : encodeRune z = [z.toNat.toUInt8] := by
  unfold encodeRune
  rw [encodeRuneZ_one h0 h1]
  rfl
theorem capR_byte (b : UInt8) (h : b.toNat < 128) : encodeRune (capR (b.toNat : Nat)) = [capB b] := by
  unfold capR capB
  by_cases hc : 97 ≤ b.toNat ∧ b.toNat ≤ 122
  · rw [if_pos (by omega), if_pos hc, enc_ascii _ (by omega) (by omega)]
    have : ((b.toNat : Int) - 97 + 65).toNat = b.toNat - 32 := by omega
    rw [this]
  · rw [if_neg (by omega), if_neg hc, enc_ascii _ (by omega) (by omega)]
    simp
theorem mapD_ascii : ∀ (s : List UInt8), (s.all (fun b => decide (b.toNat < 128))) = true → mapD capR s = s.map capB := by
  intro s
  induction s with
  | nil => intro _; exact mapD_nil _
  | cons b s ih =>
    intro h
    simp only [List.all_cons, Bool.and_eq_true, decide_eq_true_eq] at h
    have hb := h.1
    rw [mapD_step _ _ (by simp), decodeL_ascii b s hb]
    have hnn : (0 : Int) ≤ capR ((b.toNat : Nat) : Int) := by unfold capR; split <;> omega
    simp only
    rw [if_pos hnn, capR_byte b hb, List.drop_succ_cons, List.drop_zero, ih h.2]
    rfl
theorem capsL_eq (s : List UInt8) : mapD capR s = capsL s := by
  unfold capsL
  split
  · rename_i h; exact mapD_ascii s h
  · rfl
theorem cap_gives (w : World) : MapAtRunes Tryz.prog 103 #[] capR w := fun W x hx hb => by
  unfold FnGives
  have hcap : capR (x : Int) = if 97 ≤ (x : Int) ∧ (x : Int) ≤ 122 then (x : Int) - 97 + 65 else (x : Int) := rfl
  by_cases h1 : (97 : Int) ≤ x <;> by_cases h2 : (x : Int) ≤ 122
  all_goals
    simp only [hcap, h1, h2, and_self, and_true, and_false, false_and, if_true, if_false]
    go_enter Tryz.func103, Tryz.ntmps103
    go_wp2
    all_goals first | (exfalso; omega) | (go_ret; exact ⟨by first | rfl | (congr 2; first | omega | (simp [IntKind.wrap, IntKind.bits, IntKind.signed]; omega)), 0, rfl⟩)
def sum102 : List AVal → Option AVal
  | [.fn (.func 103) [] [], .str s] => if s.length < 35184372088832 then some (.str (capsL s)) else none
  | _ => none
def sum178 : List AVal → Option AVal
  | [.str s, .int .i64 10, .int .i64 64] => if s.length ≤ 281474976710656 then (match parseIntB 64 s with
    | .ok v => some (.tup [.int .i64 v, .nilI])
    | .range => some (.tup [.int .i64 (intSat 64 s), .iface 202 .top])
    | _ => none) else none
  | _ => none
def strsOf : List AVal → Option (List (List UInt8))
  | [] => some []
  | .str s :: r => (strsOf r).map (s :: ·)
  | _ => none
def sum83 : List AVal → Option AVal
  | [.nilSl, .str sep] => some (.str [])
  | [.lst cs n _, .str sep] => (strsOf cs).bind fun xs => if xs.length = n ∧ n ≤ 100000 ∧ (Lib.join xs sep).length ≤ 140737488355328 then some (.str (Lib.join xs sep)) else none
  | _ => none
def sum126 : List AVal → Option AVal
  | [.int .i64 n, .int .i64 10] => if -9223372036854775808 ≤ n ∧ n ≤ 9223372036854775807 then some (.str (itoa n)) else none
  | _ => none
def sum151 : List AVal → Option AVal
  | [.str s, .str old, .str new] => if s.length < 4294967281 ∧ 1 ≤ old.length ∧ s.length + s.length * new.length ≤ 140737488355328 then some (.str (replaceAll s old new)) else none
  | _ => none
def summs (f : Nat) : Option (List AVal → Option AVal) := if f = 102 then some sum102 else if f = 178 then some sum178 else if f = 83 then some sum83 else if f = 126 then some sum126 else if f = 151 then some sum151 else none
def known3 (o : Option Obj) : Prop := ∃ cs e f m, o = some (.cells cs e f) ∧ cs[0]? = some (.int .i64 m)
def known4 (o : Option Obj) : Prop := ∃ e f, o = some (.cells (pow10Tab.map fun z => Value.int .u64 z).toArray e f)
def known8 (o : Option Obj) : Prop := ∃ cs e f u x, o = some (.cells cs e f) ∧ cs[0]? = some (.iface u x)
def u8s (l : List Int) : List AVal := l.map fun n => .int .u8 n
def kindT (n : Nat) : Int :=
  if n = 32 ∨ n = 9 ∨ n = 10 ∨ n = 13 then 1
  else if (65 ≤ n ∧ n ≤ 90) ∨ (97 ≤ n ∧ n ≤ 122) ∨ n = 95 then 2
  else if 48 ≤ n ∧ n ≤ 57 then 3
  else if n = 39 then 4
  else if n = 40 ∨ n = 41 ∨ n = 44 ∨ n = 42 ∨ n = 61 ∨ n = 45 ∨ n = 60 ∨ n = 62 then 5
  else 0
def firstL : List Int := (List.range 256).map fun n => (firstT n : Int)
def accL : List Int := (List.range 32).map fun j => if j % 2 = 0 then accLo (j / 2) else accHi (j / 2)
def globs (i : Nat) : Option (List AVal) :=
  if i = 0 then some (u8s ((List.range 128).map kindT))
  else if i = 1 then some (u8s firstL)
  else if i = 2 then some (u8s accL)
  else none
def nofoc : List Nat := [66, 102, 104, 105, 122, 123, 133, 134, 135, 149, 83, 161, 151]
def owns (p : String) : Bool := ["builder.go:97", "builder.go:114", "lex.go:89", "strings.go:490", "strings.go:520", "strings.go:1149"].contains p
noncomputable def Cp : Cfg := { P := Tryz.prog, foc := fun f => decide (3 ≤ f) && !(nofoc.contains f), summ := summs, glob := globs, own := owns, dfr := fun f => f == 22, cbox := fun p => ["ref.go:177", "ref.go:185", "ref.go:164", "parse.go:148", "parse.go:143", "parse.go:130"].contains p, known := [(3, known3), (4, known4), (8, known8)] }
theorem glob_at {ι : Imm} (hG : GlobI Cp ι) {i : Nat} {l : List Int} (hi : Cp.glob i = some (u8s l)) {j : Nat} {n : Int} (hj : l[j]? = some n) : ι i j = some (.int .u8 n) := by
  obtain ⟨vs, hv, hic⟩ := hG i _ hi
  obtain ⟨y, hy, hr⟩ := hv.get (j := j) (x := .int .u8 n) (by unfold u8s; rw [List.getElem?_map, hj]; rfl)
  cases hr
  have := hic j _ hy
  rwa [Nat.zero_add] at this
theorem tabs {B : Nat} {h : AHeap} {g : G} (I : Am.Inv B h g) (hG : GlobOk Cp B g) : Utf8Tabs 1 2 g.w := by
  refine ⟨fun c hc => I.imm _ _ _ (glob_at hG.imm (i := 1) (l := firstL) rfl ?_), fun i hi => ⟨I.imm _ _ _ (glob_at hG.imm (i := 2) (l := accL) rfl ?_), I.imm _ _ _ (glob_at hG.imm (i := 2) (l := accL) rfl ?_)⟩⟩
  · unfold firstL
    rw [List.getElem?_map, List.getElem?_range hc]; rfl
  · unfold accL
    rw [List.getElem?_map, List.getElem?_range (by omega)]
    simp only [Option.map_some]
    rw [if_pos (by omega), show 2 * i / 2 = i from by omega]
  · unfold accL
    rw [List.getElem?_map, List.getElem?_range (by omega)]
    simp only [Option.map_some]
    rw [if_neg (by omega), show (2 * i + 1) / 2 = i from by omega]
theorem names : namesOk Tryz.prog = true := by kernel_rfl
theorem mixed : Tryz.prog.follows .mixedOrders = true := by kernel_rfl
theorem same_resV {B : Nat} {h : AHeap} {g : G} (I : Am.Inv B h g) {W' : World} {v : AVal} {v' : Value} (hv : VRel g.ι g.μ v v') (hb : Below g.w.heap.size g.w W') : ResOk B h g h (.ret v) (.returned v') W' :=
  ⟨g.ι, g.μ, ⟨I.nx, Nat.le_trans I.base hb.size, fun b o v hv => (cell?_congr (hb.block b (Am.lt_of_cell (I.imm b o v hv)))).trans (I.imm b o v hv), fun id x hx => (I.blk id x hx).keep (Le.refl _ _) (fun b hbk => hb.block b (I.lt_own ⟨id, x, hx, hbk⟩)) (fun _ _ _ h => h), I.inj, I.ty⟩,
    ⟨hb.os, hb.tape, hb.output, hb.size, fun b hbl _ => hb.block b hbl, Le.refl _ _, fun _ _ _ _ => rfl, fun _ _ x => x, Nat.le_refl _, fun _ _ => rfl⟩, _, rfl, hv⟩
theorem same_res {B : Nat} {h : AHeap} {g : G} (I : Am.Inv B h g) {W' : World} (s : List UInt8) (hb : Below g.w.heap.size g.w W') : ResOk B h g h (.ret (.str s)) (.returned (.string ⟨s.toArray⟩)) W' := same_resV I (.str s) hb
theorem cell8 {B : Nat} {g : G} (hG : GlobOk Cp B g) : ∃ u x, g.w.cell? ⟨8, 0, none⟩ = some (.iface u x) := by
  obtain ⟨_, cs, e, f, u, x, h1, h2⟩ := hG.known (8, known8) (by simp [Cp])
  exact ⟨u, x, by simp only [World.cell?, h1]; exact h2⟩
theorem cell3 {B : Nat} {g : G} (hG : GlobOk Cp B g) : ∃ m, g.w.cell? ⟨3, 0, none⟩ = some (.int .i64 m) := by
  obtain ⟨_, cs, e, f, m, h1, h2⟩ := hG.known (3, known3) (by simp [Cp])
  exact ⟨m, by simp only [World.cell?, h1]; exact h2⟩
theorem tab4 {B : Nat} {g : G} (hG : GlobOk Cp B g) : Lib.TabIs Tryz.prog g.w "internal/strconv.uint64pow10" .u64 Lib.pow10Tab := by
  obtain ⟨_, e, f, h1⟩ := hG.known (4, known4) (by simp [Cp])
  unfold Lib.TabIs World.var?
  rw [show Tryz.prog.globalNamed "internal/strconv.uint64pow10" = some 4 by kernel_rfl]
  simp only [Option.bind_some, h1]
theorem strsOf_rel {ι : Imm} {μ : Mu} : ∀ {cs : List AVal} {vs : List Value} {xs : List (List UInt8)}, strsOf cs = some xs → VsRel ι μ cs vs → vs = xs.map fun s => Value.string ⟨s.toArray⟩
  | [], vs, xs, h, hv => by cases h; cases hv; rfl
  | c :: cs, vs, xs, h, hv => by
    cases hv with
    | cons h1 h2 =>
      cases c with
      | str s =>
        simp only [strsOf, Option.map_eq_some_iff] at h
        obtain ⟨ys, hy, rfl⟩ := h
        cases h1
        rw [strsOf_rel hy h2]; rfl
      | _ => simp [strsOf] at h
theorem summ102 {B : Nat} {h : AHeap} {g : G} {args : List AVal} {args' : Array Value} {v : AVal} (hv : sum102 args = some v) (I : Am.Inv B h g) (hG : GlobOk Cp B g) (ha : VsRel g.ι (fun _ => none) args args'.toList) : (callFunc 102 args').run Tryz.prog g.w = .ok (.enter 102 args') g.w ∧ Calls Tryz.prog 102 args' g.w (ResOk B h g h (.ret v)) := by
  unfold sum102 at hv
  split at hv
  case h_2 => cases hv
  rename_i s
  split at hv
  case isFalse => cases hv
  rename_i hs
  cases hv
  obtain ⟨l⟩ := args'
  cases ha with | cons h1 ha =>
  cases ha with | cons h2 ha =>
  cases ha
  cases h2
  cases h1 with
  | @fn _ _ _ first' cap' hf1 hf2 =>
  have e1 : first' = #[] := by cases first' with | mk l => cases hf1; rfl
  have e2 : cap' = #[] := by cases cap' with | mk l => cases hf2; rfl
  subst e1; subst e2
  have hN : NameOk Cp := fun f fn hf => (namesOk_get names hf).1
  refine ⟨run_enter (C := Cp) hN (show Tryz.prog.funcs[102]? = some Tryz.f102 from rfl) rfl _ g.w, ?_⟩
  refine (Tryz.strings_Map_runes 103 #[] (fun args w => run_enter (C := Cp) hN (show Tryz.prog.funcs[103]? = some Tryz.f103 from rfl) rfl args w) capR ⟨s.toArray⟩ g.w (by simpa [ByteArray.size] using hs) (cap_gives g.w) (fun x hx => by unfold capR; split <;> omega) (tabs I hG)).mono ?_
  rintro e W' ⟨rfl, hb⟩
  rw [show (mapD capR (ByteArray.mk s.toArray).data.toList) = capsL s from capsL_eq s]
  exact same_res I _ hb
theorem summ178 {B : Nat} {h : AHeap} {g : G} {args : List AVal} {args' : Array Value} {v : AVal} (hv : sum178 args = some v) (I : Am.Inv B h g) (hG : GlobOk Cp B g) (ha : VsRel g.ι (fun _ => none) args args'.toList) : (callFunc 178 args').run Tryz.prog g.w = .ok (.enter 178 args') g.w ∧ Calls Tryz.prog 178 args' g.w (ResOk B h g h (.ret v)) := by
  unfold sum178 at hv
  split at hv
  case h_2 => cases hv
  rename_i s
  split at hv
  case isFalse => cases hv
  rename_i hs
  obtain ⟨l⟩ := args'
  cases ha with | cons h1 ha =>
  cases ha with | cons h2 ha =>
  cases ha with | cons h3 ha =>
  cases ha
  cases h1
  cases h2
  cases h3
  have hN : NameOk Cp := fun f fn hf => (namesOk_get names hf).1
  refine ⟨run_enter (C := Cp) hN (show Tryz.prog.funcs[178]? = some Tryz.f178 from rfl) rfl _ g.w, ?_⟩
  cases hp : parseIntB 64 s with
  | ok n =>
    rw [hp] at hv
    cases hv
    refine (Tryz.strconv_ParseInt_10_at64_ok ⟨s.toArray⟩ (by simp only [ByteArray.size, List.size_toArray]; omega) n hp g.w).mono ?_
    rintro e W' ⟨rfl, hb⟩
    refine same_resV I (.tup (.cons (.int _ _) (.cons .nilI .nil))) ?_
    rcases hb with rfl | ⟨t, rfl⟩
    · exact Below.refl _ _
    · exact bytesWorld_below _ _ _
  | range =>
    rw [hp] at hv
    cases hv
    obtain ⟨u, x, hx⟩ := cell8 hG
    refine (Tryz.strconv_ParseInt_10_at64_range ⟨s.toArray⟩ (by simpa [ByteArray.size] using hs) hp (.iface u x) g.w hx (.inr ⟨_, _, rfl⟩)).mono ?_
    rintro e W' ⟨N, rfl, _, _, hb⟩
    exact same_resV I (.tup (.cons (.int _ _) (.cons (.iface (.top _)) .nil))) hb
  | _ => rw [hp] at hv; cases hv
theorem summ83 {B : Nat} {h : AHeap} {g : G} {args : List AVal} {args' : Array Value} {v : AVal} (hv : sum83 args = some v) (I : Am.Inv B h g) (hG : GlobOk Cp B g) (ha : VsRel g.ι (fun _ => none) args args'.toList) : (callFunc 83 args').run Tryz.prog g.w = .ok (.enter 83 args') g.w ∧ Calls Tryz.prog 83 args' g.w (ResOk B h g h (.ret v)) := by
  have hN : NameOk Cp := fun f fn hf => (namesOk_get names hf).1
  refine ⟨run_enter (C := Cp) hN (show Tryz.prog.funcs[83]? = some Tryz.f83 from rfl) rfl _ g.w, ?_⟩
  unfold sum83 at hv
  obtain ⟨l⟩ := args'
  split at hv
  · cases hv
    cases ha with | cons h1 ha =>
    cases ha with | cons h2 ha =>
    cases ha
    cases h1
    cases h2
    refine (Tryz.strings_Join_none none 0 _ g.w).mono ?_
    rintro e W' ⟨rfl, rfl⟩
    exact same_res I [] (Below.refl _ _)
  · rename_i cs n c sep
    cases hx : strsOf cs with
    | none => rw [hx] at hv; cases hv
    | some xs =>
      rw [hx] at hv
      simp only [Option.bind_some] at hv
      split at hv
      case isFalse => cases hv
      rename_i hc
      obtain ⟨hc1, hc2, hc3⟩ := hc
      cases hv
      cases ha with | cons h1 ha =>
      cases ha with | cons h2 ha =>
      cases ha
      cases h2
      cases h1 with
      | @lst _ vs _ cap' _ a hr hi hs hn hcap =>
      have hvs := strsOf_rel hx hr
      cases xs with
      | nil =>
        simp only [List.length_nil] at hc1
        subst hc1
        refine (Tryz.strings_Join_none (some a) cap' _ g.w).mono ?_
        rintro e W' ⟨rfl, rfl⟩
        exact same_res I [] (Below.refl _ _)
      | cons x xs =>
        have hn0 : 0 < n := by rw [← hc1]; simp
        have hsp := hs hn0
        obtain ⟨bk, o, sp⟩ := a
        simp only at hsp hi
        subst hsp
        have hcell : ∀ (j : Nat) (y : List UInt8), (x :: xs)[j]? = some y → g.w.cell? ⟨bk, o + j, none⟩ = some (.string ⟨y.toArray⟩) := fun j y hy => I.imm _ _ _ (hi j _ (by rw [hvs, List.getElem?_map, hy]; rfl))
        have e1 : (((x :: xs).map fun s => (⟨s.toArray⟩ : ByteArray)).map (·.data.toList)) = x :: xs := by rw [List.map_map]; simp [Function.comp_def]
        have e2 : ((x :: xs).map fun s => (⟨s.toArray⟩ : ByteArray)).length = n := by rw [List.length_map, hc1]
        have J := Tryz.strings_Join bk o cap' ((x :: xs).map fun s => (⟨s.toArray⟩ : ByteArray)) ⟨sep.toArray⟩ g.w (fun j y hy => by
          rw [List.getElem?_map] at hy
          cases hz : (x :: xs)[j]? with
          | none => rw [hz] at hy; cases hy
          | some z => rw [hz] at hy; cases hy; exact hcell j z hz) (Am.lt_of_cell (hcell 0 x rfl)) (by rw [e2]; omega) (by rw [e2]; exact hn) (by rw [e1]; exact hc3)
        rw [e1, e2] at J
        refine J.mono ?_
        rintro e W' ⟨rfl, hb⟩
        exact same_res I _ hb
  · cases hv
theorem summ126 {B : Nat} {h : AHeap} {g : G} {args : List AVal} {args' : Array Value} {v : AVal} (hv : sum126 args = some v) (I : Am.Inv B h g) (hG : GlobOk Cp B g) (ha : VsRel g.ι (fun _ => none) args args'.toList) : (callFunc 126 args').run Tryz.prog g.w = .ok (.enter 126 args') g.w ∧ Calls Tryz.prog 126 args' g.w (ResOk B h g h (.ret v)) := by
  have hN : NameOk Cp := fun f fn hf => (namesOk_get names hf).1
  refine ⟨run_enter (C := Cp) hN (show Tryz.prog.funcs[126]? = some Tryz.f126 from rfl) rfl _ g.w, ?_⟩
  unfold sum126 at hv
  obtain ⟨l⟩ := args'
  split at hv
  case h_2 => cases hv
  split at hv
  case isFalse => cases hv
  rename_i n hc
  cases hv
  cases ha with | cons h1 ha =>
  cases ha with | cons h2 ha =>
  cases ha
  cases h1
  cases h2
  refine (Tryz.strconv_FormatInt_10 n hc.1 hc.2 g.w (tab4 hG)).mono ?_
  rintro e W' ⟨rfl, k, os, rfl⟩
  refine same_res I _ ⟨rfl, rfl, rfl, ?_, fun b hb => ?_⟩
  · simp [Go.Sort.grow, World.drewN]
  · simp only [Go.Sort.grow, World.drewN]
    rw [Array.getElem?_append_left hb]
theorem summ151 {B : Nat} {h : AHeap} {g : G} {args : List AVal} {args' : Array Value} {v : AVal} (hv : sum151 args = some v) (I : Am.Inv B h g) (hG : GlobOk Cp B g) (ha : VsRel g.ι (fun _ => none) args args'.toList) : (callFunc 151 args').run Tryz.prog g.w = .ok (.enter 151 args') g.w ∧ Calls Tryz.prog 151 args' g.w (ResOk B h g h (.ret v)) := by
  have hN : NameOk Cp := fun f fn hf => (namesOk_get names hf).1
  refine ⟨run_enter (C := Cp) hN (show Tryz.prog.funcs[151]? = some Tryz.f151 from rfl) rfl _ g.w, ?_⟩
  unfold sum151 at hv
  obtain ⟨l⟩ := args'
  split at hv
  case h_2 => cases hv
  split at hv
  case isFalse => cases hv
  rename_i s old new hc
  obtain ⟨hc1, hc2, hc3⟩ := hc
  cases hv
  cases ha with | cons h1 ha =>
  cases ha with | cons h2 ha =>
  cases ha with | cons h3 ha =>
  cases ha
  cases h1
  cases h2
  cases h3
  obtain ⟨m, hm⟩ := cell3 hG
  have ho : 1 ≤ (⟨old.toArray⟩ : ByteArray).size := by simpa [ByteArray.size] using hc2
  have hcnt := Lib.countB_mul_le ⟨old.toArray⟩ ho _ ⟨s.toArray⟩ (Nat.le_refl _)
  have hle : Lib.countB ⟨s.toArray⟩ ⟨old.toArray⟩ ≤ s.length := by
    have h1 : Lib.countB ⟨s.toArray⟩ ⟨old.toArray⟩ ≤ Lib.countB ⟨s.toArray⟩ ⟨old.toArray⟩ * (⟨old.toArray⟩ : ByteArray).size := Nat.le_mul_of_pos_right _ ho
    have h2 : (⟨s.toArray⟩ : ByteArray).size = s.length := by simp [ByteArray.size]
    omega
  have h4 := Nat.mul_le_mul_right new.length hle
  refine (Tryz.strings_ReplaceAll ⟨s.toArray⟩ ⟨old.toArray⟩ ⟨new.toArray⟩ m g.w (by simpa [ByteArray.size] using hc1) hm ho (by simp only [ByteArray.size, List.size_toArray]; omega)).mono ?_
  rintro e W' ⟨rfl, hb⟩
  exact same_res I _ hb
theorem summOk : SummOk Cp := by
  intro f s hf args v hv B h g args' I hG ha
  change summs f = some s at hf
  unfold summs at hf
  split at hf
  · rename_i e; subst e; cases hf; exact summ102 hv I hG ha
  · split at hf
    · rename_i e; subst e; cases hf; exact summ178 hv I hG ha
    · split at hf
      · rename_i e; subst e; cases hf; exact summ83 hv I hG ha
      · split at hf
        · rename_i e; subst e; cases hf; exact summ126 hv I hG ha
        · split at hf
          · rename_i e; subst e; cases hf; exact summ151 hv I hG ha
          · cases hf
end Go.Proofs.Q.Par

