/-
  DERIVED: THE SHELF's CONTRACTS AT THIS DUMP, IN PLAIN WORDS (tools/lay-plain.mjs out of 'Try19mShelf.lean', which tools/lay-shelf.mjs wrote): THE SAME DECLARATIONS UNDER THE SAME NAMES: 'import', 'namespace', 'open', 'def', 'theorem' AND NOTHING ELSE: no command of the shelf's: FOR A HAND-IN. Each laying: the table of numbers ('.._ren') and one theorem, a field a fact of the dump's own or the kernel's comparison; each contract: ONE APPLICATION.
-/
import Derived.Shelf.Strings.MapAny
import Derived.Test.YtijnepmlnfcpnabGreatDoorProg
set_option linter.unusedVariables false
set_option linter.unusedSimpArgs false
namespace Go.Proofs
open Go.Shelf
def Tryz.lays230_ren : Go.Shelf.Ren := ⟨fun | 230 => 106 | 197 => 147 | 118 => 148 | 165 => 149 | 166 => 150 | 168 => 151 | 270 => 152 | 167 => 109 | 169 => 108 | 260 => 184 | 240 => 153 | 241 => 185 | 242 => 186 | 276 => 187 | 277 => 200 | 278 => 201 | n => n, fun | 107 => 171 | 9 => 9 | 72 => 175 | 0 => 0 | 4 => 4 | 3 => 3 | 21 => 21 | 105 => 207 | 76 => 211 | 5 => 5 | 75 => 178 | 70 => 172 | 20 => 20 | 37 => 173 | 127 => 215 | 119 => 252 | 46 => 104 | 139 => 255 | 138 => 254 | 164 => 241 | 51 => 162 | 80 => 176 | n => n, fun | 3 => 2 | 4 => 3 | n => n⟩
theorem Tryz.lays230 : Go.Proofs.Lays.n230 Tryz.prog Tryz.lays230_ren := {
  mixed := by kernel_rfl
  f118 := Tryz.func148.trans (congrArg some (by kernel_rfl))
  f165 := Tryz.func149.trans (congrArg some (by kernel_rfl))
  f166 := Tryz.func150.trans (congrArg some (by kernel_rfl))
  f167 := Tryz.func109.trans (congrArg some (by kernel_rfl))
  f168 := Tryz.func151.trans (congrArg some (by kernel_rfl))
  f169 := Tryz.func108.trans (congrArg some (by kernel_rfl))
  f197 := Tryz.func147.trans (congrArg some (by kernel_rfl))
  f230 := Tryz.func106.trans (congrArg some (by kernel_rfl))
  f240 := Tryz.func153.trans (congrArg some (by kernel_rfl))
  f241 := Tryz.func185.trans (congrArg some (by kernel_rfl))
  f242 := Tryz.func186.trans (congrArg some (by kernel_rfl))
  f260 := Tryz.func184.trans (congrArg some (by kernel_rfl))
  f270 := Tryz.func152.trans (congrArg some (by kernel_rfl))
  f276 := Tryz.func187.trans (congrArg some (by kernel_rfl))
  f277 := Tryz.func200.trans (congrArg some (by kernel_rfl))
  f278 := Tryz.func201.trans (congrArg some (by kernel_rfl))
  t0 := Tryz.underlying0
  a0 := Tryz.isAgg0
  z0 := Tryz.sizeOf0
  v0 := Tryz.zeroValue0
  t3 := Tryz.underlying3
  a3 := Tryz.isAgg3
  z3 := Tryz.sizeOf3
  v3 := Tryz.zeroValue3
  t4 := Tryz.underlying4
  a4 := Tryz.isAgg4
  z4 := Tryz.sizeOf4
  v4 := Tryz.zeroValue4
  t5 := Tryz.underlying5
  a5 := Tryz.isAgg5
  z5 := Tryz.sizeOf5
  v5 := Tryz.zeroValue5
  t9 := Tryz.underlying9
  a9 := Tryz.isAgg9
  z9 := Tryz.sizeOf9
  v9 := Tryz.zeroValue9
  t20 := Tryz.underlying20
  a20 := Tryz.isAgg20
  z20 := Tryz.sizeOf20
  v20 := Tryz.zeroValue20
  t21 := Tryz.underlying21
  a21 := Tryz.isAgg21
  z21 := Tryz.sizeOf21
  v21 := Tryz.zeroValue21
  t37 := Tryz.underlying173
  a37 := Tryz.isAgg173
  z37 := Tryz.sizeOf173
  v37 := Tryz.zeroValue173
  t46 := Tryz.underlying104
  a46 := Tryz.isAgg104
  z46 := Tryz.sizeOf104
  v46 := Tryz.zeroValue104
  t51 := Tryz.underlying162
  a51 := Tryz.isAgg162
  z51 := Tryz.sizeOf162
  v51 := Tryz.zeroValue162
  t70 := Tryz.underlying172
  a70 := Tryz.isAgg172
  z70 := Tryz.sizeOf172
  v70 := Tryz.zeroValue172
  t72 := Tryz.underlying175
  a72 := Tryz.isAgg175
  z72 := Tryz.sizeOf175
  v72 := Tryz.zeroValue175
  t75 := Tryz.underlying178
  a75 := Tryz.isAgg178
  z75 := Tryz.sizeOf178
  v75 := Tryz.zeroValue178
  t76 := Tryz.underlying211
  a76 := Tryz.isAgg211
  z76 := Tryz.sizeOf211
  v76 := Tryz.zeroValue211
  t105 := Tryz.underlying207
  a105 := Tryz.isAgg207
  z105 := Tryz.sizeOf207
  v105 := Tryz.zeroValue207
  t107 := Tryz.underlying171
  a107 := Tryz.isAgg171
  z107 := Tryz.sizeOf171
  v107 := Tryz.zeroValue171
  t119 := Tryz.underlying252
  a119 := Tryz.isAgg252
  z119 := Tryz.sizeOf252
  t127 := Tryz.underlying215
  a127 := Tryz.isAgg215
  z127 := Tryz.sizeOf215
  v127 := Tryz.zeroValue215
  t138 := Tryz.underlying254
  a138 := Tryz.isAgg254
  z138 := Tryz.sizeOf254
  v138 := Tryz.zeroValue254
  t139 := Tryz.underlying255
  a139 := Tryz.isAgg255
  z139 := Tryz.sizeOf255
  v139 := Tryz.zeroValue255
  t164 := Tryz.underlying241
  a164 := Tryz.isAgg241
  z164 := Tryz.sizeOf241
  v164 := Tryz.zeroValue241
  g3 := by kernel_rfl
  g4 := by kernel_rfl }
theorem Tryz.Builder_Extra_230 : Builder.Extra Tryz.prog Tryz.lays230_ren := {
  sizeBuilder := by kernel_rfl
  liesBuilder := by kernel_rfl
  t5 := Tryz.underlying5
  a5 := Tryz.isAgg5
  z5 := Tryz.sizeOf5
  v5 := Tryz.zeroValue5
  infoByte := by kernel_rfl
  cellsByte := by kernel_rfl
  sizeByte := by kernel_rfl
  neB5 := by decide }
open Go.RowKit Go.Lib in
theorem Tryz.strings_Map_runes (g : Nat) (lb : Array Value) (eg : ∀ args w, (callFunc g args).run Tryz.prog w = .ok (.enter g args) w) (f : Int → Int) (s : ByteArray) (w : World) (hs : s.size < 35184372088832) (hf : MapAtRunes Tryz.prog g lb f w) (hnn : ∀ x : Nat, x ≤ 1114111 → 0 ≤ f x ∧ f x ≤ 2147483647) (hT : Lib.Utf8Tabs 2 3 w) :
    Calls Tryz.prog 106 #[.func (.func g) #[] lb, .string s] w fun e w' => e = .returned (.string ⟨(Lib.mapD f s.data.toList).toArray⟩) ∧ Below w.heap.size w w' := Any.strings_Map_runes Tryz.lays230 Tryz.Builder_Extra_230 g lb eg f s w hs hf hnn hT
end Go.Proofs
