/-
  Facts on the types of the program (printed by a small program of ours, wip/tools/gen_ty.py).
-/
import Derived.Test.YtgjjmngcmbpjjaaCacheOrder
import Derived.KernelRfl
set_option linter.unusedVariables false
set_option linter.unusedSimpArgs false
set_option maxRecDepth 100000
namespace Go.Am.Cache
open Go Go.Am Go.Proofs
namespace Ty
theorem ld2 (h : AHeap) (p : AVal) : aload Try.prog h 2 p = loadA h false 1 p := by kernel_rfl
theorem st2 (h : AHeap) (p v : AVal) : astore Try.prog h 2 p v = storeA h 1 p v := by kernel_rfl
theorem ze2 : zeroA Try.prog 2 = some (.int .i64 0) := by kernel_rfl
theorem ld3 (h : AHeap) (p : AVal) : aload Try.prog h 3 p = loadA h false 1 p := by kernel_rfl
theorem st3 (h : AHeap) (p v : AVal) : astore Try.prog h 3 p v = storeA h 1 p v := by kernel_rfl
theorem ze3 : zeroA Try.prog 3 = some (.int .i64 0) := by kernel_rfl
theorem ld4 (h : AHeap) (p : AVal) : aload Try.prog h 4 p = loadA h false 1 p := by kernel_rfl
theorem st4 (h : AHeap) (p v : AVal) : astore Try.prog h 4 p v = storeA h 1 p v := by kernel_rfl
theorem ze4 : zeroA Try.prog 4 = some (.bool false) := by kernel_rfl
theorem ld5 (h : AHeap) (p : AVal) : aload Try.prog h 5 p = loadA h false 1 p := by kernel_rfl
theorem st5 (h : AHeap) (p v : AVal) : astore Try.prog h 5 p v = storeA h 1 p v := by kernel_rfl
theorem ze5 : zeroA Try.prog 5 = some (.int .u8 0) := by kernel_rfl
theorem ld9 (h : AHeap) (p : AVal) : aload Try.prog h 9 p = loadA h false 1 p := by kernel_rfl
theorem st9 (h : AHeap) (p v : AVal) : astore Try.prog h 9 p v = storeA h 1 p v := by kernel_rfl
theorem ze9 : zeroA Try.prog 9 = some (.str []) := by kernel_rfl
theorem le9 (h : AHeap) (s : List UInt8) : alen Try.prog h 9 (.str s) = some (.int .i64 s.length) := by kernel_rfl
theorem sl9 (h : AHeap) (s : List UInt8) (lo hi mx : Option AVal) : aslice Try.prog h 9 (.str s) lo hi mx = sliceA 1 (.str s) lo hi mx := by kernel_rfl
theorem ld22 (h : AHeap) (p : AVal) : aload Try.prog h 22 p = loadA h false 1 p := by kernel_rfl
theorem st22 (h : AHeap) (p v : AVal) : astore Try.prog h 22 p v = storeA h 1 p v := by kernel_rfl
theorem ze22 : zeroA Try.prog 22 = some (.nilSl) := by kernel_rfl
theorem ix22 (x : AVal) (k : IntKind) (i : Int) : aindexAddr Try.prog 22 x (.int k i) = indexAddrA 1 x i := by kernel_rfl
theorem le22 (h : AHeap) (c : List AVal) (n : Nat) (cap : Cap) : alen Try.prog h 22 (.lst c n cap) = some (.int .i64 n) := by kernel_rfl
theorem lo22 (h : AHeap) (a b e n c : Nat) (o : Bool) : alen Try.prog h 22 (.sl a b e n c o) = some (.int .i64 n) := by kernel_rfl
theorem ln22 (h : AHeap) : alen Try.prog h 22 .nilSl = some (.int .i64 0) := by kernel_rfl
theorem sl22 (h : AHeap) (c : List AVal) (n : Nat) (cap : Cap) (lo hi mx : Option AVal) : aslice Try.prog h 22 (.lst c n cap) lo hi mx = sliceA 1 (.lst c n cap) lo hi mx := by kernel_rfl
theorem so22 (h : AHeap) (a b e n c : Nat) (o : Bool) (lo hi mx : Option AVal) : aslice Try.prog h 22 (.sl a b e n c o) lo hi mx = sliceA 1 (.sl a b e n c o) lo hi mx := by kernel_rfl
theorem sn22 (h : AHeap) (lo hi mx : Option AVal) : aslice Try.prog h 22 .nilSl lo hi mx = sliceA 1 .nilSl lo hi mx := by kernel_rfl
theorem ap22 (own : Bool) (h : AHeap) (s x : AVal) : aappend Try.prog own h [22, 22] [s, x] = appendA own h 1 1 s x := by kernel_rfl
theorem bs22 : abuildSlice Try.prog 22 0 [] = some ([], 1) := by kernel_rfl
theorem eq22_0 (h : AHeap) (xo yo : Operand) (c : List AVal) (n : Nat) (cap : Cap) : abin Cf .eql 22 xo yo h (.lst c n cap) .nilSl = some (.bool false) := by kernel_rfl
theorem eq22_1 (h : AHeap) (xo yo : Operand) (a b e n c : Nat) (q : Bool) : abin Cf .eql 22 xo yo h (.sl a b e n c q) .nilSl = some (.bool false) := by kernel_rfl
theorem eq22_n (h : AHeap) (xo : Operand) : abin Cf .eql 22 xo (.const (.slice none 0 0)) h .nilSl .nilSl = some (.bool true) := by kernel_rfl
theorem ne22_0 (h : AHeap) (xo yo : Operand) (c : List AVal) (n : Nat) (cap : Cap) : abin Cf .neq 22 xo yo h (.lst c n cap) .nilSl = some (.bool true) := by kernel_rfl
theorem ne22_1 (h : AHeap) (xo yo : Operand) (a b e n c : Nat) (q : Bool) : abin Cf .neq 22 xo yo h (.sl a b e n c q) .nilSl = some (.bool true) := by kernel_rfl
theorem ne22_n (h : AHeap) (xo : Operand) : abin Cf .neq 22 xo (.const (.slice none 0 0)) h .nilSl .nilSl = some (.bool false) := by kernel_rfl
theorem ld23 (h : AHeap) (p : AVal) : aload Try.prog h 23 p = loadA h false 1 p := by kernel_rfl
theorem st23 (h : AHeap) (p v : AVal) : astore Try.prog h 23 p v = storeA h 1 p v := by kernel_rfl
theorem ze23 : zeroA Try.prog 23 = some (.nilSl) := by kernel_rfl
theorem ix23 (x : AVal) (k : IntKind) (i : Int) : aindexAddr Try.prog 23 x (.int k i) = indexAddrA 1 x i := by kernel_rfl
theorem le23 (h : AHeap) (c : List AVal) (n : Nat) (cap : Cap) : alen Try.prog h 23 (.lst c n cap) = some (.int .i64 n) := by kernel_rfl
theorem lo23 (h : AHeap) (a b e n c : Nat) (o : Bool) : alen Try.prog h 23 (.sl a b e n c o) = some (.int .i64 n) := by kernel_rfl
theorem ln23 (h : AHeap) : alen Try.prog h 23 .nilSl = some (.int .i64 0) := by kernel_rfl
theorem sl23 (h : AHeap) (c : List AVal) (n : Nat) (cap : Cap) (lo hi mx : Option AVal) : aslice Try.prog h 23 (.lst c n cap) lo hi mx = sliceA 1 (.lst c n cap) lo hi mx := by kernel_rfl
theorem so23 (h : AHeap) (a b e n c : Nat) (o : Bool) (lo hi mx : Option AVal) : aslice Try.prog h 23 (.sl a b e n c o) lo hi mx = sliceA 1 (.sl a b e n c o) lo hi mx := by kernel_rfl
theorem sn23 (h : AHeap) (lo hi mx : Option AVal) : aslice Try.prog h 23 .nilSl lo hi mx = sliceA 1 .nilSl lo hi mx := by kernel_rfl
theorem ap23 (own : Bool) (h : AHeap) (s x : AVal) : aappend Try.prog own h [23, 23] [s, x] = appendA own h 1 1 s x := by kernel_rfl
theorem bs23 : abuildSlice Try.prog 23 0 [] = some ([], 1) := by kernel_rfl
theorem eq23_0 (h : AHeap) (xo yo : Operand) (c : List AVal) (n : Nat) (cap : Cap) : abin Cf .eql 23 xo yo h (.lst c n cap) .nilSl = some (.bool false) := by kernel_rfl
theorem eq23_1 (h : AHeap) (xo yo : Operand) (a b e n c : Nat) (q : Bool) : abin Cf .eql 23 xo yo h (.sl a b e n c q) .nilSl = some (.bool false) := by kernel_rfl
theorem eq23_n (h : AHeap) (xo : Operand) : abin Cf .eql 23 xo (.const (.slice none 0 0)) h .nilSl .nilSl = some (.bool true) := by kernel_rfl
theorem ne23_0 (h : AHeap) (xo yo : Operand) (c : List AVal) (n : Nat) (cap : Cap) : abin Cf .neq 23 xo yo h (.lst c n cap) .nilSl = some (.bool true) := by kernel_rfl
theorem ne23_1 (h : AHeap) (xo yo : Operand) (a b e n c : Nat) (q : Bool) : abin Cf .neq 23 xo yo h (.sl a b e n c q) .nilSl = some (.bool true) := by kernel_rfl
theorem ne23_n (h : AHeap) (xo : Operand) : abin Cf .neq 23 xo (.const (.slice none 0 0)) h .nilSl .nilSl = some (.bool false) := by kernel_rfl
theorem ld26 (h : AHeap) (p : AVal) : aload Try.prog h 26 p = loadA h false 1 p := by kernel_rfl
theorem st26 (h : AHeap) (p v : AVal) : astore Try.prog h 26 p v = storeA h 1 p v := by kernel_rfl
theorem ze26 : zeroA Try.prog 26 = some (.nilPtr) := by kernel_rfl
theorem eq26_0 (h : AHeap) (xo yo : Operand) (i o : Nat) : abin Cf .eql 26 xo yo h (.ptr i o) .nilPtr = some (.bool false) := by kernel_rfl
theorem eq26_1 (h : AHeap) (xo yo : Operand) (c : List AVal) : abin Cf .eql 26 xo yo h (.iptr c) .nilPtr = some (.bool false) := by kernel_rfl
theorem eq26_n (h : AHeap) (xo : Operand) : abin Cf .eql 26 xo (.const (.pointer none)) h .nilPtr .nilPtr = some (.bool true) := by kernel_rfl
theorem ne26_0 (h : AHeap) (xo yo : Operand) (i o : Nat) : abin Cf .neq 26 xo yo h (.ptr i o) .nilPtr = some (.bool true) := by kernel_rfl
theorem ne26_1 (h : AHeap) (xo yo : Operand) (c : List AVal) : abin Cf .neq 26 xo yo h (.iptr c) .nilPtr = some (.bool true) := by kernel_rfl
theorem ne26_n (h : AHeap) (xo : Operand) : abin Cf .neq 26 xo (.const (.pointer none)) h .nilPtr .nilPtr = some (.bool false) := by kernel_rfl
theorem ld28 (h : AHeap) (p : AVal) : aload Try.prog h 28 p = loadA h false 1 p := by kernel_rfl
theorem st28 (h : AHeap) (p v : AVal) : astore Try.prog h 28 p v = storeA h 1 p v := by kernel_rfl
theorem ze28 : zeroA Try.prog 28 = some (.nilSl) := by kernel_rfl
theorem ix28 (x : AVal) (k : IntKind) (i : Int) : aindexAddr Try.prog 28 x (.int k i) = indexAddrA 1 x i := by kernel_rfl
theorem le28 (h : AHeap) (c : List AVal) (n : Nat) (cap : Cap) : alen Try.prog h 28 (.lst c n cap) = some (.int .i64 n) := by kernel_rfl
theorem lo28 (h : AHeap) (a b e n c : Nat) (o : Bool) : alen Try.prog h 28 (.sl a b e n c o) = some (.int .i64 n) := by kernel_rfl
theorem ln28 (h : AHeap) : alen Try.prog h 28 .nilSl = some (.int .i64 0) := by kernel_rfl
theorem sl28 (h : AHeap) (c : List AVal) (n : Nat) (cap : Cap) (lo hi mx : Option AVal) : aslice Try.prog h 28 (.lst c n cap) lo hi mx = sliceA 1 (.lst c n cap) lo hi mx := by kernel_rfl
theorem so28 (h : AHeap) (a b e n c : Nat) (o : Bool) (lo hi mx : Option AVal) : aslice Try.prog h 28 (.sl a b e n c o) lo hi mx = sliceA 1 (.sl a b e n c o) lo hi mx := by kernel_rfl
theorem sn28 (h : AHeap) (lo hi mx : Option AVal) : aslice Try.prog h 28 .nilSl lo hi mx = sliceA 1 .nilSl lo hi mx := by kernel_rfl
theorem ap28 (own : Bool) (h : AHeap) (s x : AVal) : aappend Try.prog own h [28, 28] [s, x] = appendA own h 1 16 s x := by kernel_rfl
theorem bs28 : abuildSlice Try.prog 28 0 [] = some ([], 1) := by kernel_rfl
theorem eq28_0 (h : AHeap) (xo yo : Operand) (c : List AVal) (n : Nat) (cap : Cap) : abin Cf .eql 28 xo yo h (.lst c n cap) .nilSl = some (.bool false) := by kernel_rfl
theorem eq28_1 (h : AHeap) (xo yo : Operand) (a b e n c : Nat) (q : Bool) : abin Cf .eql 28 xo yo h (.sl a b e n c q) .nilSl = some (.bool false) := by kernel_rfl
theorem eq28_n (h : AHeap) (xo : Operand) : abin Cf .eql 28 xo (.const (.slice none 0 0)) h .nilSl .nilSl = some (.bool true) := by kernel_rfl
theorem ne28_0 (h : AHeap) (xo yo : Operand) (c : List AVal) (n : Nat) (cap : Cap) : abin Cf .neq 28 xo yo h (.lst c n cap) .nilSl = some (.bool true) := by kernel_rfl
theorem ne28_1 (h : AHeap) (xo yo : Operand) (a b e n c : Nat) (q : Bool) : abin Cf .neq 28 xo yo h (.sl a b e n c q) .nilSl = some (.bool true) := by kernel_rfl
theorem ne28_n (h : AHeap) (xo : Operand) : abin Cf .neq 28 xo (.const (.slice none 0 0)) h .nilSl .nilSl = some (.bool false) := by kernel_rfl
theorem ld29 (h : AHeap) (p : AVal) : aload Try.prog h 29 p = loadA h false 1 p := by kernel_rfl
theorem st29 (h : AHeap) (p v : AVal) : astore Try.prog h 29 p v = storeA h 1 p v := by kernel_rfl
theorem ze29 : zeroA Try.prog 29 = some (.nilSl) := by kernel_rfl
theorem ix29 (x : AVal) (k : IntKind) (i : Int) : aindexAddr Try.prog 29 x (.int k i) = indexAddrA 1 x i := by kernel_rfl
theorem le29 (h : AHeap) (c : List AVal) (n : Nat) (cap : Cap) : alen Try.prog h 29 (.lst c n cap) = some (.int .i64 n) := by kernel_rfl
theorem lo29 (h : AHeap) (a b e n c : Nat) (o : Bool) : alen Try.prog h 29 (.sl a b e n c o) = some (.int .i64 n) := by kernel_rfl
theorem ln29 (h : AHeap) : alen Try.prog h 29 .nilSl = some (.int .i64 0) := by kernel_rfl
theorem sl29 (h : AHeap) (c : List AVal) (n : Nat) (cap : Cap) (lo hi mx : Option AVal) : aslice Try.prog h 29 (.lst c n cap) lo hi mx = sliceA 1 (.lst c n cap) lo hi mx := by kernel_rfl
theorem so29 (h : AHeap) (a b e n c : Nat) (o : Bool) (lo hi mx : Option AVal) : aslice Try.prog h 29 (.sl a b e n c o) lo hi mx = sliceA 1 (.sl a b e n c o) lo hi mx := by kernel_rfl
theorem sn29 (h : AHeap) (lo hi mx : Option AVal) : aslice Try.prog h 29 .nilSl lo hi mx = sliceA 1 .nilSl lo hi mx := by kernel_rfl
theorem ap29 (own : Bool) (h : AHeap) (s x : AVal) : aappend Try.prog own h [29, 29] [s, x] = appendA own h 1 24 s x := by kernel_rfl
theorem bs29 : abuildSlice Try.prog 29 0 [] = some ([], 1) := by kernel_rfl
theorem eq29_0 (h : AHeap) (xo yo : Operand) (c : List AVal) (n : Nat) (cap : Cap) : abin Cf .eql 29 xo yo h (.lst c n cap) .nilSl = some (.bool false) := by kernel_rfl
theorem eq29_1 (h : AHeap) (xo yo : Operand) (a b e n c : Nat) (q : Bool) : abin Cf .eql 29 xo yo h (.sl a b e n c q) .nilSl = some (.bool false) := by kernel_rfl
theorem eq29_n (h : AHeap) (xo : Operand) : abin Cf .eql 29 xo (.const (.slice none 0 0)) h .nilSl .nilSl = some (.bool true) := by kernel_rfl
theorem ne29_0 (h : AHeap) (xo yo : Operand) (c : List AVal) (n : Nat) (cap : Cap) : abin Cf .neq 29 xo yo h (.lst c n cap) .nilSl = some (.bool true) := by kernel_rfl
theorem ne29_1 (h : AHeap) (xo yo : Operand) (a b e n c : Nat) (q : Bool) : abin Cf .neq 29 xo yo h (.sl a b e n c q) .nilSl = some (.bool true) := by kernel_rfl
theorem ne29_n (h : AHeap) (xo : Operand) : abin Cf .neq 29 xo (.const (.slice none 0 0)) h .nilSl .nilSl = some (.bool false) := by kernel_rfl
theorem ld31 (h : AHeap) (p : AVal) : aload Try.prog h 31 p = loadA h true 2 p := by kernel_rfl
theorem st31 (h : AHeap) (p v : AVal) : astore Try.prog h 31 p v = storeA h 2 p v := by kernel_rfl
theorem ze31 : zeroA Try.prog 31 = some (.agg [.nilSl, .nilSl]) := by kernel_rfl
theorem bu31 : abuild Try.prog 31 [] = some (.agg [.nilSl, .nilSl]) := by kernel_rfl
theorem fa31_0 (p : AVal) : afieldAddr Try.prog 31 p 0 = dropCells 0 p := by kernel_rfl
theorem fi31_0 (cs : List AVal) : afield Try.prog 31 (.agg cs) 0 = if 0 ≤ cs.length then ofCells false 1 (cs.drop 0) else none := by kernel_rfl
theorem fa31_1 (p : AVal) : afieldAddr Try.prog 31 p 1 = dropCells 1 p := by kernel_rfl
theorem fi31_1 (cs : List AVal) : afield Try.prog 31 (.agg cs) 1 = if 1 ≤ cs.length then ofCells false 1 (cs.drop 1) else none := by kernel_rfl
theorem ld32 (h : AHeap) (p : AVal) : aload Try.prog h 32 p = loadA h false 1 p := by kernel_rfl
theorem st32 (h : AHeap) (p v : AVal) : astore Try.prog h 32 p v = storeA h 1 p v := by kernel_rfl
theorem ze32 : zeroA Try.prog 32 = some (.int .i64 0) := by kernel_rfl
theorem ld38 (h : AHeap) (p : AVal) : aload Try.prog h 38 p = loadA h false 1 p := by kernel_rfl
theorem st38 (h : AHeap) (p v : AVal) : astore Try.prog h 38 p v = storeA h 1 p v := by kernel_rfl
theorem ze38 : zeroA Try.prog 38 = some (.nilSl) := by kernel_rfl
theorem ix38 (x : AVal) (k : IntKind) (i : Int) : aindexAddr Try.prog 38 x (.int k i) = indexAddrA 7 x i := by kernel_rfl
theorem le38 (h : AHeap) (c : List AVal) (n : Nat) (cap : Cap) : alen Try.prog h 38 (.lst c n cap) = some (.int .i64 n) := by kernel_rfl
theorem lo38 (h : AHeap) (a b e n c : Nat) (o : Bool) : alen Try.prog h 38 (.sl a b e n c o) = some (.int .i64 n) := by kernel_rfl
theorem ln38 (h : AHeap) : alen Try.prog h 38 .nilSl = some (.int .i64 0) := by kernel_rfl
theorem sl38 (h : AHeap) (c : List AVal) (n : Nat) (cap : Cap) (lo hi mx : Option AVal) : aslice Try.prog h 38 (.lst c n cap) lo hi mx = sliceA 7 (.lst c n cap) lo hi mx := by kernel_rfl
theorem so38 (h : AHeap) (a b e n c : Nat) (o : Bool) (lo hi mx : Option AVal) : aslice Try.prog h 38 (.sl a b e n c o) lo hi mx = sliceA 7 (.sl a b e n c o) lo hi mx := by kernel_rfl
theorem sn38 (h : AHeap) (lo hi mx : Option AVal) : aslice Try.prog h 38 .nilSl lo hi mx = sliceA 7 .nilSl lo hi mx := by kernel_rfl
theorem ap38 (own : Bool) (h : AHeap) (s x : AVal) : aappend Try.prog own h [38, 38] [s, x] = appendA own h 7 96 s x := by kernel_rfl
theorem bs38 : abuildSlice Try.prog 38 0 [] = some ([], 7) := by kernel_rfl
theorem eq38_0 (h : AHeap) (xo yo : Operand) (c : List AVal) (n : Nat) (cap : Cap) : abin Cf .eql 38 xo yo h (.lst c n cap) .nilSl = some (.bool false) := by kernel_rfl
theorem eq38_1 (h : AHeap) (xo yo : Operand) (a b e n c : Nat) (q : Bool) : abin Cf .eql 38 xo yo h (.sl a b e n c q) .nilSl = some (.bool false) := by kernel_rfl
theorem eq38_n (h : AHeap) (xo : Operand) : abin Cf .eql 38 xo (.const (.slice none 0 0)) h .nilSl .nilSl = some (.bool true) := by kernel_rfl
theorem ne38_0 (h : AHeap) (xo yo : Operand) (c : List AVal) (n : Nat) (cap : Cap) : abin Cf .neq 38 xo yo h (.lst c n cap) .nilSl = some (.bool true) := by kernel_rfl
theorem ne38_1 (h : AHeap) (xo yo : Operand) (a b e n c : Nat) (q : Bool) : abin Cf .neq 38 xo yo h (.sl a b e n c q) .nilSl = some (.bool true) := by kernel_rfl
theorem ne38_n (h : AHeap) (xo : Operand) : abin Cf .neq 38 xo (.const (.slice none 0 0)) h .nilSl .nilSl = some (.bool false) := by kernel_rfl
theorem ld39 (h : AHeap) (p : AVal) : aload Try.prog h 39 p = loadA h false 1 p := by kernel_rfl
theorem st39 (h : AHeap) (p v : AVal) : astore Try.prog h 39 p v = storeA h 1 p v := by kernel_rfl
theorem ze39 : zeroA Try.prog 39 = some (.nilPtr) := by kernel_rfl
theorem eq39_0 (h : AHeap) (xo yo : Operand) (i o : Nat) : abin Cf .eql 39 xo yo h (.ptr i o) .nilPtr = some (.bool false) := by kernel_rfl
theorem eq39_1 (h : AHeap) (xo yo : Operand) (c : List AVal) : abin Cf .eql 39 xo yo h (.iptr c) .nilPtr = some (.bool false) := by kernel_rfl
theorem eq39_n (h : AHeap) (xo : Operand) : abin Cf .eql 39 xo (.const (.pointer none)) h .nilPtr .nilPtr = some (.bool true) := by kernel_rfl
theorem ne39_0 (h : AHeap) (xo yo : Operand) (i o : Nat) : abin Cf .neq 39 xo yo h (.ptr i o) .nilPtr = some (.bool true) := by kernel_rfl
theorem ne39_1 (h : AHeap) (xo yo : Operand) (c : List AVal) : abin Cf .neq 39 xo yo h (.iptr c) .nilPtr = some (.bool true) := by kernel_rfl
theorem ne39_n (h : AHeap) (xo : Operand) : abin Cf .neq 39 xo (.const (.pointer none)) h .nilPtr .nilPtr = some (.bool false) := by kernel_rfl
theorem ld40 (h : AHeap) (p : AVal) : aload Try.prog h 40 p = loadA h false 1 p := by kernel_rfl
theorem st40 (h : AHeap) (p v : AVal) : astore Try.prog h 40 p v = storeA h 1 p v := by kernel_rfl
theorem ze40 : zeroA Try.prog 40 = some (.nilSl) := by kernel_rfl
theorem ix40 (x : AVal) (k : IntKind) (i : Int) : aindexAddr Try.prog 40 x (.int k i) = indexAddrA 5 x i := by kernel_rfl
theorem le40 (h : AHeap) (c : List AVal) (n : Nat) (cap : Cap) : alen Try.prog h 40 (.lst c n cap) = some (.int .i64 n) := by kernel_rfl
theorem lo40 (h : AHeap) (a b e n c : Nat) (o : Bool) : alen Try.prog h 40 (.sl a b e n c o) = some (.int .i64 n) := by kernel_rfl
theorem ln40 (h : AHeap) : alen Try.prog h 40 .nilSl = some (.int .i64 0) := by kernel_rfl
theorem sl40 (h : AHeap) (c : List AVal) (n : Nat) (cap : Cap) (lo hi mx : Option AVal) : aslice Try.prog h 40 (.lst c n cap) lo hi mx = sliceA 5 (.lst c n cap) lo hi mx := by kernel_rfl
theorem so40 (h : AHeap) (a b e n c : Nat) (o : Bool) (lo hi mx : Option AVal) : aslice Try.prog h 40 (.sl a b e n c o) lo hi mx = sliceA 5 (.sl a b e n c o) lo hi mx := by kernel_rfl
theorem sn40 (h : AHeap) (lo hi mx : Option AVal) : aslice Try.prog h 40 .nilSl lo hi mx = sliceA 5 .nilSl lo hi mx := by kernel_rfl
theorem ap40 (own : Bool) (h : AHeap) (s x : AVal) : aappend Try.prog own h [40, 40] [s, x] = appendA own h 5 80 s x := by kernel_rfl
theorem bs40 : abuildSlice Try.prog 40 0 [] = some ([], 5) := by kernel_rfl
theorem eq40_0 (h : AHeap) (xo yo : Operand) (c : List AVal) (n : Nat) (cap : Cap) : abin Cf .eql 40 xo yo h (.lst c n cap) .nilSl = some (.bool false) := by kernel_rfl
theorem eq40_1 (h : AHeap) (xo yo : Operand) (a b e n c : Nat) (q : Bool) : abin Cf .eql 40 xo yo h (.sl a b e n c q) .nilSl = some (.bool false) := by kernel_rfl
theorem eq40_n (h : AHeap) (xo : Operand) : abin Cf .eql 40 xo (.const (.slice none 0 0)) h .nilSl .nilSl = some (.bool true) := by kernel_rfl
theorem ne40_0 (h : AHeap) (xo yo : Operand) (c : List AVal) (n : Nat) (cap : Cap) : abin Cf .neq 40 xo yo h (.lst c n cap) .nilSl = some (.bool true) := by kernel_rfl
theorem ne40_1 (h : AHeap) (xo yo : Operand) (a b e n c : Nat) (q : Bool) : abin Cf .neq 40 xo yo h (.sl a b e n c q) .nilSl = some (.bool true) := by kernel_rfl
theorem ne40_n (h : AHeap) (xo : Operand) : abin Cf .neq 40 xo (.const (.slice none 0 0)) h .nilSl .nilSl = some (.bool false) := by kernel_rfl
theorem ld42 (h : AHeap) (p : AVal) : aload Try.prog h 42 p = loadA h true 4 p := by kernel_rfl
theorem st42 (h : AHeap) (p v : AVal) : astore Try.prog h 42 p v = storeA h 4 p v := by kernel_rfl
theorem ze42 : zeroA Try.prog 42 = some (.agg [.int .i64 0, .int .i64 0, .int .i64 0, .nilSl]) := by kernel_rfl
theorem bu42 : abuild Try.prog 42 [] = some (.agg [.int .i64 0, .int .i64 0, .int .i64 0, .nilSl]) := by kernel_rfl
theorem fa42_0 (p : AVal) : afieldAddr Try.prog 42 p 0 = dropCells 0 p := by kernel_rfl
theorem fi42_0 (cs : List AVal) : afield Try.prog 42 (.agg cs) 0 = if 0 ≤ cs.length then ofCells false 1 (cs.drop 0) else none := by kernel_rfl
theorem fa42_1 (p : AVal) : afieldAddr Try.prog 42 p 1 = dropCells 1 p := by kernel_rfl
theorem fi42_1 (cs : List AVal) : afield Try.prog 42 (.agg cs) 1 = if 1 ≤ cs.length then ofCells false 1 (cs.drop 1) else none := by kernel_rfl
theorem fa42_2 (p : AVal) : afieldAddr Try.prog 42 p 2 = dropCells 2 p := by kernel_rfl
theorem fi42_2 (cs : List AVal) : afield Try.prog 42 (.agg cs) 2 = if 2 ≤ cs.length then ofCells false 1 (cs.drop 2) else none := by kernel_rfl
theorem fa42_3 (p : AVal) : afieldAddr Try.prog 42 p 3 = dropCells 3 p := by kernel_rfl
theorem fi42_3 (cs : List AVal) : afield Try.prog 42 (.agg cs) 3 = if 3 ≤ cs.length then ofCells false 1 (cs.drop 3) else none := by kernel_rfl
theorem ld46 (h : AHeap) (p : AVal) : aload Try.prog h 46 p = loadA h true 7 p := by kernel_rfl
theorem st46 (h : AHeap) (p v : AVal) : astore Try.prog h 46 p v = storeA h 7 p v := by kernel_rfl
theorem ze46 : zeroA Try.prog 46 = some (.agg [.int .i64 0, .int .i64 0, .int .i64 0, .str [], .nilSl, .nilSl, .int .i64 0]) := by kernel_rfl
theorem bu46 : abuild Try.prog 46 [] = some (.agg [.int .i64 0, .int .i64 0, .int .i64 0, .str [], .nilSl, .nilSl, .int .i64 0]) := by kernel_rfl
theorem fa46_0 (p : AVal) : afieldAddr Try.prog 46 p 0 = dropCells 0 p := by kernel_rfl
theorem fi46_0 (cs : List AVal) : afield Try.prog 46 (.agg cs) 0 = if 0 ≤ cs.length then ofCells false 1 (cs.drop 0) else none := by kernel_rfl
theorem fa46_1 (p : AVal) : afieldAddr Try.prog 46 p 1 = dropCells 1 p := by kernel_rfl
theorem fi46_1 (cs : List AVal) : afield Try.prog 46 (.agg cs) 1 = if 1 ≤ cs.length then ofCells false 1 (cs.drop 1) else none := by kernel_rfl
theorem fa46_2 (p : AVal) : afieldAddr Try.prog 46 p 2 = dropCells 2 p := by kernel_rfl
theorem fi46_2 (cs : List AVal) : afield Try.prog 46 (.agg cs) 2 = if 2 ≤ cs.length then ofCells false 1 (cs.drop 2) else none := by kernel_rfl
theorem fa46_3 (p : AVal) : afieldAddr Try.prog 46 p 3 = dropCells 3 p := by kernel_rfl
theorem fi46_3 (cs : List AVal) : afield Try.prog 46 (.agg cs) 3 = if 3 ≤ cs.length then ofCells false 1 (cs.drop 3) else none := by kernel_rfl
theorem fa46_4 (p : AVal) : afieldAddr Try.prog 46 p 4 = dropCells 4 p := by kernel_rfl
theorem fi46_4 (cs : List AVal) : afield Try.prog 46 (.agg cs) 4 = if 4 ≤ cs.length then ofCells true 2 (cs.drop 4) else none := by kernel_rfl
theorem fa46_5 (p : AVal) : afieldAddr Try.prog 46 p 5 = dropCells 6 p := by kernel_rfl
theorem fi46_5 (cs : List AVal) : afield Try.prog 46 (.agg cs) 5 = if 6 ≤ cs.length then ofCells false 1 (cs.drop 6) else none := by kernel_rfl
theorem ld49 (h : AHeap) (p : AVal) : aload Try.prog h 49 p = loadA h true 5 p := by kernel_rfl
theorem st49 (h : AHeap) (p v : AVal) : astore Try.prog h 49 p v = storeA h 5 p v := by kernel_rfl
theorem ze49 : zeroA Try.prog 49 = some (.agg [.str [], .int .i64 0, .nilSl, .nilSl, .int .i64 0]) := by kernel_rfl
theorem bu49 : abuild Try.prog 49 [] = some (.agg [.str [], .int .i64 0, .nilSl, .nilSl, .int .i64 0]) := by kernel_rfl
theorem fa49_0 (p : AVal) : afieldAddr Try.prog 49 p 0 = dropCells 0 p := by kernel_rfl
theorem fi49_0 (cs : List AVal) : afield Try.prog 49 (.agg cs) 0 = if 0 ≤ cs.length then ofCells false 1 (cs.drop 0) else none := by kernel_rfl
theorem fa49_1 (p : AVal) : afieldAddr Try.prog 49 p 1 = dropCells 1 p := by kernel_rfl
theorem fi49_1 (cs : List AVal) : afield Try.prog 49 (.agg cs) 1 = if 1 ≤ cs.length then ofCells false 1 (cs.drop 1) else none := by kernel_rfl
theorem fa49_2 (p : AVal) : afieldAddr Try.prog 49 p 2 = dropCells 2 p := by kernel_rfl
theorem fi49_2 (cs : List AVal) : afield Try.prog 49 (.agg cs) 2 = if 2 ≤ cs.length then ofCells true 2 (cs.drop 2) else none := by kernel_rfl
theorem fa49_3 (p : AVal) : afieldAddr Try.prog 49 p 3 = dropCells 4 p := by kernel_rfl
theorem fi49_3 (cs : List AVal) : afield Try.prog 49 (.agg cs) 3 = if 4 ≤ cs.length then ofCells false 1 (cs.drop 4) else none := by kernel_rfl
theorem ld51 (h : AHeap) (p : AVal) : aload Try.prog h 51 p = loadA h false 1 p := by kernel_rfl
theorem st51 (h : AHeap) (p v : AVal) : astore Try.prog h 51 p v = storeA h 1 p v := by kernel_rfl
theorem ze51 : zeroA Try.prog 51 = some (.nilMap) := by kernel_rfl
theorem ln51 (h : AHeap) : alen Try.prog h 51 .nilMap = some (.int .i64 0) := by kernel_rfl
theorem eq51_0 (h : AHeap) (xo yo : Operand) (i : Nat) : abin Cf .eql 51 xo yo h (.map i) .nilMap = some (.bool false) := by kernel_rfl
theorem eq51_n (h : AHeap) (xo : Operand) : abin Cf .eql 51 xo (.const (.map none)) h .nilMap .nilMap = some (.bool true) := by kernel_rfl
theorem ne51_0 (h : AHeap) (xo yo : Operand) (i : Nat) : abin Cf .neq 51 xo yo h (.map i) .nilMap = some (.bool true) := by kernel_rfl
theorem ne51_n (h : AHeap) (xo : Operand) : abin Cf .neq 51 xo (.const (.map none)) h .nilMap .nilMap = some (.bool false) := by kernel_rfl
theorem ld52 (h : AHeap) (p : AVal) : aload Try.prog h 52 p = loadA h false 1 p := by kernel_rfl
theorem st52 (h : AHeap) (p v : AVal) : astore Try.prog h 52 p v = storeA h 1 p v := by kernel_rfl
theorem ze52 : zeroA Try.prog 52 = some (.nilSl) := by kernel_rfl
theorem ix52 (x : AVal) (k : IntKind) (i : Int) : aindexAddr Try.prog 52 x (.int k i) = indexAddrA 1 x i := by kernel_rfl
theorem le52 (h : AHeap) (c : List AVal) (n : Nat) (cap : Cap) : alen Try.prog h 52 (.lst c n cap) = some (.int .i64 n) := by kernel_rfl
theorem lo52 (h : AHeap) (a b e n c : Nat) (o : Bool) : alen Try.prog h 52 (.sl a b e n c o) = some (.int .i64 n) := by kernel_rfl
theorem ln52 (h : AHeap) : alen Try.prog h 52 .nilSl = some (.int .i64 0) := by kernel_rfl
theorem sl52 (h : AHeap) (c : List AVal) (n : Nat) (cap : Cap) (lo hi mx : Option AVal) : aslice Try.prog h 52 (.lst c n cap) lo hi mx = sliceA 1 (.lst c n cap) lo hi mx := by kernel_rfl
theorem so52 (h : AHeap) (a b e n c : Nat) (o : Bool) (lo hi mx : Option AVal) : aslice Try.prog h 52 (.sl a b e n c o) lo hi mx = sliceA 1 (.sl a b e n c o) lo hi mx := by kernel_rfl
theorem sn52 (h : AHeap) (lo hi mx : Option AVal) : aslice Try.prog h 52 .nilSl lo hi mx = sliceA 1 .nilSl lo hi mx := by kernel_rfl
theorem ap52 (own : Bool) (h : AHeap) (s x : AVal) : aappend Try.prog own h [52, 52] [s, x] = appendA own h 1 8 s x := by kernel_rfl
theorem bs52 : abuildSlice Try.prog 52 0 [] = some ([], 1) := by kernel_rfl
theorem eq52_0 (h : AHeap) (xo yo : Operand) (c : List AVal) (n : Nat) (cap : Cap) : abin Cf .eql 52 xo yo h (.lst c n cap) .nilSl = some (.bool false) := by kernel_rfl
theorem eq52_1 (h : AHeap) (xo yo : Operand) (a b e n c : Nat) (q : Bool) : abin Cf .eql 52 xo yo h (.sl a b e n c q) .nilSl = some (.bool false) := by kernel_rfl
theorem eq52_n (h : AHeap) (xo : Operand) : abin Cf .eql 52 xo (.const (.slice none 0 0)) h .nilSl .nilSl = some (.bool true) := by kernel_rfl
theorem ne52_0 (h : AHeap) (xo yo : Operand) (c : List AVal) (n : Nat) (cap : Cap) : abin Cf .neq 52 xo yo h (.lst c n cap) .nilSl = some (.bool true) := by kernel_rfl
theorem ne52_1 (h : AHeap) (xo yo : Operand) (a b e n c : Nat) (q : Bool) : abin Cf .neq 52 xo yo h (.sl a b e n c q) .nilSl = some (.bool true) := by kernel_rfl
theorem ne52_n (h : AHeap) (xo : Operand) : abin Cf .neq 52 xo (.const (.slice none 0 0)) h .nilSl .nilSl = some (.bool false) := by kernel_rfl
theorem ld54 (h : AHeap) (p : AVal) : aload Try.prog h 54 p = loadA h true 1 p := by kernel_rfl
theorem st54 (h : AHeap) (p v : AVal) : astore Try.prog h 54 p v = storeA h 1 p v := by kernel_rfl
theorem ze54 : zeroA Try.prog 54 = some (.agg [.nilSl]) := by kernel_rfl
theorem bu54 : abuild Try.prog 54 [] = some (.agg [.nilSl]) := by kernel_rfl
theorem fa54_0 (p : AVal) : afieldAddr Try.prog 54 p 0 = dropCells 0 p := by kernel_rfl
theorem fi54_0 (cs : List AVal) : afield Try.prog 54 (.agg cs) 0 = if 0 ≤ cs.length then ofCells false 1 (cs.drop 0) else none := by kernel_rfl
theorem ld59 (h : AHeap) (p : AVal) : aload Try.prog h 59 p = loadA h true 1 p := by kernel_rfl
theorem st59 (h : AHeap) (p v : AVal) : astore Try.prog h 59 p v = storeA h 1 p v := by kernel_rfl
theorem ze59 : zeroA Try.prog 59 = some (.agg [.int .i64 0]) := by kernel_rfl
theorem bu59 : abuild Try.prog 59 [] = some (.agg [.int .i64 0]) := by kernel_rfl
theorem fa59_2 (p : AVal) : afieldAddr Try.prog 59 p 2 = dropCells 0 p := by kernel_rfl
theorem fi59_2 (cs : List AVal) : afield Try.prog 59 (.agg cs) 2 = if 0 ≤ cs.length then ofCells false 1 (cs.drop 0) else none := by kernel_rfl
theorem ld61 (h : AHeap) (p : AVal) : aload Try.prog h 61 p = loadA h true 6 p := by kernel_rfl
theorem st61 (h : AHeap) (p v : AVal) : astore Try.prog h 61 p v = storeA h 6 p v := by kernel_rfl
theorem ze61 : zeroA Try.prog 61 = some (.agg [.int .i64 0, .int .i64 0, .nilMap, .nilSl, .int .i64 0, .int .i64 0]) := by kernel_rfl
theorem bu61 : abuild Try.prog 61 [] = some (.agg [.int .i64 0, .int .i64 0, .nilMap, .nilSl, .int .i64 0, .int .i64 0]) := by kernel_rfl
theorem fa61_0 (p : AVal) : afieldAddr Try.prog 61 p 0 = dropCells 0 p := by kernel_rfl
theorem fi61_0 (cs : List AVal) : afield Try.prog 61 (.agg cs) 0 = if 0 ≤ cs.length then ofCells false 1 (cs.drop 0) else none := by kernel_rfl
theorem fa61_1 (p : AVal) : afieldAddr Try.prog 61 p 1 = dropCells 1 p := by kernel_rfl
theorem fi61_1 (cs : List AVal) : afield Try.prog 61 (.agg cs) 1 = if 1 ≤ cs.length then ofCells false 1 (cs.drop 1) else none := by kernel_rfl
theorem fa61_2 (p : AVal) : afieldAddr Try.prog 61 p 2 = dropCells 2 p := by kernel_rfl
theorem fi61_2 (cs : List AVal) : afield Try.prog 61 (.agg cs) 2 = if 2 ≤ cs.length then ofCells false 1 (cs.drop 2) else none := by kernel_rfl
theorem fa61_3 (p : AVal) : afieldAddr Try.prog 61 p 3 = dropCells 3 p := by kernel_rfl
theorem fi61_3 (cs : List AVal) : afield Try.prog 61 (.agg cs) 3 = if 3 ≤ cs.length then ofCells true 1 (cs.drop 3) else none := by kernel_rfl
theorem fa61_4 (p : AVal) : afieldAddr Try.prog 61 p 4 = dropCells 4 p := by kernel_rfl
theorem fi61_4 (cs : List AVal) : afield Try.prog 61 (.agg cs) 4 = if 4 ≤ cs.length then ofCells true 1 (cs.drop 4) else none := by kernel_rfl
theorem fa61_5 (p : AVal) : afieldAddr Try.prog 61 p 5 = dropCells 5 p := by kernel_rfl
theorem fi61_5 (cs : List AVal) : afield Try.prog 61 (.agg cs) 5 = if 5 ≤ cs.length then ofCells true 1 (cs.drop 5) else none := by kernel_rfl
theorem ld66 (h : AHeap) (p : AVal) : aload Try.prog h 66 p = loadA h false 1 p := by kernel_rfl
theorem st66 (h : AHeap) (p v : AVal) : astore Try.prog h 66 p v = storeA h 1 p v := by kernel_rfl
theorem ze66 : zeroA Try.prog 66 = some (.nilPtr) := by kernel_rfl
theorem eq66_0 (h : AHeap) (xo yo : Operand) (i o : Nat) : abin Cf .eql 66 xo yo h (.ptr i o) .nilPtr = some (.bool false) := by kernel_rfl
theorem eq66_1 (h : AHeap) (xo yo : Operand) (c : List AVal) : abin Cf .eql 66 xo yo h (.iptr c) .nilPtr = some (.bool false) := by kernel_rfl
theorem eq66_n (h : AHeap) (xo : Operand) : abin Cf .eql 66 xo (.const (.pointer none)) h .nilPtr .nilPtr = some (.bool true) := by kernel_rfl
theorem ne66_0 (h : AHeap) (xo yo : Operand) (i o : Nat) : abin Cf .neq 66 xo yo h (.ptr i o) .nilPtr = some (.bool true) := by kernel_rfl
theorem ne66_1 (h : AHeap) (xo yo : Operand) (c : List AVal) : abin Cf .neq 66 xo yo h (.iptr c) .nilPtr = some (.bool true) := by kernel_rfl
theorem ne66_n (h : AHeap) (xo : Operand) : abin Cf .neq 66 xo (.const (.pointer none)) h .nilPtr .nilPtr = some (.bool false) := by kernel_rfl
theorem ld68 (h : AHeap) (p : AVal) : aload Try.prog h 68 p = loadA h true 6 p := by kernel_rfl
theorem st68 (h : AHeap) (p v : AVal) : astore Try.prog h 68 p v = storeA h 6 p v := by kernel_rfl
theorem ze68 : zeroA Try.prog 68 = some (.agg [.str [], .int .i64 0, .nilSl, .nilSl, .int .i64 0, .int .i64 0]) := by kernel_rfl
theorem bu68 : abuild Try.prog 68 [] = some (.agg [.str [], .int .i64 0, .nilSl, .nilSl, .int .i64 0, .int .i64 0]) := by kernel_rfl
theorem fa68_0 (p : AVal) : afieldAddr Try.prog 68 p 0 = dropCells 0 p := by kernel_rfl
theorem fi68_0 (cs : List AVal) : afield Try.prog 68 (.agg cs) 0 = if 0 ≤ cs.length then ofCells false 1 (cs.drop 0) else none := by kernel_rfl
theorem fa68_1 (p : AVal) : afieldAddr Try.prog 68 p 1 = dropCells 1 p := by kernel_rfl
theorem fi68_1 (cs : List AVal) : afield Try.prog 68 (.agg cs) 1 = if 1 ≤ cs.length then ofCells false 1 (cs.drop 1) else none := by kernel_rfl
theorem fa68_2 (p : AVal) : afieldAddr Try.prog 68 p 2 = dropCells 2 p := by kernel_rfl
theorem fi68_2 (cs : List AVal) : afield Try.prog 68 (.agg cs) 2 = if 2 ≤ cs.length then ofCells true 2 (cs.drop 2) else none := by kernel_rfl
theorem fa68_3 (p : AVal) : afieldAddr Try.prog 68 p 3 = dropCells 4 p := by kernel_rfl
theorem fi68_3 (cs : List AVal) : afield Try.prog 68 (.agg cs) 3 = if 4 ≤ cs.length then ofCells false 1 (cs.drop 4) else none := by kernel_rfl
theorem fa68_4 (p : AVal) : afieldAddr Try.prog 68 p 4 = dropCells 5 p := by kernel_rfl
theorem fi68_4 (cs : List AVal) : afield Try.prog 68 (.agg cs) 4 = if 5 ≤ cs.length then ofCells false 1 (cs.drop 5) else none := by kernel_rfl
theorem ld77 (h : AHeap) (p : AVal) : aload Try.prog h 77 p = loadA h false 1 p := by kernel_rfl
theorem st77 (h : AHeap) (p v : AVal) : astore Try.prog h 77 p v = storeA h 1 p v := by kernel_rfl
theorem ze77 : zeroA Try.prog 77 = some (.nilSl) := by kernel_rfl
theorem ix77 (x : AVal) (k : IntKind) (i : Int) : aindexAddr Try.prog 77 x (.int k i) = indexAddrA 3 x i := by kernel_rfl
theorem le77 (h : AHeap) (c : List AVal) (n : Nat) (cap : Cap) : alen Try.prog h 77 (.lst c n cap) = some (.int .i64 n) := by kernel_rfl
theorem lo77 (h : AHeap) (a b e n c : Nat) (o : Bool) : alen Try.prog h 77 (.sl a b e n c o) = some (.int .i64 n) := by kernel_rfl
theorem ln77 (h : AHeap) : alen Try.prog h 77 .nilSl = some (.int .i64 0) := by kernel_rfl
theorem sl77 (h : AHeap) (c : List AVal) (n : Nat) (cap : Cap) (lo hi mx : Option AVal) : aslice Try.prog h 77 (.lst c n cap) lo hi mx = sliceA 3 (.lst c n cap) lo hi mx := by kernel_rfl
theorem so77 (h : AHeap) (a b e n c : Nat) (o : Bool) (lo hi mx : Option AVal) : aslice Try.prog h 77 (.sl a b e n c o) lo hi mx = sliceA 3 (.sl a b e n c o) lo hi mx := by kernel_rfl
theorem sn77 (h : AHeap) (lo hi mx : Option AVal) : aslice Try.prog h 77 .nilSl lo hi mx = sliceA 3 .nilSl lo hi mx := by kernel_rfl
theorem ap77 (own : Bool) (h : AHeap) (s x : AVal) : aappend Try.prog own h [77, 77] [s, x] = appendA own h 3 32 s x := by kernel_rfl
theorem bs77 : abuildSlice Try.prog 77 0 [] = some ([], 3) := by kernel_rfl
theorem eq77_0 (h : AHeap) (xo yo : Operand) (c : List AVal) (n : Nat) (cap : Cap) : abin Cf .eql 77 xo yo h (.lst c n cap) .nilSl = some (.bool false) := by kernel_rfl
theorem eq77_1 (h : AHeap) (xo yo : Operand) (a b e n c : Nat) (q : Bool) : abin Cf .eql 77 xo yo h (.sl a b e n c q) .nilSl = some (.bool false) := by kernel_rfl
theorem eq77_n (h : AHeap) (xo : Operand) : abin Cf .eql 77 xo (.const (.slice none 0 0)) h .nilSl .nilSl = some (.bool true) := by kernel_rfl
theorem ne77_0 (h : AHeap) (xo yo : Operand) (c : List AVal) (n : Nat) (cap : Cap) : abin Cf .neq 77 xo yo h (.lst c n cap) .nilSl = some (.bool true) := by kernel_rfl
theorem ne77_1 (h : AHeap) (xo yo : Operand) (a b e n c : Nat) (q : Bool) : abin Cf .neq 77 xo yo h (.sl a b e n c q) .nilSl = some (.bool true) := by kernel_rfl
theorem ne77_n (h : AHeap) (xo : Operand) : abin Cf .neq 77 xo (.const (.slice none 0 0)) h .nilSl .nilSl = some (.bool false) := by kernel_rfl
theorem ld80 (h : AHeap) (p : AVal) : aload Try.prog h 80 p = loadA h true 3 p := by kernel_rfl
theorem st80 (h : AHeap) (p v : AVal) : astore Try.prog h 80 p v = storeA h 3 p v := by kernel_rfl
theorem ze80 : zeroA Try.prog 80 = some (.agg [.int .i64 0, .int .i64 0, .str []]) := by kernel_rfl
theorem bu80 : abuild Try.prog 80 [] = some (.agg [.int .i64 0, .int .i64 0, .str []]) := by kernel_rfl
theorem fa80_0 (p : AVal) : afieldAddr Try.prog 80 p 0 = dropCells 0 p := by kernel_rfl
theorem fi80_0 (cs : List AVal) : afield Try.prog 80 (.agg cs) 0 = if 0 ≤ cs.length then ofCells false 1 (cs.drop 0) else none := by kernel_rfl
theorem fa80_1 (p : AVal) : afieldAddr Try.prog 80 p 1 = dropCells 1 p := by kernel_rfl
theorem fi80_1 (cs : List AVal) : afield Try.prog 80 (.agg cs) 1 = if 1 ≤ cs.length then ofCells false 1 (cs.drop 1) else none := by kernel_rfl
theorem fa80_2 (p : AVal) : afieldAddr Try.prog 80 p 2 = dropCells 2 p := by kernel_rfl
theorem fi80_2 (cs : List AVal) : afield Try.prog 80 (.agg cs) 2 = if 2 ≤ cs.length then ofCells false 1 (cs.drop 2) else none := by kernel_rfl
theorem ld81 (h : AHeap) (p : AVal) : aload Try.prog h 81 p = loadA h false 1 p := by kernel_rfl
theorem st81 (h : AHeap) (p v : AVal) : astore Try.prog h 81 p v = storeA h 1 p v := by kernel_rfl
theorem ze81 : zeroA Try.prog 81 = some (.nilPtr) := by kernel_rfl
theorem eq81_0 (h : AHeap) (xo yo : Operand) (i o : Nat) : abin Cf .eql 81 xo yo h (.ptr i o) .nilPtr = some (.bool false) := by kernel_rfl
theorem eq81_1 (h : AHeap) (xo yo : Operand) (c : List AVal) : abin Cf .eql 81 xo yo h (.iptr c) .nilPtr = some (.bool false) := by kernel_rfl
theorem eq81_n (h : AHeap) (xo : Operand) : abin Cf .eql 81 xo (.const (.pointer none)) h .nilPtr .nilPtr = some (.bool true) := by kernel_rfl
theorem ne81_0 (h : AHeap) (xo yo : Operand) (i o : Nat) : abin Cf .neq 81 xo yo h (.ptr i o) .nilPtr = some (.bool true) := by kernel_rfl
theorem ne81_1 (h : AHeap) (xo yo : Operand) (c : List AVal) : abin Cf .neq 81 xo yo h (.iptr c) .nilPtr = some (.bool true) := by kernel_rfl
theorem ne81_n (h : AHeap) (xo : Operand) : abin Cf .neq 81 xo (.const (.pointer none)) h .nilPtr .nilPtr = some (.bool false) := by kernel_rfl
theorem ld83 (h : AHeap) (p : AVal) : aload Try.prog h 83 p = loadA h false 1 p := by kernel_rfl
theorem st83 (h : AHeap) (p v : AVal) : astore Try.prog h 83 p v = storeA h 1 p v := by kernel_rfl
theorem ze83 : zeroA Try.prog 83 = some (.nilPtr) := by kernel_rfl
theorem eq83_0 (h : AHeap) (xo yo : Operand) (i o : Nat) : abin Cf .eql 83 xo yo h (.ptr i o) .nilPtr = some (.bool false) := by kernel_rfl
theorem eq83_1 (h : AHeap) (xo yo : Operand) (c : List AVal) : abin Cf .eql 83 xo yo h (.iptr c) .nilPtr = some (.bool false) := by kernel_rfl
theorem eq83_n (h : AHeap) (xo : Operand) : abin Cf .eql 83 xo (.const (.pointer none)) h .nilPtr .nilPtr = some (.bool true) := by kernel_rfl
theorem ne83_0 (h : AHeap) (xo yo : Operand) (i o : Nat) : abin Cf .neq 83 xo yo h (.ptr i o) .nilPtr = some (.bool true) := by kernel_rfl
theorem ne83_1 (h : AHeap) (xo yo : Operand) (c : List AVal) : abin Cf .neq 83 xo yo h (.iptr c) .nilPtr = some (.bool true) := by kernel_rfl
theorem ne83_n (h : AHeap) (xo : Operand) : abin Cf .neq 83 xo (.const (.pointer none)) h .nilPtr .nilPtr = some (.bool false) := by kernel_rfl
theorem ld84 (h : AHeap) (p : AVal) : aload Try.prog h 84 p = loadA h false 1 p := by kernel_rfl
theorem st84 (h : AHeap) (p v : AVal) : astore Try.prog h 84 p v = storeA h 1 p v := by kernel_rfl
theorem ze84 : zeroA Try.prog 84 = some (.nilPtr) := by kernel_rfl
theorem eq84_0 (h : AHeap) (xo yo : Operand) (i o : Nat) : abin Cf .eql 84 xo yo h (.ptr i o) .nilPtr = some (.bool false) := by kernel_rfl
theorem eq84_1 (h : AHeap) (xo yo : Operand) (c : List AVal) : abin Cf .eql 84 xo yo h (.iptr c) .nilPtr = some (.bool false) := by kernel_rfl
theorem eq84_n (h : AHeap) (xo : Operand) : abin Cf .eql 84 xo (.const (.pointer none)) h .nilPtr .nilPtr = some (.bool true) := by kernel_rfl
theorem ne84_0 (h : AHeap) (xo yo : Operand) (i o : Nat) : abin Cf .neq 84 xo yo h (.ptr i o) .nilPtr = some (.bool true) := by kernel_rfl
theorem ne84_1 (h : AHeap) (xo yo : Operand) (c : List AVal) : abin Cf .neq 84 xo yo h (.iptr c) .nilPtr = some (.bool true) := by kernel_rfl
theorem ne84_n (h : AHeap) (xo : Operand) : abin Cf .neq 84 xo (.const (.pointer none)) h .nilPtr .nilPtr = some (.bool false) := by kernel_rfl
end Ty
end Go.Am.Cache
