/- Functions of the program: what they return, and that they do. -/
import Derived.Test.YtiolpppbnbboiaaGroupA
import Derived.Test.YtiolpppbnbboiaaHandF
import Derived.Test.YtiolpppbnbboiaaHandD
import Derived.Test.YtiolpppbnbboiaaProg
import Derived.KernelRfl
import Derived.Test.YtiolpppbnbboiaaEvalC
import Derived.Test.YtiolpppbnbboiaaHandE

set_option linter.unusedVariables false
set_option linter.unusedSimpArgs false
namespace Go.AL
set_option linter.unusedVariables false
end Go.AL
namespace Sp
open Go.AL
def hasS (l : List ByteArray) (s : ByteArray) : Bool := l.any fun x => decide (x = s)
def idxS (l : List ByteArray) (s : ByteArray) : Int := if hasS l s then (l.findIdx (fun x => decide (s = x)) : Int) else -1
/-- The variable with a name. -/
def vari (s : ByteArray) : Tm × Bool :=
  if decide (3 ≤ s.size) && decide (byteAt s 1 = 46) && var (s.extract 2 s.size) then
    (if byteAt s 0 = 115 then (.mk 5 (s.extract 2 s.size) [], true) else if byteAt s 0 = 116 then (.mk 6 (s.extract 2 s.size) [], true) else if byteAt s 0 = 101 then (.mk 7 (s.extract 2 s.size) [], true) else (.mk 0 ⟨#[]⟩ [], false))
  else (.mk 0 ⟨#[]⟩ [], false)
def isVarN (s : ByteArray) : Bool := (vari s).2
def symOK (t : Tm) : Bool := sym t && decide (wrong [t] 4 = 0)
def dupFrom (l : List ByteArray) (i : Nat) : Bool := (List.range (l.length - i)).any fun k => hasS (l.take (i + k)) (nth ⟨#[]⟩ l ((i + k : Nat) : Int))
def permit (vars : List ByteArray) (syms : List Tm) (size most : Int) : Int :=
  if size < 0 ∨ 6 < size ∨ most < 0 ∨ 5000 < most then 4 else if 20 < vars.length ∨ 20 < syms.length then 5 else
  if !vars.all isVarN then 2 else if !syms.all symOK then 2 else if dupFrom vars 0 then 10 else 0
def valuesOf (c : Option Nat) (kind : Int) (sy : List Tm) (size : Int) : List (List Tm) :=
  if kind = 7 then upTo c sy size else cutN c (sy.map (fun t => [t]) ++ if kind = 6 then (upTo c sy (size - 1)).map (fun k => [grp k]) else [])
def prod (c : Option Nat) (sy : List Tm) (size : Int) : List ByteArray → List (List Bnd)
  | [] => [[]]
  | x :: r => cutN c ((valuesOf c (vari x).1.kind sy size).flatMap fun v => (prod c sy size r).map (Bnd.mk x v :: ·))
def sameBs : List Bnd → List Bnd → Bool
  | [], [] => true
  | x :: a, y :: b => decide (x.var = y.var) && decide (cmpL x.val y.val = 0) && sameBs a b
  | _, _ => false
/-- Appended, as far as there is room. -/
def app {α : Type} (m : Int) (out add : List α) : List α := (out ++ add).take m.toNat
def appK {α β : Type} (m : Int) (out : List α) (l : List β) (k : Int) : Int := min (l.length : Int) (k + (m - out.length))
def inL {α : Type} (m : Int) (F : Nat → List α) : Nat → List α → Nat → List α × Int
  | 0, out, i => (out, i)
  | f + 1, out, i => if (out.length : Int) < m then inL m F f (app m out (F i)) (i + 1) else (out, i)
def blockL (m : Int) (sy : List Tm) (n : Int) (i : Nat) : List (List Tm) := (lists (some m.toNat) sy i).flatMap fun kids => (lists (some m.toNat) sy (n.toNat - 1 - i)).map (grp kids :: ·)
def valuesR (vars : List ByteArray) (syms : List Tm) (size most : Int) : List (List Bnd) × Int :=
  if permit vars syms size most ≠ 0 then ([], permit vars syms size most) else if most = 0 then ([], 0) else (prod (some most.toNat) syms size vars, 0)
end Sp
namespace Go.AL
def strings_Index.C : Ctr := SX.C
def strings_Contains.C : Ctr := pureCtr [.str, .str] [.bool] (some (fun (a_ : ByteArray × ByteArray) => match a_ with | (s, sub) => sub.size = 1)) (fun (a_ : ByteArray × ByteArray) => match a_ with | (s, sub) => (decide (0 ≤ Sp.index1 s sub)))
def slices_Index.L0 : LD := { cs := [0, 1, 7], cts := [.lst (.str), .str, .int .i64], pts := [], vs := [8], os := [], vts := [.int .i64], own := [false], ro := [0, 1, 6, 7], nx := 100 }
def slices_Index.Λ (l : (List ByteArray)) (s : ByteArray) : Nat → Option (Loop (ElT [.int .i64])) := fun id =>
  if id = 0 then some (mkLoop slices_Index.L0
    (fun (c_ : (List ByteArray) × ByteArray × Int) (s_ : Int) => match c_, s_ with | (c_l, c_s, n), i => c_l = l ∧ c_s = s ∧ n = (l.length : Int) ∧ 0 ≤ i ∧ i ≤ l.length ∧ l.length < 9223372036854775808)
    (fun (c_ : (List ByteArray) × ByteArray × Int) (s_ : Int) => match c_, s_ with | (c_l, c_s, n), i => (l.length - i : Int).toNat)
    (fun (c_ : (List ByteArray) × ByteArray × Int) (s_ : Int) => match c_, s_ with | (c_l, c_s, n), i => if Sp.hasS (l.drop i.toNat) s = true then .ret (i + Sp.idxS (l.drop i.toNat) s) else .brk (l.length : Int)) [] true) else
  none
def slices_Index.C : Ctr := pureCtr [.lst (.str), .str] [.int .i64] none (fun (a_ : (List ByteArray) × ByteArray) => match a_ with | (l, s) => (Sp.idxS l s))
def slices_Contains.C : Ctr := pureCtr [.lst (.str), .str] [.bool] none (fun (a_ : (List ByteArray) × ByteArray) => match a_ with | (l, s) => (Sp.hasS l s))
def term_Variable.C : Ctr := pureCtr [.str] [.nm 0, .bool] none (fun (s : ByteArray) => (Sp.vari s))
def equal_permitted.L1 : LD := { cs := [41, 42], cts := [.lst (.str), .int .i64], pts := [], vs := [43], os := [], vts := [.int .i64], own := [false], ro := [0, 1, 2, 3, 18, 19, 20, 21, 22, 23, 24, 25, 26, 27, 28, 29, 30, 31, 17, 33, 34, 35, 36, 37, 38, 39, 40, 32, 41, 42], nx := 100 }
def equal_permitted.L3 : LD := { cs := [55, 56], cts := [.lst (.nm 0), .int .i64], pts := [], vs := [57], os := [], vts := [.int .i64], own := [false], ro := [43, 0, 1, 2, 3, 18, 19, 20, 21, 22, 23, 24, 25, 26, 27, 28, 29, 30, 31, 17, 33, 34, 35, 36, 37, 38, 39, 40, 32, 41, 42, 55, 56], nx := 200 }
def equal_permitted.L5 : LD := { cs := [0, 71, 72], cts := [.lst (.str), .lst (.str), .int .i64], pts := [], vs := [73], os := [], vts := [.int .i64], own := [false], ro := [57, 43, 0, 1, 2, 3, 18, 19, 20, 21, 22, 23, 24, 25, 26, 27, 28, 29, 30, 31, 17, 33, 34, 35, 36, 37, 38, 39, 40, 32, 41, 42, 55, 56, 71, 72], nx := 300 }
def equal_permitted.Λ (vars : (List ByteArray)) (syms : (List Tm)) (size : Int) (most : Int) : Nat → Option (Loop (ElT [.int .i64])) := fun id =>
  if id = 1 then some (mkLoop equal_permitted.L1
    (fun (c_ : (List ByteArray) × Int) (s_ : Int) => match c_, s_ with | (xs, n), i => xs = vars ∧ n = (vars.length : Int) ∧ 0 ≤ i ∧ i ≤ vars.length ∧ vars.length ≤ 20)
    (fun (c_ : (List ByteArray) × Int) (s_ : Int) => match c_, s_ with | (xs, n), i => (vars.length - i : Int).toNat)
    (fun (c_ : (List ByteArray) × Int) (s_ : Int) => match c_, s_ with | (xs, n), i => if (vars.drop i.toNat).all Sp.isVarN = true then .brk (vars.length : Int) else .ret 2) [] true) else
  if id = 3 then some (mkLoop equal_permitted.L3
    (fun (c_ : (List Tm) × Int) (s_ : Int) => match c_, s_ with | (xs, n), i => xs = syms ∧ n = (syms.length : Int) ∧ 0 ≤ i ∧ i ≤ syms.length ∧ syms.length ≤ 20 ∧ Sp.okL syms)
    (fun (c_ : (List Tm) × Int) (s_ : Int) => match c_, s_ with | (xs, n), i => (syms.length - i : Int).toNat)
    (fun (c_ : (List Tm) × Int) (s_ : Int) => match c_, s_ with | (xs, n), i => if (syms.drop i.toNat).all Sp.symOK = true then .brk (syms.length : Int) else .ret 2) [] true) else
  if id = 5 then some (mkLoop equal_permitted.L5
    (fun (c_ : (List ByteArray) × (List ByteArray) × Int) (s_ : Int) => match c_, s_ with | (c_vars, xs, n), i => c_vars = vars ∧ xs = vars ∧ n = (vars.length : Int) ∧ 0 ≤ i ∧ i ≤ vars.length ∧ vars.length ≤ 20)
    (fun (c_ : (List ByteArray) × (List ByteArray) × Int) (s_ : Int) => match c_, s_ with | (c_vars, xs, n), i => (vars.length - i : Int).toNat)
    (fun (c_ : (List ByteArray) × (List ByteArray) × Int) (s_ : Int) => match c_, s_ with | (c_vars, xs, n), i => if Sp.dupFrom vars i.toNat = true then .ret 10 else .brk (vars.length : Int)) [] true) else
  none
def equal_permitted.C : Ctr := pureCtr [.lst (.str), .lst (.nm 0), .int .i64, .int .i64] [.int .i64] (some (fun (a_ : (List ByteArray) × (List Tm) × Int × Int) => match a_ with | (vars, syms, size, most) => Sp.okL syms)) (fun (a_ : (List ByteArray) × (List Tm) × Int × Int) => match a_ with | (vars, syms, size, most) => (Sp.permit vars syms size most))
def r01_Has.L0 : LD := { cs := [0, 1], cts := [.lst (.str), .str], pts := [], vs := [5], os := [], vts := [.int .i64], own := [false], ro := [0, 1], nx := 100 }
def r01_Has.Λ (l : (List ByteArray)) (s : ByteArray) : Nat → Option (Loop (ElT [.bool])) := fun id =>
  if id = 0 then some (mkLoop r01_Has.L0
    (fun (c_ : (List ByteArray) × ByteArray) (s_ : Int) => match c_, s_ with | (c_l, c_s), i => c_l = l ∧ c_s = s ∧ 0 ≤ i ∧ i ≤ l.length)
    (fun (c_ : (List ByteArray) × ByteArray) (s_ : Int) => match c_, s_ with | (c_l, c_s), i => (l.length - i : Int).toNat)
    (fun (c_ : (List ByteArray) × ByteArray) (s_ : Int) => match c_, s_ with | (c_l, c_s), i => if Sp.hasS (l.drop i.toNat) s = true then .ret true else .brk (l.length : Int)) [] true) else
  none
def r01_Has.C : Ctr := pureCtr [.lst (.str), .str] [.bool] none (fun (a_ : (List ByteArray) × ByteArray) => match a_ with | (l, s) => (Sp.hasS l s))
def r01_Variable.C : Ctr := pureCtr [.str] [.nm 0, .bool] none (fun (s : ByteArray) => (Sp.vari s))
def r35_lists.L0 : LD := { cs := [0, 2, 8], cts := [.lst (.nm 0), .int .i64, .lst (.lst (.nm 0))], pts := [], vs := [7, 9], os := [], vts := [.lst (.lst (.nm 0)), .int .i64], own := [true, false], ro := [0, 1, 2, 6, 16, 17, 20, 21, 22, 23, 24, 8], nx := 100 }
def r35_lists.L2 : LD := { cs := [0, 2, 8, 9], cts := [.lst (.nm 0), .int .i64, .lst (.lst (.nm 0)), .int .i64], pts := [], vs := [7, 10], os := [], vts := [.lst (.lst (.nm 0)), .int .i64], own := [true, false], ro := [0, 2, 8, 9, 25, 26, 27, 28, 1, 6, 16, 17, 20, 21, 22, 23, 24], nx := 200 }
def r35_lists.L4 : LD := { cs := [0, 1, 2], cts := [.lst (.nm 0), .int .i64, .int .i64], pts := [], vs := [7, 11], os := [], vts := [.lst (.lst (.nm 0)), .int .i64], own := [true, false], ro := [9, 0, 1, 2, 6, 16, 17, 20, 21, 22, 23, 24, 8], nx := 300 }
def r35_lists.L6 : LD := { cs := [2, 12, 13], cts := [.int .i64, .lst (.lst (.nm 0)), .lst (.lst (.nm 0))], pts := [], vs := [7, 14], os := [], vts := [.lst (.lst (.nm 0)), .int .i64], own := [true, false], ro := [0, 1, 2, 11, 56, 57, 58, 59, 60, 61, 62, 63, 64, 67, 68, 69, 70, 12, 71, 72, 73, 74, 75, 76, 77, 13, 9, 6, 16, 17, 20, 21, 22, 23, 24, 8], nx := 400 }
def r35_lists.L8 : LD := { cs := [2, 12, 13, 14], cts := [.int .i64, .lst (.lst (.nm 0)), .lst (.lst (.nm 0)), .int .i64], pts := [], vs := [7, 15], os := [], vts := [.lst (.lst (.nm 0)), .int .i64], own := [true, false], ro := [2, 12, 13, 14, 78, 79, 80, 81, 0, 1, 11, 56, 57, 58, 59, 60, 61, 62, 63, 64, 67, 68, 69, 70, 71, 72, 73, 74, 75, 76, 77, 9, 6, 16, 17, 20, 21, 22, 23, 24, 8], nx := 500 }
def r35_lists.Λ (syms : (List Tm)) (n : Int) (most : Int) : Nat → Option (Loop (ElT [.lst (.lst (.nm 0))])) := fun id =>
  if id = 0 then some (mkLoop r35_lists.L0
    (fun (c_ : (List Tm) × Int × (List (List Tm))) (s_ : (List (List Tm)) × Int) => match c_, s_ with | (c_syms, c_most, rests), (out, i) => c_syms = syms ∧ c_most = most ∧ 0 ≤ i ∧ i ≤ syms.length ∧ out.length ≤ most ∧ rests.length ≤ 5000 ∧ (∀ r ∈ rests, r.length ≤ 100))
    (fun (c_ : (List Tm) × Int × (List (List Tm))) (s_ : (List (List Tm)) × Int) => match c_, s_ with | (c_syms, c_most, rests), (out, i) => (syms.length - i : Int).toNat)
    (fun (c_ : (List Tm) × Int × (List (List Tm))) (s_ : (List (List Tm)) × Int) => match c_, s_ with | (c_syms, c_most, rests), (out, i) => .brk (Sp.app most out ((syms.drop i.toNat).flatMap fun t => rests.map (t :: ·)), (syms.length : Int))) [] false) else
  if id = 2 then some (mkLoop r35_lists.L2
    (fun (c_ : (List Tm) × Int × (List (List Tm)) × Int) (s_ : (List (List Tm)) × Int) => match c_, s_ with | (c_syms, c_most, rests, i), (out, k) => c_syms = syms ∧ c_most = most ∧ 0 ≤ i ∧ i < syms.length ∧ 0 ≤ k ∧ k ≤ rests.length ∧ out.length ≤ most ∧ rests.length ≤ 5000 ∧ (∀ r ∈ rests, r.length ≤ 100))
    (fun (c_ : (List Tm) × Int × (List (List Tm)) × Int) (s_ : (List (List Tm)) × Int) => match c_, s_ with | (c_syms, c_most, rests, i), (out, k) => (rests.length - k : Int).toNat)
    (fun (c_ : (List Tm) × Int × (List (List Tm)) × Int) (s_ : (List (List Tm)) × Int) => match c_, s_ with | (c_syms, c_most, rests, i), (out, k) => .brk (Sp.app most out ((rests.drop k.toNat).map (nth (default : Tm) syms i :: ·)), Sp.appK most out rests k)) [] false) else
  if id = 4 then some (mkLoop r35_lists.L4
    (fun (c_ : (List Tm) × Int × Int) (s_ : (List (List Tm)) × Int) => match c_, s_ with | (c_syms, c_n, c_most), (out, i) => c_syms = syms ∧ c_n = n ∧ c_most = most ∧ 0 ≤ i ∧ i ≤ n ∧ out.length ≤ most)
    (fun (c_ : (List Tm) × Int × Int) (s_ : (List (List Tm)) × Int) => match c_, s_ with | (c_syms, c_n, c_most), (out, i) => (n - i).toNat)
    (fun (c_ : (List Tm) × Int × Int) (s_ : (List (List Tm)) × Int) => match c_, s_ with | (c_syms, c_n, c_most), (out, i) => .brk (Sp.inL most (Sp.blockL most syms n) (n - i).toNat out i.toNat)) [] false) else
  if id = 6 then some (mkLoop r35_lists.L6
    (fun (c_ : Int × (List (List Tm)) × (List (List Tm))) (s_ : (List (List Tm)) × Int) => match c_, s_ with | (c_most, kids, rests), (out, i) => c_most = most ∧ 0 ≤ i ∧ i ≤ kids.length ∧ out.length ≤ most ∧ kids.length ≤ 5000 ∧ rests.length ≤ 5000 ∧ (∀ r ∈ rests, r.length ≤ 100))
    (fun (c_ : Int × (List (List Tm)) × (List (List Tm))) (s_ : (List (List Tm)) × Int) => match c_, s_ with | (c_most, kids, rests), (out, i) => (kids.length - i : Int).toNat)
    (fun (c_ : Int × (List (List Tm)) × (List (List Tm))) (s_ : (List (List Tm)) × Int) => match c_, s_ with | (c_most, kids, rests), (out, i) => .brk (Sp.app most out ((kids.drop i.toNat).flatMap fun k => rests.map (Sp.grp k :: ·)), (kids.length : Int))) [] false) else
  if id = 8 then some (mkLoop r35_lists.L8
    (fun (c_ : Int × (List (List Tm)) × (List (List Tm)) × Int) (s_ : (List (List Tm)) × Int) => match c_, s_ with | (c_most, kids, rests, i), (out, k) => c_most = most ∧ 0 ≤ i ∧ i < kids.length ∧ 0 ≤ k ∧ k ≤ rests.length ∧ out.length ≤ most ∧ kids.length ≤ 5000 ∧ rests.length ≤ 5000 ∧ (∀ r ∈ rests, r.length ≤ 100))
    (fun (c_ : Int × (List (List Tm)) × (List (List Tm)) × Int) (s_ : (List (List Tm)) × Int) => match c_, s_ with | (c_most, kids, rests, i), (out, k) => (rests.length - k : Int).toNat)
    (fun (c_ : Int × (List (List Tm)) × (List (List Tm)) × Int) (s_ : (List (List Tm)) × Int) => match c_, s_ with | (c_most, kids, rests, i), (out, k) => .brk (Sp.app most out ((rests.drop k.toNat).map (Sp.grp (nth ([] : List Tm) kids i) :: ·)), Sp.appK most out rests k)) [] false) else
  none
def r35_lists.C : Ctr := pureCtr [.lst (.nm 0), .int .i64, .int .i64] [.lst (.lst (.nm 0))] (some (fun (a_ : (List Tm) × Int × Int) => match a_ with | (syms, n, most) => 0 ≤ n ∧ n ≤ 6 ∧ 0 < most ∧ most ≤ 5000 ∧ syms.length ≤ 20)) (fun (a_ : (List Tm) × Int × Int) => match a_ with | (syms, n, most) => (Sp.lists (some most.toNat) syms n.toNat))
def r35_upTo.L0 : LD := { cs := [0, 1, 2], cts := [.lst (.nm 0), .int .i64, .int .i64], pts := [], vs := [7, 8], os := [], vts := [.lst (.lst (.nm 0)), .int .i64], own := [true, false], ro := [0, 1, 2, 6], nx := 100 }
def r35_upTo.L2 : LD := { cs := [2, 9], cts := [.int .i64, .lst (.lst (.nm 0))], pts := [], vs := [7, 10], os := [], vts := [.lst (.lst (.nm 0)), .int .i64], own := [true, false], ro := [0, 1, 2, 8, 11, 12, 13, 14, 15, 16, 17, 18, 19, 22, 23, 24, 25, 9, 6], nx := 200 }
def r35_upTo.Λ (syms : (List Tm)) (size : Int) (most : Int) : Nat → Option (Loop (ElT [.lst (.lst (.nm 0))])) := fun id =>
  if id = 0 then some (mkLoop r35_upTo.L0
    (fun (c_ : (List Tm) × Int × Int) (s_ : (List (List Tm)) × Int) => match c_, s_ with | (c_syms, c_size, c_most), (out, n) => c_syms = syms ∧ c_size = size ∧ c_most = most ∧ 0 ≤ n ∧ n ≤ size + 1 ∧ out.length ≤ most)
    (fun (c_ : (List Tm) × Int × Int) (s_ : (List (List Tm)) × Int) => match c_, s_ with | (c_syms, c_size, c_most), (out, n) => (size + 1 - n).toNat)
    (fun (c_ : (List Tm) × Int × Int) (s_ : (List (List Tm)) × Int) => match c_, s_ with | (c_syms, c_size, c_most), (out, n) => .brk (Sp.inL most (Sp.lists (some most.toNat) syms) (size + 1 - n).toNat out n.toNat)) [] false) else
  if id = 2 then some (mkLoop r35_upTo.L2
    (fun (c_ : Int × (List (List Tm))) (s_ : (List (List Tm)) × Int) => match c_, s_ with | (c_most, l), (out, i) => c_most = most ∧ 0 ≤ i ∧ i ≤ l.length ∧ out.length ≤ most ∧ l.length ≤ 5000)
    (fun (c_ : Int × (List (List Tm))) (s_ : (List (List Tm)) × Int) => match c_, s_ with | (c_most, l), (out, i) => (l.length - i : Int).toNat)
    (fun (c_ : Int × (List (List Tm))) (s_ : (List (List Tm)) × Int) => match c_, s_ with | (c_most, l), (out, i) => .brk (Sp.app most out (l.drop i.toNat), Sp.appK most out l i)) [] false) else
  none
def r35_upTo.C : Ctr := pureCtr [.lst (.nm 0), .int .i64, .int .i64] [.lst (.lst (.nm 0))] (some (fun (a_ : (List Tm) × Int × Int) => match a_ with | (syms, size, most) => -1 ≤ size ∧ size ≤ 6 ∧ 0 < most ∧ most ≤ 5000 ∧ syms.length ≤ 20)) (fun (a_ : (List Tm) × Int × Int) => match a_ with | (syms, size, most) => (Sp.upTo (some most.toNat) syms size))
def r35_valuesOf.L0 : LD := { cs := [1, 3], cts := [.lst (.nm 0), .int .i64], pts := [], vs := [9, 10], os := [], vts := [.lst (.lst (.nm 0)), .int .i64], own := [true, false], ro := [0, 1, 2, 3, 8, 13, 14], nx := 100 }
def r35_valuesOf.L2 : LD := { cs := [3, 11], cts := [.int .i64, .lst (.lst (.nm 0))], pts := [], vs := [9, 12], os := [], vts := [.lst (.lst (.nm 0)), .int .i64], own := [true, false], ro := [10, 0, 1, 2, 3, 8, 13, 14, 39, 40, 41, 42, 43, 44, 45, 11], nx := 200 }
def r35_valuesOf.Λ (kind : Int) (syms : (List Tm)) (size : Int) (most : Int) : Nat → Option (Loop (ElT [.lst (.lst (.nm 0))])) := fun id =>
  if id = 0 then some (mkLoop r35_valuesOf.L0
    (fun (c_ : (List Tm) × Int) (s_ : (List (List Tm)) × Int) => match c_, s_ with | (c_syms, c_most), (out, i) => c_syms = syms ∧ c_most = most ∧ 0 ≤ i ∧ i ≤ syms.length ∧ out.length ≤ most)
    (fun (c_ : (List Tm) × Int) (s_ : (List (List Tm)) × Int) => match c_, s_ with | (c_syms, c_most), (out, i) => (syms.length - i : Int).toNat)
    (fun (c_ : (List Tm) × Int) (s_ : (List (List Tm)) × Int) => match c_, s_ with | (c_syms, c_most), (out, i) => .brk (Sp.app most out ((syms.drop i.toNat).map fun t => [t]), Sp.appK most out syms i)) [] false) else
  if id = 2 then some (mkLoop r35_valuesOf.L2
    (fun (c_ : Int × (List (List Tm))) (s_ : (List (List Tm)) × Int) => match c_, s_ with | (c_most, l), (out, i) => c_most = most ∧ 0 ≤ i ∧ i ≤ l.length ∧ out.length ≤ most ∧ l.length ≤ 5000)
    (fun (c_ : Int × (List (List Tm))) (s_ : (List (List Tm)) × Int) => match c_, s_ with | (c_most, l), (out, i) => (l.length - i : Int).toNat)
    (fun (c_ : Int × (List (List Tm))) (s_ : (List (List Tm)) × Int) => match c_, s_ with | (c_most, l), (out, i) => .brk (Sp.app most out ((l.drop i.toNat).map fun k => [Sp.grp k]), Sp.appK most out l i)) [] false) else
  none
def r35_valuesOf.C : Ctr := pureCtr [.int .i64, .lst (.nm 0), .int .i64, .int .i64] [.lst (.lst (.nm 0))] (some (fun (a_ : Int × (List Tm) × Int × Int) => match a_ with | (kind, syms, size, most) => 0 ≤ size ∧ size ≤ 6 ∧ 0 < most ∧ most ≤ 5000 ∧ syms.length ≤ 20)) (fun (a_ : Int × (List Tm) × Int × Int) => match a_ with | (kind, syms, size, most) => (Sp.valuesOf (some most.toNat) kind syms size))
def r35_Values.L0 : LD := { cs := [0], cts := [.lst (.str)], pts := [], vs := [10], os := [], vts := [.int .i64], own := [false], ro := [0, 1, 2, 3, 23, 24, 25, 26, 27, 28, 29, 30, 31, 32, 33, 34, 35, 36, 37, 38, 39, 40, 41, 42, 43, 44], nx := 100 }
def r35_Values.L2 : LD := { cs := [1], cts := [.lst (.nm 0)], pts := [], vs := [13], os := [], vts := [.int .i64], own := [false], ro := [10, 0, 1, 2, 3, 23, 24, 25, 26, 27, 28, 29, 30, 31, 32, 33, 34, 35, 36, 37, 38, 39, 40, 41, 42, 43, 44], nx := 200 }
def r35_Values.L4 : LD := { cs := [0], cts := [.lst (.str)], pts := [], vs := [14], os := [], vts := [.int .i64], own := [false], ro := [13, 10, 0, 1, 2, 3, 23, 24, 25, 26, 27, 28, 29, 30, 31, 32, 33, 34, 35, 36, 37, 38, 39, 40, 41, 42, 43, 44], nx := 300 }
def r35_Values.L6 : LD := { cs := [0, 1, 2, 3], cts := [.lst (.str), .lst (.nm 0), .int .i64, .int .i64], pts := [], vs := [15, 16], os := [], vts := [.lst (.lst (.nm 3)), .int .i64], own := [true, false], ro := [14, 13, 10, 0, 1, 2, 3, 23, 24, 25, 26, 27, 28, 29, 30, 31, 32, 33, 34, 35, 36, 37, 38, 39, 40, 41, 42, 43, 44, 96, 97, 98, 99, 100, 101, 102], nx := 400 }
def r35_Values.L8 : LD := { cs := [0, 3, 15, 16, 19], cts := [.lst (.str), .int .i64, .lst (.lst (.nm 3)), .int .i64, .lst (.lst (.nm 0))], pts := [], vs := [20, 21], os := [], vts := [.lst (.lst (.nm 3)), .int .i64], own := [true, false], ro := [0, 1, 2, 3, 15, 16, 103, 104, 108, 109, 110, 111, 112, 107, 113, 114, 17, 18, 115, 116, 117, 118, 119, 120, 19, 14, 13, 10, 23, 24, 25, 26, 27, 28, 29, 30, 31, 32, 33, 34, 35, 36, 37, 38, 39, 40, 41, 42, 43, 44, 96, 97, 98, 99, 100, 101, 102], nx := 500 }
def r35_Values.L10 : LD := { cs := [0, 3, 15, 16, 19, 21], cts := [.lst (.str), .int .i64, .lst (.lst (.nm 3)), .int .i64, .lst (.lst (.nm 0)), .int .i64], pts := [], vs := [20, 22], os := [], vts := [.lst (.lst (.nm 3)), .int .i64], own := [true, false], ro := [0, 3, 15, 16, 19, 21, 121, 122, 123, 124, 1, 2, 103, 104, 108, 109, 110, 111, 112, 107, 113, 114, 17, 18, 115, 116, 117, 118, 119, 120, 14, 13, 10, 23, 24, 25, 26, 27, 28, 29, 30, 31, 32, 33, 34, 35, 36, 37, 38, 39, 40, 41, 42, 43, 44, 96, 97, 98, 99, 100, 101, 102], nx := 600 }
def r35_Values.Λ (vars : (List ByteArray)) (syms : (List Tm)) (size : Int) (most : Int) : Nat → Option (Loop (ElT [.lst (.lst (.nm 3)), .int .i64])) := fun id =>
  if id = 0 then some (mkLoop r35_Values.L0
    (fun (c_ : (List ByteArray)) (s_ : Int) => match c_, s_ with | c_vars, i => c_vars = vars ∧ 0 ≤ i ∧ i ≤ vars.length)
    (fun (c_ : (List ByteArray)) (s_ : Int) => match c_, s_ with | c_vars, i => (vars.length - i : Int).toNat)
    (fun (c_ : (List ByteArray)) (s_ : Int) => match c_, s_ with | c_vars, i => if (vars.drop i.toNat).all Sp.isVarN = true then .brk (vars.length : Int) else .ret ([], 2)) [] true) else
  if id = 2 then some (mkLoop r35_Values.L2
    (fun (c_ : (List Tm)) (s_ : Int) => match c_, s_ with | c_syms, i => c_syms = syms ∧ 0 ≤ i ∧ i ≤ syms.length ∧ Sp.okL syms)
    (fun (c_ : (List Tm)) (s_ : Int) => match c_, s_ with | c_syms, i => (syms.length - i : Int).toNat)
    (fun (c_ : (List Tm)) (s_ : Int) => match c_, s_ with | c_syms, i => if (syms.drop i.toNat).all Sp.symOK = true then .brk (syms.length : Int) else .ret ([], 2)) [] true) else
  if id = 4 then some (mkLoop r35_Values.L4
    (fun (c_ : (List ByteArray)) (s_ : Int) => match c_, s_ with | c_vars, i => c_vars = vars ∧ 0 ≤ i ∧ i ≤ vars.length)
    (fun (c_ : (List ByteArray)) (s_ : Int) => match c_, s_ with | c_vars, i => (vars.length - i : Int).toNat)
    (fun (c_ : (List ByteArray)) (s_ : Int) => match c_, s_ with | c_vars, i => if Sp.dupFrom vars i.toNat = true then .ret ([], 10) else .brk (vars.length : Int)) [] true) else
  if id = 6 then some (mkLoop r35_Values.L6
    (fun (c_ : (List ByteArray) × (List Tm) × Int × Int) (s_ : (List (List Bnd)) × Int) => match c_, s_ with | (c_vars, c_syms, c_size, c_most), (out, i) => c_vars = vars ∧ c_syms = syms ∧ c_size = size ∧ c_most = most ∧ -1 ≤ i ∧ i < vars.length ∧ out = Sp.prod (some most.toNat) syms size (vars.drop (i + 1).toNat) ∧ Sp.permit vars syms size most = 0 ∧ most ≠ 0)
    (fun (c_ : (List ByteArray) × (List Tm) × Int × Int) (s_ : (List (List Bnd)) × Int) => match c_, s_ with | (c_vars, c_syms, c_size, c_most), (out, i) => (i + 1).toNat)
    (fun (c_ : (List ByteArray) × (List Tm) × Int × Int) (s_ : (List (List Bnd)) × Int) => match c_, s_ with | (c_vars, c_syms, c_size, c_most), (out, i) => .brk (Sp.prod (some most.toNat) syms size vars, -1)) [] false) else
  if id = 8 then some (mkLoop r35_Values.L8
    (fun (c_ : (List ByteArray) × Int × (List (List Bnd)) × Int × (List (List Tm))) (s_ : (List (List Bnd)) × Int) => match c_, s_ with | (c_vars, c_most, out, i, l), (next, k) => c_vars = vars ∧ c_most = most ∧ 0 ≤ i ∧ i < vars.length ∧ 0 ≤ k ∧ k ≤ l.length ∧ next.length ≤ most ∧ l.length ≤ 5000 ∧ out.length ≤ 5000 ∧ (∀ o ∈ out, o.length ≤ 100) ∧ (∀ v ∈ l, Sp.okL v))
    (fun (c_ : (List ByteArray) × Int × (List (List Bnd)) × Int × (List (List Tm))) (s_ : (List (List Bnd)) × Int) => match c_, s_ with | (c_vars, c_most, out, i, l), (next, k) => (l.length - k : Int).toNat)
    (fun (c_ : (List ByteArray) × Int × (List (List Bnd)) × Int × (List (List Tm))) (s_ : (List (List Bnd)) × Int) => match c_, s_ with | (c_vars, c_most, out, i, l), (next, k) => .brk (Sp.app most next ((l.drop k.toNat).flatMap fun v => out.map (Bnd.mk (nth ⟨#[]⟩ vars i) v :: ·)), (l.length : Int))) [] false) else
  if id = 10 then some (mkLoop r35_Values.L10
    (fun (c_ : (List ByteArray) × Int × (List (List Bnd)) × Int × (List (List Tm)) × Int) (s_ : (List (List Bnd)) × Int) => match c_, s_ with | (c_vars, c_most, out, i, l, k), (next, j) => c_vars = vars ∧ c_most = most ∧ 0 ≤ i ∧ i < vars.length ∧ 0 ≤ k ∧ k < l.length ∧ 0 ≤ j ∧ j ≤ out.length ∧ next.length ≤ most ∧ l.length ≤ 5000 ∧ out.length ≤ 5000 ∧ (∀ o ∈ out, o.length ≤ 100) ∧ (∀ v ∈ l, Sp.okL v))
    (fun (c_ : (List ByteArray) × Int × (List (List Bnd)) × Int × (List (List Tm)) × Int) (s_ : (List (List Bnd)) × Int) => match c_, s_ with | (c_vars, c_most, out, i, l, k), (next, j) => (out.length - j : Int).toNat)
    (fun (c_ : (List ByteArray) × Int × (List (List Bnd)) × Int × (List (List Tm)) × Int) (s_ : (List (List Bnd)) × Int) => match c_, s_ with | (c_vars, c_most, out, i, l, k), (next, j) => .brk (Sp.app most next ((out.drop j.toNat).map (Bnd.mk (nth ⟨#[]⟩ vars i) (nth ([] : List Tm) l k) :: ·)), Sp.appK most next out j)) [] false) else
  none
def r35_Values.C : Ctr := pureCtr [.lst (.str), .lst (.nm 0), .int .i64, .int .i64] [.lst (.lst (.nm 3)), .int .i64] (some (fun (a_ : (List ByteArray) × (List Tm) × Int × Int) => match a_ with | (vars, syms, size, most) => Sp.okL syms)) (fun (a_ : (List ByteArray) × (List Tm) × Int × Int) => match a_ with | (vars, syms, size, most) => (Sp.valuesR vars syms size most))
def l35_sameBinds.L0 : LD := { cs := [0, 1], cts := [.lst (.nm 3), .lst (.nm 3)], pts := [], vs := [5], os := [], vts := [.int .i64], own := [false], ro := [0, 1, 6, 7, 8, 9, 10], nx := 100 }
def l35_sameBinds.Λ (a : (List Bnd)) (b : (List Bnd)) : Nat → Option (Loop (ElT [.bool])) := fun id =>
  if id = 0 then some (mkLoop l35_sameBinds.L0
    (fun (c_ : (List Bnd) × (List Bnd)) (s_ : Int) => match c_, s_ with | (c_a, c_b), i => c_a = a ∧ c_b = b ∧ 0 ≤ i ∧ i ≤ a.length ∧ a.length = b.length)
    (fun (c_ : (List Bnd) × (List Bnd)) (s_ : Int) => match c_, s_ with | (c_a, c_b), i => (a.length - i : Int).toNat)
    (fun (c_ : (List Bnd) × (List Bnd)) (s_ : Int) => match c_, s_ with | (c_a, c_b), i => if Sp.sameBs (a.drop i.toNat) (b.drop i.toNat) = true then .brk (a.length : Int) else .ret false) [] true) else
  none
def l35_sameBinds.C : Ctr := pureCtr [.lst (.nm 3), .lst (.nm 3)] [.bool] none (fun (a_ : (List Bnd) × (List Bnd)) => match a_ with | (a, b) => (Sp.sameBs a b))
end Go.AL

namespace Go.AL
set_option linter.unusedVariables false
set_option maxRecDepth 10000
def strings_Contains.t (s : ByteArray) (sub : ByteArray) : Prop :=
  (((ByteArray.size sub) = 1) ∧ (∀ i : Int, (((Sp.index1 s sub) = i) → ((decide (0 ≤ (Sp.index1 s sub))) = (decide (0 ≤ i))))))
theorem strings_Contains.w (s : ByteArray) (sub : ByteArray) : wpF Go.Proofs.Try.prog (lookC [(88, strings_Index.C)]) 87 [.str, .str] [.bool] (fun _ => none) (fun _ => none) (s, sub) (fun r => (decide (0 ≤ Sp.index1 s sub)) = r) = strings_Contains.t s sub := by kernel_rfl
def slices_Index.l0 (l : (List ByteArray)) (s : ByteArray) : Prop :=
  (∀ l1 : (List ByteArray), (∀ s1 : ByteArray, (∀ i : Int, (∀ i1 : Int, (((l1 = l) ∧ ((s1 = s) ∧ ((i = (↑(List.length l) : Int)) ∧ ((0 ≤ i1) ∧ ((i1 ≤ (↑(List.length l) : Int)) ∧ ((List.length l) < 9223372036854775808)))))) → (ifB (decide (i1 < i)) (((0 ≤ i1) ∧ (i1 < (↑(List.length l1) : Int))) ∧ (ifB (decide (s1 = (nth (⟨#[]⟩ : ByteArray) l1 i1))) (((ite ((Sp.hasS (List.drop (Int.toNat i1) l) s) = Bool.true) (LOut.ret (i1 + (Sp.idxS (List.drop (Int.toNat i1) l) s))) (LOut.brk (↑(List.length l) : Int))) : (LOut Int Int)) = (LOut.ret i1)) ((inR Go.IntKind.i64 (i1 + 1)) ∧ (((l1 = l) ∧ ((s1 = s) ∧ ((i = (↑(List.length l) : Int)) ∧ ((0 ≤ (i1 + 1)) ∧ (((i1 + 1) ≤ (↑(List.length l) : Int)) ∧ ((List.length l) < 9223372036854775808)))))) ∧ (((Int.toNat ((↑(List.length l) : Int) - (i1 + 1))) < (Int.toNat ((↑(List.length l) : Int) - i1))) ∧ (((ite ((Sp.hasS (List.drop (Int.toNat (i1 + 1)) l) s) = Bool.true) (LOut.ret ((i1 + 1) + (Sp.idxS (List.drop (Int.toNat (i1 + 1)) l) s))) (LOut.brk (↑(List.length l) : Int))) : (LOut Int Int)) = (ite ((Sp.hasS (List.drop (Int.toNat i1) l) s) = Bool.true) (LOut.ret (i1 + (Sp.idxS (List.drop (Int.toNat i1) l) s))) (LOut.brk (↑(List.length l) : Int))))))))) (((ite ((Sp.hasS (List.drop (Int.toNat i1) l) s) = Bool.true) (LOut.ret (i1 + (Sp.idxS (List.drop (Int.toNat i1) l) s))) (LOut.brk (↑(List.length l) : Int))) : (LOut Int Int)) = (LOut.brk i1))))))))
def slices_Index.t (l : (List ByteArray)) (s : ByteArray) : Prop :=
  (((List.length l) < 9223372036854775808) → (((l = l) ∧ ((s = s) ∧ (((↑(List.length l) : Int) = (↑(List.length l) : Int)) ∧ (((0 : Int) ≤ 0) ∧ ((0 ≤ (↑(List.length l) : Int)) ∧ ((List.length l) < 9223372036854775808)))))) ∧ ((slices_Index.l0 l s) ∧ ((∀ i : Int, ((((ite ((Sp.hasS (List.drop (Int.toNat 0) l) s) = Bool.true) (LOut.ret (0 + (Sp.idxS (List.drop (Int.toNat 0) l) s))) (LOut.brk (↑(List.length l) : Int))) : (LOut Int Int)) = (LOut.brk i)) → ((Sp.idxS l s) = (-1)))) ∧ (∀ i : Int, ((((ite ((Sp.hasS (List.drop (Int.toNat 0) l) s) = Bool.true) (LOut.ret (0 + (Sp.idxS (List.drop (Int.toNat 0) l) s))) (LOut.brk (↑(List.length l) : Int))) : (LOut Int Int)) = (LOut.ret i)) → ((Sp.idxS l s) = i)))))))
theorem slices_Index.w (l : (List ByteArray)) (s : ByteArray) : wpF Go.Proofs.Try.prog (lookC []) 89 [.lst (.str), .str] [.int .i64] (slices_Index.Λ l s) (fun _ => none) (l, s) (fun r => (Sp.idxS l s) = r) = slices_Index.t l s := by kernel_rfl
def slices_Contains.t (l : (List ByteArray)) (s : ByteArray) : Prop :=
  (∀ i : Int, (((Sp.idxS l s) = i) → ((Sp.hasS l s) = (decide (0 ≤ i)))))
theorem slices_Contains.w (l : (List ByteArray)) (s : ByteArray) : wpF Go.Proofs.Try.prog (lookC [(89, slices_Index.C)]) 74 [.lst (.str), .str] [.bool] (fun _ => none) (fun _ => none) (l, s) (fun r => (Sp.hasS l s) = r) = slices_Contains.t l s := by kernel_rfl
def term_Variable.t (s : ByteArray) : Prop :=
  (((ByteArray.size s) < 9223372036854775808) → ((((decide ((↑(ByteArray.size s) : Int) < 2)) = Bool.false) → (((0 : Int) ≤ 1) ∧ (1 < (↑(ByteArray.size s) : Int)))) ∧ (((((decide ((↑(ByteArray.size s) : Int) < 2)) || (!(decide ((byteAt s (Int.toNat 1)) = 46)))) = Bool.false) → (((0 : Int) ≤ 0) ∧ (((0 : Int) ≤ 1) ∧ (1 ≤ (↑(ByteArray.size s) : Int))))) ∧ (((((decide ((↑(ByteArray.size s) : Int) < 2)) || (!(decide ((byteAt s (Int.toNat 1)) = 46)))) = Bool.false) → ((ByteArray.size (ByteArray.extract s (Int.toNat 0) (Int.toNat 1))) = 1)) ∧ (ifB (((decide ((↑(ByteArray.size s) : Int) < 2)) || (!(decide ((byteAt s (Int.toNat 1)) = 46)))) || (!(decide (0 ≤ (Sp.index1 (⟨#[115, 116, 101]⟩ : ByteArray) (ByteArray.extract s (Int.toNat 0) (Int.toNat 1))))))) ((Sp.vari s) = ((Tm.mk 0 (⟨#[]⟩ : ByteArray) ([] : (List Tm))), Bool.false)) ((((0 : Int) ≤ 0) ∧ (((0 : Int) ≤ 1) ∧ (1 ≤ (↑(ByteArray.size s) : Int)))) ∧ (((ByteArray.size (ByteArray.extract s (Int.toNat 0) (Int.toNat 1))) = 1) ∧ ((inR Go.IntKind.i64 (5 + (Sp.index1 (⟨#[115, 116, 101]⟩ : ByteArray) (ByteArray.extract s (Int.toNat 0) (Int.toNat 1))))) ∧ ((((0 : Int) ≤ 2) ∧ ((2 ≤ (↑(ByteArray.size s) : Int)) ∧ ((↑(ByteArray.size s) : Int) ≤ (↑(ByteArray.size s) : Int)))) ∧ (∀ b : Bool, (((Sp.right (Tm.mk (5 + (Sp.index1 (⟨#[115, 116, 101]⟩ : ByteArray) (ByteArray.extract s (Int.toNat 0) (Int.toNat 1)))) (ByteArray.extract s (Int.toNat 2) (Int.toNat (↑(ByteArray.size s) : Int))) ([] : (List Tm)))) = b) → (ifB (!b) ((Sp.vari s) = ((Tm.mk 0 (⟨#[]⟩ : ByteArray) ([] : (List Tm))), Bool.false)) ((Sp.vari s) = ((Tm.mk (5 + (Sp.index1 (⟨#[115, 116, 101]⟩ : ByteArray) (ByteArray.extract s (Int.toNat 0) (Int.toNat 1)))) (ByteArray.extract s (Int.toNat 2) (Int.toNat (↑(ByteArray.size s) : Int))) ([] : (List Tm))), Bool.true))))))))))))))
theorem term_Variable.w (s : ByteArray) : wpF Go.Proofs.Try.prog (lookC [(85, term_right.C), (87, strings_Contains.C), (88, strings_Index.C)]) 73 [.str] [.nm 0, .bool] (fun _ => none) (fun _ => none) s (fun r => (Sp.vari s) = r) = term_Variable.t s := by kernel_rfl
def equal_permitted.l1 (vars : (List ByteArray)) : Prop :=
  (∀ l : (List ByteArray), (∀ i : Int, (∀ i1 : Int, (((l = vars) ∧ ((i = (↑(List.length vars) : Int)) ∧ ((0 ≤ i1) ∧ ((i1 ≤ (↑(List.length vars) : Int)) ∧ ((List.length vars) ≤ 20))))) → (ifB (decide (i1 < i)) (((0 ≤ i1) ∧ (i1 < (↑(List.length l) : Int))) ∧ (∀ x : Tm, (∀ b : Bool, (((Sp.vari (nth (⟨#[]⟩ : ByteArray) l i1)) = (x, b)) → (ifB (!b) (((ite ((List.all (List.drop (Int.toNat i1) vars) Sp.isVarN) = Bool.true) (LOut.brk (↑(List.length vars) : Int)) (LOut.ret 2)) : (LOut Int Int)) = (LOut.ret 2)) ((inR Go.IntKind.i64 (i1 + 1)) ∧ (((l = vars) ∧ ((i = (↑(List.length vars) : Int)) ∧ ((0 ≤ (i1 + 1)) ∧ (((i1 + 1) ≤ (↑(List.length vars) : Int)) ∧ ((List.length vars) ≤ 20))))) ∧ (((Int.toNat ((↑(List.length vars) : Int) - (i1 + 1))) < (Int.toNat ((↑(List.length vars) : Int) - i1))) ∧ (((ite ((List.all (List.drop (Int.toNat (i1 + 1)) vars) Sp.isVarN) = Bool.true) (LOut.brk (↑(List.length vars) : Int)) (LOut.ret 2)) : (LOut Int Int)) = (ite ((List.all (List.drop (Int.toNat i1) vars) Sp.isVarN) = Bool.true) (LOut.brk (↑(List.length vars) : Int)) (LOut.ret 2))))))))))) (((ite ((List.all (List.drop (Int.toNat i1) vars) Sp.isVarN) = Bool.true) (LOut.brk (↑(List.length vars) : Int)) (LOut.ret 2)) : (LOut Int Int)) = (LOut.brk i1)))))))
def equal_permitted.l3 (syms : (List Tm)) : Prop :=
  (∀ l : (List Tm), (∀ i1 : Int, (∀ i2 : Int, (((l = syms) ∧ ((i1 = (↑(List.length syms) : Int)) ∧ ((0 ≤ i2) ∧ ((i2 ≤ (↑(List.length syms) : Int)) ∧ (((List.length syms) ≤ 20) ∧ (Sp.okL syms)))))) → (ifB (decide (i2 < i1)) (((0 ≤ i2) ∧ (i2 < (↑(List.length l) : Int))) ∧ (∀ b : Bool, (((Sp.sym (Tm.mk (Tm.kind (nth (Inhabited.default) l i2)) (Tm.text (nth (Inhabited.default) l i2)) (Tm.kids (nth (Inhabited.default) l i2)))) = b) → ((((!b) = Bool.false) → (Sp.okL ((Tm.mk (Tm.kind (nth (Inhabited.default) l i2)) (Tm.text (nth (Inhabited.default) l i2)) (Tm.kids (nth (Inhabited.default) l i2))) :: ([] : (List Tm))))) ∧ (ifB ((!b) || (!(decide ((Sp.wrong ((Tm.mk (Tm.kind (nth (Inhabited.default) l i2)) (Tm.text (nth (Inhabited.default) l i2)) (Tm.kids (nth (Inhabited.default) l i2))) :: ([] : (List Tm))) 4) = 0)))) (((ite ((List.all (List.drop (Int.toNat i2) syms) Sp.symOK) = Bool.true) (LOut.brk (↑(List.length syms) : Int)) (LOut.ret 2)) : (LOut Int Int)) = (LOut.ret 2)) ((inR Go.IntKind.i64 (i2 + 1)) ∧ (((l = syms) ∧ ((i1 = (↑(List.length syms) : Int)) ∧ ((0 ≤ (i2 + 1)) ∧ (((i2 + 1) ≤ (↑(List.length syms) : Int)) ∧ (((List.length syms) ≤ 20) ∧ (Sp.okL syms)))))) ∧ (((Int.toNat ((↑(List.length syms) : Int) - (i2 + 1))) < (Int.toNat ((↑(List.length syms) : Int) - i2))) ∧ (((ite ((List.all (List.drop (Int.toNat (i2 + 1)) syms) Sp.symOK) = Bool.true) (LOut.brk (↑(List.length syms) : Int)) (LOut.ret 2)) : (LOut Int Int)) = (ite ((List.all (List.drop (Int.toNat i2) syms) Sp.symOK) = Bool.true) (LOut.brk (↑(List.length syms) : Int)) (LOut.ret 2))))))))))) (((ite ((List.all (List.drop (Int.toNat i2) syms) Sp.symOK) = Bool.true) (LOut.brk (↑(List.length syms) : Int)) (LOut.ret 2)) : (LOut Int Int)) = (LOut.brk i2)))))))
def equal_permitted.l5 (vars : (List ByteArray)) : Prop :=
  (∀ l : (List ByteArray), (∀ l1 : (List ByteArray), (∀ i2 : Int, (∀ i3 : Int, (((l = vars) ∧ ((l1 = vars) ∧ ((i2 = (↑(List.length vars) : Int)) ∧ ((0 ≤ i3) ∧ ((i3 ≤ (↑(List.length vars) : Int)) ∧ ((List.length vars) ≤ 20)))))) → (ifB (decide (i3 < i2)) (((0 ≤ i3) ∧ (i3 < (↑(List.length l1) : Int))) ∧ (((0 ≤ i3) ∧ (i3 ≤ (↑(List.length l) : Int))) ∧ (∀ b : Bool, (((Sp.hasS (List.take (Int.toNat i3) l) (nth (⟨#[]⟩ : ByteArray) l1 i3)) = b) → (ifB b (((ite ((Sp.dupFrom vars (Int.toNat i3)) = Bool.true) (LOut.ret 10) (LOut.brk (↑(List.length vars) : Int))) : (LOut Int Int)) = (LOut.ret 10)) ((inR Go.IntKind.i64 (i3 + 1)) ∧ (((l = vars) ∧ ((l1 = vars) ∧ ((i2 = (↑(List.length vars) : Int)) ∧ ((0 ≤ (i3 + 1)) ∧ (((i3 + 1) ≤ (↑(List.length vars) : Int)) ∧ ((List.length vars) ≤ 20)))))) ∧ (((Int.toNat ((↑(List.length vars) : Int) - (i3 + 1))) < (Int.toNat ((↑(List.length vars) : Int) - i3))) ∧ (((ite ((Sp.dupFrom vars (Int.toNat (i3 + 1))) = Bool.true) (LOut.ret 10) (LOut.brk (↑(List.length vars) : Int))) : (LOut Int Int)) = (ite ((Sp.dupFrom vars (Int.toNat i3)) = Bool.true) (LOut.ret 10) (LOut.brk (↑(List.length vars) : Int)))))))))))) (((ite ((Sp.dupFrom vars (Int.toNat i3)) = Bool.true) (LOut.ret 10) (LOut.brk (↑(List.length vars) : Int))) : (LOut Int Int)) = (LOut.brk i3))))))))
def equal_permitted.t (vars : (List ByteArray)) (syms : (List Tm)) (size : Int) (most : Int) : Prop :=
  (ifB ((((decide (size < 0)) || (decide (6 < size))) || (decide (most < 0))) || (decide (5000 < most))) ((Sp.permit vars syms size most) = 4) (((List.length vars) < 9223372036854775808) → (ifB ((decide (20 < (↑(List.length vars) : Int))) || (decide (20 < (↑(List.length syms) : Int)))) ((Sp.permit vars syms size most) = 5) (((List.length vars) < 9223372036854775808) → (((vars = vars) ∧ (((↑(List.length vars) : Int) = (↑(List.length vars) : Int)) ∧ (((0 : Int) ≤ 0) ∧ ((0 ≤ (↑(List.length vars) : Int)) ∧ ((List.length vars) ≤ 20))))) ∧ ((equal_permitted.l1 vars) ∧ ((∀ i : Int, ((((ite ((List.all (List.drop (Int.toNat 0) vars) Sp.isVarN) = Bool.true) (LOut.brk (↑(List.length vars) : Int)) (LOut.ret 2)) : (LOut Int Int)) = (LOut.brk i)) → (((List.length syms) < 9223372036854775808) → (((syms = syms) ∧ (((↑(List.length syms) : Int) = (↑(List.length syms) : Int)) ∧ (((0 : Int) ≤ 0) ∧ ((0 ≤ (↑(List.length syms) : Int)) ∧ (((List.length syms) ≤ 20) ∧ (Sp.okL syms)))))) ∧ ((equal_permitted.l3 syms) ∧ ((∀ i1 : Int, ((((ite ((List.all (List.drop (Int.toNat 0) syms) Sp.symOK) = Bool.true) (LOut.brk (↑(List.length syms) : Int)) (LOut.ret 2)) : (LOut Int Int)) = (LOut.brk i1)) → (((List.length vars) < 9223372036854775808) → (((vars = vars) ∧ ((vars = vars) ∧ (((↑(List.length vars) : Int) = (↑(List.length vars) : Int)) ∧ (((0 : Int) ≤ 0) ∧ ((0 ≤ (↑(List.length vars) : Int)) ∧ ((List.length vars) ≤ 20)))))) ∧ ((equal_permitted.l5 vars) ∧ ((∀ i2 : Int, ((((ite ((Sp.dupFrom vars (Int.toNat 0)) = Bool.true) (LOut.ret 10) (LOut.brk (↑(List.length vars) : Int))) : (LOut Int Int)) = (LOut.brk i2)) → ((Sp.permit vars syms size most) = 0))) ∧ (∀ i2 : Int, ((((ite ((Sp.dupFrom vars (Int.toNat 0)) = Bool.true) (LOut.ret 10) (LOut.brk (↑(List.length vars) : Int))) : (LOut Int Int)) = (LOut.ret i2)) → ((Sp.permit vars syms size most) = i2))))))))) ∧ (∀ i1 : Int, ((((ite ((List.all (List.drop (Int.toNat 0) syms) Sp.symOK) = Bool.true) (LOut.brk (↑(List.length syms) : Int)) (LOut.ret 2)) : (LOut Int Int)) = (LOut.ret i1)) → ((Sp.permit vars syms size most) = i1))))))))) ∧ (∀ i : Int, ((((ite ((List.all (List.drop (Int.toNat 0) vars) Sp.isVarN) = Bool.true) (LOut.brk (↑(List.length vars) : Int)) (LOut.ret 2)) : (LOut Int Int)) = (LOut.ret i)) → ((Sp.permit vars syms size most) = i))))))))))
theorem equal_permitted.w (vars : (List ByteArray)) (syms : (List Tm)) (size : Int) (most : Int) : wpF Go.Proofs.Try.prog (lookC [(28, term_Value.C), (69, term_IsSymbol.C), (73, term_Variable.C), (74, slices_Contains.C)]) 47 [.lst (.str), .lst (.nm 0), .int .i64, .int .i64] [.int .i64] (equal_permitted.Λ vars syms size most) (fun _ => none) (vars, syms, size, most) (fun r => (Sp.permit vars syms size most) = r) = equal_permitted.t vars syms size most := by kernel_rfl
def r01_Has.l0 (l : (List ByteArray)) (s : ByteArray) : Prop :=
  (∀ l1 : (List ByteArray), (∀ s1 : ByteArray, (∀ i : Int, (((l1 = l) ∧ ((s1 = s) ∧ ((0 ≤ i) ∧ (i ≤ (↑(List.length l) : Int))))) → (((List.length l1) < 9223372036854775808) → (ifB (decide (i < (↑(List.length l1) : Int))) (((0 ≤ i) ∧ (i < (↑(List.length l1) : Int))) ∧ (ifB (decide ((nth (⟨#[]⟩ : ByteArray) l1 i) = s1)) (((ite ((Sp.hasS (List.drop (Int.toNat i) l) s) = Bool.true) (LOut.ret Bool.true) (LOut.brk (↑(List.length l) : Int))) : (LOut Int Bool)) = (LOut.ret Bool.true)) ((inR Go.IntKind.i64 (i + 1)) ∧ (((l1 = l) ∧ ((s1 = s) ∧ ((0 ≤ (i + 1)) ∧ ((i + 1) ≤ (↑(List.length l) : Int))))) ∧ (((Int.toNat ((↑(List.length l) : Int) - (i + 1))) < (Int.toNat ((↑(List.length l) : Int) - i))) ∧ (((ite ((Sp.hasS (List.drop (Int.toNat (i + 1)) l) s) = Bool.true) (LOut.ret Bool.true) (LOut.brk (↑(List.length l) : Int))) : (LOut Int Bool)) = (ite ((Sp.hasS (List.drop (Int.toNat i) l) s) = Bool.true) (LOut.ret Bool.true) (LOut.brk (↑(List.length l) : Int))))))))) (((ite ((Sp.hasS (List.drop (Int.toNat i) l) s) = Bool.true) (LOut.ret Bool.true) (LOut.brk (↑(List.length l) : Int))) : (LOut Int Bool)) = (LOut.brk i))))))))
def r01_Has.t (l : (List ByteArray)) (s : ByteArray) : Prop :=
  (((l = l) ∧ ((s = s) ∧ (((0 : Int) ≤ 0) ∧ (0 ≤ (↑(List.length l) : Int))))) ∧ ((r01_Has.l0 l s) ∧ ((∀ i : Int, ((((ite ((Sp.hasS (List.drop (Int.toNat 0) l) s) = Bool.true) (LOut.ret Bool.true) (LOut.brk (↑(List.length l) : Int))) : (LOut Int Bool)) = (LOut.brk i)) → ((Sp.hasS l s) = Bool.false))) ∧ (∀ b : Bool, ((((ite ((Sp.hasS (List.drop (Int.toNat 0) l) s) = Bool.true) (LOut.ret Bool.true) (LOut.brk (↑(List.length l) : Int))) : (LOut Int Bool)) = (LOut.ret b)) → ((Sp.hasS l s) = b))))))
theorem r01_Has.w (l : (List ByteArray)) (s : ByteArray) : wpF Go.Proofs.Try.prog (lookC []) 54 [.lst (.str), .str] [.bool] (r01_Has.Λ l s) (fun _ => none) (l, s) (fun r => (Sp.hasS l s) = r) = r01_Has.t l s := by kernel_rfl
def r01_Variable.t (s : ByteArray) : Prop :=
  (((ByteArray.size s) < 9223372036854775808) → ((((decide ((↑(ByteArray.size s) : Int) < 3)) = Bool.false) → (((0 : Int) ≤ 1) ∧ (1 < (↑(ByteArray.size s) : Int)))) ∧ (((((decide ((↑(ByteArray.size s) : Int) < 3)) || (!(decide ((byteAt s (Int.toNat 1)) = 46)))) = Bool.false) → (((0 : Int) ≤ 2) ∧ ((2 ≤ (↑(ByteArray.size s) : Int)) ∧ ((↑(ByteArray.size s) : Int) ≤ (↑(ByteArray.size s) : Int))))) ∧ (ifB (((decide ((↑(ByteArray.size s) : Int) < 3)) || (!(decide ((byteAt s (Int.toNat 1)) = 46)))) || (!(Sp.var (ByteArray.extract s (Int.toNat 2) (Int.toNat (↑(ByteArray.size s) : Int)))))) ((Sp.vari s) = ((Tm.mk 0 (⟨#[]⟩ : ByteArray) ([] : (List Tm))), Bool.false)) ((((0 : Int) ≤ 0) ∧ (0 < (↑(ByteArray.size s) : Int))) ∧ (ifB (decide ((byteAt s (Int.toNat 0)) = 115)) ((((0 : Int) ≤ 2) ∧ ((2 ≤ (↑(ByteArray.size s) : Int)) ∧ ((↑(ByteArray.size s) : Int) ≤ (↑(ByteArray.size s) : Int)))) ∧ ((Sp.vari s) = ((Tm.mk 5 (ByteArray.extract s (Int.toNat 2) (Int.toNat (↑(ByteArray.size s) : Int))) ([] : (List Tm))), Bool.true))) (ifB (decide ((byteAt s (Int.toNat 0)) = 116)) ((((0 : Int) ≤ 2) ∧ ((2 ≤ (↑(ByteArray.size s) : Int)) ∧ ((↑(ByteArray.size s) : Int) ≤ (↑(ByteArray.size s) : Int)))) ∧ ((Sp.vari s) = ((Tm.mk 6 (ByteArray.extract s (Int.toNat 2) (Int.toNat (↑(ByteArray.size s) : Int))) ([] : (List Tm))), Bool.true))) (ifB (decide ((byteAt s (Int.toNat 0)) = 101)) ((((0 : Int) ≤ 2) ∧ ((2 ≤ (↑(ByteArray.size s) : Int)) ∧ ((↑(ByteArray.size s) : Int) ≤ (↑(ByteArray.size s) : Int)))) ∧ ((Sp.vari s) = ((Tm.mk 7 (ByteArray.extract s (Int.toNat 2) (Int.toNat (↑(ByteArray.size s) : Int))) ([] : (List Tm))), Bool.true))) ((Sp.vari s) = ((Tm.mk 0 (⟨#[]⟩ : ByteArray) ([] : (List Tm))), Bool.false))))))))))
theorem r01_Variable.w (s : ByteArray) : wpF Go.Proofs.Try.prog (lookC [(81, r01_IsVar.C)]) 52 [.str] [.nm 0, .bool] (fun _ => none) (fun _ => none) s (fun r => (Sp.vari s) = r) = r01_Variable.t s := by kernel_rfl
def r35_lists.l2 (syms : (List Tm)) (most : Int) : Prop :=
  (∀ l4 : (List Tm), (∀ i2 : Int, (∀ l5 : (List (List Tm)), (∀ i3 : Int, (∀ l6 : (List (List Tm)), (∀ i4 : Int, (((l4 = syms) ∧ ((i2 = most) ∧ ((0 ≤ i3) ∧ ((i3 < (↑(List.length syms) : Int)) ∧ ((0 ≤ i4) ∧ ((i4 ≤ (↑(List.length l5) : Int)) ∧ (((↑(List.length l6) : Int) ≤ most) ∧ (((List.length l5) ≤ 5000) ∧ (∀ l7 : (List Tm), ((Membership.mem l5 l7) → ((List.length l7) ≤ 100))))))))))) → (((List.length l5) < 9223372036854775808) → (ifB ((decide (i4 < (↑(List.length l5) : Int))) && (decide ((↑(List.length l6) : Int) < i2))) (((0 ≤ i3) ∧ (i3 < (↑(List.length l4) : Int))) ∧ (((0 ≤ i4) ∧ (i4 < (↑(List.length l5) : Int))) ∧ ((((List.length ((nth (Inhabited.default) l4 i3) :: ([] : (List Tm)))) + (List.length (nth ([] : (List Tm)) l5 i4))) ≤ 8589934592) ∧ ((((List.length l6) + (List.length (((nth (Inhabited.default) l4 i3) :: (nth ([] : (List Tm)) l5 i4)) :: ([] : (List (List Tm)))))) ≤ 8589934592) ∧ ((inR Go.IntKind.i64 (i4 + 1)) ∧ (((l4 = syms) ∧ ((i2 = most) ∧ ((0 ≤ i3) ∧ ((i3 < (↑(List.length syms) : Int)) ∧ ((0 ≤ (i4 + 1)) ∧ (((i4 + 1) ≤ (↑(List.length l5) : Int)) ∧ (((↑(List.length (l6 ++ (((nth (Inhabited.default) l4 i3) :: (nth ([] : (List Tm)) l5 i4)) :: ([] : (List (List Tm)))))) : Int) ≤ most) ∧ (((List.length l5) ≤ 5000) ∧ (∀ l7 : (List Tm), ((Membership.mem l5 l7) → ((List.length l7) ≤ 100))))))))))) ∧ (((Int.toNat ((↑(List.length l5) : Int) - (i4 + 1))) < (Int.toNat ((↑(List.length l5) : Int) - i4))) ∧ (((LOut.brk ((Sp.app most (l6 ++ (((nth (Inhabited.default) l4 i3) :: (nth ([] : (List Tm)) l5 i4)) :: ([] : (List (List Tm))))) (List.map (fun l7 : (List Tm) => ((nth (Inhabited.default) syms i3) :: l7)) (List.drop (Int.toNat (i4 + 1)) l5))), (Sp.appK most (l6 ++ (((nth (Inhabited.default) l4 i3) :: (nth ([] : (List Tm)) l5 i4)) :: ([] : (List (List Tm))))) l5 (i4 + 1)))) : (LOut ((List (List Tm)) × Int) (List (List Tm)))) = (LOut.brk ((Sp.app most l6 (List.map (fun l7 : (List Tm) => ((nth (Inhabited.default) syms i3) :: l7)) (List.drop (Int.toNat i4) l5))), (Sp.appK most l6 l5 i4))))))))))) (((LOut.brk ((Sp.app most l6 (List.map (fun l7 : (List Tm) => ((nth (Inhabited.default) syms i3) :: l7)) (List.drop (Int.toNat i4) l5))), (Sp.appK most l6 l5 i4))) : (LOut ((List (List Tm)) × Int) (List (List Tm)))) = (LOut.brk (l6, i4))))))))))))
def r35_lists.l0 (syms : (List Tm)) (most : Int) : Prop :=
  (∀ l1 : (List Tm), (∀ i : Int, (∀ l2 : (List (List Tm)), (∀ l3 : (List (List Tm)), (∀ i1 : Int, (((l1 = syms) ∧ ((i = most) ∧ ((0 ≤ i1) ∧ ((i1 ≤ (↑(List.length syms) : Int)) ∧ (((↑(List.length l3) : Int) ≤ most) ∧ (((List.length l2) ≤ 5000) ∧ (∀ l4 : (List Tm), ((Membership.mem l2 l4) → ((List.length l4) ≤ 100))))))))) → (((List.length l1) < 9223372036854775808) → (ifB (decide (i1 < (↑(List.length l1) : Int))) (((l1 = syms) ∧ ((i = most) ∧ ((0 ≤ i1) ∧ ((i1 < (↑(List.length syms) : Int)) ∧ (((0 : Int) ≤ 0) ∧ ((0 ≤ (↑(List.length l2) : Int)) ∧ (((↑(List.length l3) : Int) ≤ most) ∧ (((List.length l2) ≤ 5000) ∧ (∀ l4 : (List Tm), ((Membership.mem l2 l4) → ((List.length l4) ≤ 100))))))))))) ∧ ((r35_lists.l2 syms most) ∧ (∀ l4 : (List (List Tm)), (∀ i2 : Int, ((((LOut.brk ((Sp.app most l3 (List.map (fun l5 : (List Tm) => ((nth (Inhabited.default) syms i1) :: l5)) (List.drop (Int.toNat 0) l2))), (Sp.appK most l3 l2 0))) : (LOut ((List (List Tm)) × Int) (List (List Tm)))) = (LOut.brk (l4, i2))) → ((inR Go.IntKind.i64 (i1 + 1)) ∧ (((l1 = syms) ∧ ((i = most) ∧ ((0 ≤ (i1 + 1)) ∧ (((i1 + 1) ≤ (↑(List.length syms) : Int)) ∧ (((↑(List.length l4) : Int) ≤ most) ∧ (((List.length l2) ≤ 5000) ∧ (∀ l5 : (List Tm), ((Membership.mem l2 l5) → ((List.length l5) ≤ 100))))))))) ∧ (((Int.toNat ((↑(List.length syms) : Int) - (i1 + 1))) < (Int.toNat ((↑(List.length syms) : Int) - i1))) ∧ (((LOut.brk ((Sp.app most l4 (List.flatMap (fun x : Tm => (List.map (fun l5 : (List Tm) => (x :: l5)) l2)) (List.drop (Int.toNat (i1 + 1)) syms))), (↑(List.length syms) : Int))) : (LOut ((List (List Tm)) × Int) (List (List Tm)))) = (LOut.brk ((Sp.app most l3 (List.flatMap (fun x : Tm => (List.map (fun l5 : (List Tm) => (x :: l5)) l2)) (List.drop (Int.toNat i1) syms))), (↑(List.length syms) : Int)))))))))))) (((LOut.brk ((Sp.app most l3 (List.flatMap (fun x : Tm => (List.map (fun l4 : (List Tm) => (x :: l4)) l2)) (List.drop (Int.toNat i1) syms))), (↑(List.length syms) : Int))) : (LOut ((List (List Tm)) × Int) (List (List Tm)))) = (LOut.brk (l3, i1)))))))))))
def r35_lists.l8 (most : Int) : Prop :=
  (∀ i6 : Int, (∀ l9 : (List (List Tm)), (∀ l10 : (List (List Tm)), (∀ i7 : Int, (∀ l11 : (List (List Tm)), (∀ i8 : Int, (((i6 = most) ∧ ((0 ≤ i7) ∧ ((i7 < (↑(List.length l9) : Int)) ∧ ((0 ≤ i8) ∧ ((i8 ≤ (↑(List.length l10) : Int)) ∧ (((↑(List.length l11) : Int) ≤ most) ∧ (((List.length l9) ≤ 5000) ∧ (((List.length l10) ≤ 5000) ∧ (∀ l12 : (List Tm), ((Membership.mem l10 l12) → ((List.length l12) ≤ 100))))))))))) → (((List.length l10) < 9223372036854775808) → (ifB ((decide (i8 < (↑(List.length l10) : Int))) && (decide ((↑(List.length l11) : Int) < i6))) (((0 ≤ i7) ∧ (i7 < (↑(List.length l9) : Int))) ∧ (((0 ≤ i8) ∧ (i8 < (↑(List.length l10) : Int))) ∧ ((((List.length ((Tm.mk 4 (⟨#[]⟩ : ByteArray) (nth ([] : (List Tm)) l9 i7)) :: ([] : (List Tm)))) + (List.length (nth ([] : (List Tm)) l10 i8))) ≤ 8589934592) ∧ ((((List.length l11) + (List.length (((Tm.mk 4 (⟨#[]⟩ : ByteArray) (nth ([] : (List Tm)) l9 i7)) :: (nth ([] : (List Tm)) l10 i8)) :: ([] : (List (List Tm)))))) ≤ 8589934592) ∧ ((inR Go.IntKind.i64 (i8 + 1)) ∧ (((i6 = most) ∧ ((0 ≤ i7) ∧ ((i7 < (↑(List.length l9) : Int)) ∧ ((0 ≤ (i8 + 1)) ∧ (((i8 + 1) ≤ (↑(List.length l10) : Int)) ∧ (((↑(List.length (l11 ++ (((Tm.mk 4 (⟨#[]⟩ : ByteArray) (nth ([] : (List Tm)) l9 i7)) :: (nth ([] : (List Tm)) l10 i8)) :: ([] : (List (List Tm)))))) : Int) ≤ most) ∧ (((List.length l9) ≤ 5000) ∧ (((List.length l10) ≤ 5000) ∧ (∀ l12 : (List Tm), ((Membership.mem l10 l12) → ((List.length l12) ≤ 100))))))))))) ∧ (((Int.toNat ((↑(List.length l10) : Int) - (i8 + 1))) < (Int.toNat ((↑(List.length l10) : Int) - i8))) ∧ (((LOut.brk ((Sp.app most (l11 ++ (((Tm.mk 4 (⟨#[]⟩ : ByteArray) (nth ([] : (List Tm)) l9 i7)) :: (nth ([] : (List Tm)) l10 i8)) :: ([] : (List (List Tm))))) (List.map (fun l12 : (List Tm) => ((Sp.grp (nth ([] : (List Tm)) l9 i7)) :: l12)) (List.drop (Int.toNat (i8 + 1)) l10))), (Sp.appK most (l11 ++ (((Tm.mk 4 (⟨#[]⟩ : ByteArray) (nth ([] : (List Tm)) l9 i7)) :: (nth ([] : (List Tm)) l10 i8)) :: ([] : (List (List Tm))))) l10 (i8 + 1)))) : (LOut ((List (List Tm)) × Int) (List (List Tm)))) = (LOut.brk ((Sp.app most l11 (List.map (fun l12 : (List Tm) => ((Sp.grp (nth ([] : (List Tm)) l9 i7)) :: l12)) (List.drop (Int.toNat i8) l10))), (Sp.appK most l11 l10 i8))))))))))) (((LOut.brk ((Sp.app most l11 (List.map (fun l12 : (List Tm) => ((Sp.grp (nth ([] : (List Tm)) l9 i7)) :: l12)) (List.drop (Int.toNat i8) l10))), (Sp.appK most l11 l10 i8))) : (LOut ((List (List Tm)) × Int) (List (List Tm)))) = (LOut.brk (l11, i8))))))))))))
def r35_lists.l6 (most : Int) : Prop :=
  (∀ i4 : Int, (∀ l6 : (List (List Tm)), (∀ l7 : (List (List Tm)), (∀ l8 : (List (List Tm)), (∀ i5 : Int, (((i4 = most) ∧ ((0 ≤ i5) ∧ ((i5 ≤ (↑(List.length l6) : Int)) ∧ (((↑(List.length l8) : Int) ≤ most) ∧ (((List.length l6) ≤ 5000) ∧ (((List.length l7) ≤ 5000) ∧ (∀ l9 : (List Tm), ((Membership.mem l7 l9) → ((List.length l9) ≤ 100))))))))) → (((List.length l6) < 9223372036854775808) → (ifB (decide (i5 < (↑(List.length l6) : Int))) (((i4 = most) ∧ ((0 ≤ i5) ∧ ((i5 < (↑(List.length l6) : Int)) ∧ (((0 : Int) ≤ 0) ∧ ((0 ≤ (↑(List.length l7) : Int)) ∧ (((↑(List.length l8) : Int) ≤ most) ∧ (((List.length l6) ≤ 5000) ∧ (((List.length l7) ≤ 5000) ∧ (∀ l9 : (List Tm), ((Membership.mem l7 l9) → ((List.length l9) ≤ 100))))))))))) ∧ ((r35_lists.l8 most) ∧ (∀ l9 : (List (List Tm)), (∀ i6 : Int, ((((LOut.brk ((Sp.app most l8 (List.map (fun l10 : (List Tm) => ((Sp.grp (nth ([] : (List Tm)) l6 i5)) :: l10)) (List.drop (Int.toNat 0) l7))), (Sp.appK most l8 l7 0))) : (LOut ((List (List Tm)) × Int) (List (List Tm)))) = (LOut.brk (l9, i6))) → ((inR Go.IntKind.i64 (i5 + 1)) ∧ (((i4 = most) ∧ ((0 ≤ (i5 + 1)) ∧ (((i5 + 1) ≤ (↑(List.length l6) : Int)) ∧ (((↑(List.length l9) : Int) ≤ most) ∧ (((List.length l6) ≤ 5000) ∧ (((List.length l7) ≤ 5000) ∧ (∀ l10 : (List Tm), ((Membership.mem l7 l10) → ((List.length l10) ≤ 100))))))))) ∧ (((Int.toNat ((↑(List.length l6) : Int) - (i5 + 1))) < (Int.toNat ((↑(List.length l6) : Int) - i5))) ∧ (((LOut.brk ((Sp.app most l9 (List.flatMap (fun l10 : (List Tm) => (List.map (fun l11 : (List Tm) => ((Sp.grp l10) :: l11)) l7)) (List.drop (Int.toNat (i5 + 1)) l6))), (↑(List.length l6) : Int))) : (LOut ((List (List Tm)) × Int) (List (List Tm)))) = (LOut.brk ((Sp.app most l8 (List.flatMap (fun l10 : (List Tm) => (List.map (fun l11 : (List Tm) => ((Sp.grp l10) :: l11)) l7)) (List.drop (Int.toNat i5) l6))), (↑(List.length l6) : Int)))))))))))) (((LOut.brk ((Sp.app most l8 (List.flatMap (fun l9 : (List Tm) => (List.map (fun l10 : (List Tm) => ((Sp.grp l9) :: l10)) l7)) (List.drop (Int.toNat i5) l6))), (↑(List.length l6) : Int))) : (LOut ((List (List Tm)) × Int) (List (List Tm)))) = (LOut.brk (l8, i5)))))))))))
def r35_lists.l4 (syms : (List Tm)) (n : Int) (most : Int) : Prop :=
  (∀ l2 : (List Tm), (∀ i1 : Int, (∀ i2 : Int, (∀ l3 : (List (List Tm)), (∀ i3 : Int, (((l2 = syms) ∧ ((i1 = n) ∧ ((i2 = most) ∧ ((0 ≤ i3) ∧ ((i3 ≤ n) ∧ ((↑(List.length l3) : Int) ≤ most)))))) → (ifB ((decide (i3 < i1)) && (decide ((↑(List.length l3) : Int) < i2))) ((((0 ≤ i3) ∧ ((i3 ≤ 6) ∧ ((0 < i2) ∧ ((i2 ≤ 5000) ∧ ((List.length l2) ≤ 20))))) ∧ ((Int.toNat i3) < (Int.toNat n))) ∧ (∀ l4 : (List (List Tm)), (((Sp.lists (Option.some (Int.toNat i2)) l2 (Int.toNat i3)) = l4) → ((inR Go.IntKind.i64 (i1 - 1)) ∧ ((inR Go.IntKind.i64 ((i1 - 1) - i3)) ∧ ((((0 ≤ ((i1 - 1) - i3)) ∧ ((((i1 - 1) - i3) ≤ 6) ∧ ((0 < i2) ∧ ((i2 ≤ 5000) ∧ ((List.length l2) ≤ 20))))) ∧ ((Int.toNat ((i1 - 1) - i3)) < (Int.toNat n))) ∧ (∀ l5 : (List (List Tm)), (((Sp.lists (Option.some (Int.toNat i2)) l2 (Int.toNat ((i1 - 1) - i3))) = l5) → (((i2 = most) ∧ (((0 : Int) ≤ 0) ∧ ((0 ≤ (↑(List.length l4) : Int)) ∧ (((↑(List.length l3) : Int) ≤ most) ∧ (((List.length l4) ≤ 5000) ∧ (((List.length l5) ≤ 5000) ∧ (∀ l6 : (List Tm), ((Membership.mem l5 l6) → ((List.length l6) ≤ 100))))))))) ∧ ((r35_lists.l6 most) ∧ (∀ l6 : (List (List Tm)), (∀ i4 : Int, ((((LOut.brk ((Sp.app most l3 (List.flatMap (fun l7 : (List Tm) => (List.map (fun l8 : (List Tm) => ((Sp.grp l7) :: l8)) l5)) (List.drop (Int.toNat 0) l4))), (↑(List.length l4) : Int))) : (LOut ((List (List Tm)) × Int) (List (List Tm)))) = (LOut.brk (l6, i4))) → ((inR Go.IntKind.i64 (i3 + 1)) ∧ (((l2 = syms) ∧ ((i1 = n) ∧ ((i2 = most) ∧ ((0 ≤ (i3 + 1)) ∧ (((i3 + 1) ≤ n) ∧ ((↑(List.length l6) : Int) ≤ most)))))) ∧ (((Int.toNat (n - (i3 + 1))) < (Int.toNat (n - i3))) ∧ (((LOut.brk (Sp.inL most (Sp.blockL most syms n) (Int.toNat (n - (i3 + 1))) l6 (Int.toNat (i3 + 1)))) : (LOut ((List (List Tm)) × Int) (List (List Tm)))) = (LOut.brk (Sp.inL most (Sp.blockL most syms n) (Int.toNat (n - i3)) l3 (Int.toNat i3)))))))))))))))))))) (((LOut.brk (Sp.inL most (Sp.blockL most syms n) (Int.toNat (n - i3)) l3 (Int.toNat i3))) : (LOut ((List (List Tm)) × Int) (List (List Tm)))) = (LOut.brk (l3, i3))))))))))
def r35_lists.t (syms : (List Tm)) (n : Int) (most : Int) : Prop :=
  (ifB (decide (n = 0)) ((Sp.lists (Option.some (Int.toNat most)) syms (Int.toNat n)) = (([] : (List Tm)) :: ([] : (List (List Tm))))) ((inR Go.IntKind.i64 (n - 1)) ∧ ((((0 ≤ (n - 1)) ∧ (((n - 1) ≤ 6) ∧ ((0 < most) ∧ ((most ≤ 5000) ∧ ((List.length syms) ≤ 20))))) ∧ ((Int.toNat (n - 1)) < (Int.toNat n))) ∧ (∀ l : (List (List Tm)), (((Sp.lists (Option.some (Int.toNat most)) syms (Int.toNat (n - 1))) = l) → (((syms = syms) ∧ ((most = most) ∧ (((0 : Int) ≤ 0) ∧ ((0 ≤ (↑(List.length syms) : Int)) ∧ (((↑(List.length ([] : (List (List Tm)))) : Int) ≤ most) ∧ (((List.length l) ≤ 5000) ∧ (∀ l1 : (List Tm), ((Membership.mem l l1) → ((List.length l1) ≤ 100))))))))) ∧ ((r35_lists.l0 syms most) ∧ (∀ l1 : (List (List Tm)), (∀ i : Int, ((((LOut.brk ((Sp.app most ([] : (List (List Tm))) (List.flatMap (fun x : Tm => (List.map (fun l2 : (List Tm) => (x :: l2)) l)) (List.drop (Int.toNat 0) syms))), (↑(List.length syms) : Int))) : (LOut ((List (List Tm)) × Int) (List (List Tm)))) = (LOut.brk (l1, i))) → (((syms = syms) ∧ ((n = n) ∧ ((most = most) ∧ (((0 : Int) ≤ 0) ∧ ((0 ≤ n) ∧ ((↑(List.length l1) : Int) ≤ most)))))) ∧ ((r35_lists.l4 syms n most) ∧ (∀ l2 : (List (List Tm)), (∀ i1 : Int, ((((LOut.brk (Sp.inL most (Sp.blockL most syms n) (Int.toNat (n - 0)) l1 (Int.toNat 0))) : (LOut ((List (List Tm)) × Int) (List (List Tm)))) = (LOut.brk (l2, i1))) → ((Sp.lists (Option.some (Int.toNat most)) syms (Int.toNat n)) = l2))))))))))))))))
theorem r35_lists.w (syms : (List Tm)) (n : Int) (most : Int) : wpF Go.Proofs.Try.prog (lookC ((95, pureCtr [.lst (.nm 0), .int .i64, .int .i64] [.lst (.lst (.nm 0))] (some fun b_ => preC (some (fun (a_ : (List Tm) × Int × Int) => match a_ with | (syms, n, most) => 0 ≤ n ∧ n ≤ 6 ∧ 0 < most ∧ most ≤ 5000 ∧ syms.length ≤ 20)) b_ ∧ (fun (a_ : (List Tm) × Int × Int) => match a_ with | (syms, n, most) => n.toNat) b_ < (fun (a_ : (List Tm) × Int × Int) => match a_ with | (syms, n, most) => n.toNat) (syms, n, most)) (fun (a_ : (List Tm) × Int × Int) => match a_ with | (syms, n, most) => (Sp.lists (some most.toNat) syms n.toNat))) :: [])) 95 [.lst (.nm 0), .int .i64, .int .i64] [.lst (.lst (.nm 0))] (r35_lists.Λ syms n most) (fun _ => none) (syms, n, most) (fun r => (Sp.lists (some most.toNat) syms n.toNat) = r) = r35_lists.t syms n most := by kernel_rfl
def r35_upTo.l2 (most : Int) : Prop :=
  (∀ i3 : Int, (∀ l3 : (List (List Tm)), (∀ l4 : (List (List Tm)), (∀ i4 : Int, (((i3 = most) ∧ ((0 ≤ i4) ∧ ((i4 ≤ (↑(List.length l3) : Int)) ∧ (((↑(List.length l4) : Int) ≤ most) ∧ ((List.length l3) ≤ 5000))))) → (((List.length l3) < 9223372036854775808) → (ifB ((decide (i4 < (↑(List.length l3) : Int))) && (decide ((↑(List.length l4) : Int) < i3))) (((0 ≤ i4) ∧ (i4 < (↑(List.length l3) : Int))) ∧ ((((List.length l4) + (List.length ((nth ([] : (List Tm)) l3 i4) :: ([] : (List (List Tm)))))) ≤ 8589934592) ∧ ((inR Go.IntKind.i64 (i4 + 1)) ∧ (((i3 = most) ∧ ((0 ≤ (i4 + 1)) ∧ (((i4 + 1) ≤ (↑(List.length l3) : Int)) ∧ (((↑(List.length (l4 ++ ((nth ([] : (List Tm)) l3 i4) :: ([] : (List (List Tm)))))) : Int) ≤ most) ∧ ((List.length l3) ≤ 5000))))) ∧ (((Int.toNat ((↑(List.length l3) : Int) - (i4 + 1))) < (Int.toNat ((↑(List.length l3) : Int) - i4))) ∧ (((LOut.brk ((Sp.app most (l4 ++ ((nth ([] : (List Tm)) l3 i4) :: ([] : (List (List Tm))))) (List.drop (Int.toNat (i4 + 1)) l3)), (Sp.appK most (l4 ++ ((nth ([] : (List Tm)) l3 i4) :: ([] : (List (List Tm))))) l3 (i4 + 1)))) : (LOut ((List (List Tm)) × Int) (List (List Tm)))) = (LOut.brk ((Sp.app most l4 (List.drop (Int.toNat i4) l3)), (Sp.appK most l4 l3 i4))))))))) (((LOut.brk ((Sp.app most l4 (List.drop (Int.toNat i4) l3)), (Sp.appK most l4 l3 i4))) : (LOut ((List (List Tm)) × Int) (List (List Tm)))) = (LOut.brk (l4, i4))))))))))
def r35_upTo.l0 (syms : (List Tm)) (size : Int) (most : Int) : Prop :=
  (∀ l : (List Tm), (∀ i : Int, (∀ i1 : Int, (∀ l1 : (List (List Tm)), (∀ i2 : Int, (((l = syms) ∧ ((i = size) ∧ ((i1 = most) ∧ ((0 ≤ i2) ∧ ((i2 ≤ (size + 1)) ∧ ((↑(List.length l1) : Int) ≤ most)))))) → (ifB ((decide (i2 ≤ i)) && (decide ((↑(List.length l1) : Int) < i1))) (((0 ≤ i2) ∧ ((i2 ≤ 6) ∧ ((0 < i1) ∧ ((i1 ≤ 5000) ∧ ((List.length l) ≤ 20))))) ∧ (∀ l2 : (List (List Tm)), (((Sp.lists (Option.some (Int.toNat i1)) l (Int.toNat i2)) = l2) → (((i1 = most) ∧ (((0 : Int) ≤ 0) ∧ ((0 ≤ (↑(List.length l2) : Int)) ∧ (((↑(List.length l1) : Int) ≤ most) ∧ ((List.length l2) ≤ 5000))))) ∧ ((r35_upTo.l2 most) ∧ (∀ l3 : (List (List Tm)), (∀ i3 : Int, ((((LOut.brk ((Sp.app most l1 (List.drop (Int.toNat 0) l2)), (Sp.appK most l1 l2 0))) : (LOut ((List (List Tm)) × Int) (List (List Tm)))) = (LOut.brk (l3, i3))) → ((inR Go.IntKind.i64 (i2 + 1)) ∧ (((l = syms) ∧ ((i = size) ∧ ((i1 = most) ∧ ((0 ≤ (i2 + 1)) ∧ (((i2 + 1) ≤ (size + 1)) ∧ ((↑(List.length l3) : Int) ≤ most)))))) ∧ (((Int.toNat ((size + 1) - (i2 + 1))) < (Int.toNat ((size + 1) - i2))) ∧ (((LOut.brk (Sp.inL most (Sp.lists (Option.some (Int.toNat most)) syms) (Int.toNat ((size + 1) - (i2 + 1))) l3 (Int.toNat (i2 + 1)))) : (LOut ((List (List Tm)) × Int) (List (List Tm)))) = (LOut.brk (Sp.inL most (Sp.lists (Option.some (Int.toNat most)) syms) (Int.toNat ((size + 1) - i2)) l1 (Int.toNat i2))))))))))))))) (((LOut.brk (Sp.inL most (Sp.lists (Option.some (Int.toNat most)) syms) (Int.toNat ((size + 1) - i2)) l1 (Int.toNat i2))) : (LOut ((List (List Tm)) × Int) (List (List Tm)))) = (LOut.brk (l1, i2))))))))))
def r35_upTo.t (syms : (List Tm)) (size : Int) (most : Int) : Prop :=
  (((syms = syms) ∧ ((size = size) ∧ ((most = most) ∧ (((0 : Int) ≤ 0) ∧ ((0 ≤ (size + 1)) ∧ ((↑(List.length ([] : (List (List Tm)))) : Int) ≤ most)))))) ∧ ((r35_upTo.l0 syms size most) ∧ (∀ l : (List (List Tm)), (∀ i : Int, ((((LOut.brk (Sp.inL most (Sp.lists (Option.some (Int.toNat most)) syms) (Int.toNat ((size + 1) - 0)) ([] : (List (List Tm))) (Int.toNat 0))) : (LOut ((List (List Tm)) × Int) (List (List Tm)))) = (LOut.brk (l, i))) → ((Sp.upTo (Option.some (Int.toNat most)) syms size) = l))))))
theorem r35_upTo.w (syms : (List Tm)) (size : Int) (most : Int) : wpF Go.Proofs.Try.prog (lookC [(95, r35_lists.C)]) 82 [.lst (.nm 0), .int .i64, .int .i64] [.lst (.lst (.nm 0))] (r35_upTo.Λ syms size most) (fun _ => none) (syms, size, most) (fun r => (Sp.upTo (some most.toNat) syms size) = r) = r35_upTo.t syms size most := by kernel_rfl
def r35_valuesOf.l0 (syms : (List Tm)) (most : Int) : Prop :=
  (∀ l : (List Tm), (∀ i : Int, (∀ l1 : (List (List Tm)), (∀ i1 : Int, (((l = syms) ∧ ((i = most) ∧ ((0 ≤ i1) ∧ ((i1 ≤ (↑(List.length syms) : Int)) ∧ ((↑(List.length l1) : Int) ≤ most))))) → (((List.length l) < 9223372036854775808) → (ifB ((decide (i1 < (↑(List.length l) : Int))) && (decide ((↑(List.length l1) : Int) < i))) ((inR Go.IntKind.i64 (i1 + 1)) ∧ (((0 ≤ i1) ∧ ((i1 ≤ (i1 + 1)) ∧ ((i1 + 1) ≤ (↑(List.length l) : Int)))) ∧ ((((List.length l1) + (List.length ((List.drop (Int.toNat i1) (List.take (Int.toNat (i1 + 1)) l)) :: ([] : (List (List Tm)))))) ≤ 8589934592) ∧ ((inR Go.IntKind.i64 (i1 + 1)) ∧ (((l = syms) ∧ ((i = most) ∧ ((0 ≤ (i1 + 1)) ∧ (((i1 + 1) ≤ (↑(List.length syms) : Int)) ∧ ((↑(List.length (l1 ++ ((List.drop (Int.toNat i1) (List.take (Int.toNat (i1 + 1)) l)) :: ([] : (List (List Tm)))))) : Int) ≤ most))))) ∧ (((Int.toNat ((↑(List.length syms) : Int) - (i1 + 1))) < (Int.toNat ((↑(List.length syms) : Int) - i1))) ∧ (((LOut.brk ((Sp.app most (l1 ++ ((List.drop (Int.toNat i1) (List.take (Int.toNat (i1 + 1)) l)) :: ([] : (List (List Tm))))) (List.map (fun x : Tm => (x :: ([] : (List Tm)))) (List.drop (Int.toNat (i1 + 1)) syms))), (Sp.appK most (l1 ++ ((List.drop (Int.toNat i1) (List.take (Int.toNat (i1 + 1)) l)) :: ([] : (List (List Tm))))) syms (i1 + 1)))) : (LOut ((List (List Tm)) × Int) (List (List Tm)))) = (LOut.brk ((Sp.app most l1 (List.map (fun x : Tm => (x :: ([] : (List Tm)))) (List.drop (Int.toNat i1) syms))), (Sp.appK most l1 syms i1)))))))))) (((LOut.brk ((Sp.app most l1 (List.map (fun x : Tm => (x :: ([] : (List Tm)))) (List.drop (Int.toNat i1) syms))), (Sp.appK most l1 syms i1))) : (LOut ((List (List Tm)) × Int) (List (List Tm)))) = (LOut.brk (l1, i1))))))))))
def r35_valuesOf.l2 (most : Int) : Prop :=
  (∀ i1 : Int, (∀ l2 : (List (List Tm)), (∀ l3 : (List (List Tm)), (∀ i2 : Int, (((i1 = most) ∧ ((0 ≤ i2) ∧ ((i2 ≤ (↑(List.length l2) : Int)) ∧ (((↑(List.length l3) : Int) ≤ most) ∧ ((List.length l2) ≤ 5000))))) → (((List.length l2) < 9223372036854775808) → (ifB ((decide (i2 < (↑(List.length l2) : Int))) && (decide ((↑(List.length l3) : Int) < i1))) (((0 ≤ i2) ∧ (i2 < (↑(List.length l2) : Int))) ∧ ((((List.length l3) + (List.length (((Tm.mk 4 (⟨#[]⟩ : ByteArray) (nth ([] : (List Tm)) l2 i2)) :: ([] : (List Tm))) :: ([] : (List (List Tm)))))) ≤ 8589934592) ∧ ((inR Go.IntKind.i64 (i2 + 1)) ∧ (((i1 = most) ∧ ((0 ≤ (i2 + 1)) ∧ (((i2 + 1) ≤ (↑(List.length l2) : Int)) ∧ (((↑(List.length (l3 ++ (((Tm.mk 4 (⟨#[]⟩ : ByteArray) (nth ([] : (List Tm)) l2 i2)) :: ([] : (List Tm))) :: ([] : (List (List Tm)))))) : Int) ≤ most) ∧ ((List.length l2) ≤ 5000))))) ∧ (((Int.toNat ((↑(List.length l2) : Int) - (i2 + 1))) < (Int.toNat ((↑(List.length l2) : Int) - i2))) ∧ (((LOut.brk ((Sp.app most (l3 ++ (((Tm.mk 4 (⟨#[]⟩ : ByteArray) (nth ([] : (List Tm)) l2 i2)) :: ([] : (List Tm))) :: ([] : (List (List Tm))))) (List.map (fun l4 : (List Tm) => ((Sp.grp l4) :: ([] : (List Tm)))) (List.drop (Int.toNat (i2 + 1)) l2))), (Sp.appK most (l3 ++ (((Tm.mk 4 (⟨#[]⟩ : ByteArray) (nth ([] : (List Tm)) l2 i2)) :: ([] : (List Tm))) :: ([] : (List (List Tm))))) l2 (i2 + 1)))) : (LOut ((List (List Tm)) × Int) (List (List Tm)))) = (LOut.brk ((Sp.app most l3 (List.map (fun l4 : (List Tm) => ((Sp.grp l4) :: ([] : (List Tm)))) (List.drop (Int.toNat i2) l2))), (Sp.appK most l3 l2 i2))))))))) (((LOut.brk ((Sp.app most l3 (List.map (fun l4 : (List Tm) => ((Sp.grp l4) :: ([] : (List Tm)))) (List.drop (Int.toNat i2) l2))), (Sp.appK most l3 l2 i2))) : (LOut ((List (List Tm)) × Int) (List (List Tm)))) = (LOut.brk (l3, i2))))))))))
def r35_valuesOf.t (kind : Int) (syms : (List Tm)) (size : Int) (most : Int) : Prop :=
  (ifB (decide (kind = 7)) ((((-1) ≤ size) ∧ ((size ≤ 6) ∧ ((0 < most) ∧ ((most ≤ 5000) ∧ ((List.length syms) ≤ 20))))) ∧ (∀ l : (List (List Tm)), (((Sp.upTo (Option.some (Int.toNat most)) syms size) = l) → ((Sp.valuesOf (Option.some (Int.toNat most)) kind syms size) = l)))) (((syms = syms) ∧ ((most = most) ∧ (((0 : Int) ≤ 0) ∧ ((0 ≤ (↑(List.length syms) : Int)) ∧ ((↑(List.length ([] : (List (List Tm)))) : Int) ≤ most))))) ∧ ((r35_valuesOf.l0 syms most) ∧ (∀ l : (List (List Tm)), (∀ i : Int, ((((LOut.brk ((Sp.app most ([] : (List (List Tm))) (List.map (fun x : Tm => (x :: ([] : (List Tm)))) (List.drop (Int.toNat 0) syms))), (Sp.appK most ([] : (List (List Tm))) syms 0))) : (LOut ((List (List Tm)) × Int) (List (List Tm)))) = (LOut.brk (l, i))) → (ifB (decide (kind = 6)) ((inR Go.IntKind.i64 (size - 1)) ∧ ((((-1) ≤ (size - 1)) ∧ (((size - 1) ≤ 6) ∧ ((0 < most) ∧ ((most ≤ 5000) ∧ ((List.length syms) ≤ 20))))) ∧ (∀ l1 : (List (List Tm)), (((Sp.upTo (Option.some (Int.toNat most)) syms (size - 1)) = l1) → (((most = most) ∧ (((0 : Int) ≤ 0) ∧ ((0 ≤ (↑(List.length l1) : Int)) ∧ (((↑(List.length l) : Int) ≤ most) ∧ ((List.length l1) ≤ 5000))))) ∧ ((r35_valuesOf.l2 most) ∧ (∀ l2 : (List (List Tm)), (∀ i1 : Int, ((((LOut.brk ((Sp.app most l (List.map (fun l3 : (List Tm) => ((Sp.grp l3) :: ([] : (List Tm)))) (List.drop (Int.toNat 0) l1))), (Sp.appK most l l1 0))) : (LOut ((List (List Tm)) × Int) (List (List Tm)))) = (LOut.brk (l2, i1))) → ((Sp.valuesOf (Option.some (Int.toNat most)) kind syms size) = l2)))))))))) ((Sp.valuesOf (Option.some (Int.toNat most)) kind syms size) = l))))))))
theorem r35_valuesOf.w (kind : Int) (syms : (List Tm)) (size : Int) (most : Int) : wpF Go.Proofs.Try.prog (lookC [(82, r35_upTo.C)]) 55 [.int .i64, .lst (.nm 0), .int .i64, .int .i64] [.lst (.lst (.nm 0))] (r35_valuesOf.Λ kind syms size most) (fun _ => none) (kind, syms, size, most) (fun r => (Sp.valuesOf (some most.toNat) kind syms size) = r) = r35_valuesOf.t kind syms size most := by kernel_rfl
def r35_Values.l0 (vars : (List ByteArray)) : Prop :=
  (∀ l : (List ByteArray), (∀ i : Int, (((l = vars) ∧ ((0 ≤ i) ∧ (i ≤ (↑(List.length vars) : Int)))) → (((List.length l) < 9223372036854775808) → (ifB (decide (i < (↑(List.length l) : Int))) (((0 ≤ i) ∧ (i < (↑(List.length l) : Int))) ∧ (∀ x : Tm, (∀ b : Bool, (((Sp.vari (nth (⟨#[]⟩ : ByteArray) l i)) = (x, b)) → (ifB (!b) (((ite ((List.all (List.drop (Int.toNat i) vars) Sp.isVarN) = Bool.true) (LOut.brk (↑(List.length vars) : Int)) (LOut.ret (([] : (List (List Bnd))), 2))) : (LOut Int ((List (List Bnd)) × Int))) = (LOut.ret (([] : (List (List Bnd))), 2))) ((inR Go.IntKind.i64 (i + 1)) ∧ (((l = vars) ∧ ((0 ≤ (i + 1)) ∧ ((i + 1) ≤ (↑(List.length vars) : Int)))) ∧ (((Int.toNat ((↑(List.length vars) : Int) - (i + 1))) < (Int.toNat ((↑(List.length vars) : Int) - i))) ∧ (((ite ((List.all (List.drop (Int.toNat (i + 1)) vars) Sp.isVarN) = Bool.true) (LOut.brk (↑(List.length vars) : Int)) (LOut.ret (([] : (List (List Bnd))), 2))) : (LOut Int ((List (List Bnd)) × Int))) = (ite ((List.all (List.drop (Int.toNat i) vars) Sp.isVarN) = Bool.true) (LOut.brk (↑(List.length vars) : Int)) (LOut.ret (([] : (List (List Bnd))), 2)))))))))))) (((ite ((List.all (List.drop (Int.toNat i) vars) Sp.isVarN) = Bool.true) (LOut.brk (↑(List.length vars) : Int)) (LOut.ret (([] : (List (List Bnd))), 2))) : (LOut Int ((List (List Bnd)) × Int))) = (LOut.brk i)))))))
def r35_Values.l2 (syms : (List Tm)) : Prop :=
  (∀ l : (List Tm), (∀ i1 : Int, (((l = syms) ∧ ((0 ≤ i1) ∧ ((i1 ≤ (↑(List.length syms) : Int)) ∧ (Sp.okL syms)))) → (((List.length l) < 9223372036854775808) → (ifB (decide (i1 < (↑(List.length l) : Int))) (((0 ≤ i1) ∧ (i1 < (↑(List.length l) : Int))) ∧ (∀ b : Bool, (((Sp.sym (nth (Inhabited.default) l i1)) = b) → ((((!b) = Bool.false) → (inR Go.IntKind.i64 (i1 + 1))) ∧ ((((!b) = Bool.false) → ((0 ≤ i1) ∧ ((i1 ≤ (i1 + 1)) ∧ ((i1 + 1) ≤ (↑(List.length l) : Int))))) ∧ ((((!b) = Bool.false) → (Sp.okL (List.drop (Int.toNat i1) (List.take (Int.toNat (i1 + 1)) l)))) ∧ (ifB ((!b) || (!(decide ((Sp.wrong (List.drop (Int.toNat i1) (List.take (Int.toNat (i1 + 1)) l)) 4) = 0)))) (((ite ((List.all (List.drop (Int.toNat i1) syms) Sp.symOK) = Bool.true) (LOut.brk (↑(List.length syms) : Int)) (LOut.ret (([] : (List (List Bnd))), 2))) : (LOut Int ((List (List Bnd)) × Int))) = (LOut.ret (([] : (List (List Bnd))), 2))) ((inR Go.IntKind.i64 (i1 + 1)) ∧ (((l = syms) ∧ ((0 ≤ (i1 + 1)) ∧ (((i1 + 1) ≤ (↑(List.length syms) : Int)) ∧ (Sp.okL syms)))) ∧ (((Int.toNat ((↑(List.length syms) : Int) - (i1 + 1))) < (Int.toNat ((↑(List.length syms) : Int) - i1))) ∧ (((ite ((List.all (List.drop (Int.toNat (i1 + 1)) syms) Sp.symOK) = Bool.true) (LOut.brk (↑(List.length syms) : Int)) (LOut.ret (([] : (List (List Bnd))), 2))) : (LOut Int ((List (List Bnd)) × Int))) = (ite ((List.all (List.drop (Int.toNat i1) syms) Sp.symOK) = Bool.true) (LOut.brk (↑(List.length syms) : Int)) (LOut.ret (([] : (List (List Bnd))), 2)))))))))))))) (((ite ((List.all (List.drop (Int.toNat i1) syms) Sp.symOK) = Bool.true) (LOut.brk (↑(List.length syms) : Int)) (LOut.ret (([] : (List (List Bnd))), 2))) : (LOut Int ((List (List Bnd)) × Int))) = (LOut.brk i1)))))))
def r35_Values.l4 (vars : (List ByteArray)) : Prop :=
  (∀ l : (List ByteArray), (∀ i2 : Int, (((l = vars) ∧ ((0 ≤ i2) ∧ (i2 ≤ (↑(List.length vars) : Int)))) → (((List.length l) < 9223372036854775808) → (ifB (decide (i2 < (↑(List.length l) : Int))) (((0 ≤ i2) ∧ (i2 ≤ (↑(List.length l) : Int))) ∧ (((0 ≤ i2) ∧ (i2 < (↑(List.length l) : Int))) ∧ (∀ b : Bool, (((Sp.hasS (List.take (Int.toNat i2) l) (nth (⟨#[]⟩ : ByteArray) l i2)) = b) → (ifB b (((ite ((Sp.dupFrom vars (Int.toNat i2)) = Bool.true) (LOut.ret (([] : (List (List Bnd))), 10)) (LOut.brk (↑(List.length vars) : Int))) : (LOut Int ((List (List Bnd)) × Int))) = (LOut.ret (([] : (List (List Bnd))), 10))) ((inR Go.IntKind.i64 (i2 + 1)) ∧ (((l = vars) ∧ ((0 ≤ (i2 + 1)) ∧ ((i2 + 1) ≤ (↑(List.length vars) : Int)))) ∧ (((Int.toNat ((↑(List.length vars) : Int) - (i2 + 1))) < (Int.toNat ((↑(List.length vars) : Int) - i2))) ∧ (((ite ((Sp.dupFrom vars (Int.toNat (i2 + 1))) = Bool.true) (LOut.ret (([] : (List (List Bnd))), 10)) (LOut.brk (↑(List.length vars) : Int))) : (LOut Int ((List (List Bnd)) × Int))) = (ite ((Sp.dupFrom vars (Int.toNat i2)) = Bool.true) (LOut.ret (([] : (List (List Bnd))), 10)) (LOut.brk (↑(List.length vars) : Int)))))))))))) (((ite ((Sp.dupFrom vars (Int.toNat i2)) = Bool.true) (LOut.ret (([] : (List (List Bnd))), 10)) (LOut.brk (↑(List.length vars) : Int))) : (LOut Int ((List (List Bnd)) × Int))) = (LOut.brk i2)))))))
def r35_Values.l10 (vars : (List ByteArray)) (most : Int) : Prop :=
  (∀ l8 : (List ByteArray), (∀ i9 : Int, (∀ l9 : (List (List Bnd)), (∀ i10 : Int, (∀ l10 : (List (List Tm)), (∀ i11 : Int, (∀ l11 : (List (List Bnd)), (∀ i12 : Int, (((l8 = vars) ∧ ((i9 = most) ∧ ((0 ≤ i10) ∧ ((i10 < (↑(List.length vars) : Int)) ∧ ((0 ≤ i11) ∧ ((i11 < (↑(List.length l10) : Int)) ∧ ((0 ≤ i12) ∧ ((i12 ≤ (↑(List.length l9) : Int)) ∧ (((↑(List.length l11) : Int) ≤ most) ∧ (((List.length l10) ≤ 5000) ∧ (((List.length l9) ≤ 5000) ∧ ((∀ l12 : (List Bnd), ((Membership.mem l9 l12) → ((List.length l12) ≤ 100))) ∧ (∀ l12 : (List Tm), ((Membership.mem l10 l12) → (Sp.okL l12))))))))))))))) → (((List.length l9) < 9223372036854775808) → (ifB ((decide (i12 < (↑(List.length l9) : Int))) && (decide ((↑(List.length l11) : Int) < i9))) (((0 ≤ i10) ∧ (i10 < (↑(List.length l8) : Int))) ∧ (((0 ≤ i11) ∧ (i11 < (↑(List.length l10) : Int))) ∧ ((Sp.okL (nth ([] : (List Tm)) l10 i11)) ∧ (((0 ≤ i12) ∧ (i12 < (↑(List.length l9) : Int))) ∧ ((((List.length ((Bnd.mk (nth (⟨#[]⟩ : ByteArray) l8 i10) (nth ([] : (List Tm)) l10 i11)) :: ([] : (List Bnd)))) + (List.length (nth ([] : (List Bnd)) l9 i12))) ≤ 8589934592) ∧ ((((List.length l11) + (List.length (((Bnd.mk (nth (⟨#[]⟩ : ByteArray) l8 i10) (nth ([] : (List Tm)) l10 i11)) :: (nth ([] : (List Bnd)) l9 i12)) :: ([] : (List (List Bnd)))))) ≤ 8589934592) ∧ ((inR Go.IntKind.i64 (i12 + 1)) ∧ (((l8 = vars) ∧ ((i9 = most) ∧ ((0 ≤ i10) ∧ ((i10 < (↑(List.length vars) : Int)) ∧ ((0 ≤ i11) ∧ ((i11 < (↑(List.length l10) : Int)) ∧ ((0 ≤ (i12 + 1)) ∧ (((i12 + 1) ≤ (↑(List.length l9) : Int)) ∧ (((↑(List.length (l11 ++ (((Bnd.mk (nth (⟨#[]⟩ : ByteArray) l8 i10) (nth ([] : (List Tm)) l10 i11)) :: (nth ([] : (List Bnd)) l9 i12)) :: ([] : (List (List Bnd)))))) : Int) ≤ most) ∧ (((List.length l10) ≤ 5000) ∧ (((List.length l9) ≤ 5000) ∧ ((∀ l12 : (List Bnd), ((Membership.mem l9 l12) → ((List.length l12) ≤ 100))) ∧ (∀ l12 : (List Tm), ((Membership.mem l10 l12) → (Sp.okL l12))))))))))))))) ∧ (((Int.toNat ((↑(List.length l9) : Int) - (i12 + 1))) < (Int.toNat ((↑(List.length l9) : Int) - i12))) ∧ (((LOut.brk ((Sp.app most (l11 ++ (((Bnd.mk (nth (⟨#[]⟩ : ByteArray) l8 i10) (nth ([] : (List Tm)) l10 i11)) :: (nth ([] : (List Bnd)) l9 i12)) :: ([] : (List (List Bnd))))) (List.map (fun l12 : (List Bnd) => ((Bnd.mk (nth (⟨#[]⟩ : ByteArray) vars i10) (nth ([] : (List Tm)) l10 i11)) :: l12)) (List.drop (Int.toNat (i12 + 1)) l9))), (Sp.appK most (l11 ++ (((Bnd.mk (nth (⟨#[]⟩ : ByteArray) l8 i10) (nth ([] : (List Tm)) l10 i11)) :: (nth ([] : (List Bnd)) l9 i12)) :: ([] : (List (List Bnd))))) l9 (i12 + 1)))) : (LOut ((List (List Bnd)) × Int) ((List (List Bnd)) × Int))) = (LOut.brk ((Sp.app most l11 (List.map (fun l12 : (List Bnd) => ((Bnd.mk (nth (⟨#[]⟩ : ByteArray) vars i10) (nth ([] : (List Tm)) l10 i11)) :: l12)) (List.drop (Int.toNat i12) l9))), (Sp.appK most l11 l9 i12))))))))))))) (((LOut.brk ((Sp.app most l11 (List.map (fun l12 : (List Bnd) => ((Bnd.mk (nth (⟨#[]⟩ : ByteArray) vars i10) (nth ([] : (List Tm)) l10 i11)) :: l12)) (List.drop (Int.toNat i12) l9))), (Sp.appK most l11 l9 i12))) : (LOut ((List (List Bnd)) × Int) ((List (List Bnd)) × Int))) = (LOut.brk (l11, i12))))))))))))))
def r35_Values.l8 (vars : (List ByteArray)) (most : Int) : Prop :=
  (∀ l4 : (List ByteArray), (∀ i6 : Int, (∀ l5 : (List (List Bnd)), (∀ i7 : Int, (∀ l6 : (List (List Tm)), (∀ l7 : (List (List Bnd)), (∀ i8 : Int, (((l4 = vars) ∧ ((i6 = most) ∧ ((0 ≤ i7) ∧ ((i7 < (↑(List.length vars) : Int)) ∧ ((0 ≤ i8) ∧ ((i8 ≤ (↑(List.length l6) : Int)) ∧ (((↑(List.length l7) : Int) ≤ most) ∧ (((List.length l6) ≤ 5000) ∧ (((List.length l5) ≤ 5000) ∧ ((∀ l8 : (List Bnd), ((Membership.mem l5 l8) → ((List.length l8) ≤ 100))) ∧ (∀ l8 : (List Tm), ((Membership.mem l6 l8) → (Sp.okL l8))))))))))))) → (((List.length l6) < 9223372036854775808) → (ifB (decide (i8 < (↑(List.length l6) : Int))) (((l4 = vars) ∧ ((i6 = most) ∧ ((0 ≤ i7) ∧ ((i7 < (↑(List.length vars) : Int)) ∧ ((0 ≤ i8) ∧ ((i8 < (↑(List.length l6) : Int)) ∧ (((0 : Int) ≤ 0) ∧ ((0 ≤ (↑(List.length l5) : Int)) ∧ (((↑(List.length l7) : Int) ≤ most) ∧ (((List.length l6) ≤ 5000) ∧ (((List.length l5) ≤ 5000) ∧ ((∀ l8 : (List Bnd), ((Membership.mem l5 l8) → ((List.length l8) ≤ 100))) ∧ (∀ l8 : (List Tm), ((Membership.mem l6 l8) → (Sp.okL l8))))))))))))))) ∧ ((r35_Values.l10 vars most) ∧ (∀ l8 : (List (List Bnd)), (∀ i9 : Int, ((((LOut.brk ((Sp.app most l7 (List.map (fun l9 : (List Bnd) => ((Bnd.mk (nth (⟨#[]⟩ : ByteArray) vars i7) (nth ([] : (List Tm)) l6 i8)) :: l9)) (List.drop (Int.toNat 0) l5))), (Sp.appK most l7 l5 0))) : (LOut ((List (List Bnd)) × Int) ((List (List Bnd)) × Int))) = (LOut.brk (l8, i9))) → ((inR Go.IntKind.i64 (i8 + 1)) ∧ (((l4 = vars) ∧ ((i6 = most) ∧ ((0 ≤ i7) ∧ ((i7 < (↑(List.length vars) : Int)) ∧ ((0 ≤ (i8 + 1)) ∧ (((i8 + 1) ≤ (↑(List.length l6) : Int)) ∧ (((↑(List.length l8) : Int) ≤ most) ∧ (((List.length l6) ≤ 5000) ∧ (((List.length l5) ≤ 5000) ∧ ((∀ l9 : (List Bnd), ((Membership.mem l5 l9) → ((List.length l9) ≤ 100))) ∧ (∀ l9 : (List Tm), ((Membership.mem l6 l9) → (Sp.okL l9))))))))))))) ∧ (((Int.toNat ((↑(List.length l6) : Int) - (i8 + 1))) < (Int.toNat ((↑(List.length l6) : Int) - i8))) ∧ (((LOut.brk ((Sp.app most l8 (List.flatMap (fun l9 : (List Tm) => (List.map (fun l10 : (List Bnd) => ((Bnd.mk (nth (⟨#[]⟩ : ByteArray) vars i7) l9) :: l10)) l5)) (List.drop (Int.toNat (i8 + 1)) l6))), (↑(List.length l6) : Int))) : (LOut ((List (List Bnd)) × Int) ((List (List Bnd)) × Int))) = (LOut.brk ((Sp.app most l7 (List.flatMap (fun l9 : (List Tm) => (List.map (fun l10 : (List Bnd) => ((Bnd.mk (nth (⟨#[]⟩ : ByteArray) vars i7) l9) :: l10)) l5)) (List.drop (Int.toNat i8) l6))), (↑(List.length l6) : Int)))))))))))) (((LOut.brk ((Sp.app most l7 (List.flatMap (fun l8 : (List Tm) => (List.map (fun l9 : (List Bnd) => ((Bnd.mk (nth (⟨#[]⟩ : ByteArray) vars i7) l8) :: l9)) l5)) (List.drop (Int.toNat i8) l6))), (↑(List.length l6) : Int))) : (LOut ((List (List Bnd)) × Int) ((List (List Bnd)) × Int))) = (LOut.brk (l7, i8)))))))))))))
def r35_Values.l6 (vars : (List ByteArray)) (syms : (List Tm)) (size : Int) (most : Int) : Prop :=
  (∀ l : (List ByteArray), (∀ l1 : (List Tm), (∀ i3 : Int, (∀ i4 : Int, (∀ l2 : (List (List Bnd)), (∀ i5 : Int, (((l = vars) ∧ ((l1 = syms) ∧ ((i3 = size) ∧ ((i4 = most) ∧ (((-1) ≤ i5) ∧ ((i5 < (↑(List.length vars) : Int)) ∧ ((l2 = (Sp.prod (Option.some (Int.toNat most)) syms size (List.drop (Int.toNat (i5 + 1)) vars))) ∧ (((Sp.permit vars syms size most) = 0) ∧ (most ≠ 0))))))))) → (ifB (decide (0 ≤ i5)) (((0 ≤ i5) ∧ (i5 < (↑(List.length l) : Int))) ∧ (∀ x : Tm, (∀ b : Bool, (((Sp.vari (nth (⟨#[]⟩ : ByteArray) l i5)) = (x, b)) → (((0 ≤ i3) ∧ ((i3 ≤ 6) ∧ ((0 < i4) ∧ ((i4 ≤ 5000) ∧ ((List.length l1) ≤ 20))))) ∧ (∀ l3 : (List (List Tm)), (((Sp.valuesOf (Option.some (Int.toNat i4)) (Tm.kind x) l1 i3) = l3) → (((l = vars) ∧ ((i4 = most) ∧ ((0 ≤ i5) ∧ ((i5 < (↑(List.length vars) : Int)) ∧ (((0 : Int) ≤ 0) ∧ ((0 ≤ (↑(List.length l3) : Int)) ∧ (((↑(List.length ([] : (List (List Bnd)))) : Int) ≤ most) ∧ (((List.length l3) ≤ 5000) ∧ (((List.length l2) ≤ 5000) ∧ ((∀ l4 : (List Bnd), ((Membership.mem l2 l4) → ((List.length l4) ≤ 100))) ∧ (∀ l4 : (List Tm), ((Membership.mem l3 l4) → (Sp.okL l4))))))))))))) ∧ ((r35_Values.l8 vars most) ∧ (∀ l4 : (List (List Bnd)), (∀ i6 : Int, ((((LOut.brk ((Sp.app most ([] : (List (List Bnd))) (List.flatMap (fun l5 : (List Tm) => (List.map (fun l6 : (List Bnd) => ((Bnd.mk (nth (⟨#[]⟩ : ByteArray) vars i5) l5) :: l6)) l2)) (List.drop (Int.toNat 0) l3))), (↑(List.length l3) : Int))) : (LOut ((List (List Bnd)) × Int) ((List (List Bnd)) × Int))) = (LOut.brk (l4, i6))) → ((inR Go.IntKind.i64 (i5 - 1)) ∧ (((l = vars) ∧ ((l1 = syms) ∧ ((i3 = size) ∧ ((i4 = most) ∧ (((-1) ≤ (i5 - 1)) ∧ (((i5 - 1) < (↑(List.length vars) : Int)) ∧ ((l4 = (Sp.prod (Option.some (Int.toNat most)) syms size (List.drop (Int.toNat ((i5 - 1) + 1)) vars))) ∧ (((Sp.permit vars syms size most) = 0) ∧ (most ≠ 0))))))))) ∧ (((Int.toNat ((i5 - 1) + 1)) < (Int.toNat (i5 + 1))) ∧ (((LOut.brk ((Sp.prod (Option.some (Int.toNat most)) syms size vars), (-1))) : (LOut ((List (List Bnd)) × Int) ((List (List Bnd)) × Int))) = (LOut.brk ((Sp.prod (Option.some (Int.toNat most)) syms size vars), (-1))))))))))))))))))) (((LOut.brk ((Sp.prod (Option.some (Int.toNat most)) syms size vars), (-1))) : (LOut ((List (List Bnd)) × Int) ((List (List Bnd)) × Int))) = (LOut.brk (l2, i5)))))))))))
def r35_Values.t (vars : (List ByteArray)) (syms : (List Tm)) (size : Int) (most : Int) : Prop :=
  (ifB ((((decide (size < 0)) || (decide (6 < size))) || (decide (most < 0))) || (decide (5000 < most))) ((Sp.valuesR vars syms size most) = (([] : (List (List Bnd))), 4)) (((List.length vars) < 9223372036854775808) → (ifB ((decide (20 < (↑(List.length vars) : Int))) || (decide (20 < (↑(List.length syms) : Int)))) ((Sp.valuesR vars syms size most) = (([] : (List (List Bnd))), 5)) (((vars = vars) ∧ (((0 : Int) ≤ 0) ∧ (0 ≤ (↑(List.length vars) : Int)))) ∧ ((r35_Values.l0 vars) ∧ ((∀ i : Int, ((((ite ((List.all (List.drop (Int.toNat 0) vars) Sp.isVarN) = Bool.true) (LOut.brk (↑(List.length vars) : Int)) (LOut.ret (([] : (List (List Bnd))), 2))) : (LOut Int ((List (List Bnd)) × Int))) = (LOut.brk i)) → (((syms = syms) ∧ (((0 : Int) ≤ 0) ∧ ((0 ≤ (↑(List.length syms) : Int)) ∧ (Sp.okL syms)))) ∧ ((r35_Values.l2 syms) ∧ ((∀ i1 : Int, ((((ite ((List.all (List.drop (Int.toNat 0) syms) Sp.symOK) = Bool.true) (LOut.brk (↑(List.length syms) : Int)) (LOut.ret (([] : (List (List Bnd))), 2))) : (LOut Int ((List (List Bnd)) × Int))) = (LOut.brk i1)) → (((vars = vars) ∧ (((0 : Int) ≤ 0) ∧ (0 ≤ (↑(List.length vars) : Int)))) ∧ ((r35_Values.l4 vars) ∧ ((∀ i2 : Int, ((((ite ((Sp.dupFrom vars (Int.toNat 0)) = Bool.true) (LOut.ret (([] : (List (List Bnd))), 10)) (LOut.brk (↑(List.length vars) : Int))) : (LOut Int ((List (List Bnd)) × Int))) = (LOut.brk i2)) → (ifB (decide (most = 0)) ((Sp.valuesR vars syms size most) = (([] : (List (List Bnd))), 0)) (((List.length vars) < 9223372036854775808) → ((inR Go.IntKind.i64 ((↑(List.length vars) : Int) - 1)) ∧ (((vars = vars) ∧ ((syms = syms) ∧ ((size = size) ∧ ((most = most) ∧ (((-1) ≤ ((↑(List.length vars) : Int) - 1)) ∧ ((((↑(List.length vars) : Int) - 1) < (↑(List.length vars) : Int)) ∧ (((([] : (List Bnd)) :: ([] : (List (List Bnd)))) = (Sp.prod (Option.some (Int.toNat most)) syms size (List.drop (Int.toNat (((↑(List.length vars) : Int) - 1) + 1)) vars))) ∧ (((Sp.permit vars syms size most) = 0) ∧ (most ≠ 0))))))))) ∧ ((r35_Values.l6 vars syms size most) ∧ (∀ l : (List (List Bnd)), (∀ i3 : Int, ((((LOut.brk ((Sp.prod (Option.some (Int.toNat most)) syms size vars), (-1))) : (LOut ((List (List Bnd)) × Int) ((List (List Bnd)) × Int))) = (LOut.brk (l, i3))) → ((Sp.valuesR vars syms size most) = (l, 0)))))))))))) ∧ (∀ l : (List (List Bnd)), (∀ i2 : Int, ((((ite ((Sp.dupFrom vars (Int.toNat 0)) = Bool.true) (LOut.ret (([] : (List (List Bnd))), 10)) (LOut.brk (↑(List.length vars) : Int))) : (LOut Int ((List (List Bnd)) × Int))) = (LOut.ret (l, i2))) → ((Sp.valuesR vars syms size most) = (l, i2)))))))))) ∧ (∀ l : (List (List Bnd)), (∀ i1 : Int, ((((ite ((List.all (List.drop (Int.toNat 0) syms) Sp.symOK) = Bool.true) (LOut.brk (↑(List.length syms) : Int)) (LOut.ret (([] : (List (List Bnd))), 2))) : (LOut Int ((List (List Bnd)) × Int))) = (LOut.ret (l, i1))) → ((Sp.valuesR vars syms size most) = (l, i1)))))))))) ∧ (∀ l : (List (List Bnd)), (∀ i : Int, ((((ite ((List.all (List.drop (Int.toNat 0) vars) Sp.isVarN) = Bool.true) (LOut.brk (↑(List.length vars) : Int)) (LOut.ret (([] : (List (List Bnd))), 2))) : (LOut Int ((List (List Bnd)) × Int))) = (LOut.ret (l, i))) → ((Sp.valuesR vars syms size most) = (l, i)))))))))))
theorem r35_Values.w (vars : (List ByteArray)) (syms : (List Tm)) (size : Int) (most : Int) : wpF Go.Proofs.Try.prog (lookC [(35, r01_Value.C), (43, r01_Copy.C), (52, r01_Variable.C), (53, r01_IsSymbol.C), (54, r01_Has.C), (55, r35_valuesOf.C)]) 25 [.lst (.str), .lst (.nm 0), .int .i64, .int .i64] [.lst (.lst (.nm 3)), .int .i64] (r35_Values.Λ vars syms size most) (fun _ => none) (vars, syms, size, most) (fun r => (Sp.valuesR vars syms size most) = r) = r35_Values.t vars syms size most := by kernel_rfl
def l35_sameBinds.l0 (a : (List Bnd)) (b : (List Bnd)) : Prop :=
  (∀ l : (List Bnd), (∀ l1 : (List Bnd), (∀ i : Int, (((l = a) ∧ ((l1 = b) ∧ ((0 ≤ i) ∧ ((i ≤ (↑(List.length a) : Int)) ∧ ((List.length a) = (List.length b)))))) → (((List.length l) < 9223372036854775808) → (ifB (decide (i < (↑(List.length l) : Int))) (((0 ≤ i) ∧ (i < (↑(List.length l) : Int))) ∧ (((0 ≤ i) ∧ (i < (↑(List.length l1) : Int))) ∧ ((((!(decide ((Bnd.var (nth (Inhabited.default) l i)) = (Bnd.var (nth (Inhabited.default) l1 i))))) = Bool.false) → ((0 ≤ i) ∧ (i < (↑(List.length l) : Int)))) ∧ ((((!(decide ((Bnd.var (nth (Inhabited.default) l i)) = (Bnd.var (nth (Inhabited.default) l1 i))))) = Bool.false) → ((0 ≤ i) ∧ (i < (↑(List.length l1) : Int)))) ∧ (ifB ((!(decide ((Bnd.var (nth (Inhabited.default) l i)) = (Bnd.var (nth (Inhabited.default) l1 i))))) || (!(decide ((Sp.cmpL (Bnd.val (nth (Inhabited.default) l i)) (Bnd.val (nth (Inhabited.default) l1 i))) = 0)))) (((ite ((Sp.sameBs (List.drop (Int.toNat i) a) (List.drop (Int.toNat i) b)) = Bool.true) (LOut.brk (↑(List.length a) : Int)) (LOut.ret Bool.false)) : (LOut Int Bool)) = (LOut.ret Bool.false)) ((inR Go.IntKind.i64 (i + 1)) ∧ (((l = a) ∧ ((l1 = b) ∧ ((0 ≤ (i + 1)) ∧ (((i + 1) ≤ (↑(List.length a) : Int)) ∧ ((List.length a) = (List.length b)))))) ∧ (((Int.toNat ((↑(List.length a) : Int) - (i + 1))) < (Int.toNat ((↑(List.length a) : Int) - i))) ∧ (((ite ((Sp.sameBs (List.drop (Int.toNat (i + 1)) a) (List.drop (Int.toNat (i + 1)) b)) = Bool.true) (LOut.brk (↑(List.length a) : Int)) (LOut.ret Bool.false)) : (LOut Int Bool)) = (ite ((Sp.sameBs (List.drop (Int.toNat i) a) (List.drop (Int.toNat i) b)) = Bool.true) (LOut.brk (↑(List.length a) : Int)) (LOut.ret Bool.false))))))))))) (((ite ((Sp.sameBs (List.drop (Int.toNat i) a) (List.drop (Int.toNat i) b)) = Bool.true) (LOut.brk (↑(List.length a) : Int)) (LOut.ret Bool.false)) : (LOut Int Bool)) = (LOut.brk i))))))))
def l35_sameBinds.t (a : (List Bnd)) (b : (List Bnd)) : Prop :=
  (((List.length a) < 9223372036854775808) → (((List.length b) < 9223372036854775808) → (ifB (!(decide ((↑(List.length a) : Int) = (↑(List.length b) : Int)))) ((Sp.sameBs a b) = Bool.false) (((a = a) ∧ ((b = b) ∧ (((0 : Int) ≤ 0) ∧ ((0 ≤ (↑(List.length a) : Int)) ∧ ((List.length a) = (List.length b)))))) ∧ ((l35_sameBinds.l0 a b) ∧ ((∀ i : Int, ((((ite ((Sp.sameBs (List.drop (Int.toNat 0) a) (List.drop (Int.toNat 0) b)) = Bool.true) (LOut.brk (↑(List.length a) : Int)) (LOut.ret Bool.false)) : (LOut Int Bool)) = (LOut.brk i)) → ((Sp.sameBs a b) = Bool.true))) ∧ (∀ b1 : Bool, ((((ite ((Sp.sameBs (List.drop (Int.toNat 0) a) (List.drop (Int.toNat 0) b)) = Bool.true) (LOut.brk (↑(List.length a) : Int)) (LOut.ret Bool.false)) : (LOut Int Bool)) = (LOut.ret b1)) → ((Sp.sameBs a b) = b1)))))))))
theorem l35_sameBinds.w (a : (List Bnd)) (b : (List Bnd)) : wpF Go.Proofs.Try.prog (lookC [(14, r01_Equal.C)]) 26 [.lst (.nm 3), .lst (.nm 3)] [.bool] (l35_sameBinds.Λ a b) (fun _ => none) (a, b) (fun r => (Sp.sameBs a b) = r) = l35_sameBinds.t a b := by kernel_rfl
end Go.AL

namespace Go.AL
set_option linter.unusedVariables false
set_option linter.unusedSimpArgs false
set_option maxRecDepth 10000
attribute [local irreducible] wpF wpFX wpM wpFM
theorem strings_Index.ok (W : World) : CtrOK Go.Proofs.Try.prog W 88 strings_Index.C := SX.ok W
theorem Sp.mem_cutN {α : Type} {c : Option Nat} {l : List α} {x : α} (h : x ∈ Sp.cutN c l) : x ∈ l := by
  cases c with
  | none => exact h
  | some m => exact List.mem_of_mem_take h
theorem Sp.cutN_len {α : Type} {m : Nat} {l : List α} : (Sp.cutN (some m) l).length ≤ m := by simp [Sp.cutN]; omega
theorem Sp.finRange_flatMap {β : Type} (f : Nat → List β) : ∀ n : Nat, ((List.finRange n).flatMap fun (i : Fin n) => f i.val) = (List.range n).flatMap f := fun n => by
  have e : (List.finRange n).map (fun i : Fin n => i.val) = List.range n := List.ext_getElem (by simp) (by intro i h1 h2; simp)
  rw [← e, List.flatMap_map]
theorem Sp.lists_zero (c : Option Nat) (sy : List Tm) : Sp.lists c sy 0 = [[]] := by rw [Sp.lists]
theorem Sp.lists_succ (c : Option Nat) (sy : List Tm) (n : Nat) : Sp.lists c sy (n + 1) = Sp.cutN c ((sy.flatMap fun t => (Sp.lists c sy n).map (t :: ·)) ++ (List.range (n + 1)).flatMap fun i => (Sp.lists c sy i).flatMap fun kids => (Sp.lists c sy (n - i)).map (Sp.grp kids :: ·)) := by
  rw [Sp.lists]
  congr 2
  exact Sp.finRange_flatMap (fun i => (Sp.lists c sy i).flatMap fun kids => (Sp.lists c sy (n - i)).map (Sp.grp kids :: ·)) (n + 1)
theorem Sp.lists_len {m : Nat} (hm : 1 ≤ m) (sy : List Tm) (n : Nat) : (Sp.lists (some m) sy n).length ≤ m := by
  cases n with
  | zero => rw [Sp.lists_zero]; exact hm
  | succ n => rw [Sp.lists_succ]; exact Sp.cutN_len
theorem Sp.lists_each {c : Option Nat} {sy : List Tm} {p : Nat → List Tm → Prop} (h0 : p 0 []) (h1 : ∀ n t l, t ∈ sy → p n l → p (n + 1) (t :: l)) (h2 : ∀ i n k l, p i k → p n l → p (i + n + 1) (Sp.grp k :: l)) :
    ∀ (n : Nat), ∀ v ∈ Sp.lists c sy n, p n v := by
  intro n
  induction n using Nat.strongRecOn with
  | ind n ih =>
    cases n with
    | zero => intro v hv; rw [Sp.lists_zero] at hv; simp at hv; subst hv; exact h0
    | succ n =>
      intro v hv
      rw [Sp.lists_succ] at hv
      have hv := Sp.mem_cutN hv
      simp only [List.mem_append, List.mem_flatMap, List.mem_map, List.mem_range] at hv
      rcases hv with ⟨t, ht, r, hr, rfl⟩ | ⟨i, hi, k, hk, r, hr, rfl⟩
      · exact h1 n t r ht (ih n (by omega) r hr)
      · have := h2 i (n - i) k r (ih i (by omega) k hk) (ih (n - i) (by omega) r hr)
        rwa [show i + (n - i) + 1 = n + 1 by omega] at this
theorem Sp.lists_elen {c : Option Nat} {sy : List Tm} {n : Nat} : ∀ v ∈ Sp.lists c sy n, v.length ≤ n :=
  Sp.lists_each (p := fun n v => v.length ≤ n) (by simp) (fun n t l _ h => by simpa using h) (fun i n k l _ h => by simp only [List.length_cons]; omega) n
theorem Sp.symOK_kids {t : Tm} (h : Sp.symOK t = true) : t.kids = [] ∧ Sp.right t = true ∧ 1 ≤ t.kind ∧ t.kind ≤ 3 := by
  unfold Sp.symOK Sp.sym Sp.wrong at h
  simp only [Bool.and_eq_true, Bool.or_eq_true, Bool.not_eq_true', Bool.or_eq_false_iff, Bool.and_eq_false_iff, Bool.not_eq_false', decide_eq_true_eq, decide_eq_false_iff_not, mk_empty] at h
  obtain ⟨⟨h1, h2⟩, h3⟩ := h
  split at h3
  · cases h3
  split at h3
  · cases h3
  split at h3
  · rename_i h4
    simp only [Sp.formL, Sp.formT_eq, Bool.and_eq_true] at h4
    have hr := h4.1.1.1
    refine ⟨?_, hr, h1, h2⟩
    unfold Sp.right at hr
    by_cases hk : t.kids = []
    · exact hk
    · have : 0 < t.kids.length := List.length_pos_iff.2 hk
      rw [if_pos ⟨by omega, by omega, this⟩] at hr
      cases hr
  · cases h3
theorem Sp.symOK_nodes {t : Tm} (h : Sp.symOK t = true) : Sp.nodesT t = 1 := by
  have := (Sp.symOK_kids h).1
  cases t with
  | mk k s ks => simp only [Tm.kids] at this; subst this; simp [Sp.nodesT, Sp.nodesL]
theorem Sp.lists_nodes {c : Option Nat} {sy : List Tm} (hs : ∀ t ∈ sy, Sp.symOK t = true) {n : Nat} : ∀ v ∈ Sp.lists c sy n, Sp.nodesL v = n :=
  Sp.lists_each (p := fun n v => Sp.nodesL v = n) rfl (fun n t l ht h => by simp only [Sp.nodesL, Sp.symOK_nodes (hs t ht), h]; omega) (fun i n k l h1 h2 => by simp only [Sp.nodesL, Sp.grp, Sp.nodesT, h1, h2]; omega) n
theorem Sp.upTo_mem {c : Option Nat} {sy : List Tm} {size : Int} {v : List Tm} (h : v ∈ Sp.upTo c sy size) : ∃ n : Nat, (n : Int) ≤ size ∧ v ∈ Sp.lists c sy n := by
  have h := Sp.mem_cutN h
  simp only [List.mem_flatMap, List.mem_range] at h
  obtain ⟨n, h1, h2⟩ := h
  exact ⟨n, by omega, h2⟩
theorem Sp.valuesOf_mem {c : Option Nat} {kind : Int} {sy : List Tm} {size : Int} {v : List Tm} (h : v ∈ Sp.valuesOf c kind sy size) : (kind = 7 ∧ v ∈ Sp.upTo c sy size) ∨ (kind ≠ 7 ∧ ∃ t ∈ sy, v = [t]) ∨ (kind = 6 ∧ ∃ k ∈ Sp.upTo c sy (size - 1), v = [Sp.grp k]) := by
  unfold Sp.valuesOf at h
  split at h
  · rename_i hk; exact .inl ⟨hk, h⟩
  · rename_i hk
    have h := Sp.mem_cutN h
    rcases List.mem_append.1 h with h | h
    · obtain ⟨t, h1, rfl⟩ := List.mem_map.1 h
      exact .inr (.inl ⟨hk, t, h1, rfl⟩)
    · split at h
      · rename_i h6
        obtain ⟨k, h1, rfl⟩ := List.mem_map.1 h
        exact .inr (.inr ⟨h6, k, h1, rfl⟩)
      · cases h
theorem Sp.valuesOf_nodes {c : Option Nat} {kind : Int} {sy : List Tm} {size : Int} (hs : ∀ t ∈ sy, Sp.symOK t = true) {v : List Tm} (h : v ∈ Sp.valuesOf c kind sy size) : (Sp.nodesL v : Int) ≤ max size 1 := by
  rcases Sp.valuesOf_mem h with ⟨_, h⟩ | ⟨_, t, ht, rfl⟩ | ⟨_, k, hk, rfl⟩
  · obtain ⟨n, h1, h2⟩ := Sp.upTo_mem h
    rw [Sp.lists_nodes hs v h2]; omega
  · simp only [Sp.nodesL, Sp.symOK_nodes (hs t ht)]; omega
  · obtain ⟨n, h1, h2⟩ := Sp.upTo_mem hk
    simp only [Sp.nodesL, Sp.grp, Sp.nodesT, Sp.lists_nodes hs k h2]; omega
theorem Sp.upTo_len {m : Nat} {sy : List Tm} {size : Int} : (Sp.upTo (some m) sy size).length ≤ m := Sp.cutN_len
theorem Sp.valuesOf_len {m : Nat} {kind : Int} {sy : List Tm} {size : Int} : (Sp.valuesOf (some m) kind sy size).length ≤ m := by
  unfold Sp.valuesOf
  split
  · exact Sp.upTo_len
  · exact Sp.cutN_len
theorem Sp.prod_len {m : Nat} (hm : 1 ≤ m) {sy : List Tm} {size : Int} (l : List ByteArray) : (Sp.prod (some m) sy size l).length ≤ m := by
  cases l with
  | nil => exact hm
  | cons x r => rw [Sp.prod]; exact Sp.cutN_len
theorem Sp.prod_elen {c : Option Nat} {sy : List Tm} {size : Int} : ∀ (l : List ByteArray), ∀ o ∈ Sp.prod c sy size l, o.length = l.length
  | [], o, h => by simp [Sp.prod] at h; subst h; rfl
  | x :: r, o, h => by
    rw [Sp.prod] at h
    have h := Sp.mem_cutN h
    simp only [List.mem_flatMap, List.mem_map] at h
    obtain ⟨v, hv, o, ho, rfl⟩ := h
    simp [Sp.prod_elen r o ho]
theorem Sp.permit_ok {vars : List ByteArray} {syms : List Tm} {size most : Int} (h : Sp.permit vars syms size most = 0) :
    0 ≤ size ∧ size ≤ 6 ∧ 0 ≤ most ∧ most ≤ 5000 ∧ vars.length ≤ 20 ∧ syms.length ≤ 20 ∧ (∀ x ∈ vars, Sp.isVarN x = true) ∧ (∀ t ∈ syms, Sp.symOK t = true) ∧ Sp.dupFrom vars 0 = false := by
  unfold Sp.permit at h
  split at h
  · cases h
  split at h
  · cases h
  split at h
  · cases h
  split at h
  · cases h
  split at h
  · cases h
  rename_i h1 h2 h3 h4 h5
  simp only [Bool.not_eq_true', Bool.not_eq_false] at h3 h4 h5
  refine ⟨by omega, by omega, by omega, by omega, by omega, by omega, List.all_eq_true.1 h3, List.all_eq_true.1 h4, by simpa using h5⟩
section
variable {α β : Type} {m : Int} {out : List α}
theorem Sp.app_cons (x : α) (r : List α) : Sp.app m (out ++ [x]) r = Sp.app m out (x :: r) := by simp [Sp.app]
theorem Sp.app_nil (h : (out.length : Int) ≤ m) : Sp.app m out [] = out := by
  unfold Sp.app; rw [List.append_nil, List.take_of_length_le (by omega)]
theorem Sp.app_full (h : (out.length : Int) = m) (r : List α) : Sp.app m out r = out := by
  unfold Sp.app; rw [List.take_append_of_le_length (by omega), List.take_of_length_le (by omega)]
theorem Sp.app_len (h : 0 ≤ m) (r : List α) : ((Sp.app m out r).length : Int) ≤ m := by
  unfold Sp.app; rw [List.length_take]; omega
theorem Sp.app_app (h : 0 ≤ m) (a b : List α) : Sp.app m (Sp.app m out a) b = Sp.app m out (a ++ b) := by
  unfold Sp.app
  rw [← List.append_assoc, List.take_append, List.take_append (l₁ := out ++ a), List.take_take, Nat.min_self]
  congr 2
  rw [List.length_take]; omega
theorem Sp.appK_step {l : List β} {k : Int} (x : α) : Sp.appK m (out ++ [x]) l (k + 1) = Sp.appK m out l k := by
  unfold Sp.appK; rw [List.length_append]; simp only [List.length_cons, List.length_nil]; omega
theorem Sp.appK_end {l : List β} {k : Int} (h0 : (out.length : Int) ≤ m) (h1 : k ≤ l.length) (h : ¬ (k < l.length ∧ (out.length : Int) < m)) : Sp.appK m out l k = k := by
  unfold Sp.appK; omega
theorem Sp.app_end {l : List β} {f : β → α} {k : Int} (h0 : (out.length : Int) ≤ m) (h2 : 0 ≤ k) (h1 : k ≤ l.length) (h : ¬ (k < l.length ∧ (out.length : Int) < m)) : Sp.app m out ((l.drop k.toNat).map f) = out := by
  by_cases hk : k < l.length
  · exact Sp.app_full (by omega) _
  · rw [List.drop_eq_nil_of_le (by omega)]; exact Sp.app_nil h0
theorem Sp.app_step {d : β} {l : List β} {f : β → α} {k : Int} (h2 : 0 ≤ k) (h1 : k < l.length) : Sp.app m (out ++ [f (nth d l k)]) ((l.drop (k + 1).toNat).map f) = Sp.app m out ((l.drop k.toNat).map f) := by
  rw [Sp.app_cons, nth_drop (d := d) (l := l) (i := k) (by omega), show (k + 1).toNat = k.toNat + 1 by omega]; rfl
theorem Sp.inL_fst (hm : 0 ≤ m) (F : Nat → List α) : ∀ (f : Nat) (out : List α) (i : Nat), (out.length : Int) ≤ m → (Sp.inL m F f out i).1 = Sp.app m out ((List.range f).flatMap fun k => F (i + k))
  | 0, out, i, h => by simp only [Sp.inL, List.range_zero, List.flatMap_nil]; exact (Sp.app_nil h).symm
  | f + 1, out, i, h => by
    rw [Sp.inL]
    split
    · rw [Sp.inL_fst hm F f _ _ (Sp.app_len hm _), Sp.app_app hm, List.range_succ_eq_map, List.flatMap_cons, List.flatMap_map]
      have : ∀ k, i + 1 + k = i + (k + 1) := fun k => by omega
      simp [this, Nat.add_comm, Nat.add_left_comm]
    · exact (Sp.app_full (m := m) (out := out) (by omega) _).symm
end
theorem Sp.hasS_cons (x : ByteArray) (l : List ByteArray) (s : ByteArray) : Sp.hasS (x :: l) s = (decide (x = s) || Sp.hasS l s) := rfl
theorem Sp.idxS_cons (x : ByteArray) (l : List ByteArray) (s : ByteArray) (h : Sp.hasS (x :: l) s = true) : Sp.idxS (x :: l) s = if s = x then 0 else 1 + Sp.idxS l s := by
  unfold Sp.idxS
  rw [if_pos h, List.findIdx_cons]
  by_cases hx : s = x
  · simp [hx]
  · rw [Sp.hasS_cons] at h
    have : Sp.hasS l s = true := by
      rcases Bool.or_eq_true_iff.1 h with h | h
      · exact absurd (of_decide_eq_true h).symm hx
      · exact h
    rw [if_pos this, if_neg hx]; simp [hx]; omega
theorem Sp.idxS_has (l : List ByteArray) (s : ByteArray) : Sp.hasS l s = decide (0 ≤ Sp.idxS l s) := by
  unfold Sp.idxS
  cases h : Sp.hasS l s with
  | true => simp
  | false => simp
theorem Sp.okL_mem {l : List Tm} {t : Tm} (h : Sp.okL l) (ht : t ∈ l) : Sp.okL [t] := by
  unfold Sp.okL at *
  have : ∀ l : List Tm, t ∈ l → Sp.nodesL [t] ≤ Sp.nodesL l := by
    intro l
    induction l with
    | nil => intro h; cases h
    | cons x l ih =>
      intro h
      simp only [Sp.nodesL]
      rcases List.mem_cons.1 h with rfl | h
      · omega
      · have := ih h; simp only [Sp.nodesL] at this; omega
  exact Nat.le_trans (this l ht) h
theorem take_drop1 {α : Type} {d : α} {l : List α} {i : Int} (h0 : 0 ≤ i) (h : i < l.length) : List.drop i.toNat (List.take (i + 1).toNat l) = [nth d l i] := by
  rw [show (i + 1).toNat = i.toNat + 1 by omega, take_nth (d := d) (by omega), List.drop_append, List.drop_eq_nil_of_le (by rw [List.length_take]; omega), List.length_take, show i.toNat - min i.toNat l.length = 0 by omega]; rfl
theorem Sp.dupFrom_step {l : List ByteArray} {i : Int} (h0 : 0 ≤ i) (h : i < l.length) : Sp.dupFrom l i.toNat = (Sp.hasS (l.take i.toNat) (nth ⟨#[]⟩ l i) || Sp.dupFrom l (i.toNat + 1)) := by
  unfold Sp.dupFrom
  rw [show l.length - i.toNat = (l.length - (i.toNat + 1)) + 1 by omega, List.range_succ_eq_map, List.any_cons, List.any_map]
  simp only [Nat.add_zero, Int.toNat_of_nonneg h0]
  congr 1
  congr 1
  funext k
  simp only [Function.comp, Nat.succ_eq_add_one]
  rw [show i.toNat + (k + 1) = i.toNat + 1 + k by omega]
theorem Sp.dupFrom_end {l : List ByteArray} {i : Nat} (h : l.length ≤ i) : Sp.dupFrom l i = false := by
  unfold Sp.dupFrom; rw [show l.length - i = 0 by omega]; rfl
theorem Sp.index1_ste (s : ByteArray) (h : 1 ≤ s.size) : (s.extract 0 1).size = 1 ∧ Sp.index1 ⟨#[115, 116, 101]⟩ (s.extract 0 1) = if byteAt s 0 = 115 then 0 else if byteAt s 0 = 116 then 1 else if byteAt s 0 = 101 then 2 else -1 := by
  refine ⟨by rw [ByteArray.size_extract]; omega, ?_⟩
  cases s with
  | mk a =>
    cases a with
    | mk l =>
      match l, h with
      | y :: l', _ =>
        have e : ((ByteArray.mk ⟨y :: l'⟩).extract 0 1).data.toList = [y] := by rw [ByteArray.data_extract]; simp
        have eb : byteAt (ByteArray.mk ⟨y :: l'⟩) 0 = (y.toNat : Int) := rfl
        unfold Sp.index1
        rw [e, eb]
        have hy : ∀ k : Nat, k < 256 → ((k.toUInt8 == y) = decide ((y.toNat : Int) = (k : Int))) := fun k hk => by
          rw [Bool.eq_iff_iff]
          simp only [beq_iff_eq, decide_eq_true_eq]
          constructor
          · intro h; subst h; simp; omega
          · intro h; apply UInt8.toNat_inj.mp; simp; omega
        have h1 := hy 115 (by omega); have h2 := hy 116 (by omega); have h3 := hy 101 (by omega)
        have e0 : (ByteArray.mk #[115, 116, 101]).data.toList = [Nat.toUInt8 115, Nat.toUInt8 116, Nat.toUInt8 101] := rfl
        rw [e0]
        simp only [Lib.indexByte, List.headD_cons, h1, h2, h3]
        by_cases g1 : (y.toNat : Int) = 115
        · simp [g1]
        by_cases g2 : (y.toNat : Int) = 116
        · simp [g2]
        by_cases g3 : (y.toNat : Int) = 101
        · simp [g3]
        simp [g1, g2, g3]
theorem Sp.right_var (k : Int) (s : ByteArray) (h : k = 5 ∨ k = 6 ∨ k = 7) : Sp.right (.mk k s []) = Sp.var s := by
  unfold Sp.right
  simp only [Tm.kind, Tm.text, Tm.kids, List.length_nil]
  rcases h with rfl | rfl | rfl <;> simp
theorem Sp.var_empty (s : ByteArray) (h : s.size = 0) : Sp.var s = false := by
  have : s = ByteArray.empty := size_zero.2 h
  unfold Sp.var; simp [this]
theorem Sp.sameBs_len : ∀ (a b : List Bnd), Sp.sameBs a b = true → a.length = b.length
  | [], [], _ => rfl
  | x :: a, y :: b, h => by
    simp only [Sp.sameBs, Bool.and_eq_true] at h
    simp [Sp.sameBs_len a b h.2]
  | [], _ :: _, h => by cases h
  | _ :: _, [], h => by cases h
theorem Sp.flatMap_cong {α β : Type} {f g : α → List β} : ∀ {l : List α}, (∀ x ∈ l, f x = g x) → l.flatMap f = l.flatMap g
  | [], _ => rfl
  | x :: l, h => by rw [List.flatMap_cons, List.flatMap_cons, h x (by simp), Sp.flatMap_cong fun y hy => h y (by simp [hy])]
theorem strings_Contains.main (s sub : ByteArray) (ha : sub.size = 1) : strings_Contains.t s sub := ⟨ha, fun i h => by rw [h]⟩
theorem strings_Contains.ok (W : World) : CtrOK Go.Proofs.Try.prog W 87 strings_Contains.C := by
  refine funOK (Γ := lookC [(88, strings_Index.C)]) (lookC_ok (fun p hp => by
    simp only [List.mem_cons, List.not_mem_nil, or_false] at hp
    subst hp; exact strings_Index.ok W)) (Λ := fun a_ => match a_ with | (s, sub) => (fun _ => none)) (Λr := fun a_ => match a_ with | (s, sub) => (fun _ => none)) ?_
  intro a ha
  obtain ⟨s, sub⟩ := a
  refine Eq.mpr ?_ (@strings_Contains.main s sub ha)
  kernel_rfl
theorem slices_Index.l0_ok (l : List ByteArray) (s : ByteArray) : slices_Index.l0 l s := by
  rintro l1 s1 n i ⟨e1, e2, e3, h1, h2, h3⟩
  subst l1 s1 n
  refine ifD (fun h => ⟨by omega, ifD (fun hs => ?_) fun hs => ⟨inR64 (by omega), ⟨by trivial, by trivial, by trivial, by omega, by omega, h3⟩, by omega, ?_⟩⟩) fun h => ?_
  · have e := nth_drop (d := (⟨#[]⟩ : ByteArray)) (l := l) (i := i) (by omega)
    rw [e, ← hs]
    have hh : Sp.hasS (s :: l.drop (i.toNat + 1)) s = true := by rw [Sp.hasS_cons]; simp
    rw [if_pos hh, Sp.idxS_cons _ _ _ hh, if_pos rfl]; simp
  · have e := nth_drop (d := (⟨#[]⟩ : ByteArray)) (l := l) (i := i) (by omega)
    rw [e, show (i + 1).toNat = i.toNat + 1 by omega, Sp.hasS_cons]
    have hd : decide (nth (⟨#[]⟩ : ByteArray) l i = s) = false := decide_eq_false fun h => hs h.symm
    rw [hd, Bool.false_or]
    cases hh : Sp.hasS (l.drop (i.toNat + 1)) s with
    | false => rfl
    | true =>
      rw [if_pos rfl, if_pos rfl, Sp.idxS_cons _ _ _ (by rw [Sp.hasS_cons, hh]; simp), if_neg hs]; congr 1; omega
  · rw [List.drop_eq_nil_of_le (by omega), if_neg (by simp [Sp.hasS])]; congr 1; omega
theorem slices_Index.main (l : List ByteArray) (s : ByteArray) : slices_Index.t l s := by
  refine fun hl => ⟨⟨rfl, rfl, rfl, by omega, by omega, hl⟩, slices_Index.l0_ok l s, fun i h => ?_, fun i h => ?_⟩
  · simp only [Int.toNat_zero, List.drop_zero] at h
    obtain ⟨h, _⟩ := ite_brk' h
    unfold Sp.idxS; rw [if_neg h]
  · simp only [Int.toNat_zero, List.drop_zero] at h
    obtain ⟨_, h⟩ := ite_ret' h
    omega
theorem slices_Index.ok (W : World) : CtrOK Go.Proofs.Try.prog W 89 slices_Index.C := by
  refine funOK (Γ := lookC []) (lookC_ok (fun p hp => by cases hp)) (Λ := fun a_ => match a_ with | (l, s) => (slices_Index.Λ l s)) (Λr := fun a_ => match a_ with | (l, s) => (fun _ => none)) ?_
  intro a ha
  obtain ⟨l, s⟩ := a
  refine Eq.mpr ?_ (@slices_Index.main l s)
  kernel_rfl
theorem slices_Contains.main (l : List ByteArray) (s : ByteArray) : slices_Contains.t l s := fun i h => by rw [Sp.idxS_has, h]
theorem slices_Contains.ok (W : World) : CtrOK Go.Proofs.Try.prog W 74 slices_Contains.C := by
  refine funOK (Γ := lookC [(89, slices_Index.C)]) (lookC_ok (fun p hp => by
    simp only [List.mem_cons, List.not_mem_nil, or_false] at hp
    subst hp; exact slices_Index.ok W)) (Λ := fun a_ => match a_ with | (l, s) => (fun _ => none)) (Λr := fun a_ => match a_ with | (l, s) => (fun _ => none)) ?_
  intro a ha
  obtain ⟨l, s⟩ := a
  refine Eq.mpr ?_ (@slices_Contains.main l s)
  kernel_rfl
theorem term_Variable.main (s : ByteArray) : term_Variable.t s := by
  intro hl
  have e1 : Int.toNat 1 = 1 := rfl
  have e2 : Int.toNat 2 = 2 := rfl
  have e0 : Int.toNat 0 = 0 := rfl
  simp only [e1, e2, e0, Int.toNat_natCast]
  refine ⟨fun h => ?_, fun h => ?_, fun h => ?_, ifB_of (fun h => ?_) fun h => ?_⟩
  · simp only [Bool.and_eq_true, Bool.or_eq_true, Bool.not_eq_true', Bool.or_eq_false_iff, Bool.and_eq_false_iff, Bool.not_eq_false', decide_eq_true_eq, decide_eq_false_iff_not, mk_empty] at h; omega
  · simp only [Bool.and_eq_true, Bool.or_eq_true, Bool.not_eq_true', Bool.or_eq_false_iff, Bool.and_eq_false_iff, Bool.not_eq_false', decide_eq_true_eq, decide_eq_false_iff_not, mk_empty] at h; omega
  · simp only [Bool.and_eq_true, Bool.or_eq_true, Bool.not_eq_true', Bool.or_eq_false_iff, Bool.and_eq_false_iff, Bool.not_eq_false', decide_eq_true_eq, decide_eq_false_iff_not, mk_empty] at h; exact (Sp.index1_ste s (by omega)).1
  · simp only [Bool.and_eq_true, Bool.or_eq_true, Bool.not_eq_true', Bool.or_eq_false_iff, Bool.and_eq_false_iff, Bool.not_eq_false', decide_eq_true_eq, decide_eq_false_iff_not, mk_empty] at h
    unfold Sp.vari
    split
    · rename_i hc
      simp only [Bool.and_eq_true, Bool.or_eq_true, Bool.not_eq_true', Bool.or_eq_false_iff, Bool.and_eq_false_iff, Bool.not_eq_false', decide_eq_true_eq, decide_eq_false_iff_not, mk_empty] at hc
      have hi := (Sp.index1_ste s (by omega)).2
      rcases h with (h | h) | h
      · omega
      · exact absurd hc.1.2 h
      · rw [hi] at h
        split at h
        · omega
        split at h
        · omega
        split at h
        · omega
        rename_i g1 g2 g3
        rw [if_neg g1, if_neg g2, if_neg g3]
    · rfl
  · simp only [Bool.and_eq_true, Bool.or_eq_true, Bool.not_eq_true', Bool.or_eq_false_iff, Bool.and_eq_false_iff, Bool.not_eq_false', decide_eq_true_eq, decide_eq_false_iff_not, mk_empty] at h
    obtain ⟨⟨h1, h2⟩, h3⟩ := h
    obtain ⟨hs, hi⟩ := Sp.index1_ste s (by omega)
    have hk : Sp.index1 ⟨#[115, 116, 101]⟩ (s.extract 0 1) = 0 ∨ Sp.index1 ⟨#[115, 116, 101]⟩ (s.extract 0 1) = 1 ∨ Sp.index1 ⟨#[115, 116, 101]⟩ (s.extract 0 1) = 2 := by
      rw [hi] at h3 ⊢
      split
      · exact .inl rfl
      split
      · exact .inr (.inl rfl)
      split
      · exact .inr (.inr rfl)
      rename_i g1 g2 g3
      rw [if_neg g1, if_neg g2, if_neg g3] at h3; omega
    refine ⟨by omega, hs, inR64 (by omega), by omega, fun b hb => ?_⟩
    rw [Sp.right_var _ _ (by omega)] at hb
    refine ifB_of (fun hn => ?_) fun hn => ?_
    · unfold Sp.vari
      rw [if_neg]
      intro hc
      simp only [Bool.and_eq_true, Bool.or_eq_true, Bool.not_eq_true', Bool.or_eq_false_iff, Bool.and_eq_false_iff, Bool.not_eq_false', decide_eq_true_eq, decide_eq_false_iff_not, mk_empty] at hc hn
      rw [hb, hn] at hc; cases hc.2
    · simp only [Bool.and_eq_true, Bool.or_eq_true, Bool.not_eq_true', Bool.or_eq_false_iff, Bool.and_eq_false_iff, Bool.not_eq_false', decide_eq_true_eq, decide_eq_false_iff_not, mk_empty] at hn
      subst hn
      have h4 : 3 ≤ s.size := by
        rcases Nat.lt_or_ge s.size 3 with h5 | h5
        · rw [Sp.var_empty _ (by rw [ByteArray.size_extract]; omega)] at hb; cases hb
        · exact h5
      have hc : (decide (3 ≤ s.size) && decide (byteAt s 1 = 46) && Sp.var (s.extract 2 s.size)) = true := by
        simp only [Bool.and_eq_true, Bool.or_eq_true, Bool.not_eq_true', Bool.or_eq_false_iff, Bool.and_eq_false_iff, Bool.not_eq_false', decide_eq_true_eq, decide_eq_false_iff_not, mk_empty]; exact ⟨⟨h4, h2⟩, hb⟩
      unfold Sp.vari
      rw [if_pos hc]
      rw [hi] at h3 ⊢
      split
      · rfl
      split
      · rfl
      split
      · rfl
      rename_i g1 g2 g3
      rw [if_neg g1, if_neg g2, if_neg g3] at h3; omega
theorem term_Variable.ok (W : World) : CtrOK Go.Proofs.Try.prog W 73 term_Variable.C := by
  refine funOK (Γ := lookC [(85, term_right.C), (87, strings_Contains.C), (88, strings_Index.C)]) (lookC_ok (fun p hp => by
    simp only [List.mem_cons, List.not_mem_nil, or_false] at hp
    rcases hp with rfl | rfl | rfl
    · exact term_right.ok W
    · exact strings_Contains.ok W
    · exact strings_Index.ok W)) (Λ := fun a_ => match a_ with | s => (fun _ => none)) (Λr := fun a_ => match a_ with | s => (fun _ => none)) ?_
  intro a ha
  refine Eq.mpr ?_ (@term_Variable.main a)
  kernel_rfl
theorem equal_permitted.l1_ok (vars : List ByteArray) : equal_permitted.l1 vars := by
  rintro l n i ⟨e1, e2, h1, h2, h3⟩
  subst l n
  refine ifD (fun h => ⟨by omega, fun x b hb => ?_⟩) fun h => ?_
  · have e := nth_drop (d := (⟨#[]⟩ : ByteArray)) (l := vars) (i := i) (by omega)
    have hv : Sp.isVarN (nth (⟨#[]⟩ : ByteArray) vars i) = b := by unfold Sp.isVarN; rw [hb]
    rw [e, List.all_cons, hv, show (i + 1).toNat = i.toNat + 1 by omega]
    cases b with
    | false => exact (if_neg (by simp))
    | true => exact ⟨inR64 (by omega), ⟨by trivial, by trivial, by omega, by omega, h3⟩, by omega, by simp⟩
  · rw [List.drop_eq_nil_of_le (by omega), if_pos (by rfl)]; congr 1; omega
theorem equal_permitted.l3_ok (syms : List Tm) : equal_permitted.l3 syms := by
  rintro l n i ⟨e1, e2, h1, h2, h3, h4⟩
  subst l n
  refine ifD (fun h => ⟨by omega, fun b hb => ⟨fun _ => ?_, ?_⟩⟩) fun h => ?_
  · rw [Tm.eta]; exact Sp.okL_mem h4 (nth_mem (by omega))
  · have e := nth_drop (d := (default : Tm)) (l := syms) (i := i) (by omega)
    rw [Tm.eta] at hb ⊢
    have hv : Sp.symOK (nth (default : Tm) syms i) = (b && decide (Sp.wrong [nth (default : Tm) syms i] 4 = 0)) := by unfold Sp.symOK; rw [hb]
    rw [e, List.all_cons, hv, show (i + 1).toNat = i.toNat + 1 by omega]
    generalize decide (Sp.wrong [nth (default : Tm) syms i] 4 = 0) = c
    cases b <;> cases c
    · exact (if_neg (by simp))
    · exact (if_neg (by simp))
    · exact (if_neg (by simp))
    · exact ⟨inR64 (by omega), ⟨by trivial, by trivial, by omega, by omega, h3, h4⟩, by omega, by simp⟩
  · rw [List.drop_eq_nil_of_le (by omega), if_pos (by rfl)]; congr 1; omega
theorem equal_permitted.l5_ok (vars : List ByteArray) : equal_permitted.l5 vars := by
  rintro l l1 n i ⟨e1, e2, e3, h1, h2, h3⟩
  subst l l1 n
  refine ifD (fun h => ⟨by omega, by omega, fun b hb => ?_⟩) fun h => ?_
  · rw [Sp.dupFrom_step h1 h, hb, show (i + 1).toNat = i.toNat + 1 by omega]
    cases b with
    | true => exact (if_pos (by simp))
    | false => exact ⟨inR64 (by omega), ⟨by trivial, by trivial, by trivial, by omega, by omega, h3⟩, by omega, by simp⟩
  · rw [Sp.dupFrom_end (by omega), if_neg (by simp)]; congr 1; omega
theorem equal_permitted.main (vars : List ByteArray) (syms : List Tm) (size most : Int) (ha : Sp.okL syms) : equal_permitted.t vars syms size most := by
  refine ifB_of (fun h => ?_) fun h => fun hl => ifB_of (fun h2 => ?_) fun h2 => ?_
  · simp only [Bool.and_eq_true, Bool.or_eq_true, Bool.not_eq_true', Bool.or_eq_false_iff, Bool.and_eq_false_iff, Bool.not_eq_false', decide_eq_true_eq, decide_eq_false_iff_not, mk_empty] at h
    unfold Sp.permit; rw [if_pos (by omega)]
  · simp only [Bool.and_eq_true, Bool.or_eq_true, Bool.not_eq_true', Bool.or_eq_false_iff, Bool.and_eq_false_iff, Bool.not_eq_false', decide_eq_true_eq, decide_eq_false_iff_not, mk_empty] at h h2
    unfold Sp.permit; rw [if_neg (by omega), if_pos (by omega)]
  · simp only [Bool.and_eq_true, Bool.or_eq_true, Bool.not_eq_true', Bool.or_eq_false_iff, Bool.and_eq_false_iff, Bool.not_eq_false', decide_eq_true_eq, decide_eq_false_iff_not, mk_empty] at h h2
    have e : Sp.permit vars syms size most = if !vars.all Sp.isVarN then 2 else if !syms.all Sp.symOK then 2 else if Sp.dupFrom vars 0 then 10 else 0 := by
      unfold Sp.permit; rw [if_neg (by omega), if_neg (by omega)]
    rw [e]
    refine fun _ => ⟨⟨rfl, rfl, by omega, by omega, by omega⟩, equal_permitted.l1_ok vars, fun i hi => fun hl2 => ⟨⟨rfl, rfl, by omega, by omega, by omega, ha⟩, equal_permitted.l3_ok syms, fun i hi2 => fun hl3 => ⟨⟨rfl, rfl, rfl, by omega, by omega, by omega⟩, equal_permitted.l5_ok vars, fun i hi3 => ?_, fun i hi3 => ?_⟩, fun i hi2 => ?_⟩, fun i hi => ?_⟩
    · simp only [Int.toNat_zero, List.drop_zero] at hi hi2 hi3
      obtain ⟨h3, _⟩ := ite_brk hi; obtain ⟨h4, _⟩ := ite_brk hi2; obtain ⟨h5, _⟩ := ite_brk' hi3
      simp [h3, h4, h5]
    · simp only [Int.toNat_zero, List.drop_zero] at hi hi2 hi3
      obtain ⟨h3, _⟩ := ite_brk hi; obtain ⟨h4, _⟩ := ite_brk hi2; obtain ⟨h5, h6⟩ := ite_ret' hi3
      simp [h3, h4, h5, h6]
    · simp only [Int.toNat_zero, List.drop_zero] at hi hi2
      obtain ⟨h3, _⟩ := ite_brk hi; obtain ⟨h4, h6⟩ := ite_ret hi2
      simp [h3, h4, h6]
    · simp only [Int.toNat_zero, List.drop_zero] at hi
      obtain ⟨h4, h6⟩ := ite_ret hi
      simp [h4, h6]
theorem equal_permitted.ok (W : World) : CtrOK Go.Proofs.Try.prog W 47 equal_permitted.C := by
  refine funOK (Γ := lookC [(28, term_Value.C), (69, term_IsSymbol.C), (73, term_Variable.C), (74, slices_Contains.C)]) (lookC_ok (fun p hp => by
    simp only [List.mem_cons, List.not_mem_nil, or_false] at hp
    rcases hp with rfl | rfl | rfl | rfl
    · exact term_Value.ok W
    · exact term_IsSymbol.ok W
    · exact term_Variable.ok W
    · exact slices_Contains.ok W)) (Λ := fun a_ => match a_ with | (vars, syms, size, most) => (equal_permitted.Λ vars syms size most)) (Λr := fun a_ => match a_ with | (vars, syms, size, most) => (fun _ => none)) ?_
  intro a ha
  obtain ⟨vars, syms, size, most⟩ := a
  refine Eq.mpr ?_ (@equal_permitted.main vars syms size most ha)
  kernel_rfl
theorem r01_Has.l0_ok (l : List ByteArray) (s : ByteArray) : r01_Has.l0 l s := by
  rintro l1 s1 i ⟨e1, e2, h1, h2⟩
  subst l1 s1
  refine fun hl => ifD (fun h => ⟨by omega, ifD (fun hs => ?_) fun hs => ⟨inR64 (by omega), ⟨by trivial, by trivial, by omega, by omega⟩, by omega, ?_⟩⟩) fun h => ?_
  · rw [nth_drop (d := (⟨#[]⟩ : ByteArray)) (l := l) (i := i) (by omega), Sp.hasS_cons, hs, if_pos (by simp)]
  · rw [nth_drop (d := (⟨#[]⟩ : ByteArray)) (l := l) (i := i) (by omega), Sp.hasS_cons, decide_eq_false hs, Bool.false_or, show (i + 1).toNat = i.toNat + 1 by omega]
  · rw [List.drop_eq_nil_of_le (by omega), if_neg (by simp [Sp.hasS])]; congr 1; omega
theorem r01_Has.main (l : List ByteArray) (s : ByteArray) : r01_Has.t l s := by
  refine ⟨⟨rfl, rfl, by omega, by omega⟩, r01_Has.l0_ok l s, fun i h => ?_, fun b h => ?_⟩
  · simp only [Int.toNat_zero, List.drop_zero] at h
    obtain ⟨h, _⟩ := ite_brk' h
    simpa using h
  · simp only [Int.toNat_zero, List.drop_zero] at h
    obtain ⟨h1, h⟩ := ite_ret' h
    rw [h1, h]
theorem r01_Has.ok (W : World) : CtrOK Go.Proofs.Try.prog W 54 r01_Has.C := by
  refine funOK (Γ := lookC []) (lookC_ok (fun p hp => by cases hp)) (Λ := fun a_ => match a_ with | (l, s) => (r01_Has.Λ l s)) (Λr := fun a_ => match a_ with | (l, s) => (fun _ => none)) ?_
  intro a ha
  obtain ⟨l, s⟩ := a
  refine Eq.mpr ?_ (@r01_Has.main l s)
  kernel_rfl
theorem r01_Variable.main (s : ByteArray) : r01_Variable.t s := by
  intro hl
  refine ⟨fun h => ?_, fun h => ?_, ifB_of (fun h => ?_) fun h => ?_⟩
  · simp only [Bool.and_eq_true, Bool.or_eq_true, Bool.not_eq_true', Bool.or_eq_false_iff, Bool.and_eq_false_iff, Bool.not_eq_false', decide_eq_true_eq, decide_eq_false_iff_not, mk_empty] at h; omega
  · simp only [Bool.and_eq_true, Bool.or_eq_true, Bool.not_eq_true', Bool.or_eq_false_iff, Bool.and_eq_false_iff, Bool.not_eq_false', decide_eq_true_eq, decide_eq_false_iff_not, mk_empty] at h; omega
  · unfold Sp.vari
    rw [if_neg]
    intro hc
    simp only [Int.toNat_natCast, show Int.toNat 1 = 1 from rfl, show Int.toNat 2 = 2 from rfl] at h
    simp only [Bool.and_eq_true, Bool.or_eq_true, Bool.not_eq_true', Bool.or_eq_false_iff, Bool.and_eq_false_iff, Bool.not_eq_false', decide_eq_true_eq, decide_eq_false_iff_not, mk_empty] at h hc
    rcases h with (h | h) | h
    · omega
    · exact h hc.1.2
    · rw [hc.2] at h; cases h
  · simp only [Int.toNat_natCast, show Int.toNat 1 = 1 from rfl, show Int.toNat 2 = 2 from rfl, show Int.toNat 0 = 0 from rfl] at h ⊢
    simp only [Bool.and_eq_true, Bool.or_eq_true, Bool.not_eq_true', Bool.or_eq_false_iff, Bool.and_eq_false_iff, Bool.not_eq_false', decide_eq_true_eq, decide_eq_false_iff_not, mk_empty] at h
    obtain ⟨⟨h1, h2⟩, h3⟩ := h
    have hc : (decide (3 ≤ s.size) && decide (byteAt s 1 = 46) && Sp.var (s.extract 2 s.size)) = true := by
      simp only [Bool.and_eq_true, Bool.or_eq_true, Bool.not_eq_true', Bool.or_eq_false_iff, Bool.and_eq_false_iff, Bool.not_eq_false', decide_eq_true_eq, decide_eq_false_iff_not, mk_empty]; exact ⟨⟨by omega, by omega⟩, h3⟩
    have e : Sp.vari s = (if byteAt s 0 = 115 then (.mk 5 (s.extract 2 s.size) [], true) else if byteAt s 0 = 116 then (.mk 6 (s.extract 2 s.size) [], true) else if byteAt s 0 = 101 then (.mk 7 (s.extract 2 s.size) [], true) else (.mk 0 ⟨#[]⟩ [], false)) := by
      unfold Sp.vari; rw [if_pos hc]
    rw [e]
    refine ⟨by omega, ifD (fun g => ⟨by omega, by rw [if_pos g]⟩) fun g => ifD (fun g2 => ⟨by omega, by rw [if_neg g, if_pos g2]⟩) fun g2 => ifD (fun g3 => ⟨by omega, by rw [if_neg g, if_neg g2, if_pos g3]⟩) fun g3 => by rw [if_neg g, if_neg g2, if_neg g3]⟩
theorem r01_Variable.ok (W : World) : CtrOK Go.Proofs.Try.prog W 52 r01_Variable.C := by
  refine funOK (Γ := lookC [(81, r01_IsVar.C)]) (lookC_ok (fun p hp => by
    simp only [List.mem_cons, List.not_mem_nil, or_false] at hp
    subst hp; exact r01_IsVar.ok W)) (Λ := fun a_ => match a_ with | s => (fun _ => none)) (Λr := fun a_ => match a_ with | s => (fun _ => none)) ?_
  intro a ha
  refine Eq.mpr ?_ (@r01_Variable.main a)
  kernel_rfl
theorem r35_lists.l2_ok (syms : List Tm) (most : Int) (hm : 0 < most ∧ most ≤ 5000) : r35_lists.l2 syms most := by
  rintro l4 i2 rests i out k ⟨e1, e2, h1, h2, h3, h4, h5, h6, h7⟩
  subst l4 i2
  refine fun hl => ifB_of (fun h => ?_) fun h => ?_
  · simp only [Bool.and_eq_true, Bool.or_eq_true, Bool.not_eq_true', Bool.or_eq_false_iff, Bool.and_eq_false_iff, Bool.not_eq_false', decide_eq_true_eq, decide_eq_false_iff_not, mk_empty] at h
    have hr := h7 _ (nth_mem (d := ([] : List Tm)) (l := rests) (i := k) (by omega))
    refine ⟨by omega, by omega, ?_, ?_, inR64 (by omega), ⟨by trivial, by trivial, h1, h2, by omega, by omega, ?_, h6, h7⟩, by omega, ?_⟩
    · simp only [List.length_cons, List.length_nil]; omega
    · simp only [List.length_cons, List.length_nil]; omega
    · simp only [List.length_append, List.length_cons, List.length_nil]; omega
    · rw [Sp.appK_step, Sp.app_step (d := ([] : List Tm)) (f := fun r => nth (default : Tm) syms i :: r) h3 (by omega)]
  · have h : ¬ (k < rests.length ∧ (out.length : Int) < most) := by simp only [Bool.and_eq_true, Bool.or_eq_true, Bool.not_eq_true', Bool.or_eq_false_iff, Bool.and_eq_false_iff, Bool.not_eq_false', decide_eq_true_eq, decide_eq_false_iff_not, mk_empty] at h; omega
    rw [Sp.app_end h5 h3 h4 h, Sp.appK_end h5 h4 h]
theorem r35_lists.l0_ok (syms : List Tm) (most : Int) (hm : 0 < most ∧ most ≤ 5000) : r35_lists.l0 syms most := by
  rintro l1 i rests out i1 ⟨e1, e2, h1, h2, h3, h4, h5⟩
  subst l1 i
  refine fun hl => ifD (fun h => ⟨⟨rfl, rfl, h1, h, by omega, by omega, h3, h4, h5⟩, r35_lists.l2_ok syms most hm, fun l i2 hx => ?_⟩) fun h => ?_
  · simp only [LOut.brk.injEq, Prod.mk.injEq, Int.toNat_zero, List.drop_zero] at hx
    obtain ⟨rfl, _⟩ := hx
    refine ⟨inR64 (by omega), ⟨rfl, rfl, by omega, by omega, Sp.app_len (by omega) _, h4, h5⟩, by omega, ?_⟩
    rw [Sp.app_app (by omega), nth_drop (d := (default : Tm)) (l := syms) (i := i1) (by omega), show (i1 + 1).toNat = i1.toNat + 1 by omega, List.flatMap_cons]
  · rw [List.drop_eq_nil_of_le (by omega), List.flatMap_nil, Sp.app_nil h3]; congr 2; omega
theorem r35_lists.l8_ok (most : Int) (hm : 0 < most ∧ most ≤ 5000) : r35_lists.l8 most := by
  rintro i2 kids rests i out k ⟨e2, h1, h2, h3, h4, h5, h0, h6, h7⟩
  subst i2
  refine fun hl => ifB_of (fun h => ?_) fun h => ?_
  · simp only [Bool.and_eq_true, Bool.or_eq_true, Bool.not_eq_true', Bool.or_eq_false_iff, Bool.and_eq_false_iff, Bool.not_eq_false', decide_eq_true_eq, decide_eq_false_iff_not, mk_empty] at h
    have hr := h7 _ (nth_mem (d := ([] : List Tm)) (l := rests) (i := k) (by omega))
    refine ⟨by omega, by omega, ?_, ?_, inR64 (by omega), ⟨by trivial, h1, h2, by omega, by omega, ?_, h0, h6, h7⟩, by omega, ?_⟩
    · simp only [List.length_cons, List.length_nil]; omega
    · simp only [List.length_cons, List.length_nil]; omega
    · simp only [List.length_append, List.length_cons, List.length_nil]; omega
    · rw [Sp.appK_step]
      have := Sp.app_step (m := most) (out := out) (d := ([] : List Tm)) (l := rests) (k := k) (f := fun r => Sp.grp (nth ([] : List Tm) kids i) :: r) h3 (by omega)
      congr 2
  · have h : ¬ (k < rests.length ∧ (out.length : Int) < most) := by simp only [Bool.and_eq_true, Bool.or_eq_true, Bool.not_eq_true', Bool.or_eq_false_iff, Bool.and_eq_false_iff, Bool.not_eq_false', decide_eq_true_eq, decide_eq_false_iff_not, mk_empty] at h; omega
    rw [Sp.app_end h5 h3 h4 h, Sp.appK_end h5 h4 h]
theorem r35_lists.l6_ok (most : Int) (hm : 0 < most ∧ most ≤ 5000) : r35_lists.l6 most := by
  rintro i kids rests out i1 ⟨e2, h1, h2, h3, h0, h4, h5⟩
  subst i
  refine fun hl => ifD (fun h => ⟨⟨rfl, h1, h, by omega, by omega, h3, h0, h4, h5⟩, r35_lists.l8_ok most hm, fun l i2 hx => ?_⟩) fun h => ?_
  · simp only [LOut.brk.injEq, Prod.mk.injEq, Int.toNat_zero, List.drop_zero] at hx
    obtain ⟨rfl, _⟩ := hx
    refine ⟨inR64 (by omega), ⟨rfl, by omega, by omega, Sp.app_len (by omega) _, h0, h4, h5⟩, by omega, ?_⟩
    rw [Sp.app_app (by omega), nth_drop (d := ([] : List Tm)) (l := kids) (i := i1) (by omega), show (i1 + 1).toNat = i1.toNat + 1 by omega, List.flatMap_cons]
  · rw [List.drop_eq_nil_of_le (by omega), List.flatMap_nil, Sp.app_nil h3]; congr 2; omega
theorem r35_lists.l4_ok (syms : List Tm) (n most : Int) (ha : 0 ≤ n ∧ n ≤ 6 ∧ 0 < most ∧ most ≤ 5000 ∧ syms.length ≤ 20) : r35_lists.l4 syms n most := by
  obtain ⟨a1, a2, a3, a4, a5⟩ := ha
  rintro l2 i1 i2 out i ⟨e1, e2, e3, h1, h2, h3⟩
  subst l2 i1 i2
  refine ifB_of (fun h => ?_) fun h => ?_
  · simp only [Bool.and_eq_true, Bool.or_eq_true, Bool.not_eq_true', Bool.or_eq_false_iff, Bool.and_eq_false_iff, Bool.not_eq_false', decide_eq_true_eq, decide_eq_false_iff_not, mk_empty] at h
    have hlen : ∀ n, (Sp.lists (some most.toNat) syms n).length ≤ 5000 := fun n => by have := Sp.lists_len (m := most.toNat) (by omega) syms n; omega
    refine ⟨⟨⟨h1, by omega, a3, a4, a5⟩, by omega⟩, fun kids hk => ⟨inR64 (by omega), inR64 (by omega), ⟨⟨by omega, by omega, a3, a4, a5⟩, by omega⟩, fun rests hr => ⟨⟨by trivial, by omega, by omega, h3, ?_, ?_, ?_⟩, r35_lists.l6_ok most ⟨a3, a4⟩, fun o i4 ho => ?_⟩⟩⟩
    · rw [← hk]; exact hlen _
    · rw [← hr]; exact hlen _
    · intro r hr2; rw [← hr] at hr2; have := Sp.lists_elen r hr2; omega
    · simp only [LOut.brk.injEq, Prod.mk.injEq, Int.toNat_zero, List.drop_zero] at ho
      obtain ⟨rfl, _⟩ := ho
      refine ⟨inR64 (by omega), ⟨by trivial, by trivial, by trivial, by omega, by omega, Sp.app_len (by omega) _⟩, by omega, ?_⟩
      rw [show (n - i).toNat = (n - (i + 1)).toNat + 1 by omega, Sp.inL, if_pos h.2, show (i + 1).toNat = i.toNat + 1 by omega]
      have : Sp.blockL most syms n i.toNat = kids.flatMap fun k => rests.map (Sp.grp k :: ·) := by
        unfold Sp.blockL; rw [← hk, ← hr, show n.toNat - 1 - i.toNat = (n - 1 - i).toNat by omega]
      rw [this]
  · simp only [Bool.and_eq_true, Bool.or_eq_true, Bool.not_eq_true', Bool.or_eq_false_iff, Bool.and_eq_false_iff, Bool.not_eq_false', decide_eq_true_eq, decide_eq_false_iff_not, mk_empty] at h
    by_cases hi : i < n
    · rw [show (n - i).toNat = (n - (i + 1)).toNat + 1 by omega, Sp.inL, if_neg (by omega)]; congr 2; omega
    · rw [show (n - i).toNat = 0 by omega, Sp.inL]; congr 2; omega
theorem r35_lists.main (syms : List Tm) (n most : Int) (ha : 0 ≤ n ∧ n ≤ 6 ∧ 0 < most ∧ most ≤ 5000 ∧ syms.length ≤ 20) : r35_lists.t syms n most := by
  have ha' := ha
  obtain ⟨a1, a2, a3, a4, a5⟩ := ha
  refine ifD (fun h => ?_) fun h => ⟨inR64 (by omega), ⟨⟨by omega, by omega, a3, a4, a5⟩, by omega⟩, fun rests hr => ⟨⟨rfl, rfl, by omega, by omega, by simp; omega, ?_, ?_⟩, r35_lists.l0_ok syms most ⟨a3, a4⟩, fun o i ho => ⟨⟨rfl, rfl, rfl, by omega, by omega, ?_⟩, r35_lists.l4_ok syms n most ha', fun o2 i2 ho2 => ?_⟩⟩⟩
  · rw [h]; exact Sp.lists_zero _ _
  · rw [← hr]; have := Sp.lists_len (m := most.toNat) (by omega) syms (n - 1).toNat; omega
  · intro r hr2; rw [← hr] at hr2; have := Sp.lists_elen r hr2; omega
  · simp only [LOut.brk.injEq, Prod.mk.injEq, Int.toNat_zero, List.drop_zero] at ho
    obtain ⟨rfl, _⟩ := ho
    exact Sp.app_len (by omega) _
  · simp only [LOut.brk.injEq, Prod.mk.injEq, Int.toNat_zero, List.drop_zero] at ho
    obtain ⟨rfl, _⟩ := ho
    simp only [LOut.brk.injEq, Int.toNat_zero] at ho2
    have e := congrArg Prod.fst ho2
    rw [Sp.inL_fst (by omega) _ _ _ _ (Sp.app_len (by omega) _), Sp.app_app (by omega)] at e
    simp only at e
    rw [← e, ← hr, show n.toNat = (n - 1).toNat + 1 by omega, Sp.lists_succ, show (n - 0).toNat = (n - 1).toNat + 1 by omega]
    unfold Sp.app Sp.cutN
    simp only [List.nil_append]
    congr 2
    refine Sp.flatMap_cong fun i hi => ?_
    unfold Sp.blockL
    rw [Nat.zero_add, show n.toNat - 1 - i = (n - 1).toNat - i by omega]
theorem r35_lists.ok (W : World) : CtrOK Go.Proofs.Try.prog W 95 r35_lists.C := by
  refine funOK_rec (fun (a_ : (List Tm) × Int × Int) => match a_ with | (syms, n, most) => n.toNat) (l := []) (fun p hp => by cases hp) (Λ := fun a_ => match a_ with | (syms, n, most) => (r35_lists.Λ syms n most)) (Λr := fun a_ => match a_ with | (syms, n, most) => (fun _ => none)) ?_
  intro a ha
  obtain ⟨syms, n, most⟩ := a
  refine Eq.mpr ?_ (@r35_lists.main syms n most ha)
  kernel_rfl
theorem r35_upTo.l2_ok (most : Int) (hm : 0 < most ∧ most ≤ 5000) : r35_upTo.l2 most := by
  rintro i3 l out k ⟨e1, h3, h4, h5, h6⟩
  subst i3
  refine fun hl => ifB_of (fun h => ?_) fun h => ?_
  · simp only [Bool.and_eq_true, Bool.or_eq_true, Bool.not_eq_true', Bool.or_eq_false_iff, Bool.and_eq_false_iff, Bool.not_eq_false', decide_eq_true_eq, decide_eq_false_iff_not, mk_empty] at h
    refine ⟨by omega, ?_, inR64 (by omega), ⟨by trivial, by omega, by omega, ?_, h6⟩, by omega, ?_⟩
    · simp only [List.length_cons, List.length_nil]; omega
    · simp only [List.length_append, List.length_cons, List.length_nil]; omega
    · have := Sp.app_step (m := most) (out := out) (d := ([] : List Tm)) (l := l) (k := k) (f := fun r => r) h3 (by omega)
      simp only [List.map_id'] at this
      rw [Sp.appK_step, this]
  · have h : ¬ (k < l.length ∧ (out.length : Int) < most) := by simp only [Bool.and_eq_true, Bool.or_eq_true, Bool.not_eq_true', Bool.or_eq_false_iff, Bool.and_eq_false_iff, Bool.not_eq_false', decide_eq_true_eq, decide_eq_false_iff_not, mk_empty] at h; omega
    have := Sp.app_end (f := fun r : List Tm => r) h5 h3 h4 h
    simp only [List.map_id'] at this
    rw [this, Sp.appK_end h5 h4 h]
theorem r35_upTo.l0_ok (syms : List Tm) (size most : Int) (ha : -1 ≤ size ∧ size ≤ 6 ∧ 0 < most ∧ most ≤ 5000 ∧ syms.length ≤ 20) : r35_upTo.l0 syms size most := by
  obtain ⟨a1, a2, a3, a4, a5⟩ := ha
  rintro l i i1 out n ⟨e1, e2, e3, h1, h2, h3⟩
  subst l i i1
  refine ifB_of (fun h => ?_) fun h => ?_
  · simp only [Bool.and_eq_true, Bool.or_eq_true, Bool.not_eq_true', Bool.or_eq_false_iff, Bool.and_eq_false_iff, Bool.not_eq_false', decide_eq_true_eq, decide_eq_false_iff_not, mk_empty] at h
    refine ⟨⟨h1, by omega, a3, a4, a5⟩, fun l hl => ⟨⟨by trivial, by omega, by omega, h3, ?_⟩, r35_upTo.l2_ok most ⟨a3, a4⟩, fun o i4 ho => ?_⟩⟩
    · rw [← hl]; have := Sp.lists_len (m := most.toNat) (by omega) syms n.toNat; omega
    · simp only [LOut.brk.injEq, Prod.mk.injEq, Int.toNat_zero, List.drop_zero] at ho
      obtain ⟨rfl, _⟩ := ho
      refine ⟨inR64 (by omega), ⟨by trivial, by trivial, by trivial, by omega, by omega, Sp.app_len (by omega) _⟩, by omega, ?_⟩
      rw [show (size + 1 - n).toNat = (size + 1 - (n + 1)).toNat + 1 by omega, Sp.inL, if_pos h.2, show (n + 1).toNat = n.toNat + 1 by omega, hl]
  · simp only [Bool.and_eq_true, Bool.or_eq_true, Bool.not_eq_true', Bool.or_eq_false_iff, Bool.and_eq_false_iff, Bool.not_eq_false', decide_eq_true_eq, decide_eq_false_iff_not, mk_empty] at h
    by_cases hi : n ≤ size
    · rw [show (size + 1 - n).toNat = (size + 1 - (n + 1)).toNat + 1 by omega, Sp.inL, if_neg (by omega)]; congr 2; omega
    · rw [show (size + 1 - n).toNat = 0 by omega, Sp.inL]; congr 2; omega
theorem r35_upTo.main (syms : List Tm) (size most : Int) (ha : -1 ≤ size ∧ size ≤ 6 ∧ 0 < most ∧ most ≤ 5000 ∧ syms.length ≤ 20) : r35_upTo.t syms size most := by
  refine ⟨⟨rfl, rfl, rfl, by omega, by omega, by simp; omega⟩, r35_upTo.l0_ok syms size most ha, fun l i h => ?_⟩
  simp only [LOut.brk.injEq, Int.toNat_zero] at h
  have e := congrArg Prod.fst h
  rw [Sp.inL_fst (by omega) _ _ _ _ (by simp; omega)] at e
  simp only at e
  rw [← e]
  unfold Sp.upTo Sp.app Sp.cutN
  simp only [List.nil_append, Nat.zero_add, Int.sub_zero]
theorem r35_upTo.ok (W : World) : CtrOK Go.Proofs.Try.prog W 82 r35_upTo.C := by
  refine funOK (Γ := lookC [(95, r35_lists.C)]) (lookC_ok (fun p hp => by
    simp only [List.mem_cons, List.not_mem_nil, or_false] at hp
    subst hp; exact r35_lists.ok W)) (Λ := fun a_ => match a_ with | (syms, size, most) => (r35_upTo.Λ syms size most)) (Λr := fun a_ => match a_ with | (syms, size, most) => (fun _ => none)) ?_
  intro a ha
  obtain ⟨syms, size, most⟩ := a
  refine Eq.mpr ?_ (@r35_upTo.main syms size most ha)
  kernel_rfl
theorem r35_valuesOf.l0_ok (syms : List Tm) (most : Int) (hm : 0 < most ∧ most ≤ 5000 ∧ syms.length ≤ 20) : r35_valuesOf.l0 syms most := by
  rintro l i out k ⟨e1, e2, h3, h4, h5⟩
  subst l i
  refine fun hl => ifB_of (fun h => ?_) fun h => ?_
  · simp only [Bool.and_eq_true, Bool.or_eq_true, Bool.not_eq_true', Bool.or_eq_false_iff, Bool.and_eq_false_iff, Bool.not_eq_false', decide_eq_true_eq, decide_eq_false_iff_not, mk_empty] at h
    rw [take_drop1 (d := (default : Tm)) h3 h.1]
    refine ⟨inR64 (by omega), by omega, ?_, inR64 (by omega), ⟨by trivial, by trivial, by omega, by omega, ?_⟩, by omega, ?_⟩
    · simp only [List.length_cons, List.length_nil]; omega
    · simp only [List.length_append, List.length_cons, List.length_nil]; omega
    · have := Sp.app_step (m := most) (out := out) (d := (default : Tm)) (l := syms) (k := k) (f := fun t => [t]) h3 (by omega)
      rw [Sp.appK_step, this]
  · have h : ¬ (k < syms.length ∧ (out.length : Int) < most) := by simp only [Bool.and_eq_true, Bool.or_eq_true, Bool.not_eq_true', Bool.or_eq_false_iff, Bool.and_eq_false_iff, Bool.not_eq_false', decide_eq_true_eq, decide_eq_false_iff_not, mk_empty] at h; omega
    rw [Sp.app_end h5 h3 h4 h, Sp.appK_end h5 h4 h]
theorem r35_valuesOf.l2_ok (most : Int) (hm : 0 < most ∧ most ≤ 5000) : r35_valuesOf.l2 most := by
  rintro i3 l out k ⟨e1, h3, h4, h5, h6⟩
  subst i3
  refine fun hl => ifB_of (fun h => ?_) fun h => ?_
  · simp only [Bool.and_eq_true, Bool.or_eq_true, Bool.not_eq_true', Bool.or_eq_false_iff, Bool.and_eq_false_iff, Bool.not_eq_false', decide_eq_true_eq, decide_eq_false_iff_not, mk_empty] at h
    refine ⟨by omega, ?_, inR64 (by omega), ⟨by trivial, by omega, by omega, ?_, h6⟩, by omega, ?_⟩
    · simp only [List.length_cons, List.length_nil]; omega
    · simp only [List.length_append, List.length_cons, List.length_nil]; omega
    · have := Sp.app_step (m := most) (out := out) (d := ([] : List Tm)) (l := l) (k := k) (f := fun r => [Sp.grp r]) h3 (by omega)
      simp only [Sp.grp] at this ⊢
      rw [Sp.appK_step, this]
  · have h : ¬ (k < l.length ∧ (out.length : Int) < most) := by simp only [Bool.and_eq_true, Bool.or_eq_true, Bool.not_eq_true', Bool.or_eq_false_iff, Bool.and_eq_false_iff, Bool.not_eq_false', decide_eq_true_eq, decide_eq_false_iff_not, mk_empty] at h; omega
    rw [Sp.app_end h5 h3 h4 h, Sp.appK_end h5 h4 h]
theorem r35_valuesOf.main (kind : Int) (syms : List Tm) (size most : Int) (ha : 0 ≤ size ∧ size ≤ 6 ∧ 0 < most ∧ most ≤ 5000 ∧ syms.length ≤ 20) : r35_valuesOf.t kind syms size most := by
  obtain ⟨a1, a2, a3, a4, a5⟩ := ha
  refine ifD (fun h => ⟨⟨by omega, a2, a3, a4, a5⟩, fun l hl => ?_⟩) fun h => ⟨⟨rfl, rfl, by omega, by omega, by simp; omega⟩, r35_valuesOf.l0_ok syms most ⟨a3, a4, a5⟩, fun l i ho => ifD (fun h6 => ⟨inR64 (by omega), ⟨by omega, by omega, a3, a4, a5⟩, fun l1 hl1 => ⟨⟨rfl, by omega, by omega, ?_, ?_⟩, r35_valuesOf.l2_ok most ⟨a3, a4⟩, fun l2 i1 h2 => ?_⟩⟩) fun h6 => ?_⟩
  · unfold Sp.valuesOf; rw [if_pos h, hl]
  · simp only [LOut.brk.injEq, Prod.mk.injEq, Int.toNat_zero, List.drop_zero] at ho
    obtain ⟨rfl, _⟩ := ho
    exact Sp.app_len (by omega) _
  · rw [← hl1]; have := Sp.upTo_len (m := most.toNat) (sy := syms) (size := size - 1); omega
  · simp only [LOut.brk.injEq, Prod.mk.injEq, Int.toNat_zero, List.drop_zero] at ho h2
    obtain ⟨rfl, _⟩ := ho
    obtain ⟨rfl, _⟩ := h2
    unfold Sp.valuesOf
    rw [if_neg h, if_pos h6, Sp.app_app (by omega), hl1]
    unfold Sp.app Sp.cutN
    rfl
  · simp only [LOut.brk.injEq, Prod.mk.injEq, Int.toNat_zero, List.drop_zero] at ho
    obtain ⟨rfl, _⟩ := ho
    unfold Sp.valuesOf
    rw [if_neg h, if_neg h6]
    unfold Sp.app Sp.cutN
    rw [List.append_nil]; rfl
theorem r35_valuesOf.ok (W : World) : CtrOK Go.Proofs.Try.prog W 55 r35_valuesOf.C := by
  refine funOK (Γ := lookC [(82, r35_upTo.C)]) (lookC_ok (fun p hp => by
    simp only [List.mem_cons, List.not_mem_nil, or_false] at hp
    subst hp; exact r35_upTo.ok W)) (Λ := fun a_ => match a_ with | (kind, syms, size, most) => (r35_valuesOf.Λ kind syms size most)) (Λr := fun a_ => match a_ with | (kind, syms, size, most) => (fun _ => none)) ?_
  intro a ha
  obtain ⟨kind, syms, size, most⟩ := a
  refine Eq.mpr ?_ (@r35_valuesOf.main kind syms size most ha)
  kernel_rfl
theorem r35_Values.l0_ok (vars : List ByteArray) : r35_Values.l0 vars := by
  rintro l i ⟨e1, h1, h2⟩
  subst l
  refine fun hl => ifD (fun h => ⟨by omega, fun x b hb => ?_⟩) fun h => ?_
  · have e := nth_drop (d := (⟨#[]⟩ : ByteArray)) (l := vars) (i := i) (by omega)
    have hv : Sp.isVarN (nth (⟨#[]⟩ : ByteArray) vars i) = b := by unfold Sp.isVarN; rw [hb]
    rw [e, List.all_cons, hv, show (i + 1).toNat = i.toNat + 1 by omega]
    cases b with
    | false => exact (if_neg (by simp))
    | true => exact ⟨inR64 (by omega), ⟨by trivial, by omega, by omega⟩, by omega, by simp⟩
  · rw [List.drop_eq_nil_of_le (by omega), if_pos (by rfl)]; congr 1; omega
theorem r35_Values.l2_ok (syms : List Tm) : r35_Values.l2 syms := by
  rintro l i ⟨e1, h1, h2, h4⟩
  subst l
  refine fun hl => ifD (fun h => ⟨by omega, fun b hb => ⟨fun _ => inR64 (by omega), fun _ => by omega, fun _ => ?_, ?_⟩⟩) fun h => ?_
  · rw [take_drop1 (d := (default : Tm)) h1 h]; exact Sp.okL_mem h4 (nth_mem (by omega))
  · have e := nth_drop (d := (default : Tm)) (l := syms) (i := i) (by omega)
    rw [take_drop1 (d := (default : Tm)) h1 h]
    have hv : Sp.symOK (nth (default : Tm) syms i) = (b && decide (Sp.wrong [nth (default : Tm) syms i] 4 = 0)) := by unfold Sp.symOK; rw [hb]
    rw [e, List.all_cons, hv, show (i + 1).toNat = i.toNat + 1 by omega]
    generalize decide (Sp.wrong [nth (default : Tm) syms i] 4 = 0) = c
    cases b <;> cases c
    · exact (if_neg (by simp))
    · exact (if_neg (by simp))
    · exact (if_neg (by simp))
    · exact ⟨inR64 (by omega), ⟨by trivial, by omega, by omega, h4⟩, by omega, by simp⟩
  · rw [List.drop_eq_nil_of_le (by omega), if_pos (by rfl)]; congr 1; omega
theorem r35_Values.l4_ok (vars : List ByteArray) : r35_Values.l4 vars := by
  rintro l i ⟨e1, h1, h2⟩
  subst l
  refine fun hl => ifD (fun h => ⟨by omega, by omega, fun b hb => ?_⟩) fun h => ?_
  · rw [Sp.dupFrom_step h1 h, hb, show (i + 1).toNat = i.toNat + 1 by omega]
    cases b with
    | true => exact (if_pos (by simp))
    | false => exact ⟨inR64 (by omega), ⟨by trivial, by omega, by omega⟩, by omega, by simp⟩
  · rw [Sp.dupFrom_end (by omega), if_neg (by simp)]; congr 1; omega
theorem r35_Values.l10_ok (vars : List ByteArray) (most : Int) (hm : most ≤ 5000) : r35_Values.l10 vars most := by
  rintro l8 i9 out i l k next j ⟨e1, e2, h1, h2, h3, h4, h5, h6, h7, h8, h9, g1, g2⟩
  subst l8 i9
  refine fun hl => ifB_of (fun h => ?_) fun h => ?_
  · simp only [Bool.and_eq_true, Bool.or_eq_true, Bool.not_eq_true', Bool.or_eq_false_iff, Bool.and_eq_false_iff, Bool.not_eq_false', decide_eq_true_eq, decide_eq_false_iff_not, mk_empty] at h
    have hr := g1 _ (nth_mem (d := ([] : List Bnd)) (l := out) (i := j) (by omega))
    refine ⟨by omega, by omega, g2 _ (nth_mem (by omega)), by omega, ?_, ?_, inR64 (by omega), ⟨by trivial, by trivial, h1, h2, h3, h4, by omega, by omega, ?_, h8, h9, g1, g2⟩, by omega, ?_⟩
    · simp only [List.length_cons, List.length_nil]; omega
    · simp only [List.length_cons, List.length_nil]; omega
    · simp only [List.length_append, List.length_cons, List.length_nil]; omega
    · have := Sp.app_step (m := most) (out := next) (d := ([] : List Bnd)) (l := out) (k := j) (f := fun o => Bnd.mk (nth (⟨#[]⟩ : ByteArray) vars i) (nth ([] : List Tm) l k) :: o) h5 (by omega)
      rw [Sp.appK_step, this]
  · have h : ¬ (j < out.length ∧ (next.length : Int) < most) := by simp only [Bool.and_eq_true, Bool.or_eq_true, Bool.not_eq_true', Bool.or_eq_false_iff, Bool.and_eq_false_iff, Bool.not_eq_false', decide_eq_true_eq, decide_eq_false_iff_not, mk_empty] at h; omega
    rw [Sp.app_end h7 h5 h6 h, Sp.appK_end h7 h6 h]
theorem r35_Values.l8_ok (vars : List ByteArray) (most : Int) (hm : 0 < most ∧ most ≤ 5000) : r35_Values.l8 vars most := by
  rintro l4 i6 out i l next k ⟨e1, e2, h1, h2, h3, h4, h5, h6, h7, g1, g2⟩
  subst l4 i6
  refine fun hl => ifD (fun h => ⟨⟨rfl, rfl, h1, h2, h3, h, by omega, by omega, h5, h6, h7, g1, g2⟩, r35_Values.l10_ok vars most hm.2, fun l' i2 hx => ?_⟩) fun h => ?_
  · simp only [LOut.brk.injEq, Prod.mk.injEq, Int.toNat_zero, List.drop_zero] at hx
    obtain ⟨rfl, _⟩ := hx
    refine ⟨inR64 (by omega), ⟨rfl, rfl, h1, h2, by omega, by omega, Sp.app_len (by omega) _, h6, h7, g1, g2⟩, by omega, ?_⟩
    rw [Sp.app_app (by omega), nth_drop (d := ([] : List Tm)) (l := l) (i := k) (by omega), show (k + 1).toNat = k.toNat + 1 by omega, List.flatMap_cons]
  · rw [List.drop_eq_nil_of_le (by omega), List.flatMap_nil, Sp.app_nil h5]; congr 2; omega
theorem r35_Values.l6_ok (vars : List ByteArray) (syms : List Tm) (size most : Int) : r35_Values.l6 vars syms size most := by
  rintro l l1 i3 i4 out i ⟨e1, e2, e3, e4, h1, h2, h3, h4, h5⟩
  subst l l1 i3 i4
  obtain ⟨a1, a2, a3, a4, a5, a6, a7, a8, a9⟩ := Sp.permit_ok h4
  have hol : (out.length : Int) ≤ most := by
    have := Sp.prod_len (m := most.toNat) (by omega) (sy := syms) (size := size) (vars.drop (i + 1).toNat); rw [← h3] at this; omega
  refine ifD (fun h => ⟨by omega, fun x b hb => ⟨⟨a1, a2, by omega, a4, a6⟩, fun l hl => ⟨⟨rfl, rfl, h, h2, by omega, by omega, by simp; omega, ?_, by omega, ?_, ?_⟩, r35_Values.l8_ok vars most ⟨by omega, a4⟩, fun nx k hx => ?_⟩⟩⟩) fun h => ?_
  · rw [← hl]; have := Sp.valuesOf_len (m := most.toNat) (kind := x.kind) (sy := syms) (size := size); omega
  · intro o ho; rw [h3] at ho; have := Sp.prod_elen _ o ho; rw [List.length_drop] at this; omega
  · intro v hv; rw [← hl] at hv; have := Sp.valuesOf_nodes a8 hv; unfold Sp.okL; omega
  · simp only [LOut.brk.injEq, Prod.mk.injEq, Int.toNat_zero, List.drop_zero] at hx
    obtain ⟨rfl, _⟩ := hx
    refine ⟨inR64 (by omega), ⟨rfl, rfl, rfl, rfl, by omega, by omega, ?_, h4, h5⟩, by omega, by trivial⟩
    rw [show (i - 1 + 1).toNat = i.toNat by omega, nth_drop (d := (⟨#[]⟩ : ByteArray)) (l := vars) (i := i) (by omega), Sp.prod, hb, h3, show (i + 1).toNat = i.toNat + 1 by omega, ← hl]
    unfold Sp.app Sp.cutN
    rfl
  · rw [h3, show (i + 1).toNat = 0 by omega, List.drop_zero]; congr 2; omega
theorem r35_Values.main (vars : List ByteArray) (syms : List Tm) (size most : Int) (ha : Sp.okL syms) : r35_Values.t vars syms size most := by
  refine ifB_of (fun h => ?_) fun h => fun hl => ifB_of (fun h2 => ?_) fun h2 => ?_
  · simp only [Bool.and_eq_true, Bool.or_eq_true, Bool.not_eq_true', Bool.or_eq_false_iff, Bool.and_eq_false_iff, Bool.not_eq_false', decide_eq_true_eq, decide_eq_false_iff_not, mk_empty] at h
    have : Sp.permit vars syms size most = 4 := by unfold Sp.permit; rw [if_pos (by omega)]
    unfold Sp.valuesR; rw [this]; rfl
  · simp only [Bool.and_eq_true, Bool.or_eq_true, Bool.not_eq_true', Bool.or_eq_false_iff, Bool.and_eq_false_iff, Bool.not_eq_false', decide_eq_true_eq, decide_eq_false_iff_not, mk_empty] at h h2
    have : Sp.permit vars syms size most = 5 := by unfold Sp.permit; rw [if_neg (by omega), if_pos (by omega)]
    unfold Sp.valuesR; rw [this]; rfl
  · simp only [Bool.and_eq_true, Bool.or_eq_true, Bool.not_eq_true', Bool.or_eq_false_iff, Bool.and_eq_false_iff, Bool.not_eq_false', decide_eq_true_eq, decide_eq_false_iff_not, mk_empty] at h h2
    have e : Sp.permit vars syms size most = if !vars.all Sp.isVarN then 2 else if !syms.all Sp.symOK then 2 else if Sp.dupFrom vars 0 then 10 else 0 := by
      unfold Sp.permit; rw [if_neg (by omega), if_neg (by omega)]
    refine ⟨⟨rfl, by omega, by omega⟩, r35_Values.l0_ok vars, fun i hi => ⟨⟨rfl, by omega, by omega, ha⟩, r35_Values.l2_ok syms, fun i hi2 => ⟨⟨rfl, by omega, by omega⟩, r35_Values.l4_ok vars, fun i hi3 => ?_, fun l i hi3 => ?_⟩, fun l i hi2 => ?_⟩, fun l i hi => ?_⟩
    · simp only [Int.toNat_zero, List.drop_zero] at hi hi2 hi3
      obtain ⟨h3, _⟩ := ite_brk hi; obtain ⟨h4, _⟩ := ite_brk hi2; obtain ⟨h5, _⟩ := ite_brk' hi3
      have e0 : Sp.permit vars syms size most = 0 := by rw [e]; simp [h3, h4, h5]
      refine ifD (fun hm => ?_) fun hm => fun hl2 => ⟨inR64 (by omega), ⟨rfl, rfl, rfl, rfl, by omega, by omega, ?_, e0, hm⟩, r35_Values.l6_ok vars syms size most, fun l i3 hx => ?_⟩
      · unfold Sp.valuesR; rw [e0, if_neg (by simp), if_pos hm]
      · rw [show ((vars.length : Int) - 1 + 1).toNat = vars.length by omega, List.drop_length]; rfl
      · simp only [LOut.brk.injEq, Prod.mk.injEq] at hx
        unfold Sp.valuesR; rw [e0, if_neg (by simp), if_neg hm, hx.1]
    · simp only [Int.toNat_zero, List.drop_zero] at hi hi2 hi3
      obtain ⟨h3, _⟩ := ite_brk hi; obtain ⟨h4, _⟩ := ite_brk hi2; obtain ⟨h5, h6⟩ := ite_ret' hi3
      have e0 : Sp.permit vars syms size most = 10 := by rw [e]; simp [h3, h4, h5]
      unfold Sp.valuesR; rw [e0]; simpa using h6
    · simp only [Int.toNat_zero, List.drop_zero] at hi hi2
      obtain ⟨h3, _⟩ := ite_brk hi; obtain ⟨h4, h6⟩ := ite_ret hi2
      have e0 : Sp.permit vars syms size most = 2 := by rw [e]; simp [h3, h4]
      unfold Sp.valuesR; rw [e0]; simpa using h6
    · simp only [Int.toNat_zero, List.drop_zero] at hi
      obtain ⟨h4, h6⟩ := ite_ret hi
      have e0 : Sp.permit vars syms size most = 2 := by rw [e]; simp [h4]
      unfold Sp.valuesR; rw [e0]; simpa using h6
theorem r35_Values.ok (W : World) : CtrOK Go.Proofs.Try.prog W 25 r35_Values.C := by
  refine funOK (Γ := lookC [(35, r01_Value.C), (43, r01_Copy.C), (52, r01_Variable.C), (53, r01_IsSymbol.C), (54, r01_Has.C), (55, r35_valuesOf.C)]) (lookC_ok (fun p hp => by
    simp only [List.mem_cons, List.not_mem_nil, or_false] at hp
    rcases hp with rfl | rfl | rfl | rfl | rfl | rfl
    · exact r01_Value.ok W
    · exact r01_Copy.ok W
    · exact r01_Variable.ok W
    · exact r01_IsSymbol.ok W
    · exact r01_Has.ok W
    · exact r35_valuesOf.ok W)) (Λ := fun a_ => match a_ with | (vars, syms, size, most) => (r35_Values.Λ vars syms size most)) (Λr := fun a_ => match a_ with | (vars, syms, size, most) => (fun _ => none)) ?_
  intro a ha
  obtain ⟨vars, syms, size, most⟩ := a
  refine Eq.mpr ?_ (@r35_Values.main vars syms size most ha)
  kernel_rfl
theorem l35_sameBinds.l0_ok (a b : List Bnd) : l35_sameBinds.l0 a b := by
  rintro l l1 i ⟨e1, e2, h1, h2, h3⟩
  subst l l1
  refine fun hl => ifD (fun h => ⟨by omega, by omega, fun _ => by omega, fun _ => by omega, ?_⟩) fun h => ?_
  · have ea := nth_drop (d := (default : Bnd)) (l := a) (i := i) (by omega)
    have eb := nth_drop (d := (default : Bnd)) (l := b) (i := i) (by omega)
    rw [ea, eb, show (i + 1).toNat = i.toNat + 1 by omega, Sp.sameBs]
    generalize decide ((nth (default : Bnd) a i).var = (nth (default : Bnd) b i).var) = c
    generalize decide (Sp.cmpL (nth (default : Bnd) a i).val (nth (default : Bnd) b i).val = 0) = d
    cases c <;> cases d
    · exact if_neg (by simp)
    · exact if_neg (by simp)
    · exact if_neg (by simp)
    · exact ⟨inR64 (by omega), ⟨by trivial, by trivial, by omega, by omega, h3⟩, by omega, by simp⟩
  · rw [List.drop_eq_nil_of_le (by omega), List.drop_eq_nil_of_le (by omega), if_pos (by rfl)]; congr 1; omega
theorem l35_sameBinds.main (a b : List Bnd) : l35_sameBinds.t a b := by
  refine fun hl => fun hl2 => ifN (fun h => ?_) fun h => ⟨⟨rfl, rfl, by omega, by omega, by omega⟩, l35_sameBinds.l0_ok a b, fun i hi => ?_, fun c hc => ?_⟩
  · cases hs : Sp.sameBs a b with
    | false => rfl
    | true => have := Sp.sameBs_len a b hs; omega
  · simp only [Int.toNat_zero, List.drop_zero] at hi
    exact (ite_brk hi).1
  · simp only [Int.toNat_zero, List.drop_zero] at hc
    obtain ⟨h1, h2⟩ := ite_ret hc
    rw [← h2]; simpa using h1
theorem l35_sameBinds.ok (W : World) : CtrOK Go.Proofs.Try.prog W 26 l35_sameBinds.C := by
  refine funOK (Γ := lookC [(14, r01_Equal.C)]) (lookC_ok (fun p hp => by
    simp only [List.mem_cons, List.not_mem_nil, or_false] at hp
    subst hp; exact r01_Equal.ok W)) (Λ := fun a_ => match a_ with | (a, b) => (l35_sameBinds.Λ a b)) (Λr := fun a_ => match a_ with | (a, b) => (fun _ => none)) ?_
  intro a ha
  obtain ⟨a, b⟩ := a
  refine Eq.mpr ?_ (@l35_sameBinds.main a b)
  kernel_rfl
end Go.AL

namespace Go.AL
set_option linter.unusedVariables false
def equal_Values_1.d : LD := ({ cs := [0], cts := [.lst (.nm 3)], pts := [(1, .loc 0 0), (2, .loc 1 0)], vs := [], os := [(0, .plain, [none]), (1, .plain, [none])], vts := [.lst (.lst (.nm 3)), .int .i64], own := [true, false], ro := [0, 1, 2], nx := 2 } : LD)
def equal_Values_1.L0 : LD := { cs := [8, 9], cts := [.lst (.nm 3), .int .i64], pts := [], vs := [5, 10], os := [], vts := [.lst (.nm 3), .int .i64], own := [true, false], ro := [0, 1, 2, 4, 8, 9], nx := 100 }
def equal_Values_1.Λ (l : (List Bnd)) (out : (List (List Bnd))) (most : Int) : Nat → Option (Loop (ElT [.bool])) := fun id =>
  if id = 0 then some (mkLoop equal_Values_1.L0
    (fun (c_ : (List Bnd) × Int) (s_ : (List Bnd) × Int) => match c_, s_ with | (q, n), (own, i) => n = (q.length : Int) ∧ 0 ≤ i ∧ i ≤ q.length ∧ own = q.take i.toNat ∧ q.length ≤ 5000 ∧ ∀ b ∈ q, Sp.okL b.val)
    (fun (c_ : (List Bnd) × Int) (s_ : (List Bnd) × Int) => match c_, s_ with | (q, n), (own, i) => (q.length - i : Int).toNat)
    (fun (c_ : (List Bnd) × Int) (s_ : (List Bnd) × Int) => match c_, s_ with | (q, n), (own, i) => .brk (q, (q.length : Int))) [] false) else
  none
def equal_Values_1.C : Ctr := memCtr equal_Values_1.d [.bool] (some (fun (c_ : ElT [.lst (.nm 3)]) (s_ : ElT [.lst (.lst (.nm 3)), .int .i64]) => match c_, s_ with | l, (out, most) => l.length ≤ 5000 ∧ out.length ≤ 5000 ∧ ∀ b ∈ l, Sp.okL b.val)) (fun (c_ : ElT [.lst (.nm 3)]) (s_ : ElT [.lst (.lst (.nm 3)), .int .i64]) => match c_, s_ with | l, (out, most) => ((decide ((out.length : Int) + 1 < most), (out ++ [l], most))))
end Go.AL

namespace Go.AL
set_option linter.unusedVariables false
set_option maxRecDepth 10000
def equal_Values_1.l0 : Prop :=
  (∀ l1 : (List Bnd), (∀ i : Int, (∀ l2 : (List Bnd), (∀ i1 : Int, (((i = (↑(List.length l1) : Int)) ∧ ((0 ≤ i1) ∧ ((i1 ≤ (↑(List.length l1) : Int)) ∧ ((l2 = (List.take (Int.toNat i1) l1)) ∧ (((List.length l1) ≤ 5000) ∧ (∀ x : Bnd, ((Membership.mem l1 x) → (Sp.okL (Bnd.val x))))))))) → (ifB (decide (i1 < i)) (((0 ≤ i1) ∧ (i1 < (↑(List.length l1) : Int))) ∧ ((Sp.okL (Bnd.val (nth (Inhabited.default) l1 i1))) ∧ ((((List.length l2) + (List.length ((Bnd.mk (Bnd.var (nth (Inhabited.default) l1 i1)) (Bnd.val (nth (Inhabited.default) l1 i1))) :: ([] : (List Bnd))))) ≤ 8589934592) ∧ ((inR Go.IntKind.i64 (i1 + 1)) ∧ (((i = (↑(List.length l1) : Int)) ∧ ((0 ≤ (i1 + 1)) ∧ (((i1 + 1) ≤ (↑(List.length l1) : Int)) ∧ (((l2 ++ ((Bnd.mk (Bnd.var (nth (Inhabited.default) l1 i1)) (Bnd.val (nth (Inhabited.default) l1 i1))) :: ([] : (List Bnd)))) = (List.take (Int.toNat (i1 + 1)) l1)) ∧ (((List.length l1) ≤ 5000) ∧ (∀ x : Bnd, ((Membership.mem l1 x) → (Sp.okL (Bnd.val x))))))))) ∧ (((Int.toNat ((↑(List.length l1) : Int) - (i1 + 1))) < (Int.toNat ((↑(List.length l1) : Int) - i1))) ∧ (((LOut.brk (l1, (↑(List.length l1) : Int))) : (LOut ((List Bnd) × Int) Bool)) = (LOut.brk (l1, (↑(List.length l1) : Int)))))))))) (((LOut.brk (l1, (↑(List.length l1) : Int))) : (LOut ((List Bnd) × Int) Bool)) = (LOut.brk (l2, i1)))))))))
def equal_Values_1.t (l : (List Bnd)) (out : (List (List Bnd))) (most : Int) : Prop :=
  (((List.length l) < 9223372036854775808) → ((((↑(List.length l) : Int) = (↑(List.length l) : Int)) ∧ (((0 : Int) ≤ 0) ∧ ((0 ≤ (↑(List.length l) : Int)) ∧ ((([] : (List Bnd)) = (List.take (Int.toNat 0) l)) ∧ (((List.length l) ≤ 5000) ∧ (∀ x : Bnd, ((Membership.mem l x) → (Sp.okL (Bnd.val x))))))))) ∧ (equal_Values_1.l0 ∧ (∀ l1 : (List Bnd), (∀ i : Int, ((((LOut.brk (l, (↑(List.length l) : Int))) : (LOut ((List Bnd) × Int) Bool)) = (LOut.brk (l1, i))) → ((((List.length out) + (List.length (l1 :: ([] : (List (List Bnd)))))) ≤ 8589934592) ∧ (((List.length (out ++ (l1 :: ([] : (List (List Bnd)))))) < 9223372036854775808) → (((decide (((↑(List.length out) : Int) + 1) < most)), ((out ++ (l :: ([] : (List (List Bnd))))), most)) = ((decide ((↑(List.length (out ++ (l1 :: ([] : (List (List Bnd)))))) : Int) < most)), ((out ++ (l1 :: ([] : (List (List Bnd))))), most)))))))))))
theorem equal_Values_1.w (l : (List Bnd)) (out : (List (List Bnd))) (most : Int) : wpFM Go.Proofs.Try.prog (lookC [(51, term_Copy.C)]) 50 equal_Values_1.d [.bool] (equal_Values_1.Λ l out most) (fun _ => none) l (out, most) (fun r_ s_ => ((decide ((out.length : Int) + 1 < most), (out ++ [l], most))) = (r_, s_)) = equal_Values_1.t l out most := by kernel_rfl
end Go.AL

namespace Go.AL
set_option linter.unusedVariables false
set_option linter.unusedSimpArgs false
set_option maxRecDepth 10000
attribute [local irreducible] wpF wpFX wpM wpFM
theorem equal_Values_1.l0_ok : equal_Values_1.l0 := by
  rintro q n own i ⟨e1, h1, h2, e2, h3, h4⟩
  subst n own
  refine ifD (fun h => ⟨⟨h1, h⟩, h4 _ (nth_mem (by omega)), ?_, inR64 (by omega), ⟨rfl, by omega, by omega, ?_, h3, h4⟩, by omega, rfl⟩) fun h => ?_
  · simp only [List.length_take, List.length_cons, List.length_nil]; omega
  · rw [show (i + 1).toNat = i.toNat + 1 by omega, take_nth (d := (default : Bnd)) (by omega)]
  · have : i = q.length := by omega
    subst this
    simp
theorem equal_Values_1.main (l : List Bnd) (out : List (List Bnd)) (most : Int) (ha : l.length ≤ 5000 ∧ out.length ≤ 5000 ∧ ∀ b ∈ l, Sp.okL b.val) : equal_Values_1.t l out most := by
  obtain ⟨a1, a2, a3⟩ := ha
  refine fun hl => ⟨⟨rfl, by omega, by omega, rfl, a1, a3⟩, equal_Values_1.l0_ok, fun l1 i hx => ?_⟩
  simp only [LOut.brk.injEq, Prod.mk.injEq] at hx
  obtain ⟨rfl, _⟩ := hx
  refine ⟨by simp; omega, fun _ => ?_⟩
  simp
theorem equal_Values_1.ok (W : World) : CtrOK Go.Proofs.Try.prog W 50 equal_Values_1.C := by
  refine memOK (d := equal_Values_1.d) (Γ := lookC [(51, term_Copy.C)]) (lookC_ok (fun p hp => by
    simp only [List.mem_cons, List.not_mem_nil, or_false] at hp
    subst hp; exact term_Copy.ok W)) (Λ := fun c_ s_ => match c_, s_ with | l, (out, most) => (equal_Values_1.Λ l out most)) (Λr := fun c_ s_ => match c_, s_ with | l, (out, most) => (fun _ => none)) ?_
  intro c s hp
  obtain ⟨out, most⟩ := s
  refine Eq.mpr ?_ (@equal_Values_1.main c out most hp)
  kernel_rfl
end Go.AL

namespace Go.AL
set_option linter.unusedVariables false
def equal_values.C : Ctr := TV.C

def equal_assignments.d : LD := { cs := [0, 1, 2, 3], cts := [.lst .str, .lst (.nm 0), .int .i64, .lst (.nm 3)], pts := [(4, .fn 50 [] [.loc 0 0, .loc 1 0])], vs := [], os := [(0, .plain, [none]), (1, .plain, [none])], vts := [.lst (.lst (.nm 3)), .int .i64], own := [true, false], ro := [0, 1, 2, 3, 4], nx := 2 }
def equal_assignments.pre (c : ElT equal_assignments.d.cts) (s : ElT equal_assignments.d.vts) : Prop := match c, s with
  | (vars, sy, n, ahead), (out, most) => (∀ x ∈ vars, 0 < ByteArray.size x) ∧ vars.length ≤ 1000 ∧ 0 ≤ n ∧ n ≤ 1000 ∧ sy.length ≤ 1000 ∧ ahead = [] ∧ out = [] ∧ 0 < most ∧ most ≤ 5000 ∧ ∀ o ∈ Sp.asg sy n vars [], o.length ≤ 5000 ∧ ∀ b ∈ o, Sp.okL b.val
def equal_assignments.spec (c : ElT equal_assignments.d.cts) (s : ElT equal_assignments.d.vts) : ElT [.bool] × ElT equal_assignments.d.vts := match c, s with
  | (vars, sy, n, ahead), (out, most) => (decide (((Sp.asg sy n vars []).length : Int) < most), ((Sp.asg sy n vars []).take most.toNat, most))
def equal_assignments.C : Ctr := memCtr equal_assignments.d [.bool] (some equal_assignments.pre) equal_assignments.spec
end Go.AL

namespace Go.AL
set_option linter.unusedVariables false
set_option maxRecDepth 10000
end Go.AL

namespace Go.AL
set_option linter.unusedVariables false
set_option linter.unusedSimpArgs false
set_option maxRecDepth 10000
attribute [local irreducible] wpF wpFX wpM wpFM
theorem TLcodes : TL.Codes Go.Proofs.Try.prog 76 90 91 92 := ⟨by kernel_rfl, by kernel_rfl, by kernel_rfl, by kernel_rfl⟩
theorem TVcodes : TV.Codes Go.Proofs.Try.prog 48 75 77 78 76 := ⟨by kernel_rfl, by kernel_rfl, by kernel_rfl, by kernel_rfl⟩
theorem TScodes : TS.Codes2 Go.Proofs.Try.prog 48 49 79 := ⟨by kernel_rfl, by kernel_rfl⟩
theorem equal_values.ok (W : World) : CtrOK Go.Proofs.Try.prog W 48 equal_values.C := TV.ok TLcodes TVcodes
theorem encB3 : (encE (.nm 3) : Bnd → AV) = TS.encB := funext fun b => rfl
theorem encBs3 : (encE (.lst (.nm 3)) : List Bnd → AV) = TS.encBs := funext fun l => by
  show AV.lst 2 (l.map (encE (.nm 3) : Bnd → AV)) .none = _
  rw [encB3]; rfl
theorem encStr : (encE .str : ByteArray → AV) = AV.str := rfl

theorem equal_assignments.law (W : World) {F : AH} {ρ0 : Nat → Nat} {xs : List (List Bnd)} {most : Int} (hm : most ≤ 5000) (hx : ∀ o ∈ xs, o.length ≤ 5000 ∧ ∀ b ∈ o, Sp.okL b.val) :
    LawS Go.Proofs.Try.prog W F (xs.map TS.encBs) (fun k φ => JM Go.Proofs.Try.prog W F equal_Values_1.d ρ0 (xs.take k, most) φ ∧ ∀ j, j < k → decide (((j : Nat) : Int) + 1 < most) = true)
      (fun φ => ∃ k, k < xs.length ∧ decide (((k : Nat) : Int) + 1 < most) = false ∧ (∀ j, j < k → decide (((j : Nat) : Int) + 1 < most) = true) ∧ JM Go.Proofs.Try.prog W F equal_Values_1.d ρ0 (xs.take (k + 1), most) φ)
      (.fn (.func 50) [] [.ptr (ρ0 0) 0, .ptr (ρ0 1) 0]) := by
  rw [← encBs3]
  have hd : MemD equal_Values_1.d := by
    refine ⟨fun p hp => ?_, rfl, fun p hp c hc => ?_⟩
    · simp only [equal_Values_1.d, List.mem_cons, List.not_mem_nil, or_false] at hp
      rcases hp with rfl | rfl <;> decide
    · simp only [equal_Values_1.d, List.mem_cons, List.not_mem_nil, or_false] at hp
      rcases hp with rfl | rfl <;> simp at hc
  refine LawS.of_mem (d := equal_Values_1.d) (t := .lst (.nm 3)) (xs := xs) (S := fun k => (xs.take k, most)) (cont := fun k => decide (((k : Nat) : Int) + 1 < most)) (caps := [.loc 0 0, .loc 1 0]) hd (equal_Values_1.ok W) (nlk [(1, 1), (0, 0)]) [] (fun k (x : List Bnd) (hk : xs[k]? = some x) hj K hK => ?_) (fun k => ⟨_, rfl⟩) (fun w hw => ?_)
  · have hkl : k < xs.length := by
      rcases Nat.lt_or_ge k xs.length with h | h
      · exact h
      · rw [List.getElem?_eq_none h] at hk; cases hk
    have hxm : x ∈ xs := List.mem_of_getElem? hk
    have hk5 : k ≤ 5000 := by
      rcases Nat.eq_zero_or_pos k with h | h
      · omega
      · have := of_decide_eq_true (hj (k - 1) (by omega)); omega
    refine memCtr_run.2 ⟨rfl, x, (xs.take k, most), [], rfl, rfl, ⟨(hx x hxm).1, by show (xs.take k).length ≤ 5000; simp; omega, (hx x hxm).2⟩, fun r s' e => ?_⟩
    have e2 : xs.take k ++ [x] = xs.take (k + 1) := by rw [List.take_add_one, hk]; rfl
    have e3 : (xs.take k).length = k := by simp; omega
    have e4 : (decide (((xs.take k).length : Int) + 1 < most), (xs.take k ++ [x], most)) = (r, s') := e
    rw [e2, e3] at e4
    cases e4
    exact hK
  · simp only [VRelL, VRel]
    have h0 := hw 0 (by decide)
    have h1 := hw 1 (by decide)
    exact ⟨_, _, rfl, ⟨by decide, by rw [h0]⟩, _, _, rfl, ⟨by decide, by rw [h1]⟩, rfl⟩

theorem equal_assignments.ok (W : World) : CtrOK Go.Proofs.Try.prog W 49 equal_assignments.C := by
  refine memCtr_ok fun c s hp fr0 w σ ds f vs as_ bs live st hd hr hb hs hC => ?_
  obtain ⟨vars, sy, n, ahead⟩ := c
  obtain ⟨out, most⟩ := s
  obtain ⟨p1, p2, p3, p4, p5, rfl, rfl, p6, p7, p8⟩ : (∀ x ∈ vars, 0 < ByteArray.size x) ∧ vars.length ≤ 1000 ∧ 0 ≤ n ∧ n ≤ 1000 ∧ sy.length ≤ 1000 ∧ ahead = [] ∧ out = [] ∧ 0 < most ∧ most ≤ 5000 ∧ ∀ o ∈ Sp.asg sy n vars [], o.length ≤ 5000 ∧ ∀ b ∈ o, Sp.okL b.val := hp
  obtain ⟨M, hM⟩ : ∃ M : Int, M = most := ⟨most, rfl⟩
  subst hM
  have p6' : (0 : Int) < M := p6
  have p7' : (M : Int) ≤ 5000 := p7
  have hget : ∀ t, (argEnv 0 bs).get t = bs.getD t .any := fun t => by rw [argEnv_get]; simp
  have hC2 := asTs_rel _ _ _ _ hC (getDs_rel hb equal_assignments.d.cs)
  obtain ⟨w2, k1, k2, k3⟩ := memStart (c := (vars, sy, n, [])) (bs := bs) hd hr hs (by
    rw [← hC2]; congr 1
    exact List.map_congr_left fun t _ => hget t) (fun p hp => by rw [hget, ← hd.pts p hp]; exact getD_rel _ hb)
  have hlen : bs.length = 5 := by rw [hb.length, hd.len]; rfl
  obtain ⟨x0, x1, x2, x3, y, rfl⟩ : ∃ x0 x1 x2 x3 y, bs = [x0, x1, x2, x3, y] := by
    match bs, hlen with
    | [a, b, c, d, e], _ => exact ⟨a, b, c, d, e, rfl⟩
  have h2 : [x0.bare, x1.bare, x2.bare, x3.bare] = [encE (.lst .str) vars, encE (.lst (.nm 0)) sy, .int .i64 n, encE (.lst (.nm 3)) ([] : List Bnd)] := hC2
  have q0 := (List.cons.inj h2).1
  have q1 := (List.cons.inj (List.cons.inj h2).2).1
  have q2 := (List.cons.inj (List.cons.inj (List.cons.inj h2).2).2).1
  have q3 := (List.cons.inj (List.cons.inj (List.cons.inj (List.cons.inj h2).2).2).2).1
  have r0 : encE (.lst .str) vars = .lst 1 (vars.map .str) .none := rfl
  have r1 : encE (.lst (.nm 0)) sy = .lst 3 (sy.map encT) .none := congrFun TV.encEL sy
  have r3 : encE (.lst (.nm 3)) ([] : List Bnd) = .lst 2 [] .none := rfl
  rw [r0] at q0; rw [r1] at q1; rw [r3] at q3
  cases x0 <;> first | (cases q0; done) | skip
  rename_i _ _ tk0
  injection q0 with q01 q02; subst q01 q02
  cases x1 <;> first | (cases q1; done) | skip
  rename_i _ _ tk1
  injection q1 with q11 q12; subst q11 q12
  cases x2 <;> first | (cases q2; done) | skip
  cases q2
  cases x3 <;> first | (cases q3; done) | skip
  rename_i _ _ tk3
  injection q3 with q31 q32; subst q31 q32
  have hy := k3.1 4
  have hy2 : VRel Go.Proofs.Try.prog W w2 4 (.fn 50 [] [.loc 0 0, .loc 1 0]) y := hy
  simp only [VRel, VRelL] at hy2
  obtain ⟨_, _, rfl, rfl, _, _, rfl, ⟨_, rfl⟩, _, _, rfl, ⟨_, rfl⟩, rfl⟩ := hy2
  obtain ⟨m, hm⟩ := Int.eq_ofNat_of_zero_le (show (0 : Int) ≤ n from p3)
  subst hm
  have p4' : ((m : Nat) : Int) ≤ 1000 := p4
  have hmn : m ≤ 1000 := by omega
  let F : AH := (equal_assignments.d.rn f st.nx).rest { base := fr0.base, lo := none } w σ as_
  have hmd : MemD equal_assignments.d := hd.memD
  have hJ := JM.of (d := equal_assignments.d) (s := ([], M)) (F := F) hmd (k3.2.withEnv []) k1
  have hlaw := equal_assignments.law W (F := F) (ρ0 := w2.ρ) (xs := Sp.asg sy m vars []) p7' p8
  have hrun := TS.asg_ok (sy := sy) TLcodes TVcodes TScodes hmn p5 vars p1 F _ _ _ _ hlaw ⟨_, _, _, rfl⟩ 0 (σ.minus F) σ [] tk0 tk1 tk3 (TG.HasA.self _) ⟨hJ, fun j hj => absurd hj (Nat.not_lt_zero _)⟩ AH.minus_le LD.rest_le (fun c hc => AH.minus_off hc) (by simp; omega)
  refine hrun.mono fun v τ' ⟨φ', g1, g2, g3⟩ => ?_
  have hFσ : F.le σ := LD.rest_le
  have hdis : ∀ c, F c ≠ none → (σ.minus F) c = none := fun c hc => AH.minus_off hc
  have fin : ∀ r, v = .bool r → r = decide (((Sp.asg sy m vars []).length : Int) < M) → JM Go.Proofs.Try.prog W F equal_Values_1.d w2.ρ ((Sp.asg sy m vars []).take M.toNat, M) φ' →
      ∃ r s', equal_assignments.spec (vars, sy, m, []) ([], M) = (r, s') ∧ ∃ w4, Wd.le st.nx w w4 ∧ HR Go.Proofs.Try.prog W fr0 w4 (memAfter equal_assignments.d f st live s') τ' ds ∧ st.nx ≤ (memAfter equal_assignments.d f st live s').nx ∧ Sim v (encR [.bool] r) := by
    intro r e1 e2 hj
    obtain ⟨w', h1, h2, h3⟩ := hj.whole g1 (g2.le hFσ hdis).1
    obtain ⟨w4, h4, h5, h6⟩ := memEnd (d := equal_assignments.d) (s' := ((Sp.asg sy m vars []).take M.toNat, M)) (st' := equal_assignments.d.bodyM ((Sp.asg sy m vars []).take M.toNat, M)) (aenv' := []) (ds' := []) (live' := []) hd hr hs (w' := w') (σ' := τ') ⟨fun t => by simp [LD.bodyM, lk, SR, VRel], h3⟩ rfl (fun i hi => by rw [h1 i hi, k2 i hi])
    exact ⟨_, _, rfl, w4, h4, h5, h6, .inl (by rw [e1, e2]; rfl)⟩
  rcases g3 with ⟨rfl, hj, hall⟩ | ⟨rfl, k, hk, hcf, hall, hj⟩
  · rw [Nat.zero_add] at hall hj
    have hlt : ((Sp.asg sy m vars []).length : Int) < M := by
      rcases Nat.eq_zero_or_pos (Sp.asg sy m vars []).length with h | h
      · omega
      · have := of_decide_eq_true (hall ((Sp.asg sy m vars []).length - 1) (by omega)); omega
    refine fin true rfl (decide_eq_true hlt).symm ?_
    have e : (Sp.asg sy m vars []).take (Sp.asg sy m vars []).length = (Sp.asg sy m vars []).take M.toNat := by rw [List.take_length, List.take_of_length_le (by omega)]
    exact Eq.mp (congrArg (fun L : List (List Bnd) => JM Go.Proofs.Try.prog W F equal_Values_1.d w2.ρ (L, M) φ') e) hj
  · have hcf := of_decide_eq_false hcf
    have hke : k + 1 = M.toNat := by
      rcases Nat.eq_zero_or_pos k with h | h
      · omega
      · have := of_decide_eq_true (hall (k - 1) (by omega)); omega
    refine fin false rfl (decide_eq_false (by omega)).symm ?_
    exact Eq.mp (congrArg (fun q : Nat => JM Go.Proofs.Try.prog W F equal_Values_1.d w2.ρ ((Sp.asg sy m vars []).take q, M) φ') hke) hj
end Go.AL
