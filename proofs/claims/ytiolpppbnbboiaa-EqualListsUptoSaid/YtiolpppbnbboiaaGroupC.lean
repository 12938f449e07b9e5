/- Functions of the program: what they return, and that they do. -/
import Derived.Test.YtiolpppbnbboiaaGroupB
import Derived.Test.YtiolpppbnbboiaaProg
import Derived.KernelRfl
import Derived.Test.YtiolpppbnbboiaaEvalC

set_option linter.unusedVariables false
set_option linter.unusedSimpArgs false
namespace Go.AL
set_option linter.unusedVariables false
end Go.AL
namespace Sp
open Go.AL
/-- What equal.Values returns. -/
def valuesI (vars : List ByteArray) (sy : List Tm) (size most : Int) : List (List Bnd) × Int :=
  if permit vars sy size most ≠ 0 then ([], permit vars sy size most) else if vars.any (fun x => (valsP x sy size).isEmpty) then ([], 0) else ((asg sy size vars []).take most.toNat, 0)
/-- No two are equal. -/
def ownRow (l : List Tm) (i : Nat) : Bool := (List.range i).all fun k => !decide (cmpL [nth default l (i : Int)] [nth default l ((k : Nat) : Int)] = 0)
def differFrom (l : List Tm) (i : Nat) : Bool := (List.range (l.length - i)).all fun k => ownRow l (i + k)
def differ (l : List Tm) : Bool := differFrom l 0
end Sp
namespace Go.AL

def equal_Values.L0 : LD := { cs := [1, 2, 23, 24], cts := [.lst (.nm 0), .int .i64, .lst (.str), .int .i64], pts := [], vs := [25], os := [], vts := [.int .i64], own := [false], ro := [0, 1, 2, 3, 7, 15, 16, 17, 18, 19, 10, 20, 21, 23, 24], nx := 100 }
def equal_Values.L2 : LD := { cs := [], cts := [], pts := [(13, (.loc 101 0))], vs := [], os := [(101, .plain, [none])], vts := [.bool], own := [false], ro := [1, 2, 23, 24, 25, 26, 27, 28, 12, 13, 29, 30, 31, 32, 0, 3, 7, 15, 16, 17, 18, 19, 10, 20, 21], nx := 200 }
def equal_Values.Λ (vars : (List ByteArray)) (sy : (List Tm)) (size : Int) (most : Int) : Nat → Option (Loop (ElT [.lst (.lst (.nm 3)), .int .i64])) := fun id =>
  if id = 0 then some (mkLoop equal_Values.L0
    (fun (c_ : (List Tm) × Int × (List ByteArray) × Int) (s_ : Int) => match c_, s_ with | (c_sy, c_size, xs, n), i => c_sy = sy ∧ c_size = size ∧ xs = vars ∧ n = (vars.length : Int) ∧ 0 ≤ i ∧ i ≤ vars.length ∧ Sp.permit vars sy size most = 0)
    (fun (c_ : (List Tm) × Int × (List ByteArray) × Int) (s_ : Int) => match c_, s_ with | (c_sy, c_size, xs, n), i => (vars.length - i : Int).toNat)
    (fun (c_ : (List Tm) × Int × (List ByteArray) × Int) (s_ : Int) => match c_, s_ with | (c_sy, c_size, xs, n), i => if (vars.drop i.toNat).any (fun x => (Sp.valsP x sy size).isEmpty) = true then .ret ([], 0) else .brk (vars.length : Int)) [] true) else
  none
def equal_Values.Ρ (vars : (List ByteArray)) (sy : (List Tm)) (size : Int) (most : Int) : Nat → Option (RLoop (ElT [.lst (.lst (.nm 3)), .int .i64])) := fun id =>
  if id = 2 then some (mkRLoop equal_Values.L2 (.lst (.nm 0))
    (fun (c_ : Unit) (xs : List (List Tm)) (s_ : Bool) => match c_, s_ with | (), b => True)
    (fun (c_ : Unit) (xs : List (List Tm)) (s_ : Bool) => match c_, s_ with | (), b => .brk (b || !xs.isEmpty)) [] false) else
  none
def equal_Values.C : Ctr := pureCtr [.lst (.str), .lst (.nm 0), .int .i64, .int .i64] [.lst (.lst (.nm 3)), .int .i64] (some (fun (a_ : (List ByteArray) × (List Tm) × Int × Int) => match a_ with | (vars, sy, size, most) => Sp.okL sy)) (fun (a_ : (List ByteArray) × (List Tm) × Int × Int) => match a_ with | (vars, sy, size, most) => (Sp.valuesI vars sy size most))
def l35_awake.C : Ctr := pureCtr [] [.bool] none (fun (_ : Unit) => (true))
def l35_different.L0 : LD := { cs := [0], cts := [.lst (.nm 0)], pts := [], vs := [3], os := [], vts := [.int .i64], own := [false], ro := [0], nx := 100 }
def l35_different.L2 : LD := { cs := [0, 3], cts := [.lst (.nm 0), .int .i64], pts := [], vs := [4], os := [], vts := [.int .i64], own := [false], ro := [0, 3, 5, 6, 7, 8], nx := 200 }
def l35_different.Λ (l : (List Tm)) : Nat → Option (Loop (ElT [.bool])) := fun id =>
  if id = 0 then some (mkLoop l35_different.L0
    (fun (c_ : (List Tm)) (s_ : Int) => match c_, s_ with | c_l, i => c_l = l ∧ 0 ≤ i ∧ i ≤ l.length ∧ Sp.okL l)
    (fun (c_ : (List Tm)) (s_ : Int) => match c_, s_ with | c_l, i => (l.length - i : Int).toNat)
    (fun (c_ : (List Tm)) (s_ : Int) => match c_, s_ with | c_l, i => if Sp.differFrom l i.toNat = true then .brk (l.length : Int) else .ret false) [] true) else
  if id = 2 then some (mkLoop l35_different.L2
    (fun (c_ : (List Tm) × Int) (s_ : Int) => match c_, s_ with | (c_l, i), k => c_l = l ∧ 0 ≤ i ∧ i < l.length ∧ 0 ≤ k ∧ k ≤ i ∧ l.length < 9223372036854775808 ∧ ∀ j : Nat, (j : Int) < k → ¬ Sp.cmpL [nth default l i] [nth default l (j : Int)] = 0)
    (fun (c_ : (List Tm) × Int) (s_ : Int) => match c_, s_ with | (c_l, i), k => (i - k : Int).toNat)
    (fun (c_ : (List Tm) × Int) (s_ : Int) => match c_, s_ with | (c_l, i), k => if Sp.ownRow l i.toNat = true then .brk i else .ret false) [] true) else
  none
def l35_different.C : Ctr := pureCtr [.lst (.nm 0)] [.bool] (some (fun (l : (List Tm)) => Sp.okL l)) (fun (l : (List Tm)) => (Sp.differ l))
end Go.AL

namespace Go.AL
set_option linter.unusedVariables false
set_option maxRecDepth 10000
def equal_Values.l2 : Prop :=
  (∀ l2 : (List Tm), (∀ l3 : (List (List Tm)), (∀ b : Bool, (True → (((LOut.brk (b || (!(List.isEmpty (l2 :: l3))))) : (LOut Bool ((List (List Bnd)) × Int))) = (LOut.brk Bool.true))))))
def equal_Values.l0 (sy : (List Tm)) (size : Int) (vars : (List ByteArray)) (most : Int) : Prop :=
  (∀ l : (List Tm), (∀ i1 : Int, (∀ l1 : (List ByteArray), (∀ i2 : Int, (∀ i3 : Int, (((l = sy) ∧ ((i1 = size) ∧ ((l1 = vars) ∧ ((i2 = (↑(List.length vars) : Int)) ∧ ((0 ≤ i3) ∧ ((i3 ≤ (↑(List.length vars) : Int)) ∧ ((Sp.permit vars sy size most) = 0))))))) → (ifB (decide (i3 < i2)) (((0 ≤ i3) ∧ (i3 < (↑(List.length l1) : Int))) ∧ (((0 < (ByteArray.size (nth (⟨#[]⟩ : ByteArray) l1 i3))) ∧ ((0 ≤ i1) ∧ ((i1 ≤ 1000) ∧ ((List.length l) ≤ 1000)))) ∧ (True ∧ ((∀ b : Bool, (True → (((LOut.brk (b || (!(List.isEmpty ([] : (List (List Tm))))))) : (LOut Bool ((List (List Bnd)) × Int))) = (LOut.brk b)))) ∧ (equal_Values.l2 ∧ (∀ b : Bool, ((((LOut.brk (Bool.false || (!(List.isEmpty (Sp.valsP (nth (⟨#[]⟩ : ByteArray) l1 i3) l i1))))) : (LOut Bool ((List (List Bnd)) × Int))) = (LOut.brk b)) → (ifB (!b) (((ite ((List.any (List.drop (Int.toNat i3) vars) (fun s : ByteArray => (List.isEmpty (Sp.valsP s sy size)))) = Bool.true) (LOut.ret (([] : (List (List Bnd))), 0)) (LOut.brk (↑(List.length vars) : Int))) : (LOut Int ((List (List Bnd)) × Int))) = (LOut.ret (([] : (List (List Bnd))), 0))) ((inR Go.IntKind.i64 (i3 + 1)) ∧ (((l = sy) ∧ ((i1 = size) ∧ ((l1 = vars) ∧ ((i2 = (↑(List.length vars) : Int)) ∧ ((0 ≤ (i3 + 1)) ∧ (((i3 + 1) ≤ (↑(List.length vars) : Int)) ∧ ((Sp.permit vars sy size most) = 0))))))) ∧ (((Int.toNat ((↑(List.length vars) : Int) - (i3 + 1))) < (Int.toNat ((↑(List.length vars) : Int) - i3))) ∧ (((ite ((List.any (List.drop (Int.toNat (i3 + 1)) vars) (fun s : ByteArray => (List.isEmpty (Sp.valsP s sy size)))) = Bool.true) (LOut.ret (([] : (List (List Bnd))), 0)) (LOut.brk (↑(List.length vars) : Int))) : (LOut Int ((List (List Bnd)) × Int))) = (ite ((List.any (List.drop (Int.toNat i3) vars) (fun s : ByteArray => (List.isEmpty (Sp.valsP s sy size)))) = Bool.true) (LOut.ret (([] : (List (List Bnd))), 0)) (LOut.brk (↑(List.length vars) : Int))))))))))))))) (((ite ((List.any (List.drop (Int.toNat i3) vars) (fun s : ByteArray => (List.isEmpty (Sp.valsP s sy size)))) = Bool.true) (LOut.ret (([] : (List (List Bnd))), 0)) (LOut.brk (↑(List.length vars) : Int))) : (LOut Int ((List (List Bnd)) × Int))) = (LOut.brk i3)))))))))
def equal_Values.t (vars : (List ByteArray)) (sy : (List Tm)) (size : Int) (most : Int) : Prop :=
  ((Sp.okL sy) ∧ (∀ i : Int, (((Sp.permit vars sy size most) = i) → (ifB (!(decide (i = 0))) ((Sp.valuesI vars sy size most) = (([] : (List (List Bnd))), i)) (((List.length vars) < 9223372036854775808) → (((sy = sy) ∧ ((size = size) ∧ ((vars = vars) ∧ (((↑(List.length vars) : Int) = (↑(List.length vars) : Int)) ∧ (((0 : Int) ≤ 0) ∧ ((0 ≤ (↑(List.length vars) : Int)) ∧ ((Sp.permit vars sy size most) = 0))))))) ∧ ((equal_Values.l0 sy size vars most) ∧ ((∀ i1 : Int, ((((ite ((List.any (List.drop (Int.toNat 0) vars) (fun s : ByteArray => (List.isEmpty (Sp.valsP s sy size)))) = Bool.true) (LOut.ret (([] : (List (List Bnd))), 0)) (LOut.brk (↑(List.length vars) : Int))) : (LOut Int ((List (List Bnd)) × Int))) = (LOut.brk i1)) → (ifB (decide (0 < most)) (((∀ s : ByteArray, ((Membership.mem vars s) → (0 < (ByteArray.size s)))) ∧ (((List.length vars) ≤ 1000) ∧ ((0 ≤ size) ∧ ((size ≤ 1000) ∧ (((List.length sy) ≤ 1000) ∧ ((([] : (List Bnd)) = ([] : (List Bnd))) ∧ ((([] : (List (List Bnd))) = ([] : (List (List Bnd)))) ∧ ((0 < most) ∧ ((most ≤ 5000) ∧ (∀ l : (List Bnd), ((Membership.mem (Sp.asg sy size vars ([] : (List Bnd))) l) → (((List.length l) ≤ 5000) ∧ (∀ x : Bnd, ((Membership.mem l x) → (Sp.okL (Bnd.val x)))))))))))))))) ∧ (∀ b : Bool, (∀ l : (List (List Bnd)), (∀ i2 : Int, ((((decide ((↑(List.length (Sp.asg sy size vars ([] : (List Bnd)))) : Int) < most)), ((List.take (Int.toNat most) (Sp.asg sy size vars ([] : (List Bnd)))), most)) = (b, (l, i2))) → ((Sp.valuesI vars sy size most) = (l, 0))))))) ((Sp.valuesI vars sy size most) = (([] : (List (List Bnd))), 0))))) ∧ (∀ l : (List (List Bnd)), (∀ i1 : Int, ((((ite ((List.any (List.drop (Int.toNat 0) vars) (fun s : ByteArray => (List.isEmpty (Sp.valsP s sy size)))) = Bool.true) (LOut.ret (([] : (List (List Bnd))), 0)) (LOut.brk (↑(List.length vars) : Int))) : (LOut Int ((List (List Bnd)) × Int))) = (LOut.ret (l, i1))) → ((Sp.valuesI vars sy size most) = (l, i1)))))))))))))
theorem equal_Values.w (vars : (List ByteArray)) (sy : (List Tm)) (size : Int) (most : Int) : wpF Go.Proofs.Try.prog (lookC [(47, equal_permitted.C), (48, equal_values.C), (49, equal_assignments.C), (50, equal_Values_1.C)]) 24 [.lst (.str), .lst (.nm 0), .int .i64, .int .i64] [.lst (.lst (.nm 3)), .int .i64] (equal_Values.Λ vars sy size most) (equal_Values.Ρ vars sy size most) (vars, sy, size, most) (fun r => (Sp.valuesI vars sy size most) = r) = equal_Values.t vars sy size most := by kernel_rfl
def l35_awake.t : Prop :=
  ((Sp.okL ((Tm.mk 2 (⟨#[65]⟩ : ByteArray) ([] : (List Tm))) :: ([] : (List Tm)))) ∧ (∀ l : (List (List Bnd)), (∀ i : Int, (((Sp.valuesI ((⟨#[101, 46, 120]⟩ : ByteArray) :: ([] : (List ByteArray))) ((Tm.mk 2 (⟨#[65]⟩ : ByteArray) ([] : (List Tm))) :: ([] : (List Tm))) 1 10) = (l, i)) → (((((decide (i = 0)) && (decide ((↑(List.length l) : Int) = 3))) = Bool.true) → (((0 : Int) ≤ 0) ∧ (0 < (↑(List.length l) : Int)))) ∧ ((((((decide (i = 0)) && (decide ((↑(List.length l) : Int) = 3))) && (decide ((↑(List.length (nth ([] : (List Bnd)) l 0)) : Int) = 1))) = Bool.true) → (((0 : Int) ≤ 0) ∧ (0 < (↑(List.length l) : Int)))) ∧ ((((((decide (i = 0)) && (decide ((↑(List.length l) : Int) = 3))) && (decide ((↑(List.length (nth ([] : (List Bnd)) l 0)) : Int) = 1))) = Bool.true) → (((0 : Int) ≤ 0) ∧ (0 < (↑(List.length (nth ([] : (List Bnd)) l 0)) : Int)))) ∧ (((((((decide (i = 0)) && (decide ((↑(List.length l) : Int) = 3))) && (decide ((↑(List.length (nth ([] : (List Bnd)) l 0)) : Int) = 1))) && (decide ((↑(List.length (Bnd.val (nth (Inhabited.default) (nth ([] : (List Bnd)) l 0) 0))) : Int) = 0))) = Bool.true) → (((0 : Int) ≤ 1) ∧ (1 < (↑(List.length l) : Int)))) ∧ ((((((((decide (i = 0)) && (decide ((↑(List.length l) : Int) = 3))) && (decide ((↑(List.length (nth ([] : (List Bnd)) l 0)) : Int) = 1))) && (decide ((↑(List.length (Bnd.val (nth (Inhabited.default) (nth ([] : (List Bnd)) l 0) 0))) : Int) = 0))) && (decide ((↑(List.length (nth ([] : (List Bnd)) l 1)) : Int) = 1))) = Bool.true) → (((0 : Int) ≤ 1) ∧ (1 < (↑(List.length l) : Int)))) ∧ ((((((((decide (i = 0)) && (decide ((↑(List.length l) : Int) = 3))) && (decide ((↑(List.length (nth ([] : (List Bnd)) l 0)) : Int) = 1))) && (decide ((↑(List.length (Bnd.val (nth (Inhabited.default) (nth ([] : (List Bnd)) l 0) 0))) : Int) = 0))) && (decide ((↑(List.length (nth ([] : (List Bnd)) l 1)) : Int) = 1))) = Bool.true) → (((0 : Int) ≤ 0) ∧ (0 < (↑(List.length (nth ([] : (List Bnd)) l 1)) : Int)))) ∧ (Bool.true = ((((((decide (i = 0)) && (decide ((↑(List.length l) : Int) = 3))) && (decide ((↑(List.length (nth ([] : (List Bnd)) l 0)) : Int) = 1))) && (decide ((↑(List.length (Bnd.val (nth (Inhabited.default) (nth ([] : (List Bnd)) l 0) 0))) : Int) = 0))) && (decide ((↑(List.length (nth ([] : (List Bnd)) l 1)) : Int) = 1))) && (decide ((Sp.cmpL (Bnd.val (nth (Inhabited.default) (nth ([] : (List Bnd)) l 1) 0)) ((Tm.mk 2 (⟨#[65]⟩ : ByteArray) ([] : (List Tm))) :: ([] : (List Tm)))) = 0))))))))))))))
theorem l35_awake.w  : wpF Go.Proofs.Try.prog (lookC [(14, r01_Equal.C), (24, equal_Values.C)]) 23 [] [.bool] (fun _ => none) (fun _ => none) () (fun r => (true) = r) = l35_awake.t  := by kernel_rfl
def l35_different.l2 (l : (List Tm)) : Prop :=
  (∀ l2 : (List Tm), (∀ i1 : Int, (∀ i2 : Int, (((l2 = l) ∧ ((0 ≤ i1) ∧ ((i1 < (↑(List.length l) : Int)) ∧ ((0 ≤ i2) ∧ ((i2 ≤ i1) ∧ (((List.length l) < 9223372036854775808) ∧ (∀ x : Nat, (((↑x : Int) < i2) → (¬ ((Sp.cmpL ((nth (Inhabited.default) l i1) :: ([] : (List Tm))) ((nth (Inhabited.default) l (↑x : Int)) :: ([] : (List Tm)))) = 0)))))))))) → (ifB (decide (i2 < i1)) ((inR Go.IntKind.i64 (i1 + 1)) ∧ (((0 ≤ i1) ∧ ((i1 ≤ (i1 + 1)) ∧ ((i1 + 1) ≤ (↑(List.length l2) : Int)))) ∧ ((inR Go.IntKind.i64 (i2 + 1)) ∧ (((0 ≤ i2) ∧ ((i2 ≤ (i2 + 1)) ∧ ((i2 + 1) ≤ (↑(List.length l2) : Int)))) ∧ (∀ b : Bool, (((decide ((Sp.cmpL (List.drop (Int.toNat i1) (List.take (Int.toNat (i1 + 1)) l2)) (List.drop (Int.toNat i2) (List.take (Int.toNat (i2 + 1)) l2))) = 0)) = b) → (ifB b (((ite ((Sp.ownRow l (Int.toNat i1)) = Bool.true) (LOut.brk i1) (LOut.ret Bool.false)) : (LOut Int Bool)) = (LOut.ret Bool.false)) ((inR Go.IntKind.i64 (i2 + 1)) ∧ (((l2 = l) ∧ ((0 ≤ i1) ∧ ((i1 < (↑(List.length l) : Int)) ∧ ((0 ≤ (i2 + 1)) ∧ (((i2 + 1) ≤ i1) ∧ (((List.length l) < 9223372036854775808) ∧ (∀ x : Nat, (((↑x : Int) < (i2 + 1)) → (¬ ((Sp.cmpL ((nth (Inhabited.default) l i1) :: ([] : (List Tm))) ((nth (Inhabited.default) l (↑x : Int)) :: ([] : (List Tm)))) = 0)))))))))) ∧ (((Int.toNat (i1 - (i2 + 1))) < (Int.toNat (i1 - i2))) ∧ (((ite ((Sp.ownRow l (Int.toNat i1)) = Bool.true) (LOut.brk i1) (LOut.ret Bool.false)) : (LOut Int Bool)) = (ite ((Sp.ownRow l (Int.toNat i1)) = Bool.true) (LOut.brk i1) (LOut.ret Bool.false))))))))))))) (((ite ((Sp.ownRow l (Int.toNat i1)) = Bool.true) (LOut.brk i1) (LOut.ret Bool.false)) : (LOut Int Bool)) = (LOut.brk i2)))))))
def l35_different.l0 (l : (List Tm)) : Prop :=
  (∀ l1 : (List Tm), (∀ i : Int, (((l1 = l) ∧ ((0 ≤ i) ∧ ((i ≤ (↑(List.length l) : Int)) ∧ (Sp.okL l)))) → (((List.length l1) < 9223372036854775808) → (ifB (decide (i < (↑(List.length l1) : Int))) (((l1 = l) ∧ ((0 ≤ i) ∧ ((i < (↑(List.length l) : Int)) ∧ (((0 : Int) ≤ 0) ∧ ((0 ≤ i) ∧ (((List.length l) < 9223372036854775808) ∧ (∀ x : Nat, (((↑x : Int) < 0) → (¬ ((Sp.cmpL ((nth (Inhabited.default) l i) :: ([] : (List Tm))) ((nth (Inhabited.default) l (↑x : Int)) :: ([] : (List Tm)))) = 0)))))))))) ∧ ((l35_different.l2 l) ∧ ((∀ i1 : Int, ((((ite ((Sp.ownRow l (Int.toNat i)) = Bool.true) (LOut.brk i) (LOut.ret Bool.false)) : (LOut Int Bool)) = (LOut.brk i1)) → ((inR Go.IntKind.i64 (i + 1)) ∧ (((l1 = l) ∧ ((0 ≤ (i + 1)) ∧ (((i + 1) ≤ (↑(List.length l) : Int)) ∧ (Sp.okL l)))) ∧ (((Int.toNat ((↑(List.length l) : Int) - (i + 1))) < (Int.toNat ((↑(List.length l) : Int) - i))) ∧ (((ite ((Sp.differFrom l (Int.toNat (i + 1))) = Bool.true) (LOut.brk (↑(List.length l) : Int)) (LOut.ret Bool.false)) : (LOut Int Bool)) = (ite ((Sp.differFrom l (Int.toNat i)) = Bool.true) (LOut.brk (↑(List.length l) : Int)) (LOut.ret Bool.false)))))))) ∧ (∀ b : Bool, ((((ite ((Sp.ownRow l (Int.toNat i)) = Bool.true) (LOut.brk i) (LOut.ret Bool.false)) : (LOut Int Bool)) = (LOut.ret b)) → (((ite ((Sp.differFrom l (Int.toNat i)) = Bool.true) (LOut.brk (↑(List.length l) : Int)) (LOut.ret Bool.false)) : (LOut Int Bool)) = (LOut.ret b))))))) (((ite ((Sp.differFrom l (Int.toNat i)) = Bool.true) (LOut.brk (↑(List.length l) : Int)) (LOut.ret Bool.false)) : (LOut Int Bool)) = (LOut.brk i)))))))
def l35_different.t (l : (List Tm)) : Prop :=
  (((l = l) ∧ (((0 : Int) ≤ 0) ∧ ((0 ≤ (↑(List.length l) : Int)) ∧ (Sp.okL l)))) ∧ ((l35_different.l0 l) ∧ ((∀ i : Int, ((((ite ((Sp.differFrom l (Int.toNat 0)) = Bool.true) (LOut.brk (↑(List.length l) : Int)) (LOut.ret Bool.false)) : (LOut Int Bool)) = (LOut.brk i)) → ((Sp.differ l) = Bool.true))) ∧ (∀ b : Bool, ((((ite ((Sp.differFrom l (Int.toNat 0)) = Bool.true) (LOut.brk (↑(List.length l) : Int)) (LOut.ret Bool.false)) : (LOut Int Bool)) = (LOut.ret b)) → ((Sp.differ l) = b))))))
theorem l35_different.w (l : (List Tm)) : wpF Go.Proofs.Try.prog (lookC [(14, r01_Equal.C)]) 29 [.lst (.nm 0)] [.bool] (l35_different.Λ l) (fun _ => none) l (fun r => (Sp.differ l) = r) = l35_different.t l := by kernel_rfl
end Go.AL

namespace Go.AL
set_option linter.unusedVariables false
set_option linter.unusedSimpArgs false
set_option maxRecDepth 10000
attribute [local irreducible] wpF wpFX wpM wpFM
theorem Sp.valsP_mem {x : ByteArray} {sy : List Tm} {size : Int} {v : List Tm} (h : v ∈ Sp.valsP x sy size) : v ∈ Sp.upTo none sy size ∨ (∃ t ∈ sy, v = [t]) ∨ (0 < size ∧ ∃ k ∈ Sp.upTo none sy (size - 1), v = [Sp.grp k]) := by
  unfold Sp.valsP at h
  split at h
  · exact .inl h
  · rcases List.mem_append.1 h with h | h
    · obtain ⟨t, h1, rfl⟩ := List.mem_map.1 h
      exact .inr (.inl ⟨t, h1, rfl⟩)
    · split at h
      · rename_i h6
        obtain ⟨k, h1, rfl⟩ := List.mem_map.1 h
        exact .inr (.inr ⟨h6.2, k, h1, rfl⟩)
      · cases h
theorem Sp.valsP_nodes {x : ByteArray} {sy : List Tm} {size : Int} (hs : ∀ t ∈ sy, Sp.symOK t = true) {v : List Tm} (h : v ∈ Sp.valsP x sy size) : (Sp.nodesL v : Int) ≤ max size 1 := by
  rcases Sp.valsP_mem h with h | ⟨t, ht, rfl⟩ | ⟨h0, k, hk, rfl⟩
  · obtain ⟨n, h1, h2⟩ := Sp.upTo_mem h
    rw [Sp.lists_nodes hs v h2]; omega
  · simp only [Sp.nodesL, Sp.symOK_nodes (hs t ht)]; omega
  · obtain ⟨n, h1, h2⟩ := Sp.upTo_mem hk
    simp only [Sp.nodesL, Sp.grp, Sp.nodesT, Sp.lists_nodes hs k h2]; omega
/-- The variables and values of bindings. -/
inductive Sp.Asg (sy : List Tm) (n : Int) : List ByteArray → List Bnd → Prop
  | nil : Sp.Asg sy n [] []
  | cons {x v r l} (h : v ∈ Sp.valsP x sy n) (k : Sp.Asg sy n r l) : Sp.Asg sy n (x :: r) (⟨x, v⟩ :: l)
theorem Sp.asg_mem {sy : List Tm} {n : Int} : ∀ (vars : List ByteArray) (ahead o : List Bnd), o ∈ Sp.asg sy n vars ahead → ∃ l, o = ahead ++ l ∧ Sp.Asg sy n vars l
  | [], ahead, o, h => by simp [Sp.asg] at h; exact ⟨[], by simp [h], .nil⟩
  | x :: r, ahead, o, h => by
    simp only [Sp.asg, List.mem_flatMap] at h
    obtain ⟨v, hv, h⟩ := h
    obtain ⟨l, rfl, h2⟩ := Sp.asg_mem r _ o h
    exact ⟨⟨x, v⟩ :: l, by simp, .cons hv h2⟩
theorem Sp.Asg.len {sy : List Tm} {n : Int} : ∀ {vars : List ByteArray} {l : List Bnd}, Sp.Asg sy n vars l → l.length = vars.length
  | _, _, .nil => rfl
  | _, _, .cons _ k => by simp [k.len]
theorem Sp.Asg.val {sy : List Tm} {n : Int} : ∀ {vars : List ByteArray} {l : List Bnd}, Sp.Asg sy n vars l → ∀ b ∈ l, ∃ x ∈ vars, b.val ∈ Sp.valsP x sy n
  | _, _, .nil, b, h => by cases h
  | _, _, .cons (x := x) h k, b, hb => by
    rcases List.mem_cons.1 hb with rfl | hb
    · exact ⟨x, by simp, h⟩
    · obtain ⟨y, h1, h2⟩ := k.val b hb
      exact ⟨y, by simp [h1], h2⟩
theorem Sp.isVarN_size {x : ByteArray} (h : Sp.isVarN x = true) : 3 ≤ x.size := by
  unfold Sp.isVarN Sp.vari at h
  split at h
  · rename_i h1
    simp only [Bool.and_eq_true, Bool.or_eq_true, Bool.not_eq_true', Bool.or_eq_false_iff, Bool.and_eq_false_iff, Bool.not_eq_false', decide_eq_true_eq, decide_eq_false_iff_not, mk_empty] at h1
    exact h1.1.1
  · cases h
theorem Sp.asg_ok {vars : List ByteArray} {sy : List Tm} {size most : Int} (h : Sp.permit vars sy size most = 0) {o : List Bnd} (ho : o ∈ Sp.asg sy size vars []) : o.length = vars.length ∧ ∀ b ∈ o, Sp.nodesL b.val ≤ 6 := by
  obtain ⟨a1, a2, a3, a4, a5, a6, a7, a8, a9⟩ := Sp.permit_ok h
  obtain ⟨l, rfl, h1⟩ := Sp.asg_mem _ _ _ ho
  refine ⟨h1.len, fun b hb => ?_⟩
  obtain ⟨x, hx, h2⟩ := h1.val b hb
  have := Sp.valsP_nodes a8 h2
  omega
theorem Sp.asg_none {sy : List Tm} {size : Int} : ∀ {vars : List ByteArray} {ahead : List Bnd}, vars.any (fun x => (Sp.valsP x sy size).isEmpty) = true → Sp.asg sy size vars ahead = []
  | [], _, h => by cases h
  | x :: r, ahead, h => by
    simp only [List.any_cons, Bool.or_eq_true, List.isEmpty_iff] at h
    rw [Sp.asg]
    rcases h with h | h
    · rw [h]; rfl
    · simp only [List.flatMap_eq_nil_iff]
      exact fun v _ => Sp.asg_none h
theorem Sp.awake_permit : Sp.permit [⟨#[101, 46, 120]⟩] [Tm.mk 2 ⟨#[65]⟩ []] 1 10 = 0 := by kernel_rfl
theorem Sp.awake_asg : Sp.asg [Tm.mk 2 ⟨#[65]⟩ []] 1 [⟨#[101, 46, 120]⟩] [] = [[⟨⟨#[101, 46, 120]⟩, []⟩], [⟨⟨#[101, 46, 120]⟩, [Tm.mk 2 ⟨#[65]⟩ []]⟩], [⟨⟨#[101, 46, 120]⟩, [Sp.grp []]⟩]] := by
  have h : byteAt ⟨#[101, 46, 120]⟩ 0 = 101 := by kernel_rfl
  have hl : Sp.lists none [Tm.mk 2 ⟨#[65]⟩ []] 1 = [[Tm.mk 2 ⟨#[65]⟩ []], [Sp.grp []]] := by
    rw [Sp.lists_succ]
    simp [Sp.cutN, Sp.lists_zero, List.range_succ]
  have hu : Sp.upTo none [Tm.mk 2 ⟨#[65]⟩ []] 1 = [[], [Tm.mk 2 ⟨#[65]⟩ []], [Sp.grp []]] := by
    unfold Sp.upTo Sp.cutN
    have : (1 + 1 : Int).toNat = 2 := rfl
    rw [this]
    simp [List.range_succ, Sp.lists_zero, hl]
  simp [Sp.asg, Sp.valsP, h, hu]
theorem Sp.awake_vals : Sp.valuesI [⟨#[101, 46, 120]⟩] [Tm.mk 2 ⟨#[65]⟩ []] 1 10 = ([[⟨⟨#[101, 46, 120]⟩, []⟩], [⟨⟨#[101, 46, 120]⟩, [Tm.mk 2 ⟨#[65]⟩ []]⟩], [⟨⟨#[101, 46, 120]⟩, [Sp.grp []]⟩]], 0) := by
  have hn : ¬ ([(⟨#[101, 46, 120]⟩ : ByteArray)].any (fun x => (Sp.valsP x [Tm.mk 2 ⟨#[65]⟩ []] 1).isEmpty) = true) := by
    intro h
    have := Sp.asg_none (ahead := []) h
    rw [Sp.awake_asg] at this; cases this
  unfold Sp.valuesI
  rw [if_neg (by rw [Sp.awake_permit]; simp), if_neg hn, Sp.awake_asg]
  rfl
theorem Sp.differFrom_step {l : List Tm} {i : Int} (h0 : 0 ≤ i) (h : i < l.length) : Sp.differFrom l i.toNat = (Sp.ownRow l i.toNat && Sp.differFrom l (i.toNat + 1)) := by
  unfold Sp.differFrom
  rw [show l.length - i.toNat = (l.length - (i.toNat + 1)) + 1 by omega, List.range_succ_eq_map, List.all_cons, List.all_map]
  congr 1
  refine List.all_congr rfl fun k => ?_
  show Sp.ownRow l (i.toNat + (k + 1)) = _
  congr 1; omega
theorem Sp.sameBs_refl : ∀ l : List Bnd, Sp.sameBs l l = true
  | [] => rfl
  | x :: l => by simp [Sp.sameBs, Sp.cmpL_refl, Sp.sameBs_refl l]
theorem equal_Values.l2_ok : equal_Values.l2 := by
  intro x r b _
  simp
theorem equal_Values.l0_ok (sy : List Tm) (size : Int) (vars : List ByteArray) (most : Int) : equal_Values.l0 sy size vars most := by
  rintro l i1 l1 i2 i ⟨rfl, rfl, rfl, rfl, h1, h2, h3⟩
  obtain ⟨a1, a2, a3, a4, a5, a6, a7, a8, a9⟩ := Sp.permit_ok h3
  refine ifD (fun h => ⟨⟨h1, h⟩, ⟨by have := Sp.isVarN_size (a7 _ (nth_mem (d := (⟨#[]⟩ : ByteArray)) (l := l1) (i := i) (by omega))); omega, a1, by omega, by omega⟩, trivial, fun b _ => by simp, equal_Values.l2_ok, fun b hb => ?_⟩) fun h => ?_
  · have e := nth_drop (d := (⟨#[]⟩ : ByteArray)) (l := l1) (i := i) (by omega)
    simp only [LOut.brk.injEq, Bool.false_or] at hb
    rw [e, List.any_cons, show (i + 1).toNat = i.toNat + 1 by omega]
    subst hb
    cases hv : (Sp.valsP (nth (⟨#[]⟩ : ByteArray) l1 i) l i1).isEmpty with
    | true => exact if_pos (by simp)
    | false => exact ⟨inR64 (by omega), ⟨rfl, rfl, rfl, rfl, by omega, by omega, h3⟩, by omega, by simp⟩
  · rw [List.drop_eq_nil_of_le (by omega), if_neg (by simp)]; congr 1; omega
theorem equal_Values.main (vars : List ByteArray) (sy : List Tm) (size most : Int) (ha : Sp.okL sy) : equal_Values.t vars sy size most := by
  refine ⟨ha, fun i hi => ifN (fun h => ?_) fun h => fun hl => ⟨⟨rfl, rfl, rfl, rfl, by omega, by omega, by omega⟩, equal_Values.l0_ok sy size vars most, fun i1 h1 => ?_, fun l i1 h1 => ?_⟩⟩
  · unfold Sp.valuesI; rw [if_pos (by omega), hi]
  · simp only [Int.toNat_zero, List.drop_zero] at h1
    have h0 : Sp.permit vars sy size most = 0 := by omega
    obtain ⟨a1, a2, a3, a4, a5, a6, a7, a8, a9⟩ := Sp.permit_ok h0
    have hn := (ite_brk' h1).1
    have hv : Sp.valuesI vars sy size most = ((Sp.asg sy size vars []).take most.toNat, 0) := by
      unfold Sp.valuesI; rw [if_neg (by omega), if_neg hn]
    refine ifD (fun hm => ⟨⟨fun s hs => by have := Sp.isVarN_size (a7 s hs); omega, by omega, a1, by omega, by omega, rfl, rfl, hm, a4, fun o ho => ?_⟩, fun b l i2 he => ?_⟩) fun hm => ?_
    · obtain ⟨q1, q2⟩ := Sp.asg_ok h0 ho
      exact ⟨by omega, fun b hb => by have := q2 b hb; unfold Sp.okL; omega⟩
    · simp only [Prod.mk.injEq] at he
      rw [hv, he.2.1]
    · rw [hv, show most.toNat = 0 by omega]; rfl
  · simp only [Int.toNat_zero, List.drop_zero] at h1
    obtain ⟨hn, he⟩ := ite_ret' h1
    unfold Sp.valuesI; rw [if_neg (by omega), if_pos hn, he]
theorem equal_Values.ok (W : World) : CtrOK Go.Proofs.Try.prog W 24 equal_Values.C := by
  refine funOK (Γ := lookC [(47, equal_permitted.C), (48, equal_values.C), (49, equal_assignments.C), (50, equal_Values_1.C)]) (lookC_ok (fun p hp => by
    simp only [List.mem_cons, List.not_mem_nil, or_false] at hp
    rcases hp with rfl | rfl | rfl | rfl
    · exact equal_permitted.ok W
    · exact equal_values.ok W
    · exact equal_assignments.ok W
    · exact equal_Values_1.ok W)) (Λ := fun a_ => match a_ with | (vars, sy, size, most) => (equal_Values.Λ vars sy size most)) (Λr := fun a_ => match a_ with | (vars, sy, size, most) => (equal_Values.Ρ vars sy size most)) ?_
  intro a ha
  obtain ⟨vars, sy, size, most⟩ := a
  refine Eq.mpr ?_ (@equal_Values.main vars sy size most ha)
  kernel_rfl
theorem l35_awake.main : l35_awake.t := by
  refine ⟨by unfold Sp.okL; simp [Sp.nodesL, Sp.nodesT], fun l i h => ?_⟩
  rw [Sp.awake_vals] at h
  simp only [Prod.mk.injEq] at h
  obtain ⟨rfl, rfl⟩ := h
  refine ⟨fun _ => ⟨by omega, by simp⟩, fun _ => ⟨by omega, by simp⟩, fun _ => ⟨by omega, by simp [nth]⟩, fun _ => ⟨by omega, by simp⟩, fun _ => ⟨by omega, by simp⟩, fun _ => ⟨by omega, by simp [nth]⟩, ?_⟩
  kernel_rfl
theorem l35_awake.ok (W : World) : CtrOK Go.Proofs.Try.prog W 23 l35_awake.C := by
  refine funOK (Γ := lookC [(14, r01_Equal.C), (24, equal_Values.C)]) (lookC_ok (fun p hp => by
    simp only [List.mem_cons, List.not_mem_nil, or_false] at hp
    rcases hp with rfl | rfl
    · exact r01_Equal.ok W
    · exact equal_Values.ok W)) (Λ := fun a_ => match a_ with | () => (fun _ => none)) (Λr := fun a_ => match a_ with | () => (fun _ => none)) ?_
  intro a ha
  refine Eq.mpr ?_ (@l35_awake.main )
  kernel_rfl
theorem l35_different.l2_ok (l : List Tm) : l35_different.l2 l := by
  rintro l2 i k ⟨rfl, h1, h2, h3, h4, h5, h6⟩
  refine ifD (fun h => ⟨inR64 (by omega), ⟨h1, by omega, by omega⟩, inR64 (by omega), ⟨h3, by omega, by omega⟩, fun b hb => ?_⟩) fun h => ?_
  · rw [take_drop1 (d := (default : Tm)) h1 h2, take_drop1 (d := (default : Tm)) h3 (by omega)] at hb
    subst hb
    refine ifD (fun he => ?_) fun he => ⟨inR64 (by omega), ⟨rfl, h1, h2, by omega, by omega, h5, fun j hj => ?_⟩, by omega, rfl⟩
    · refine if_neg fun hr => ?_
      unfold Sp.ownRow at hr
      have := List.all_eq_true.1 hr k.toNat (by simp; omega)
      rw [show ((i.toNat : Nat) : Int) = i by omega, show ((k.toNat : Nat) : Int) = k by omega] at this
      simp [he] at this
    · rcases Int.lt_or_eq_of_le (show (j : Int) ≤ k by omega) with h7 | h7
      · exact h6 j h7
      · rw [h7]; exact he
  · have hk : k = i := by omega
    rw [if_pos]
    · rw [hk]
    · unfold Sp.ownRow
      refine List.all_eq_true.2 fun j hj => ?_
      simp only [List.mem_range] at hj
      have := h6 j (by omega)
      rw [show ((i.toNat : Nat) : Int) = i by omega]
      simp [this]
theorem l35_different.l0_ok (l : List Tm) : l35_different.l0 l := by
  rintro l1 i ⟨rfl, h1, h2, h3⟩
  refine fun hl => ifD (fun h => ⟨⟨rfl, h1, h, by omega, h1, hl, fun j hj => by omega⟩, l35_different.l2_ok l1, fun k hk => ?_, fun b hb => ?_⟩) fun h => ?_
  · obtain ⟨h4, _⟩ := ite_brk hk
    refine ⟨inR64 (by omega), ⟨rfl, by omega, by omega, h3⟩, by omega, ?_⟩
    rw [Sp.differFrom_step h1 h, h4, show (i + 1).toNat = i.toNat + 1 by omega, Bool.true_and]
  · obtain ⟨h4, h5⟩ := ite_ret hb
    rw [Sp.differFrom_step h1 h, if_neg (by simp [h4]), h5]
  · rw [if_pos]
    · congr 1; omega
    · unfold Sp.differFrom; rw [show l1.length - i.toNat = 0 by omega]; rfl
theorem l35_different.main (l : List Tm) (ha : Sp.okL l) : l35_different.t l := by
  refine ⟨⟨rfl, by omega, by omega, ha⟩, l35_different.l0_ok l, fun i h => ?_, fun b h => ?_⟩
  · exact (ite_brk h).1
  · obtain ⟨h1, h2⟩ := ite_ret h
    rw [← h2]; simpa [Sp.differ] using h1
theorem l35_different.ok (W : World) : CtrOK Go.Proofs.Try.prog W 29 l35_different.C := by
  refine funOK (Γ := lookC [(14, r01_Equal.C)]) (lookC_ok (fun p hp => by
    simp only [List.mem_cons, List.not_mem_nil, or_false] at hp
    subst hp; exact r01_Equal.ok W)) (Λ := fun a_ => match a_ with | l => (l35_different.Λ l)) (Λr := fun a_ => match a_ with | l => (fun _ => none)) ?_
  intro a ha
  refine Eq.mpr ?_ (@l35_different.main a ha)
  kernel_rfl
end Go.AL

namespace Go.AL
set_option linter.unusedVariables false
end Go.AL
namespace Sp
open Go.AL
/-- Bindings of right values. -/
def goodB (vars : List ByteArray) (s : Int) (o : List Bnd) : Prop := o.length = vars.length ∧ ∀ k : Int, 0 ≤ k → k < o.length → (nth default o k).var = nth ⟨#[]⟩ vars k ∧ wrong (nth default o k).val 4 = 0 ∧ okL (nth default o k).val ∧ (nodesL (nth default o k).val : Int) ≤ max s 1
/-- .. different ones. -/
def goodL (vars : List ByteArray) (sy : List Tm) (s : Int) (l : List (List Bnd)) : Prop := (∀ o ∈ l, goodB vars s o) ∧ ∀ i k : Int, 0 ≤ k → k < i → i < l.length → sameBs (nth [] l i) (nth [] l k) = true → 0 < vars.length → differ sy = true → False
end Sp
namespace Go.AL

def l35_EqualLists.L0 : LD := { cs := [0, 1, 9, 11], cts := [.lst (.str), .lst (.nm 0), .int .i64, .lst (.lst (.nm 3))], pts := [], vs := [13], os := [], vts := [.int .i64], own := [false], ro := [0, 1, 2, 3, 20, 21, 22, 23, 24, 25, 9, 10, 26, 27, 28, 29, 30, 31, 32, 33, 34, 35, 36, 37, 38, 41, 42, 43, 44, 45, 40, 46, 47, 11, 12, 48, 49, 56, 57, 58, 59], nx := 100 }
def l35_EqualLists.L2 : LD := { cs := [0, 9, 11, 13], cts := [.lst (.str), .int .i64, .lst (.lst (.nm 3)), .int .i64], pts := [], vs := [14], os := [], vts := [.int .i64], own := [false], ro := [0, 1, 9, 11, 13, 60, 61, 62, 63, 66, 67, 68, 69, 70, 71, 72, 73, 2, 3, 20, 21, 22, 23, 24, 25, 10, 26, 27, 28, 29, 30, 31, 32, 33, 34, 35, 36, 37, 38, 41, 42, 43, 44, 45, 40, 46, 47, 12, 48, 49, 56, 57, 58, 59], nx := 200 }
def l35_EqualLists.L4 : LD := { cs := [0, 1, 11, 13], cts := [.lst (.str), .lst (.nm 0), .lst (.lst (.nm 3)), .int .i64], pts := [], vs := [17], os := [], vts := [.int .i64], own := [false], ro := [14, 0, 1, 9, 11, 13, 60, 61, 62, 63, 66, 67, 68, 69, 70, 71, 72, 73, 2, 3, 20, 21, 22, 23, 24, 25, 10, 26, 27, 28, 29, 30, 31, 32, 33, 34, 35, 36, 37, 38, 41, 42, 43, 44, 45, 40, 46, 47, 12, 48, 49, 56, 57, 58, 59], nx := 300 }
def l35_EqualLists.L6 : LD := { cs := [11, 18], cts := [.lst (.lst (.nm 3)), .lst (.lst (.nm 3))], pts := [], vs := [19], os := [], vts := [.int .i64], own := [false], ro := [13, 0, 1, 2, 3, 20, 21, 22, 23, 24, 25, 9, 10, 26, 27, 28, 29, 30, 31, 32, 33, 34, 35, 36, 37, 38, 41, 42, 43, 44, 45, 40, 46, 47, 11, 12, 48, 49, 56, 57, 58, 59, 150, 151, 152, 153, 154, 155, 149, 156, 157, 18, 158, 159, 160, 161, 162, 163, 164, 165, 166, 167, 168, 169], nx := 400 }
def l35_EqualLists.Λ (vars : (List ByteArray)) (sy : (List Tm)) (size : Int) (most : Int) : Nat → Option (Loop (ElT [.bool])) := fun id =>
  if id = 0 then some (mkLoop l35_EqualLists.L0
    (fun (c_ : (List ByteArray) × (List Tm) × Int × (List (List Bnd))) (s_ : Int) => match c_, s_ with | (c_vars, c_sy, s, l), i => c_vars = vars ∧ c_sy = sy ∧ 0 ≤ i ∧ i ≤ l.length ∧ Sp.okL sy ∧ Sp.goodL vars sy s l)
    (fun (c_ : (List ByteArray) × (List Tm) × Int × (List (List Bnd))) (s_ : Int) => match c_, s_ with | (c_vars, c_sy, s, l), i => (l.length - i : Int).toNat)
    (fun (c_ : (List ByteArray) × (List Tm) × Int × (List (List Bnd))) (s_ : Int) => match c_, s_ with | (c_vars, c_sy, s, l), i => .brk (l.length : Int)) [] false) else
  if id = 2 then some (mkLoop l35_EqualLists.L2
    (fun (c_ : (List ByteArray) × Int × (List (List Bnd)) × Int) (s_ : Int) => match c_, s_ with | (c_vars, s, l, i), k => c_vars = vars ∧ 0 ≤ i ∧ i < l.length ∧ 0 ≤ k ∧ k ≤ (nth [] l i).length ∧ ∀ o ∈ l, Sp.goodB vars s o)
    (fun (c_ : (List ByteArray) × Int × (List (List Bnd)) × Int) (s_ : Int) => match c_, s_ with | (c_vars, s, l, i), k => ((nth [] l i).length - k : Int).toNat)
    (fun (c_ : (List ByteArray) × Int × (List (List Bnd)) × Int) (s_ : Int) => match c_, s_ with | (c_vars, s, l, i), k => .brk ((nth [] l i).length : Int)) [] false) else
  if id = 4 then some (mkLoop l35_EqualLists.L4
    (fun (c_ : (List ByteArray) × (List Tm) × (List (List Bnd)) × Int) (s_ : Int) => match c_, s_ with | (c_vars, c_sy, l, i), k => c_vars = vars ∧ c_sy = sy ∧ 0 ≤ i ∧ i < l.length ∧ 0 ≤ k ∧ k ≤ i ∧ Sp.okL sy ∧ l.length < 9223372036854775808 ∧ ∀ i k : Int, 0 ≤ k → k < i → i < l.length → Sp.sameBs (nth [] l i) (nth [] l k) = true → 0 < vars.length → Sp.differ sy = true → False)
    (fun (c_ : (List ByteArray) × (List Tm) × (List (List Bnd)) × Int) (s_ : Int) => match c_, s_ with | (c_vars, c_sy, l, i), k => (i - k : Int).toNat)
    (fun (c_ : (List ByteArray) × (List Tm) × (List (List Bnd)) × Int) (s_ : Int) => match c_, s_ with | (c_vars, c_sy, l, i), k => .brk i) [] false) else
  if id = 6 then some (mkLoop l35_EqualLists.L6
    (fun (c_ : (List (List Bnd)) × (List (List Bnd))) (s_ : Int) => match c_, s_ with | (l, m), i => 0 ≤ i ∧ i ≤ m.length ∧ ∃ k, m = l.take k)
    (fun (c_ : (List (List Bnd)) × (List (List Bnd))) (s_ : Int) => match c_, s_ with | (l, m), i => (m.length - i : Int).toNat)
    (fun (c_ : (List (List Bnd)) × (List (List Bnd))) (s_ : Int) => match c_, s_ with | (l, m), i => .brk (m.length : Int)) [] false) else
  none
def l35_EqualLists.C : Ctr := pureCtr [.lst (.str), .lst (.nm 0), .int .u8, .int .u8] [.bool] (some (fun (a_ : (List ByteArray) × (List Tm) × Int × Int) => match a_ with | (vars, sy, size, most) => Sp.okL sy ∧ 0 ≤ size ∧ size < 256 ∧ 0 ≤ most ∧ most < 256)) (fun (a_ : (List ByteArray) × (List Tm) × Int × Int) => match a_ with | (vars, sy, size, most) => (true))
end Go.AL

namespace Go.AL
set_option linter.unusedVariables false
set_option maxRecDepth 10000
def l35_EqualLists.l2 (vars : (List ByteArray)) : Prop :=
  (∀ l4 : (List ByteArray), (∀ i3 : Int, (∀ l5 : (List (List Bnd)), (∀ i4 : Int, (∀ i5 : Int, (((l4 = vars) ∧ ((0 ≤ i4) ∧ ((i4 < (↑(List.length l5) : Int)) ∧ ((0 ≤ i5) ∧ ((i5 ≤ (↑(List.length (nth ([] : (List Bnd)) l5 i4)) : Int)) ∧ (∀ l6 : (List Bnd), ((Membership.mem l5 l6) → (Sp.goodB vars i3 l6)))))))) → (((0 ≤ i4) ∧ (i4 < (↑(List.length l5) : Int))) ∧ (((List.length (nth ([] : (List Bnd)) l5 i4)) < 9223372036854775808) → (ifB (decide (i5 < (↑(List.length (nth ([] : (List Bnd)) l5 i4)) : Int))) (((0 ≤ i4) ∧ (i4 < (↑(List.length l5) : Int))) ∧ (((0 ≤ i5) ∧ (i5 < (↑(List.length (nth ([] : (List Bnd)) l5 i4)) : Int))) ∧ ((Sp.okL (Bnd.val (nth (Inhabited.default) (nth ([] : (List Bnd)) l5 i4) i5))) ∧ (∀ i6 : Int, (∀ i7 : Int, ((((↑(Sp.nodesL (Bnd.val (nth (Inhabited.default) (nth ([] : (List Bnd)) l5 i4) i5))) : Int), (↑(Sp.depthL (Bnd.val (nth (Inhabited.default) (nth ([] : (List Bnd)) l5 i4) i5))) : Int)) = (i6, i7)) → (((0 ≤ i4) ∧ (i4 < (↑(List.length l5) : Int))) ∧ (((0 ≤ i5) ∧ (i5 < (↑(List.length (nth ([] : (List Bnd)) l5 i4)) : Int))) ∧ (((0 ≤ i5) ∧ (i5 < (↑(List.length l4) : Int))) ∧ ((((!(decide ((Bnd.var (nth (Inhabited.default) (nth ([] : (List Bnd)) l5 i4) i5)) = (nth (⟨#[]⟩ : ByteArray) l4 i5)))) = Bool.false) → ((0 ≤ i4) ∧ (i4 < (↑(List.length l5) : Int)))) ∧ ((((!(decide ((Bnd.var (nth (Inhabited.default) (nth ([] : (List Bnd)) l5 i4) i5)) = (nth (⟨#[]⟩ : ByteArray) l4 i5)))) = Bool.false) → ((0 ≤ i5) ∧ (i5 < (↑(List.length (nth ([] : (List Bnd)) l5 i4)) : Int)))) ∧ ((((!(decide ((Bnd.var (nth (Inhabited.default) (nth ([] : (List Bnd)) l5 i4) i5)) = (nth (⟨#[]⟩ : ByteArray) l4 i5)))) = Bool.false) → (Sp.okL (Bnd.val (nth (Inhabited.default) (nth ([] : (List Bnd)) l5 i4) i5)))) ∧ (ifB (((!(decide ((Bnd.var (nth (Inhabited.default) (nth ([] : (List Bnd)) l5 i4) i5)) = (nth (⟨#[]⟩ : ByteArray) l4 i5)))) || (!(decide ((Sp.wrong (Bnd.val (nth (Inhabited.default) (nth ([] : (List Bnd)) l5 i4) i5)) 4) = 0)))) || (decide ((Max.max i3 1) < i6))) False ((inR Go.IntKind.i64 (i5 + 1)) ∧ (((l4 = vars) ∧ ((0 ≤ i4) ∧ ((i4 < (↑(List.length l5) : Int)) ∧ ((0 ≤ (i5 + 1)) ∧ (((i5 + 1) ≤ (↑(List.length (nth ([] : (List Bnd)) l5 i4)) : Int)) ∧ (∀ l6 : (List Bnd), ((Membership.mem l5 l6) → (Sp.goodB vars i3 l6)))))))) ∧ (((Int.toNat ((↑(List.length (nth ([] : (List Bnd)) l5 i4)) : Int) - (i5 + 1))) < (Int.toNat ((↑(List.length (nth ([] : (List Bnd)) l5 i4)) : Int) - i5))) ∧ (((LOut.brk (↑(List.length (nth ([] : (List Bnd)) l5 i4)) : Int)) : (LOut Int Bool)) = (LOut.brk (↑(List.length (nth ([] : (List Bnd)) l5 i4)) : Int))))))))))))))))))) (((LOut.brk (↑(List.length (nth ([] : (List Bnd)) l5 i4)) : Int)) : (LOut Int Bool)) = (LOut.brk i5)))))))))))
def l35_EqualLists.l4 (vars : (List ByteArray)) (sy : (List Tm)) : Prop :=
  (∀ l4 : (List ByteArray), (∀ l5 : (List Tm), (∀ l6 : (List (List Bnd)), (∀ i4 : Int, (∀ i5 : Int, (((l4 = vars) ∧ ((l5 = sy) ∧ ((0 ≤ i4) ∧ ((i4 < (↑(List.length l6) : Int)) ∧ ((0 ≤ i5) ∧ ((i5 ≤ i4) ∧ ((Sp.okL sy) ∧ (((List.length l6) < 9223372036854775808) ∧ (∀ i6 : Int, (∀ i7 : Int, ((0 ≤ i7) → ((i7 < i6) → ((i6 < (↑(List.length l6) : Int)) → (((Sp.sameBs (nth ([] : (List Bnd)) l6 i6) (nth ([] : (List Bnd)) l6 i7)) = Bool.true) → ((0 < (List.length vars)) → (((Sp.differ sy) = Bool.true) → False)))))))))))))))) → (ifB (decide (i5 < i4)) (((0 ≤ i4) ∧ (i4 < (↑(List.length l6) : Int))) ∧ (((0 ≤ i5) ∧ (i5 < (↑(List.length l6) : Int))) ∧ (∀ b : Bool, (((Sp.sameBs (nth ([] : (List Bnd)) l6 i4) (nth ([] : (List Bnd)) l6 i5)) = b) → ((((b && (decide (0 < (↑(List.length l4) : Int)))) = Bool.true) → (Sp.okL l5)) ∧ (ifB ((b && (decide (0 < (↑(List.length l4) : Int)))) && (Sp.differ l5)) False ((inR Go.IntKind.i64 (i5 + 1)) ∧ (((l4 = vars) ∧ ((l5 = sy) ∧ ((0 ≤ i4) ∧ ((i4 < (↑(List.length l6) : Int)) ∧ ((0 ≤ (i5 + 1)) ∧ (((i5 + 1) ≤ i4) ∧ ((Sp.okL sy) ∧ (((List.length l6) < 9223372036854775808) ∧ (∀ i6 : Int, (∀ i7 : Int, ((0 ≤ i7) → ((i7 < i6) → ((i6 < (↑(List.length l6) : Int)) → (((Sp.sameBs (nth ([] : (List Bnd)) l6 i6) (nth ([] : (List Bnd)) l6 i7)) = Bool.true) → ((0 < (List.length vars)) → (((Sp.differ sy) = Bool.true) → False)))))))))))))))) ∧ (((Int.toNat (i4 - (i5 + 1))) < (Int.toNat (i4 - i5))) ∧ (((LOut.brk i4) : (LOut Int Bool)) = (LOut.brk i4))))))))))) (((LOut.brk i4) : (LOut Int Bool)) = (LOut.brk i5)))))))))
def l35_EqualLists.l0 (vars : (List ByteArray)) (sy : (List Tm)) : Prop :=
  (∀ l1 : (List ByteArray), (∀ l2 : (List Tm), (∀ i1 : Int, (∀ l3 : (List (List Bnd)), (∀ i2 : Int, (((l1 = vars) ∧ ((l2 = sy) ∧ ((0 ≤ i2) ∧ ((i2 ≤ (↑(List.length l3) : Int)) ∧ ((Sp.okL sy) ∧ (Sp.goodL vars sy i1 l3)))))) → (((List.length l3) < 9223372036854775808) → (ifB (decide (i2 < (↑(List.length l3) : Int))) (((0 ≤ i2) ∧ (i2 < (↑(List.length l3) : Int))) ∧ (((List.length (nth ([] : (List Bnd)) l3 i2)) < 9223372036854775808) → (((List.length l1) < 9223372036854775808) → (ifB (!(decide ((↑(List.length (nth ([] : (List Bnd)) l3 i2)) : Int) = (↑(List.length l1) : Int)))) False (((l1 = vars) ∧ ((0 ≤ i2) ∧ ((i2 < (↑(List.length l3) : Int)) ∧ (((0 : Int) ≤ 0) ∧ ((0 ≤ (↑(List.length (nth ([] : (List Bnd)) l3 i2)) : Int)) ∧ (∀ l4 : (List Bnd), ((Membership.mem l3 l4) → (Sp.goodB vars i1 l4)))))))) ∧ ((l35_EqualLists.l2 vars) ∧ (∀ i3 : Int, ((((LOut.brk (↑(List.length (nth ([] : (List Bnd)) l3 i2)) : Int)) : (LOut Int Bool)) = (LOut.brk i3)) → (((l1 = vars) ∧ ((l2 = sy) ∧ ((0 ≤ i2) ∧ ((i2 < (↑(List.length l3) : Int)) ∧ (((0 : Int) ≤ 0) ∧ ((0 ≤ i2) ∧ ((Sp.okL sy) ∧ (((List.length l3) < 9223372036854775808) ∧ (∀ i4 : Int, (∀ i5 : Int, ((0 ≤ i5) → ((i5 < i4) → ((i4 < (↑(List.length l3) : Int)) → (((Sp.sameBs (nth ([] : (List Bnd)) l3 i4) (nth ([] : (List Bnd)) l3 i5)) = Bool.true) → ((0 < (List.length vars)) → (((Sp.differ sy) = Bool.true) → False)))))))))))))))) ∧ ((l35_EqualLists.l4 vars sy) ∧ (∀ i4 : Int, ((((LOut.brk i2) : (LOut Int Bool)) = (LOut.brk i4)) → ((inR Go.IntKind.i64 (i2 + 1)) ∧ (((l1 = vars) ∧ ((l2 = sy) ∧ ((0 ≤ (i2 + 1)) ∧ (((i2 + 1) ≤ (↑(List.length l3) : Int)) ∧ ((Sp.okL sy) ∧ (Sp.goodL vars sy i1 l3)))))) ∧ (((Int.toNat ((↑(List.length l3) : Int) - (i2 + 1))) < (Int.toNat ((↑(List.length l3) : Int) - i2))) ∧ (((LOut.brk (↑(List.length l3) : Int)) : (LOut Int Bool)) = (LOut.brk (↑(List.length l3) : Int)))))))))))))))))) (((LOut.brk (↑(List.length l3) : Int)) : (LOut Int Bool)) = (LOut.brk i2))))))))))
def l35_EqualLists.l6 : Prop :=
  (∀ l2 : (List (List Bnd)), (∀ l3 : (List (List Bnd)), (∀ i3 : Int, (((0 ≤ i3) ∧ ((i3 ≤ (↑(List.length l3) : Int)) ∧ (Exists (fun x : Nat => (l3 = (List.take x l2)))))) → (((List.length l3) < 9223372036854775808) → (ifB (decide (i3 < (↑(List.length l3) : Int))) (((0 ≤ i3) ∧ (i3 < (↑(List.length l3) : Int))) ∧ (((0 ≤ i3) ∧ (i3 < (↑(List.length l2) : Int))) ∧ (∀ b : Bool, (((Sp.sameBs (nth ([] : (List Bnd)) l3 i3) (nth ([] : (List Bnd)) l2 i3)) = b) → (ifB (!b) False ((inR Go.IntKind.i64 (i3 + 1)) ∧ (((0 ≤ (i3 + 1)) ∧ (((i3 + 1) ≤ (↑(List.length l3) : Int)) ∧ (Exists (fun x : Nat => (l3 = (List.take x l2)))))) ∧ (((Int.toNat ((↑(List.length l3) : Int) - (i3 + 1))) < (Int.toNat ((↑(List.length l3) : Int) - i3))) ∧ (((LOut.brk (↑(List.length l3) : Int)) : (LOut Int Bool)) = (LOut.brk (↑(List.length l3) : Int))))))))))) (((LOut.brk (↑(List.length l3) : Int)) : (LOut Int Bool)) = (LOut.brk i3))))))))
def l35_EqualLists.t (vars : (List ByteArray)) (sy : (List Tm)) (size : Int) (most : Int) : Prop :=
  ((inR Go.IntKind.i64 size) ∧ (((5 : Int) ≠ 0) ∧ ((inR Go.IntKind.i64 most) ∧ (((61 : Int) ≠ 0) ∧ (((List.length vars) < 9223372036854775808) → (((((decide (5 < (↑(List.length vars) : Int))) || (decide (5 < (↑(List.length sy) : Int)))) = Bool.false) → ((((-1) : Int) ≤ 20) ∧ ((20 : Int) ≤ 1000000))) ∧ (ifB (((decide (5 < (↑(List.length vars) : Int))) || (decide (5 < (↑(List.length sy) : Int)))) || (!(Sp.small sy 20))) (∀ b : Bool, ((Bool.true = b) → (Bool.true = b))) ((Sp.okL sy) ∧ (∀ l : (List (List Bnd)), (∀ i : Int, (((Sp.valuesI vars sy (Int.tmod size 5) (Int.tmod most 61)) = (l, i)) → (ifB (!(decide (i = 0))) (((List.length l) < 9223372036854775808) → (Bool.true = ((decide ((↑(List.length l) : Int) = 0)) && Bool.true))) (((List.length l) < 9223372036854775808) → (ifB (decide ((Int.tmod most 61) < (↑(List.length l) : Int))) (Bool.true = Bool.false) (((vars = vars) ∧ ((sy = sy) ∧ (((0 : Int) ≤ 0) ∧ ((0 ≤ (↑(List.length l) : Int)) ∧ ((Sp.okL sy) ∧ (Sp.goodL vars sy (Int.tmod size 5) l)))))) ∧ ((l35_EqualLists.l0 vars sy) ∧ (∀ i1 : Int, ((((LOut.brk (↑(List.length l) : Int)) : (LOut Int Bool)) = (LOut.brk i1)) → ((((2 : Int) ≠ 0) ∧ (inR Go.IntKind.i64 (Int.tdiv (Int.tmod most 61) 2))) ∧ ((Sp.okL sy) ∧ (∀ l1 : (List (List Bnd)), (∀ i2 : Int, (((Sp.valuesI vars sy (Int.tmod size 5) (Int.tdiv (Int.tmod most 61) 2)) = (l1, i2)) → ((((!(decide (i2 = 0))) = Bool.false) → (((2 : Int) ≠ 0) ∧ (inR Go.IntKind.i64 (Int.tdiv (Int.tmod most 61) 2)))) ∧ (ifB ((!(decide (i2 = 0))) || (!(decide ((↑(List.length l1) : Int) = (Min.min (Int.tdiv (Int.tmod most 61) 2) (↑(List.length l) : Int)))))) (Bool.true = Bool.false) ((((0 : Int) ≤ 0) ∧ ((0 ≤ (↑(List.length l1) : Int)) ∧ (Exists (fun x : Nat => (l1 = (List.take x l)))))) ∧ (l35_EqualLists.l6 ∧ (∀ i3 : Int, ((((LOut.brk (↑(List.length l1) : Int)) : (LOut Int Bool)) = (LOut.brk i3)) → (∀ b : Bool, ((Bool.true = b) → (Bool.true = b))))))))))))))))))))))))))))))))
theorem l35_EqualLists.w (vars : (List ByteArray)) (sy : (List Tm)) (size : Int) (most : Int) : wpF Go.Proofs.Try.prog (lookC [(7, l09_Small.C), (23, l35_awake.C), (24, equal_Values.C), (26, l35_sameBinds.C), (27, term_Size.C), (28, term_Value.C), (29, l35_different.C)]) 5 [.lst (.str), .lst (.nm 0), .int .u8, .int .u8] [.bool] (l35_EqualLists.Λ vars sy size most) (fun _ => none) (vars, sy, size, most) (fun r => (true) = r) = l35_EqualLists.t vars sy size most := by kernel_rfl
end Go.AL

namespace Go.AL
set_option linter.unusedVariables false
set_option linter.unusedSimpArgs false
set_option maxRecDepth 10000
attribute [local irreducible] wpF wpFX wpM wpFM
section
variable {α β : Type}
theorem nodup_flat {f : α → List β} {l : List α} (h1 : ∀ a ∈ l, (f a).Nodup) (h2 : l.Pairwise fun a b => ∀ x ∈ f a, ∀ y ∈ f b, x ≠ y) : (l.flatMap f).Nodup := List.pairwise_flatMap.2 ⟨h1, h2⟩
theorem nodup_map {f : α → β} {l : List α} (hf : ∀ a b, f a = f b → a = b) (h : l.Nodup) : (l.map f).Nodup := List.pairwise_map.2 (List.Pairwise.imp (fun hab e => hab (hf _ _ e)) h)
end
mutual
theorem Sp.cmpT_zero : ∀ (t u : Tm), Sp.cmpT t u = 0 → t = u
  | .mk k s ks, .mk k2 s2 ks2, h => by
    rw [Sp.cmpT] at h
    have h : (if k = k2 then (if Sp.sign s s2 = 0 then Sp.cmpL ks ks2 else Sp.sign s s2) else if k < k2 then -1 else 1) = 0 := h
    by_cases h1 : k = k2
    · rw [if_pos h1] at h
      by_cases h2 : Sp.sign s s2 = 0
      · rw [if_pos h2] at h
        rw [h1, Sp.sign_zero.1 h2, Sp.cmpL_zero ks ks2 h]
      · rw [if_neg h2] at h; exact absurd h h2
    · rw [if_neg h1] at h
      by_cases h2 : k < k2
      · rw [if_pos h2] at h; cases h
      · rw [if_neg h2] at h; cases h
theorem Sp.cmpL_zero : ∀ (a b : List Tm), Sp.cmpL a b = 0 → a = b
  | [], b, h => by
    rw [Sp.cmpL] at h
    split at h
    · rename_i h1; exact (List.eq_nil_of_length_eq_zero h1).symm
    · cases h
  | t :: l, [], h => by
    rw [Sp.cmpL] at h; cases h
  | t :: l, u :: m, h => by
    have h : (if Sp.cmpT t u = 0 then Sp.cmpL l m else Sp.cmpT t u) = 0 := by rwa [Sp.cmpL] at h
    by_cases h1 : Sp.cmpT t u = 0
    · rw [if_pos h1] at h
      rw [Sp.cmpT_zero t u h1, Sp.cmpL_zero l m h]
    · rw [if_neg h1] at h; exact absurd h h1
end
theorem Sp.sameBs_eq : ∀ (a b : List Bnd), Sp.sameBs a b = true → a = b
  | [], [], _ => rfl
  | [], _ :: _, h => by cases h
  | _ :: _, [], h => by cases h
  | x :: a, y :: b, h => by
    simp only [Sp.sameBs, Bool.and_eq_true, decide_eq_true_eq] at h
    obtain ⟨⟨h1, h2⟩, h3⟩ := h
    rw [Sp.sameBs_eq a b h3]
    cases x; cases y
    simp only at h1 h2
    rw [h1, Sp.cmpL_zero _ _ h2]
theorem Sp.differ_nodup {l : List Tm} (h : Sp.differ l = true) : l.Nodup := by
  refine List.pairwise_iff_getElem.2 fun i j hi hj hij e => ?_
  unfold Sp.differ Sp.differFrom at h
  have h1 := List.all_eq_true.1 h j (by simp; omega)
  unfold Sp.ownRow at h1
  have h2 := List.all_eq_true.1 h1 i (by simp; omega)
  rw [Nat.zero_add, nth_nat hj, nth_nat hi, e, Sp.cmpL_refl] at h2
  simp at h2
theorem Sp.symOK_form {t : Tm} (h : Sp.symOK t = true) : Sp.formT t 4 = true := by
  unfold Sp.symOK at h
  simp only [Bool.and_eq_true, Bool.or_eq_true, Bool.not_eq_true', Bool.or_eq_false_iff, Bool.and_eq_false_iff, Bool.not_eq_false', decide_eq_true_eq, decide_eq_false_iff_not, mk_empty] at h
  have := (Sp.wrong_ok h.2).2.2
  simp only [Sp.formL, Bool.and_true] at this
  exact this
theorem Sp.grp_form {k : List Tm} (h : Sp.formL k 4 = true) : Sp.formT (Sp.grp k) 4 = true := by
  rw [Sp.formT_eq]
  simp [Sp.grp, Tm.kids, Tm.kind, Tm.text, Sp.right, h]
theorem Sp.lists_form {c : Option Nat} {sy : List Tm} (hs : ∀ t ∈ sy, Sp.symOK t = true) {n : Nat} : ∀ v ∈ Sp.lists c sy n, Sp.formL v 4 = true :=
  Sp.lists_each (p := fun n v => Sp.formL v 4 = true) rfl (fun n t l ht h => by simp only [Sp.formL, Sp.symOK_form (hs t ht), h, Bool.and_self]) (fun i n k l h1 h2 => by simp only [Sp.formL, Sp.grp_form h1, h2, Bool.and_self]) n
theorem Sp.valsP_form {x : ByteArray} {sy : List Tm} {size : Int} (hs : ∀ t ∈ sy, Sp.symOK t = true) {v : List Tm} (h : v ∈ Sp.valsP x sy size) : Sp.formL v 4 = true := by
  rcases Sp.valsP_mem h with h | ⟨t, ht, rfl⟩ | ⟨h0, k, hk, rfl⟩
  · obtain ⟨n, h1, h2⟩ := Sp.upTo_mem h
    exact Sp.lists_form hs v h2
  · simp only [Sp.formL, Sp.symOK_form (hs t ht), Bool.and_self]
  · obtain ⟨n, h1, h2⟩ := Sp.upTo_mem hk
    simp only [Sp.formL, Sp.grp_form (Sp.lists_form hs k h2), Bool.and_self]
theorem Sp.valsP_wrong {x : ByteArray} {sy : List Tm} {size : Int} (hs : ∀ t ∈ sy, Sp.symOK t = true) (hz : size ≤ 6) {v : List Tm} (h : v ∈ Sp.valsP x sy size) : Sp.wrong v 4 = 0 := by
  have h1 := Sp.valsP_nodes hs h
  have h2 := Sp.depthL_le v
  unfold Sp.wrong
  rw [if_neg (by omega), if_neg (by omega), if_pos (Sp.valsP_form hs h)]
theorem Sp.Asg.at {sy : List Tm} {n : Int} : ∀ {vars : List ByteArray} {l : List Bnd}, Sp.Asg sy n vars l → ∀ k : Nat, k < l.length → (l.getD k default).var = vars.getD k ⟨#[]⟩ ∧ (l.getD k default).val ∈ Sp.valsP (vars.getD k ⟨#[]⟩) sy n
  | _, _, .nil, k, h => by simp at h
  | _, _, .cons h0 k0, 0, h => ⟨rfl, h0⟩
  | _, _, .cons h0 k0, k + 1, h => by
    have := k0.at k (by simpa using h)
    simpa using this
theorem Sp.asg_good {vars : List ByteArray} {sy : List Tm} {size most : Int} (h : Sp.permit vars sy size most = 0) {o : List Bnd} (ho : o ∈ Sp.asg sy size vars []) : Sp.goodB vars size o := by
  obtain ⟨a1, a2, a3, a4, a5, a6, a7, a8, a9⟩ := Sp.permit_ok h
  obtain ⟨l, e, h1⟩ := Sp.asg_mem _ _ _ ho
  rw [List.nil_append] at e
  subst e
  refine ⟨h1.len, fun k hk hl => ?_⟩
  obtain ⟨h2, h3⟩ := h1.at k.toNat (by omega)
  have h4 := Sp.valsP_nodes a8 h3
  have h5 : Sp.okL (o.getD k.toNat default).val := by unfold Sp.okL; omega
  exact ⟨h2, Sp.valsP_wrong a8 a2 h3, h5, h4⟩
theorem Sp.lists_nodup {sy : List Tm} (hs : ∀ t ∈ sy, Sp.symOK t = true) (hn : sy.Nodup) : ∀ n, (Sp.lists none sy n).Nodup := by
  intro n
  induction n using Nat.strongRecOn with
  | ind n ih =>
    cases n with
    | zero => rw [Sp.lists_zero]; simp
    | succ n =>
      rw [Sp.lists_succ]
      simp only [Sp.cutN]
      refine List.pairwise_append.2 ⟨nodup_flat (fun t ht => nodup_map (fun a b e => (List.cons.inj e).2) (ih n (by omega))) (hn.imp fun hab x hx y hy e => ?_), nodup_flat (fun i hi => ?_) (List.pairwise_lt_range.imp fun {i j} hij x hx y hy e => ?_), fun x hx y hy e => ?_⟩
      · obtain ⟨r, _, rfl⟩ := List.mem_map.1 hx
        obtain ⟨r', _, rfl⟩ := List.mem_map.1 hy
        exact hab (List.cons.inj e).1
      · simp only [List.mem_range] at hi
        refine nodup_flat (fun k hk => nodup_map (fun a b e => (List.cons.inj e).2) (ih (n - i) (by omega))) ((ih i (by omega)).imp fun hab x hx y hy e => ?_)
        obtain ⟨r, _, rfl⟩ := List.mem_map.1 hx
        obtain ⟨r', _, rfl⟩ := List.mem_map.1 hy
        have := (List.cons.inj e).1
        simp only [Sp.grp, Tm.mk.injEq, true_and] at this
        exact hab this
      · simp only [List.mem_flatMap, List.mem_map] at hx hy
        obtain ⟨k, hk, r, _, rfl⟩ := hx
        obtain ⟨k', hk', r', _, rfl⟩ := hy
        have := (List.cons.inj e).1
        simp only [Sp.grp, Tm.mk.injEq, true_and] at this
        subst this
        have e1 := Sp.lists_nodes hs k hk
        have e2 := Sp.lists_nodes hs k hk'
        omega
      · simp only [List.mem_flatMap, List.mem_map] at hx hy
        obtain ⟨t, ht, r, _, rfl⟩ := hx
        obtain ⟨i, _, k', hk', r', _, rfl⟩ := hy
        have := (List.cons.inj e).1
        have h4 := (Sp.symOK_kids (hs t ht)).2.2.2
        rw [this] at h4
        simp [Sp.grp, Tm.kind] at h4
theorem Sp.upTo_nodup {sy : List Tm} (hs : ∀ t ∈ sy, Sp.symOK t = true) (hn : sy.Nodup) (size : Int) : (Sp.upTo none sy size).Nodup := by
  unfold Sp.upTo Sp.cutN
  refine nodup_flat (fun n _ => Sp.lists_nodup hs hn n) (List.pairwise_lt_range.imp fun {i j} hij x hx y hy e => ?_)
  subst e
  have e1 := Sp.lists_nodes hs x hx
  have e2 := Sp.lists_nodes hs x hy
  omega
theorem Sp.valsP_nodup {sy : List Tm} (hs : ∀ t ∈ sy, Sp.symOK t = true) (hn : sy.Nodup) (x : ByteArray) (size : Int) : (Sp.valsP x sy size).Nodup := by
  unfold Sp.valsP
  split
  · exact Sp.upTo_nodup hs hn size
  · refine List.pairwise_append.2 ⟨nodup_map (fun a b e => (List.cons.inj e).1) hn, ?_, fun x hx y hy e => ?_⟩
    · split
      · refine nodup_map (fun a b e => ?_) (Sp.upTo_nodup hs hn _)
        have := (List.cons.inj e).1
        simpa only [Sp.grp, Tm.mk.injEq, true_and] using this
      · exact List.Pairwise.nil
    · obtain ⟨t, ht, rfl⟩ := List.mem_map.1 hx
      split at hy
      · obtain ⟨k, hk, rfl⟩ := List.mem_map.1 hy
        have := (List.cons.inj e).1
        have h4 := (Sp.symOK_kids (hs t ht)).2.2.2
        rw [this] at h4
        simp [Sp.grp, Tm.kind] at h4
      · cases hy
theorem Sp.asg_nodup {sy : List Tm} (hs : ∀ t ∈ sy, Sp.symOK t = true) (hn : sy.Nodup) (size : Int) : ∀ (vars : List ByteArray) (ahead : List Bnd), (Sp.asg sy size vars ahead).Nodup
  | [], ahead => by simp [Sp.asg]
  | x :: r, ahead => by
    rw [Sp.asg]
    refine nodup_flat (fun v _ => Sp.asg_nodup hs hn size r _) ((Sp.valsP_nodup hs hn x size).imp fun hab o ho o' ho' e => ?_)
    obtain ⟨l, rfl, _⟩ := Sp.asg_mem _ _ _ ho
    obtain ⟨l', rfl, _⟩ := Sp.asg_mem _ _ _ ho'
    simp only [List.append_assoc, List.append_cancel_left_eq, List.cons_append, List.nil_append, List.cons.injEq, Bnd.mk.injEq, true_and] at e
    exact hab e.1
theorem Sp.valuesI_ok {vars : List ByteArray} {sy : List Tm} {size most : Int} (h : Sp.permit vars sy size most = 0) : Sp.valuesI vars sy size most = ((Sp.asg sy size vars []).take most.toNat, 0) := by
  unfold Sp.valuesI
  rw [if_neg (fun hn => hn h)]
  split
  · rename_i hv; rw [Sp.asg_none hv]; simp
  · rfl
theorem Sp.permit_most {vars : List ByteArray} {sy : List Tm} {size m m' : Int} (h : Sp.permit vars sy size m = 0) (h0 : 0 ≤ m') (h1 : m' ≤ 5000) : Sp.permit vars sy size m' = 0 := by
  have a := Sp.permit_ok h
  unfold Sp.permit at h ⊢
  rw [if_neg (by omega)] at h
  rw [if_neg (by omega)]
  exact h
theorem Sp.valuesI_good {vars : List ByteArray} {sy : List Tm} {size most : Int} (h : Sp.permit vars sy size most = 0) (m : Nat) : Sp.goodL vars sy size ((Sp.asg sy size vars []).take m) := by
  obtain ⟨a1, a2, a3, a4, a5, a6, a7, a8, a9⟩ := Sp.permit_ok h
  refine ⟨fun o ho => Sp.asg_good h (List.mem_of_mem_take ho), fun i k hk hki hil hsame hv hd => ?_⟩
  have hnd : ((Sp.asg sy size vars []).take m).Nodup := List.Pairwise.sublist (List.take_sublist _ _) (Sp.asg_nodup a8 (Sp.differ_nodup hd) size vars [])
  have he := Sp.sameBs_eq _ _ hsame
  rw [nth_get (by omega), nth_get (by omega)] at he
  exact List.pairwise_iff_getElem.1 hnd k.toNat i.toNat (by omega) (by omega) (by omega) he.symm
theorem l35_EqualLists.l2_ok (vars : List ByteArray) : l35_EqualLists.l2 vars := by
  rintro l4 s l i k ⟨rfl, h1, h2, h3, h4, h5⟩
  refine ⟨⟨h1, h2⟩, fun hl => ifD (fun h => ?_) fun h => ?_⟩
  · obtain ⟨g1, g2⟩ := h5 _ (nth_mem (d := ([] : List Bnd)) (l := l) (i := i) (by omega))
    obtain ⟨q1, q2, q3, q4⟩ := g2 k h3 h
    refine ⟨⟨h1, h2⟩, ⟨h3, h⟩, q3, fun i6 i7 he => ?_⟩
    simp only [Prod.mk.injEq] at he
    refine ⟨⟨h1, h2⟩, ⟨h3, h⟩, ⟨h3, by omega⟩, fun _ => ⟨h1, h2⟩, fun _ => ⟨h3, h⟩, fun _ => q3, ifB_of (fun hb => ?_) fun _ => ⟨inR64 (by omega), ⟨rfl, h1, h2, by omega, by omega, h5⟩, by omega, rfl⟩⟩
    simp only [Bool.and_eq_true, Bool.or_eq_true, Bool.not_eq_true', Bool.or_eq_false_iff, Bool.and_eq_false_iff, Bool.not_eq_false', decide_eq_true_eq, decide_eq_false_iff_not, mk_empty] at hb
    rcases hb with (hb | hb) | hb
    · exact hb q1
    · exact hb q2
    · have : max s 1 < i6 := hb
      omega
  · congr 1; omega
theorem l35_EqualLists.l4_ok (vars : List ByteArray) (sy : List Tm) : l35_EqualLists.l4 vars sy := by
  rintro l4 l5 l i k ⟨rfl, rfl, h1, h2, h3, h4, h5, h7, h6⟩
  refine ifD (fun h => ⟨⟨h1, h2⟩, ⟨h3, by omega⟩, fun b hb => ⟨fun _ => h5, ifB_of (fun hc => ?_) fun _ => ⟨inR64 (by omega), ⟨rfl, rfl, h1, h2, by omega, by omega, h5, h7, h6⟩, by omega, rfl⟩⟩⟩) fun h => ?_
  · simp only [Bool.and_eq_true, Bool.or_eq_true, Bool.not_eq_true', Bool.or_eq_false_iff, Bool.and_eq_false_iff, Bool.not_eq_false', decide_eq_true_eq, decide_eq_false_iff_not, mk_empty] at hc
    exact h6 i k h3 h h2 (hb.trans hc.1.1) (by omega) hc.2
  · congr 1; omega
theorem l35_EqualLists.l0_ok (vars : List ByteArray) (sy : List Tm) : l35_EqualLists.l0 vars sy := by
  rintro l1 l2 s l i ⟨rfl, rfl, h1, h2, h3, h4⟩
  refine fun hl => ifD (fun h => ⟨⟨h1, h⟩, fun _ _ => ifN (fun hb => ?_) fun _ => ⟨⟨rfl, h1, h, by omega, by omega, h4.1⟩, l35_EqualLists.l2_ok l1, fun i3 _ => ⟨⟨rfl, rfl, h1, h, by omega, h1, h3, hl, h4.2⟩, l35_EqualLists.l4_ok l1 l2, fun i4 _ => ⟨inR64 (by omega), ⟨rfl, rfl, by omega, by omega, h3, h4⟩, by omega, rfl⟩⟩⟩⟩) fun h => ?_
  · exact hb (by have := (h4.1 _ (nth_mem (d := ([] : List Bnd)) (l := l) (i := i) (by omega))).1; omega)
  · congr 1; omega
theorem l35_EqualLists.l6_ok : l35_EqualLists.l6 := by
  rintro l m i ⟨h1, h2, k, rfl⟩
  refine fun hl => ifD (fun h => ?_) fun h => ?_
  · have hk : i.toNat < l.length ∧ i.toNat < k := by rw [List.length_take] at h; omega
    refine ⟨⟨h1, h⟩, ⟨h1, by omega⟩, fun b hb => ?_⟩
    have e : nth ([] : List Bnd) (l.take k) i = nth [] l i := by
      rw [nth_get (by omega), nth_get hk.1, List.getElem_take]
    rw [e, Sp.sameBs_refl] at hb
    subst hb
    exact ⟨inR64 (by omega), ⟨by omega, by omega, k, rfl⟩, by omega, rfl⟩
  · congr 1; omega
theorem l35_EqualLists.main (vars : List ByteArray) (sy : List Tm) (size most : Int) (ha : Sp.okL sy ∧ 0 ≤ size ∧ size < 256 ∧ 0 ≤ most ∧ most < 256) : l35_EqualLists.t vars sy size most := by
  obtain ⟨a1, a2, a3, a4, a5⟩ := ha
  have es : Int.tmod size 5 = size % 5 := Int.tmod_eq_emod_of_nonneg a2
  have em : Int.tmod most 61 = most % 61 := Int.tmod_eq_emod_of_nonneg a4
  have eh : Int.tdiv (most % 61) 2 = (most % 61) / 2 := Int.tdiv_eq_ediv_of_nonneg (by omega)
  unfold l35_EqualLists.t
  rw [es, em, eh]
  have hs : 0 ≤ size % 5 ∧ size % 5 < 5 := by omega
  have hm : 0 ≤ most % 61 ∧ most % 61 < 61 := by omega
  generalize size % 5 = s at hs ⊢
  generalize most % 61 = n at hm ⊢
  refine ⟨inR64 (by omega), by omega, inR64 (by omega), by omega, fun hl => ⟨fun _ => ⟨by omega, by omega⟩, ifB_of (fun _ b hb => hb) fun hc => ⟨a1, fun l i h => ?_⟩⟩⟩
  refine ifN (fun hi => fun _ => ?_) fun hi => fun _ => ?_
  · have hp : Sp.permit vars sy s n ≠ 0 := fun hp => by
      rw [Sp.valuesI_ok hp] at h
      simp only [Prod.mk.injEq] at h
      exact hi h.2.symm
    unfold Sp.valuesI at h
    rw [if_pos hp] at h
    simp only [Prod.mk.injEq] at h
    rw [← h.1]; rfl
  · have hp : Sp.permit vars sy s n = 0 := by
      by_cases hp : Sp.permit vars sy s n = 0
      · exact hp
      · unfold Sp.valuesI at h
        rw [if_pos hp] at h
        simp only [Prod.mk.injEq] at h
        omega
    have hg := Sp.valuesI_good hp n.toNat
    rw [Sp.valuesI_ok hp] at h
    simp only [Prod.mk.injEq] at h
    obtain ⟨rfl, rfl⟩ := h
    refine ifD (fun hlt => ?_) fun hlt => ⟨⟨rfl, rfl, by omega, by omega, a1, hg⟩, l35_EqualLists.l0_ok vars sy, fun i1 _ => ⟨⟨by omega, inR64 (by omega)⟩, a1, fun l1 i2 h2 => ?_⟩⟩
    · rw [List.length_take] at hlt; omega
    · rw [Sp.valuesI_ok (Sp.permit_most hp (m' := n / 2) (by omega) (by omega))] at h2
      simp only [Prod.mk.injEq] at h2
      obtain ⟨rfl, rfl⟩ := h2
      refine ⟨fun _ => ⟨by omega, inR64 (by omega)⟩, ifB_of (fun hb => ?_) fun _ => ⟨⟨by omega, by omega, (n / 2).toNat, ?_⟩, l35_EqualLists.l6_ok, fun i3 _ b hb => hb⟩⟩
      · simp only [Bool.and_eq_true, Bool.or_eq_true, Bool.not_eq_true', Bool.or_eq_false_iff, Bool.and_eq_false_iff, Bool.not_eq_false', decide_eq_true_eq, decide_eq_false_iff_not, mk_empty] at hb
        rcases hb with hb | hb
        · exact (hb trivial).elim
        · simp only [List.length_take] at hb
          exfalso; omega
      · rw [List.take_take]; congr 1; omega
theorem l35_EqualLists.ok (W : World) : CtrOK Go.Proofs.Try.prog W 5 l35_EqualLists.C := by
  refine funOK (Γ := lookC [(7, l09_Small.C), (23, l35_awake.C), (24, equal_Values.C), (26, l35_sameBinds.C), (27, term_Size.C), (28, term_Value.C), (29, l35_different.C)]) (lookC_ok (fun p hp => by
    simp only [List.mem_cons, List.not_mem_nil, or_false] at hp
    rcases hp with rfl | rfl | rfl | rfl | rfl | rfl | rfl
    · exact l09_Small.ok W
    · exact l35_awake.ok W
    · exact equal_Values.ok W
    · exact l35_sameBinds.ok W
    · exact term_Size.ok W
    · exact term_Value.ok W
    · exact l35_different.ok W)) (Λ := fun a_ => match a_ with | (vars, sy, size, most) => (l35_EqualLists.Λ vars sy size most)) (Λr := fun a_ => match a_ with | (vars, sy, size, most) => (fun _ => none)) ?_
  intro a ha
  obtain ⟨vars, sy, size, most⟩ := a
  refine Eq.mpr ?_ (@l35_EqualLists.main vars sy size most ha)
  kernel_rfl
end Go.AL
