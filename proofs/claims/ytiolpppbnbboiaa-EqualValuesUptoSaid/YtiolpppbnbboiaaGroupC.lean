/- Functions of the program: what they return, and that they do. -/
import Derived.Test.YtiolpppbnbboiaaGroupB
import Derived.Test.YtiolpppbnbboiaaProg
import Derived.KernelRfl
import Derived.Test.YtiolpppbnbboiaaEvalC

set_option linter.unusedVariables false
set_option linter.unusedSimpArgs false
namespace Go.AL
set_option linter.unusedVariables false
end Go.AL
namespace Sp
open Go.AL
/-- What equal.Values returns. -/
def valuesI (vars : List ByteArray) (sy : List Tm) (size most : Int) : List (List Bnd) × Int :=
  if permit vars sy size most ≠ 0 then ([], permit vars sy size most) else if vars.any (fun x => (valsP x sy size).isEmpty) then ([], 0) else ((asg sy size vars []).take most.toNat, 0)
/-- No two are equal. -/
def ownRow (l : List Tm) (i : Nat) : Bool := (List.range i).all fun k => !decide (cmpL [nth default l (i : Int)] [nth default l ((k : Nat) : Int)] = 0)
def differFrom (l : List Tm) (i : Nat) : Bool := (List.range (l.length - i)).all fun k => ownRow l (i + k)
def differ (l : List Tm) : Bool := differFrom l 0
end Sp
namespace Go.AL

def equal_Values.L0 : LD := { cs := [1, 2, 23, 24], cts := [.lst (.nm 0), .int .i64, .lst (.str), .int .i64], pts := [], vs := [25], os := [], vts := [.int .i64], own := [false], ro := [0, 1, 2, 3, 7, 15, 16, 17, 18, 19, 10, 20, 21, 23, 24], nx := 100 }
def equal_Values.L2 : LD := { cs := [], cts := [], pts := [(13, (.loc 101 0))], vs := [], os := [(101, .plain, [none])], vts := [.bool], own := [false], ro := [1, 2, 23, 24, 25, 26, 27, 28, 12, 13, 29, 30, 31, 32, 0, 3, 7, 15, 16, 17, 18, 19, 10, 20, 21], nx := 200 }
def equal_Values.Λ (vars : (List ByteArray)) (sy : (List Tm)) (size : Int) (most : Int) : Nat → Option (Loop (ElT [.lst (.lst (.nm 3)), .int .i64])) := fun id =>
  if id = 0 then some (mkLoop equal_Values.L0
    (fun (c_ : (List Tm) × Int × (List ByteArray) × Int) (s_ : Int) => match c_, s_ with | (c_sy, c_size, xs, n), i => c_sy = sy ∧ c_size = size ∧ xs = vars ∧ n = (vars.length : Int) ∧ 0 ≤ i ∧ i ≤ vars.length ∧ Sp.permit vars sy size most = 0)
    (fun (c_ : (List Tm) × Int × (List ByteArray) × Int) (s_ : Int) => match c_, s_ with | (c_sy, c_size, xs, n), i => (vars.length - i : Int).toNat)
    (fun (c_ : (List Tm) × Int × (List ByteArray) × Int) (s_ : Int) => match c_, s_ with | (c_sy, c_size, xs, n), i => if (vars.drop i.toNat).any (fun x => (Sp.valsP x sy size).isEmpty) = true then .ret ([], 0) else .brk (vars.length : Int)) [] true) else
  none
def equal_Values.Ρ (vars : (List ByteArray)) (sy : (List Tm)) (size : Int) (most : Int) : Nat → Option (RLoop (ElT [.lst (.lst (.nm 3)), .int .i64])) := fun id =>
  if id = 2 then some (mkRLoop equal_Values.L2 (.lst (.nm 0))
    (fun (c_ : Unit) (xs : List (List Tm)) (s_ : Bool) => match c_, s_ with | (), b => True)
    (fun (c_ : Unit) (xs : List (List Tm)) (s_ : Bool) => match c_, s_ with | (), b => .brk (b || !xs.isEmpty)) [] false) else
  none
def equal_Values.C : Ctr := pureCtr [.lst (.str), .lst (.nm 0), .int .i64, .int .i64] [.lst (.lst (.nm 3)), .int .i64] (some (fun (a_ : (List ByteArray) × (List Tm) × Int × Int) => match a_ with | (vars, sy, size, most) => Sp.okL sy)) (fun (a_ : (List ByteArray) × (List Tm) × Int × Int) => match a_ with | (vars, sy, size, most) => (Sp.valuesI vars sy size most))
def l35_awake.C : Ctr := pureCtr [] [.bool] none (fun (_ : Unit) => (true))
def l35_different.L0 : LD := { cs := [0], cts := [.lst (.nm 0)], pts := [], vs := [3], os := [], vts := [.int .i64], own := [false], ro := [0], nx := 100 }
def l35_different.L2 : LD := { cs := [0, 3], cts := [.lst (.nm 0), .int .i64], pts := [], vs := [4], os := [], vts := [.int .i64], own := [false], ro := [0, 3, 5, 6, 7, 8], nx := 200 }
def l35_different.Λ (l : (List Tm)) : Nat → Option (Loop (ElT [.bool])) := fun id =>
  if id = 0 then some (mkLoop l35_different.L0
    (fun (c_ : (List Tm)) (s_ : Int) => match c_, s_ with | c_l, i => c_l = l ∧ 0 ≤ i ∧ i ≤ l.length ∧ Sp.okL l)
    (fun (c_ : (List Tm)) (s_ : Int) => match c_, s_ with | c_l, i => (l.length - i : Int).toNat)
    (fun (c_ : (List Tm)) (s_ : Int) => match c_, s_ with | c_l, i => if Sp.differFrom l i.toNat = true then .brk (l.length : Int) else .ret false) [] true) else
  if id = 2 then some (mkLoop l35_different.L2
    (fun (c_ : (List Tm) × Int) (s_ : Int) => match c_, s_ with | (c_l, i), k => c_l = l ∧ 0 ≤ i ∧ i < l.length ∧ 0 ≤ k ∧ k ≤ i ∧ l.length < 9223372036854775808 ∧ ∀ j : Nat, (j : Int) < k → ¬ Sp.cmpL [nth default l i] [nth default l (j : Int)] = 0)
    (fun (c_ : (List Tm) × Int) (s_ : Int) => match c_, s_ with | (c_l, i), k => (i - k : Int).toNat)
    (fun (c_ : (List Tm) × Int) (s_ : Int) => match c_, s_ with | (c_l, i), k => if Sp.ownRow l i.toNat = true then .brk i else .ret false) [] true) else
  none
def l35_different.C : Ctr := pureCtr [.lst (.nm 0)] [.bool] (some (fun (l : (List Tm)) => Sp.okL l)) (fun (l : (List Tm)) => (Sp.differ l))
end Go.AL

namespace Go.AL
set_option linter.unusedVariables false
set_option maxRecDepth 10000
def equal_Values.l2 : Prop :=
  (∀ l2 : (List Tm), (∀ l3 : (List (List Tm)), (∀ b : Bool, (True → (((LOut.brk (b || (!(List.isEmpty (l2 :: l3))))) : (LOut Bool ((List (List Bnd)) × Int))) = (LOut.brk Bool.true))))))
def equal_Values.l0 (sy : (List Tm)) (size : Int) (vars : (List ByteArray)) (most : Int) : Prop :=
  (∀ l : (List Tm), (∀ i1 : Int, (∀ l1 : (List ByteArray), (∀ i2 : Int, (∀ i3 : Int, (((l = sy) ∧ ((i1 = size) ∧ ((l1 = vars) ∧ ((i2 = (↑(List.length vars) : Int)) ∧ ((0 ≤ i3) ∧ ((i3 ≤ (↑(List.length vars) : Int)) ∧ ((Sp.permit vars sy size most) = 0))))))) → (ifB (decide (i3 < i2)) (((0 ≤ i3) ∧ (i3 < (↑(List.length l1) : Int))) ∧ (((0 < (ByteArray.size (nth (⟨#[]⟩ : ByteArray) l1 i3))) ∧ ((0 ≤ i1) ∧ ((i1 ≤ 1000) ∧ ((List.length l) ≤ 1000)))) ∧ (True ∧ ((∀ b : Bool, (True → (((LOut.brk (b || (!(List.isEmpty ([] : (List (List Tm))))))) : (LOut Bool ((List (List Bnd)) × Int))) = (LOut.brk b)))) ∧ (equal_Values.l2 ∧ (∀ b : Bool, ((((LOut.brk (Bool.false || (!(List.isEmpty (Sp.valsP (nth (⟨#[]⟩ : ByteArray) l1 i3) l i1))))) : (LOut Bool ((List (List Bnd)) × Int))) = (LOut.brk b)) → (ifB (!b) (((ite ((List.any (List.drop (Int.toNat i3) vars) (fun s : ByteArray => (List.isEmpty (Sp.valsP s sy size)))) = Bool.true) (LOut.ret (([] : (List (List Bnd))), 0)) (LOut.brk (↑(List.length vars) : Int))) : (LOut Int ((List (List Bnd)) × Int))) = (LOut.ret (([] : (List (List Bnd))), 0))) ((inR Go.IntKind.i64 (i3 + 1)) ∧ (((l = sy) ∧ ((i1 = size) ∧ ((l1 = vars) ∧ ((i2 = (↑(List.length vars) : Int)) ∧ ((0 ≤ (i3 + 1)) ∧ (((i3 + 1) ≤ (↑(List.length vars) : Int)) ∧ ((Sp.permit vars sy size most) = 0))))))) ∧ (((Int.toNat ((↑(List.length vars) : Int) - (i3 + 1))) < (Int.toNat ((↑(List.length vars) : Int) - i3))) ∧ (((ite ((List.any (List.drop (Int.toNat (i3 + 1)) vars) (fun s : ByteArray => (List.isEmpty (Sp.valsP s sy size)))) = Bool.true) (LOut.ret (([] : (List (List Bnd))), 0)) (LOut.brk (↑(List.length vars) : Int))) : (LOut Int ((List (List Bnd)) × Int))) = (ite ((List.any (List.drop (Int.toNat i3) vars) (fun s : ByteArray => (List.isEmpty (Sp.valsP s sy size)))) = Bool.true) (LOut.ret (([] : (List (List Bnd))), 0)) (LOut.brk (↑(List.length vars) : Int))))))))))))))) (((ite ((List.any (List.drop (Int.toNat i3) vars) (fun s : ByteArray => (List.isEmpty (Sp.valsP s sy size)))) = Bool.true) (LOut.ret (([] : (List (List Bnd))), 0)) (LOut.brk (↑(List.length vars) : Int))) : (LOut Int ((List (List Bnd)) × Int))) = (LOut.brk i3)))))))))
def equal_Values.t (vars : (List ByteArray)) (sy : (List Tm)) (size : Int) (most : Int) : Prop :=
  ((Sp.okL sy) ∧ (∀ i : Int, (((Sp.permit vars sy size most) = i) → (ifB (!(decide (i = 0))) ((Sp.valuesI vars sy size most) = (([] : (List (List Bnd))), i)) (((List.length vars) < 9223372036854775808) → (((sy = sy) ∧ ((size = size) ∧ ((vars = vars) ∧ (((↑(List.length vars) : Int) = (↑(List.length vars) : Int)) ∧ (((0 : Int) ≤ 0) ∧ ((0 ≤ (↑(List.length vars) : Int)) ∧ ((Sp.permit vars sy size most) = 0))))))) ∧ ((equal_Values.l0 sy size vars most) ∧ ((∀ i1 : Int, ((((ite ((List.any (List.drop (Int.toNat 0) vars) (fun s : ByteArray => (List.isEmpty (Sp.valsP s sy size)))) = Bool.true) (LOut.ret (([] : (List (List Bnd))), 0)) (LOut.brk (↑(List.length vars) : Int))) : (LOut Int ((List (List Bnd)) × Int))) = (LOut.brk i1)) → (ifB (decide (0 < most)) (((∀ s : ByteArray, ((Membership.mem vars s) → (0 < (ByteArray.size s)))) ∧ (((List.length vars) ≤ 1000) ∧ ((0 ≤ size) ∧ ((size ≤ 1000) ∧ (((List.length sy) ≤ 1000) ∧ ((([] : (List Bnd)) = ([] : (List Bnd))) ∧ ((([] : (List (List Bnd))) = ([] : (List (List Bnd)))) ∧ ((0 < most) ∧ ((most ≤ 5000) ∧ (∀ l : (List Bnd), ((Membership.mem (Sp.asg sy size vars ([] : (List Bnd))) l) → (((List.length l) ≤ 5000) ∧ (∀ x : Bnd, ((Membership.mem l x) → (Sp.okL (Bnd.val x)))))))))))))))) ∧ (∀ b : Bool, (∀ l : (List (List Bnd)), (∀ i2 : Int, ((((decide ((↑(List.length (Sp.asg sy size vars ([] : (List Bnd)))) : Int) < most)), ((List.take (Int.toNat most) (Sp.asg sy size vars ([] : (List Bnd)))), most)) = (b, (l, i2))) → ((Sp.valuesI vars sy size most) = (l, 0))))))) ((Sp.valuesI vars sy size most) = (([] : (List (List Bnd))), 0))))) ∧ (∀ l : (List (List Bnd)), (∀ i1 : Int, ((((ite ((List.any (List.drop (Int.toNat 0) vars) (fun s : ByteArray => (List.isEmpty (Sp.valsP s sy size)))) = Bool.true) (LOut.ret (([] : (List (List Bnd))), 0)) (LOut.brk (↑(List.length vars) : Int))) : (LOut Int ((List (List Bnd)) × Int))) = (LOut.ret (l, i1))) → ((Sp.valuesI vars sy size most) = (l, i1)))))))))))))
theorem equal_Values.w (vars : (List ByteArray)) (sy : (List Tm)) (size : Int) (most : Int) : wpF Go.Proofs.Try.prog (lookC [(47, equal_permitted.C), (48, equal_values.C), (49, equal_assignments.C), (50, equal_Values_1.C)]) 24 [.lst (.str), .lst (.nm 0), .int .i64, .int .i64] [.lst (.lst (.nm 3)), .int .i64] (equal_Values.Λ vars sy size most) (equal_Values.Ρ vars sy size most) (vars, sy, size, most) (fun r => (Sp.valuesI vars sy size most) = r) = equal_Values.t vars sy size most := by kernel_rfl
def l35_awake.t : Prop :=
  ((Sp.okL ((Tm.mk 2 (⟨#[65]⟩ : ByteArray) ([] : (List Tm))) :: ([] : (List Tm)))) ∧ (∀ l : (List (List Bnd)), (∀ i : Int, (((Sp.valuesI ((⟨#[101, 46, 120]⟩ : ByteArray) :: ([] : (List ByteArray))) ((Tm.mk 2 (⟨#[65]⟩ : ByteArray) ([] : (List Tm))) :: ([] : (List Tm))) 1 10) = (l, i)) → (((((decide (i = 0)) && (decide ((↑(List.length l) : Int) = 3))) = Bool.true) → (((0 : Int) ≤ 0) ∧ (0 < (↑(List.length l) : Int)))) ∧ ((((((decide (i = 0)) && (decide ((↑(List.length l) : Int) = 3))) && (decide ((↑(List.length (nth ([] : (List Bnd)) l 0)) : Int) = 1))) = Bool.true) → (((0 : Int) ≤ 0) ∧ (0 < (↑(List.length l) : Int)))) ∧ ((((((decide (i = 0)) && (decide ((↑(List.length l) : Int) = 3))) && (decide ((↑(List.length (nth ([] : (List Bnd)) l 0)) : Int) = 1))) = Bool.true) → (((0 : Int) ≤ 0) ∧ (0 < (↑(List.length (nth ([] : (List Bnd)) l 0)) : Int)))) ∧ (((((((decide (i = 0)) && (decide ((↑(List.length l) : Int) = 3))) && (decide ((↑(List.length (nth ([] : (List Bnd)) l 0)) : Int) = 1))) && (decide ((↑(List.length (Bnd.val (nth (Inhabited.default) (nth ([] : (List Bnd)) l 0) 0))) : Int) = 0))) = Bool.true) → (((0 : Int) ≤ 1) ∧ (1 < (↑(List.length l) : Int)))) ∧ ((((((((decide (i = 0)) && (decide ((↑(List.length l) : Int) = 3))) && (decide ((↑(List.length (nth ([] : (List Bnd)) l 0)) : Int) = 1))) && (decide ((↑(List.length (Bnd.val (nth (Inhabited.default) (nth ([] : (List Bnd)) l 0) 0))) : Int) = 0))) && (decide ((↑(List.length (nth ([] : (List Bnd)) l 1)) : Int) = 1))) = Bool.true) → (((0 : Int) ≤ 1) ∧ (1 < (↑(List.length l) : Int)))) ∧ ((((((((decide (i = 0)) && (decide ((↑(List.length l) : Int) = 3))) && (decide ((↑(List.length (nth ([] : (List Bnd)) l 0)) : Int) = 1))) && (decide ((↑(List.length (Bnd.val (nth (Inhabited.default) (nth ([] : (List Bnd)) l 0) 0))) : Int) = 0))) && (decide ((↑(List.length (nth ([] : (List Bnd)) l 1)) : Int) = 1))) = Bool.true) → (((0 : Int) ≤ 0) ∧ (0 < (↑(List.length (nth ([] : (List Bnd)) l 1)) : Int)))) ∧ (Bool.true = ((((((decide (i = 0)) && (decide ((↑(List.length l) : Int) = 3))) && (decide ((↑(List.length (nth ([] : (List Bnd)) l 0)) : Int) = 1))) && (decide ((↑(List.length (Bnd.val (nth (Inhabited.default) (nth ([] : (List Bnd)) l 0) 0))) : Int) = 0))) && (decide ((↑(List.length (nth ([] : (List Bnd)) l 1)) : Int) = 1))) && (decide ((Sp.cmpL (Bnd.val (nth (Inhabited.default) (nth ([] : (List Bnd)) l 1) 0)) ((Tm.mk 2 (⟨#[65]⟩ : ByteArray) ([] : (List Tm))) :: ([] : (List Tm)))) = 0))))))))))))))
theorem l35_awake.w  : wpF Go.Proofs.Try.prog (lookC [(14, r01_Equal.C), (24, equal_Values.C)]) 23 [] [.bool] (fun _ => none) (fun _ => none) () (fun r => (true) = r) = l35_awake.t  := by kernel_rfl
def l35_different.l2 (l : (List Tm)) : Prop :=
  (∀ l2 : (List Tm), (∀ i1 : Int, (∀ i2 : Int, (((l2 = l) ∧ ((0 ≤ i1) ∧ ((i1 < (↑(List.length l) : Int)) ∧ ((0 ≤ i2) ∧ ((i2 ≤ i1) ∧ (((List.length l) < 9223372036854775808) ∧ (∀ x : Nat, (((↑x : Int) < i2) → (¬ ((Sp.cmpL ((nth (Inhabited.default) l i1) :: ([] : (List Tm))) ((nth (Inhabited.default) l (↑x : Int)) :: ([] : (List Tm)))) = 0)))))))))) → (ifB (decide (i2 < i1)) ((inR Go.IntKind.i64 (i1 + 1)) ∧ (((0 ≤ i1) ∧ ((i1 ≤ (i1 + 1)) ∧ ((i1 + 1) ≤ (↑(List.length l2) : Int)))) ∧ ((inR Go.IntKind.i64 (i2 + 1)) ∧ (((0 ≤ i2) ∧ ((i2 ≤ (i2 + 1)) ∧ ((i2 + 1) ≤ (↑(List.length l2) : Int)))) ∧ (∀ b : Bool, (((decide ((Sp.cmpL (List.drop (Int.toNat i1) (List.take (Int.toNat (i1 + 1)) l2)) (List.drop (Int.toNat i2) (List.take (Int.toNat (i2 + 1)) l2))) = 0)) = b) → (ifB b (((ite ((Sp.ownRow l (Int.toNat i1)) = Bool.true) (LOut.brk i1) (LOut.ret Bool.false)) : (LOut Int Bool)) = (LOut.ret Bool.false)) ((inR Go.IntKind.i64 (i2 + 1)) ∧ (((l2 = l) ∧ ((0 ≤ i1) ∧ ((i1 < (↑(List.length l) : Int)) ∧ ((0 ≤ (i2 + 1)) ∧ (((i2 + 1) ≤ i1) ∧ (((List.length l) < 9223372036854775808) ∧ (∀ x : Nat, (((↑x : Int) < (i2 + 1)) → (¬ ((Sp.cmpL ((nth (Inhabited.default) l i1) :: ([] : (List Tm))) ((nth (Inhabited.default) l (↑x : Int)) :: ([] : (List Tm)))) = 0)))))))))) ∧ (((Int.toNat (i1 - (i2 + 1))) < (Int.toNat (i1 - i2))) ∧ (((ite ((Sp.ownRow l (Int.toNat i1)) = Bool.true) (LOut.brk i1) (LOut.ret Bool.false)) : (LOut Int Bool)) = (ite ((Sp.ownRow l (Int.toNat i1)) = Bool.true) (LOut.brk i1) (LOut.ret Bool.false))))))))))))) (((ite ((Sp.ownRow l (Int.toNat i1)) = Bool.true) (LOut.brk i1) (LOut.ret Bool.false)) : (LOut Int Bool)) = (LOut.brk i2)))))))
def l35_different.l0 (l : (List Tm)) : Prop :=
  (∀ l1 : (List Tm), (∀ i : Int, (((l1 = l) ∧ ((0 ≤ i) ∧ ((i ≤ (↑(List.length l) : Int)) ∧ (Sp.okL l)))) → (((List.length l1) < 9223372036854775808) → (ifB (decide (i < (↑(List.length l1) : Int))) (((l1 = l) ∧ ((0 ≤ i) ∧ ((i < (↑(List.length l) : Int)) ∧ (((0 : Int) ≤ 0) ∧ ((0 ≤ i) ∧ (((List.length l) < 9223372036854775808) ∧ (∀ x : Nat, (((↑x : Int) < 0) → (¬ ((Sp.cmpL ((nth (Inhabited.default) l i) :: ([] : (List Tm))) ((nth (Inhabited.default) l (↑x : Int)) :: ([] : (List Tm)))) = 0)))))))))) ∧ ((l35_different.l2 l) ∧ ((∀ i1 : Int, ((((ite ((Sp.ownRow l (Int.toNat i)) = Bool.true) (LOut.brk i) (LOut.ret Bool.false)) : (LOut Int Bool)) = (LOut.brk i1)) → ((inR Go.IntKind.i64 (i + 1)) ∧ (((l1 = l) ∧ ((0 ≤ (i + 1)) ∧ (((i + 1) ≤ (↑(List.length l) : Int)) ∧ (Sp.okL l)))) ∧ (((Int.toNat ((↑(List.length l) : Int) - (i + 1))) < (Int.toNat ((↑(List.length l) : Int) - i))) ∧ (((ite ((Sp.differFrom l (Int.toNat (i + 1))) = Bool.true) (LOut.brk (↑(List.length l) : Int)) (LOut.ret Bool.false)) : (LOut Int Bool)) = (ite ((Sp.differFrom l (Int.toNat i)) = Bool.true) (LOut.brk (↑(List.length l) : Int)) (LOut.ret Bool.false)))))))) ∧ (∀ b : Bool, ((((ite ((Sp.ownRow l (Int.toNat i)) = Bool.true) (LOut.brk i) (LOut.ret Bool.false)) : (LOut Int Bool)) = (LOut.ret b)) → (((ite ((Sp.differFrom l (Int.toNat i)) = Bool.true) (LOut.brk (↑(List.length l) : Int)) (LOut.ret Bool.false)) : (LOut Int Bool)) = (LOut.ret b))))))) (((ite ((Sp.differFrom l (Int.toNat i)) = Bool.true) (LOut.brk (↑(List.length l) : Int)) (LOut.ret Bool.false)) : (LOut Int Bool)) = (LOut.brk i)))))))
def l35_different.t (l : (List Tm)) : Prop :=
  (((l = l) ∧ (((0 : Int) ≤ 0) ∧ ((0 ≤ (↑(List.length l) : Int)) ∧ (Sp.okL l)))) ∧ ((l35_different.l0 l) ∧ ((∀ i : Int, ((((ite ((Sp.differFrom l (Int.toNat 0)) = Bool.true) (LOut.brk (↑(List.length l) : Int)) (LOut.ret Bool.false)) : (LOut Int Bool)) = (LOut.brk i)) → ((Sp.differ l) = Bool.true))) ∧ (∀ b : Bool, ((((ite ((Sp.differFrom l (Int.toNat 0)) = Bool.true) (LOut.brk (↑(List.length l) : Int)) (LOut.ret Bool.false)) : (LOut Int Bool)) = (LOut.ret b)) → ((Sp.differ l) = b))))))
theorem l35_different.w (l : (List Tm)) : wpF Go.Proofs.Try.prog (lookC [(14, r01_Equal.C)]) 29 [.lst (.nm 0)] [.bool] (l35_different.Λ l) (fun _ => none) l (fun r => (Sp.differ l) = r) = l35_different.t l := by kernel_rfl
end Go.AL

namespace Go.AL
set_option linter.unusedVariables false
set_option linter.unusedSimpArgs false
set_option maxRecDepth 10000
attribute [local irreducible] wpF wpFX wpM wpFM
theorem Sp.valsP_mem {x : ByteArray} {sy : List Tm} {size : Int} {v : List Tm} (h : v ∈ Sp.valsP x sy size) : v ∈ Sp.upTo none sy size ∨ (∃ t ∈ sy, v = [t]) ∨ (0 < size ∧ ∃ k ∈ Sp.upTo none sy (size - 1), v = [Sp.grp k]) := by
  unfold Sp.valsP at h
  split at h
  · exact .inl h
  · rcases List.mem_append.1 h with h | h
    · obtain ⟨t, h1, rfl⟩ := List.mem_map.1 h
      exact .inr (.inl ⟨t, h1, rfl⟩)
    · split at h
      · rename_i h6
        obtain ⟨k, h1, rfl⟩ := List.mem_map.1 h
        exact .inr (.inr ⟨h6.2, k, h1, rfl⟩)
      · cases h
theorem Sp.valsP_nodes {x : ByteArray} {sy : List Tm} {size : Int} (hs : ∀ t ∈ sy, Sp.symOK t = true) {v : List Tm} (h : v ∈ Sp.valsP x sy size) : (Sp.nodesL v : Int) ≤ max size 1 := by
  rcases Sp.valsP_mem h with h | ⟨t, ht, rfl⟩ | ⟨h0, k, hk, rfl⟩
  · obtain ⟨n, h1, h2⟩ := Sp.upTo_mem h
    rw [Sp.lists_nodes hs v h2]; omega
  · simp only [Sp.nodesL, Sp.symOK_nodes (hs t ht)]; omega
  · obtain ⟨n, h1, h2⟩ := Sp.upTo_mem hk
    simp only [Sp.nodesL, Sp.grp, Sp.nodesT, Sp.lists_nodes hs k h2]; omega
/-- The variables and values of bindings. -/
inductive Sp.Asg (sy : List Tm) (n : Int) : List ByteArray → List Bnd → Prop
  | nil : Sp.Asg sy n [] []
  | cons {x v r l} (h : v ∈ Sp.valsP x sy n) (k : Sp.Asg sy n r l) : Sp.Asg sy n (x :: r) (⟨x, v⟩ :: l)
theorem Sp.asg_mem {sy : List Tm} {n : Int} : ∀ (vars : List ByteArray) (ahead o : List Bnd), o ∈ Sp.asg sy n vars ahead → ∃ l, o = ahead ++ l ∧ Sp.Asg sy n vars l
  | [], ahead, o, h => by simp [Sp.asg] at h; exact ⟨[], by simp [h], .nil⟩
  | x :: r, ahead, o, h => by
    simp only [Sp.asg, List.mem_flatMap] at h
    obtain ⟨v, hv, h⟩ := h
    obtain ⟨l, rfl, h2⟩ := Sp.asg_mem r _ o h
    exact ⟨⟨x, v⟩ :: l, by simp, .cons hv h2⟩
theorem Sp.Asg.len {sy : List Tm} {n : Int} : ∀ {vars : List ByteArray} {l : List Bnd}, Sp.Asg sy n vars l → l.length = vars.length
  | _, _, .nil => rfl
  | _, _, .cons _ k => by simp [k.len]
theorem Sp.Asg.val {sy : List Tm} {n : Int} : ∀ {vars : List ByteArray} {l : List Bnd}, Sp.Asg sy n vars l → ∀ b ∈ l, ∃ x ∈ vars, b.val ∈ Sp.valsP x sy n
  | _, _, .nil, b, h => by cases h
  | _, _, .cons (x := x) h k, b, hb => by
    rcases List.mem_cons.1 hb with rfl | hb
    · exact ⟨x, by simp, h⟩
    · obtain ⟨y, h1, h2⟩ := k.val b hb
      exact ⟨y, by simp [h1], h2⟩
theorem Sp.isVarN_size {x : ByteArray} (h : Sp.isVarN x = true) : 3 ≤ x.size := by
  unfold Sp.isVarN Sp.vari at h
  split at h
  · rename_i h1
    simp only [Bool.and_eq_true, Bool.or_eq_true, Bool.not_eq_true', Bool.or_eq_false_iff, Bool.and_eq_false_iff, Bool.not_eq_false', decide_eq_true_eq, decide_eq_false_iff_not, mk_empty] at h1
    exact h1.1.1
  · cases h
theorem Sp.asg_ok {vars : List ByteArray} {sy : List Tm} {size most : Int} (h : Sp.permit vars sy size most = 0) {o : List Bnd} (ho : o ∈ Sp.asg sy size vars []) : o.length = vars.length ∧ ∀ b ∈ o, Sp.nodesL b.val ≤ 6 := by
  obtain ⟨a1, a2, a3, a4, a5, a6, a7, a8, a9⟩ := Sp.permit_ok h
  obtain ⟨l, rfl, h1⟩ := Sp.asg_mem _ _ _ ho
  refine ⟨h1.len, fun b hb => ?_⟩
  obtain ⟨x, hx, h2⟩ := h1.val b hb
  have := Sp.valsP_nodes a8 h2
  omega
theorem Sp.asg_none {sy : List Tm} {size : Int} : ∀ {vars : List ByteArray} {ahead : List Bnd}, vars.any (fun x => (Sp.valsP x sy size).isEmpty) = true → Sp.asg sy size vars ahead = []
  | [], _, h => by cases h
  | x :: r, ahead, h => by
    simp only [List.any_cons, Bool.or_eq_true, List.isEmpty_iff] at h
    rw [Sp.asg]
    rcases h with h | h
    · rw [h]; rfl
    · simp only [List.flatMap_eq_nil_iff]
      exact fun v _ => Sp.asg_none h
theorem Sp.awake_permit : Sp.permit [⟨#[101, 46, 120]⟩] [Tm.mk 2 ⟨#[65]⟩ []] 1 10 = 0 := by kernel_rfl
theorem Sp.awake_asg : Sp.asg [Tm.mk 2 ⟨#[65]⟩ []] 1 [⟨#[101, 46, 120]⟩] [] = [[⟨⟨#[101, 46, 120]⟩, []⟩], [⟨⟨#[101, 46, 120]⟩, [Tm.mk 2 ⟨#[65]⟩ []]⟩], [⟨⟨#[101, 46, 120]⟩, [Sp.grp []]⟩]] := by
  have h : byteAt ⟨#[101, 46, 120]⟩ 0 = 101 := by kernel_rfl
  have hl : Sp.lists none [Tm.mk 2 ⟨#[65]⟩ []] 1 = [[Tm.mk 2 ⟨#[65]⟩ []], [Sp.grp []]] := by
    rw [Sp.lists_succ]
    simp [Sp.cutN, Sp.lists_zero, List.range_succ]
  have hu : Sp.upTo none [Tm.mk 2 ⟨#[65]⟩ []] 1 = [[], [Tm.mk 2 ⟨#[65]⟩ []], [Sp.grp []]] := by
    unfold Sp.upTo Sp.cutN
    have : (1 + 1 : Int).toNat = 2 := rfl
    rw [this]
    simp [List.range_succ, Sp.lists_zero, hl]
  simp [Sp.asg, Sp.valsP, h, hu]
theorem Sp.awake_vals : Sp.valuesI [⟨#[101, 46, 120]⟩] [Tm.mk 2 ⟨#[65]⟩ []] 1 10 = ([[⟨⟨#[101, 46, 120]⟩, []⟩], [⟨⟨#[101, 46, 120]⟩, [Tm.mk 2 ⟨#[65]⟩ []]⟩], [⟨⟨#[101, 46, 120]⟩, [Sp.grp []]⟩]], 0) := by
  have hn : ¬ ([(⟨#[101, 46, 120]⟩ : ByteArray)].any (fun x => (Sp.valsP x [Tm.mk 2 ⟨#[65]⟩ []] 1).isEmpty) = true) := by
    intro h
    have := Sp.asg_none (ahead := []) h
    rw [Sp.awake_asg] at this; cases this
  unfold Sp.valuesI
  rw [if_neg (by rw [Sp.awake_permit]; simp), if_neg hn, Sp.awake_asg]
  rfl
theorem Sp.differFrom_step {l : List Tm} {i : Int} (h0 : 0 ≤ i) (h : i < l.length) : Sp.differFrom l i.toNat = (Sp.ownRow l i.toNat && Sp.differFrom l (i.toNat + 1)) := by
  unfold Sp.differFrom
  rw [show l.length - i.toNat = (l.length - (i.toNat + 1)) + 1 by omega, List.range_succ_eq_map, List.all_cons, List.all_map]
  congr 1
  refine List.all_congr rfl fun k => ?_
  show Sp.ownRow l (i.toNat + (k + 1)) = _
  congr 1; omega
theorem equal_Values.l2_ok : equal_Values.l2 := by
  intro x r b _
  simp
theorem equal_Values.l0_ok (sy : List Tm) (size : Int) (vars : List ByteArray) (most : Int) : equal_Values.l0 sy size vars most := by
  rintro l i1 l1 i2 i ⟨rfl, rfl, rfl, rfl, h1, h2, h3⟩
  obtain ⟨a1, a2, a3, a4, a5, a6, a7, a8, a9⟩ := Sp.permit_ok h3
  refine ifD (fun h => ⟨⟨h1, h⟩, ⟨by have := Sp.isVarN_size (a7 _ (nth_mem (d := (⟨#[]⟩ : ByteArray)) (l := l1) (i := i) (by omega))); omega, a1, by omega, by omega⟩, trivial, fun b _ => by simp, equal_Values.l2_ok, fun b hb => ?_⟩) fun h => ?_
  · have e := nth_drop (d := (⟨#[]⟩ : ByteArray)) (l := l1) (i := i) (by omega)
    simp only [LOut.brk.injEq, Bool.false_or] at hb
    rw [e, List.any_cons, show (i + 1).toNat = i.toNat + 1 by omega]
    subst hb
    cases hv : (Sp.valsP (nth (⟨#[]⟩ : ByteArray) l1 i) l i1).isEmpty with
    | true => exact if_pos (by simp)
    | false => exact ⟨inR64 (by omega), ⟨rfl, rfl, rfl, rfl, by omega, by omega, h3⟩, by omega, by simp⟩
  · rw [List.drop_eq_nil_of_le (by omega), if_neg (by simp)]; congr 1; omega
theorem equal_Values.main (vars : List ByteArray) (sy : List Tm) (size most : Int) (ha : Sp.okL sy) : equal_Values.t vars sy size most := by
  refine ⟨ha, fun i hi => ifN (fun h => ?_) fun h => fun hl => ⟨⟨rfl, rfl, rfl, rfl, by omega, by omega, by omega⟩, equal_Values.l0_ok sy size vars most, fun i1 h1 => ?_, fun l i1 h1 => ?_⟩⟩
  · unfold Sp.valuesI; rw [if_pos (by omega), hi]
  · simp only [Int.toNat_zero, List.drop_zero] at h1
    have h0 : Sp.permit vars sy size most = 0 := by omega
    obtain ⟨a1, a2, a3, a4, a5, a6, a7, a8, a9⟩ := Sp.permit_ok h0
    have hn := (ite_brk' h1).1
    have hv : Sp.valuesI vars sy size most = ((Sp.asg sy size vars []).take most.toNat, 0) := by
      unfold Sp.valuesI; rw [if_neg (by omega), if_neg hn]
    refine ifD (fun hm => ⟨⟨fun s hs => by have := Sp.isVarN_size (a7 s hs); omega, by omega, a1, by omega, by omega, rfl, rfl, hm, a4, fun o ho => ?_⟩, fun b l i2 he => ?_⟩) fun hm => ?_
    · obtain ⟨q1, q2⟩ := Sp.asg_ok h0 ho
      exact ⟨by omega, fun b hb => by have := q2 b hb; unfold Sp.okL; omega⟩
    · simp only [Prod.mk.injEq] at he
      rw [hv, he.2.1]
    · rw [hv, show most.toNat = 0 by omega]; rfl
  · simp only [Int.toNat_zero, List.drop_zero] at h1
    obtain ⟨hn, he⟩ := ite_ret' h1
    unfold Sp.valuesI; rw [if_neg (by omega), if_pos hn, he]
theorem equal_Values.ok (W : World) : CtrOK Go.Proofs.Try.prog W 24 equal_Values.C := by
  refine funOK (Γ := lookC [(47, equal_permitted.C), (48, equal_values.C), (49, equal_assignments.C), (50, equal_Values_1.C)]) (lookC_ok (fun p hp => by
    simp only [List.mem_cons, List.not_mem_nil, or_false] at hp
    rcases hp with rfl | rfl | rfl | rfl
    · exact equal_permitted.ok W
    · exact equal_values.ok W
    · exact equal_assignments.ok W
    · exact equal_Values_1.ok W)) (Λ := fun a_ => match a_ with | (vars, sy, size, most) => (equal_Values.Λ vars sy size most)) (Λr := fun a_ => match a_ with | (vars, sy, size, most) => (equal_Values.Ρ vars sy size most)) ?_
  intro a ha
  obtain ⟨vars, sy, size, most⟩ := a
  refine Eq.mpr ?_ (@equal_Values.main vars sy size most ha)
  kernel_rfl
theorem l35_awake.main : l35_awake.t := by
  refine ⟨by unfold Sp.okL; simp [Sp.nodesL, Sp.nodesT], fun l i h => ?_⟩
  rw [Sp.awake_vals] at h
  simp only [Prod.mk.injEq] at h
  obtain ⟨rfl, rfl⟩ := h
  refine ⟨fun _ => ⟨by omega, by simp⟩, fun _ => ⟨by omega, by simp⟩, fun _ => ⟨by omega, by simp [nth]⟩, fun _ => ⟨by omega, by simp⟩, fun _ => ⟨by omega, by simp⟩, fun _ => ⟨by omega, by simp [nth]⟩, ?_⟩
  kernel_rfl
theorem l35_awake.ok (W : World) : CtrOK Go.Proofs.Try.prog W 23 l35_awake.C := by
  refine funOK (Γ := lookC [(14, r01_Equal.C), (24, equal_Values.C)]) (lookC_ok (fun p hp => by
    simp only [List.mem_cons, List.not_mem_nil, or_false] at hp
    rcases hp with rfl | rfl
    · exact r01_Equal.ok W
    · exact equal_Values.ok W)) (Λ := fun a_ => match a_ with | () => (fun _ => none)) (Λr := fun a_ => match a_ with | () => (fun _ => none)) ?_
  intro a ha
  refine Eq.mpr ?_ (@l35_awake.main )
  kernel_rfl
theorem l35_different.l2_ok (l : List Tm) : l35_different.l2 l := by
  rintro l2 i k ⟨rfl, h1, h2, h3, h4, h5, h6⟩
  refine ifD (fun h => ⟨inR64 (by omega), ⟨h1, by omega, by omega⟩, inR64 (by omega), ⟨h3, by omega, by omega⟩, fun b hb => ?_⟩) fun h => ?_
  · rw [take_drop1 (d := (default : Tm)) h1 h2, take_drop1 (d := (default : Tm)) h3 (by omega)] at hb
    subst hb
    refine ifD (fun he => ?_) fun he => ⟨inR64 (by omega), ⟨rfl, h1, h2, by omega, by omega, h5, fun j hj => ?_⟩, by omega, rfl⟩
    · refine if_neg fun hr => ?_
      unfold Sp.ownRow at hr
      have := List.all_eq_true.1 hr k.toNat (by simp; omega)
      rw [show ((i.toNat : Nat) : Int) = i by omega, show ((k.toNat : Nat) : Int) = k by omega] at this
      simp [he] at this
    · rcases Int.lt_or_eq_of_le (show (j : Int) ≤ k by omega) with h7 | h7
      · exact h6 j h7
      · rw [h7]; exact he
  · have hk : k = i := by omega
    rw [if_pos]
    · rw [hk]
    · unfold Sp.ownRow
      refine List.all_eq_true.2 fun j hj => ?_
      simp only [List.mem_range] at hj
      have := h6 j (by omega)
      rw [show ((i.toNat : Nat) : Int) = i by omega]
      simp [this]
theorem l35_different.l0_ok (l : List Tm) : l35_different.l0 l := by
  rintro l1 i ⟨rfl, h1, h2, h3⟩
  refine fun hl => ifD (fun h => ⟨⟨rfl, h1, h, by omega, h1, hl, fun j hj => by omega⟩, l35_different.l2_ok l1, fun k hk => ?_, fun b hb => ?_⟩) fun h => ?_
  · obtain ⟨h4, _⟩ := ite_brk hk
    refine ⟨inR64 (by omega), ⟨rfl, by omega, by omega, h3⟩, by omega, ?_⟩
    rw [Sp.differFrom_step h1 h, h4, show (i + 1).toNat = i.toNat + 1 by omega, Bool.true_and]
  · obtain ⟨h4, h5⟩ := ite_ret hb
    rw [Sp.differFrom_step h1 h, if_neg (by simp [h4]), h5]
  · rw [if_pos]
    · congr 1; omega
    · unfold Sp.differFrom; rw [show l1.length - i.toNat = 0 by omega]; rfl
theorem l35_different.main (l : List Tm) (ha : Sp.okL l) : l35_different.t l := by
  refine ⟨⟨rfl, by omega, by omega, ha⟩, l35_different.l0_ok l, fun i h => ?_, fun b h => ?_⟩
  · exact (ite_brk h).1
  · obtain ⟨h1, h2⟩ := ite_ret h
    rw [← h2]; simpa [Sp.differ] using h1
theorem l35_different.ok (W : World) : CtrOK Go.Proofs.Try.prog W 29 l35_different.C := by
  refine funOK (Γ := lookC [(14, r01_Equal.C)]) (lookC_ok (fun p hp => by
    simp only [List.mem_cons, List.not_mem_nil, or_false] at hp
    subst hp; exact r01_Equal.ok W)) (Λ := fun a_ => match a_ with | l => (l35_different.Λ l)) (Λr := fun a_ => match a_ with | l => (fun _ => none)) ?_
  intro a ha
  refine Eq.mpr ?_ (@l35_different.main a ha)
  kernel_rfl
end Go.AL

namespace Go.AL
set_option linter.unusedVariables false
end Go.AL
namespace Sp
open Go.AL
end Sp
namespace Go.AL

def l35_EqualValues.L0 : LD := { cs := [0], cts := [.lst (.str)], pts := [], vs := [9], os := [], vts := [.int .i64], own := [false], ro := [0, 1, 2, 3, 15, 16, 17, 18, 19, 20, 21, 22, 23, 24, 25, 26, 27, 28, 29, 30, 31, 32, 33, 34, 35], nx := 100 }
def l35_EqualValues.L2 : LD := { cs := [10, 12], cts := [.lst (.lst (.nm 3)), .lst (.lst (.nm 3))], pts := [], vs := [14], os := [], vts := [.int .i64], own := [false], ro := [9, 0, 1, 2, 3, 15, 16, 17, 18, 19, 20, 21, 22, 23, 24, 25, 26, 27, 28, 29, 30, 31, 32, 33, 34, 35, 51, 52, 53, 54, 55, 50, 56, 57, 10, 11, 59, 60, 61, 62, 63, 58, 64, 65, 12, 13, 66, 67, 68, 69, 70, 71, 72, 73, 74, 75], nx := 200 }
def l35_EqualValues.Λ (vars : (List ByteArray)) (sy : (List Tm)) (size : Int) (most : Int) : Nat → Option (Loop (ElT [.bool])) := fun id =>
  if id = 0 then some (mkLoop l35_EqualValues.L0
    (fun (c_ : (List ByteArray)) (s_ : Int) => match c_, s_ with | c_vars, i => c_vars = vars ∧ 0 ≤ i ∧ i ≤ vars.length)
    (fun (c_ : (List ByteArray)) (s_ : Int) => match c_, s_ with | c_vars, i => (vars.length - i : Int).toNat)
    (fun (c_ : (List ByteArray)) (s_ : Int) => match c_, s_ with | c_vars, i => if (vars.drop i.toNat).all (fun s => decide (s.size ≤ 100)) = true then .brk (vars.length : Int) else .ret true) [] true) else
  if id = 2 then some (mkLoop l35_EqualValues.L2
    (fun (c_ : (List (List Bnd)) × (List (List Bnd))) (s_ : Int) => match c_, s_ with | (x, y), i => x = y ∧ 0 ≤ i ∧ i ≤ x.length)
    (fun (c_ : (List (List Bnd)) × (List (List Bnd))) (s_ : Int) => match c_, s_ with | (x, y), i => (x.length - i : Int).toNat)
    (fun (c_ : (List (List Bnd)) × (List (List Bnd))) (s_ : Int) => match c_, s_ with | (x, y), i => .brk (x.length : Int)) [] true) else
  none
def l35_EqualValues.C : Ctr := pureCtr [.lst (.str), .lst (.nm 0), .int .i64, .int .i64] [.bool] (some (fun (a_ : (List ByteArray) × (List Tm) × Int × Int) => match a_ with | (vars, sy, size, most) => Sp.okL sy)) (fun (a_ : (List ByteArray) × (List Tm) × Int × Int) => match a_ with | (vars, sy, size, most) => (true))
end Go.AL

namespace Go.AL
set_option linter.unusedVariables false
set_option maxRecDepth 10000
def l35_EqualValues.l0 (vars : (List ByteArray)) : Prop :=
  (∀ l : (List ByteArray), (∀ i : Int, (((l = vars) ∧ ((0 ≤ i) ∧ (i ≤ (↑(List.length vars) : Int)))) → (((List.length l) < 9223372036854775808) → (ifB (decide (i < (↑(List.length l) : Int))) (((0 ≤ i) ∧ (i < (↑(List.length l) : Int))) ∧ (((ByteArray.size (nth (⟨#[]⟩ : ByteArray) l i)) < 9223372036854775808) → (ifB (decide (100 < (↑(ByteArray.size (nth (⟨#[]⟩ : ByteArray) l i)) : Int))) (∀ b : Bool, ((Bool.true = b) → (((ite ((List.all (List.drop (Int.toNat i) vars) (fun s : ByteArray => (decide ((ByteArray.size s) ≤ 100)))) = Bool.true) (LOut.brk (↑(List.length vars) : Int)) (LOut.ret Bool.true)) : (LOut Int Bool)) = (LOut.ret b)))) ((inR Go.IntKind.i64 (i + 1)) ∧ (((l = vars) ∧ ((0 ≤ (i + 1)) ∧ ((i + 1) ≤ (↑(List.length vars) : Int)))) ∧ (((Int.toNat ((↑(List.length vars) : Int) - (i + 1))) < (Int.toNat ((↑(List.length vars) : Int) - i))) ∧ (((ite ((List.all (List.drop (Int.toNat (i + 1)) vars) (fun s : ByteArray => (decide ((ByteArray.size s) ≤ 100)))) = Bool.true) (LOut.brk (↑(List.length vars) : Int)) (LOut.ret Bool.true)) : (LOut Int Bool)) = (ite ((List.all (List.drop (Int.toNat i) vars) (fun s : ByteArray => (decide ((ByteArray.size s) ≤ 100)))) = Bool.true) (LOut.brk (↑(List.length vars) : Int)) (LOut.ret Bool.true))))))))) (((ite ((List.all (List.drop (Int.toNat i) vars) (fun s : ByteArray => (decide ((ByteArray.size s) ≤ 100)))) = Bool.true) (LOut.brk (↑(List.length vars) : Int)) (LOut.ret Bool.true)) : (LOut Int Bool)) = (LOut.brk i)))))))
def l35_EqualValues.l2 : Prop :=
  (∀ l2 : (List (List Bnd)), (∀ l3 : (List (List Bnd)), (∀ i3 : Int, (((l2 = l3) ∧ ((0 ≤ i3) ∧ (i3 ≤ (↑(List.length l2) : Int)))) → (((List.length l2) < 9223372036854775808) → (ifB (decide (i3 < (↑(List.length l2) : Int))) (((0 ≤ i3) ∧ (i3 < (↑(List.length l2) : Int))) ∧ (((0 ≤ i3) ∧ (i3 < (↑(List.length l3) : Int))) ∧ (∀ b : Bool, (((Sp.sameBs (nth ([] : (List Bnd)) l2 i3) (nth ([] : (List Bnd)) l3 i3)) = b) → (ifB (!b) (((LOut.brk (↑(List.length l2) : Int)) : (LOut Int Bool)) = (LOut.ret Bool.false)) ((inR Go.IntKind.i64 (i3 + 1)) ∧ (((l2 = l3) ∧ ((0 ≤ (i3 + 1)) ∧ ((i3 + 1) ≤ (↑(List.length l2) : Int)))) ∧ (((Int.toNat ((↑(List.length l2) : Int) - (i3 + 1))) < (Int.toNat ((↑(List.length l2) : Int) - i3))) ∧ (((LOut.brk (↑(List.length l2) : Int)) : (LOut Int Bool)) = (LOut.brk (↑(List.length l2) : Int))))))))))) (((LOut.brk (↑(List.length l2) : Int)) : (LOut Int Bool)) = (LOut.brk i3))))))))
def l35_EqualValues.t (vars : (List ByteArray)) (sy : (List Tm)) (size : Int) (most : Int) : Prop :=
  (((List.length vars) < 9223372036854775808) → (((((decide (22 < (↑(List.length vars) : Int))) || (decide (22 < (↑(List.length sy) : Int)))) = Bool.false) → ((((-1) : Int) ≤ 60) ∧ ((60 : Int) ≤ 1000000))) ∧ (ifB ((((decide (22 < (↑(List.length vars) : Int))) || (decide (22 < (↑(List.length sy) : Int)))) || (!(Sp.small sy 60))) || ((decide (60 < most)) && (decide (most ≤ 5000)))) (∀ b : Bool, ((Bool.true = b) → (Bool.true = b))) (((vars = vars) ∧ (((0 : Int) ≤ 0) ∧ (0 ≤ (↑(List.length vars) : Int)))) ∧ ((l35_EqualValues.l0 vars) ∧ ((∀ i : Int, ((((ite ((List.all (List.drop (Int.toNat 0) vars) (fun s : ByteArray => (decide ((ByteArray.size s) ≤ 100)))) = Bool.true) (LOut.brk (↑(List.length vars) : Int)) (LOut.ret Bool.true)) : (LOut Int Bool)) = (LOut.brk i)) → ((Sp.okL sy) ∧ (∀ l : (List (List Bnd)), (∀ i1 : Int, (((Sp.valuesI vars sy size most) = (l, i1)) → ((Sp.okL sy) ∧ (∀ l1 : (List (List Bnd)), (∀ i2 : Int, (((Sp.valuesR vars sy size most) = (l1, i2)) → (ifB ((!(decide (i1 = i2))) || (!(decide ((↑(List.length l) : Int) = (↑(List.length l1) : Int))))) (Bool.true = Bool.false) (((l = l1) ∧ (((0 : Int) ≤ 0) ∧ (0 ≤ (↑(List.length l) : Int)))) ∧ (l35_EqualValues.l2 ∧ ((∀ i3 : Int, ((((LOut.brk (↑(List.length l) : Int)) : (LOut Int Bool)) = (LOut.brk i3)) → (∀ b : Bool, ((Bool.true = b) → (Bool.true = b))))) ∧ (∀ b : Bool, ((((LOut.brk (↑(List.length l) : Int)) : (LOut Int Bool)) = (LOut.ret b)) → (Bool.true = b))))))))))))))))) ∧ (∀ b : Bool, ((((ite ((List.all (List.drop (Int.toNat 0) vars) (fun s : ByteArray => (decide ((ByteArray.size s) ≤ 100)))) = Bool.true) (LOut.brk (↑(List.length vars) : Int)) (LOut.ret Bool.true)) : (LOut Int Bool)) = (LOut.ret b)) → (Bool.true = b)))))))))
theorem l35_EqualValues.w (vars : (List ByteArray)) (sy : (List Tm)) (size : Int) (most : Int) : wpF Go.Proofs.Try.prog (lookC [(7, l09_Small.C), (23, l35_awake.C), (24, equal_Values.C), (25, r35_Values.C), (26, l35_sameBinds.C)]) 4 [.lst (.str), .lst (.nm 0), .int .i64, .int .i64] [.bool] (l35_EqualValues.Λ vars sy size most) (fun _ => none) (vars, sy, size, most) (fun r => (true) = r) = l35_EqualValues.t vars sy size most := by kernel_rfl
end Go.AL

namespace Go.AL
set_option linter.unusedVariables false
set_option linter.unusedSimpArgs false
set_option maxRecDepth 10000
attribute [local irreducible] wpF wpFX wpM wpFM
section
variable {α β : Type} {m : Nat}
theorem take_app (x y : List α) : (x ++ y).take m = (x.take m ++ y.take m).take m := by
  rw [List.take_append, List.take_append, List.take_take, Nat.min_self, List.length_take, List.take_take]
  congr 2; omega
theorem take_flat (f : α → List β) : ∀ l : List α, (l.flatMap f).take m = (l.flatMap fun x => (f x).take m).take m
  | [] => rfl
  | x :: l => by
    rw [List.flatMap_cons, List.flatMap_cons, take_app, take_flat f l]
    conv => rhs; rw [take_app, List.take_take, Nat.min_self]
theorem flat_congr {f g : α → List β} : ∀ {l : List α}, (∀ x ∈ l, f x = g x) → l.flatMap f = l.flatMap g
  | [], _ => rfl
  | x :: l, h => by rw [List.flatMap_cons, List.flatMap_cons, h x (by simp), flat_congr fun y hy => h y (by simp [hy])]
theorem take_flat_len {f : α → List β} {L : Nat} (hf : ∀ x, (f x).length = L) (l : List α) : ((l.take m).flatMap f).take m = (l.flatMap f).take m := by
  have hlen : ∀ l : List α, (l.flatMap f).length = l.length * L := by
    intro l
    induction l with
    | nil => simp
    | cons a l ih => rw [List.flatMap_cons, List.length_append, ih, hf, List.length_cons, Nat.add_mul]; omega
  by_cases h : l.length ≤ m
  · rw [List.take_of_length_le h]
  · rcases Nat.eq_zero_or_pos L with h0 | h0
    · have hn : ∀ l : List α, l.flatMap f = [] := fun l => by
        apply List.eq_nil_of_length_eq_zero; rw [hlen, h0, Nat.mul_zero]
      rw [hn, hn]
    · conv => rhs; rw [← List.take_append_drop m l, List.flatMap_append]
      rw [List.take_append_of_le_length]
      rw [hlen, List.length_take, Nat.min_eq_left (by omega)]
      exact Nat.le_mul_of_pos_right _ h0
theorem take_prod {γ : Type} (g : α → β → γ) (A : List α) (B : List β) : ((A.take m).flatMap fun a => (B.take m).map (g a)).take m = (A.flatMap fun a => B.map (g a)).take m := by
  have h : ∀ a, (B.take m).map (g a) = (B.map (g a)).take m := fun a => by rw [List.map_take]
  simp only [h]
  rw [← take_flat, take_flat_len (L := B.length) fun a => by simp]
end
theorem Sp.lists_cut {m : Nat} (hm : 1 ≤ m) (sy : List Tm) : ∀ n, Sp.lists (some m) sy n = (Sp.lists none sy n).take m := by
  intro n
  induction n using Nat.strongRecOn with
  | ind n ih =>
    cases n with
    | zero => rw [Sp.lists_zero, Sp.lists_zero, List.take_of_length_le (by simpa using hm)]
    | succ n =>
      rw [Sp.lists_succ, Sp.lists_succ]
      simp only [Sp.cutN]
      rw [take_app]
      conv => rhs; rw [take_app]
      congr 2
      · rw [ih n (by omega), take_flat]
        conv => rhs; rw [take_flat]
        congr 1
        congr 1
        funext t
        rw [← List.map_take, ← List.map_take, List.take_take, Nat.min_self]
      · rw [take_flat]
        conv => rhs; rw [take_flat]
        congr 1
        refine flat_congr fun i hi => ?_
        simp only [List.mem_range] at hi
        rw [ih i (by omega), ih (n - i) (by omega)]
        exact take_prod _ _ _
theorem Sp.upTo_cut {m : Nat} (hm : 1 ≤ m) (sy : List Tm) (size : Int) : Sp.upTo (some m) sy size = (Sp.upTo none sy size).take m := by
  unfold Sp.upTo
  simp only [Sp.cutN]
  conv => rhs; rw [take_flat]
  congr 1
  exact flat_congr fun n _ => Sp.lists_cut hm sy n
theorem Sp.valuesOf_cut {m : Nat} (hm : 1 ≤ m) (kind : Int) (sy : List Tm) (size : Int) : Sp.valuesOf (some m) kind sy size = (Sp.valuesOf none kind sy size).take m := by
  unfold Sp.valuesOf
  split
  · exact Sp.upTo_cut hm sy size
  · simp only [Sp.cutN]
    rw [take_app]
    conv => rhs; rw [take_app]
    congr 2
    split
    · rw [Sp.upTo_cut hm, ← List.map_take, ← List.map_take, List.take_take, Nat.min_self]
    · rfl
theorem Sp.prod_cut {m : Nat} (hm : 1 ≤ m) (sy : List Tm) (size : Int) : ∀ vars, Sp.prod (some m) sy size vars = (Sp.prod none sy size vars).take m
  | [] => by rw [Sp.prod, Sp.prod, List.take_of_length_le (by simpa using hm)]
  | x :: r => by
    rw [Sp.prod, Sp.prod]
    simp only [Sp.cutN]
    rw [Sp.valuesOf_cut hm, Sp.prod_cut hm sy size r]
    exact take_prod (fun v l => Bnd.mk x v :: l) _ _
theorem Sp.valsP_eq {x : ByteArray} {sy : List Tm} {size : Int} (hx : Sp.isVarN x = true) (hs : 0 ≤ size) : Sp.valsP x sy size = Sp.valuesOf none (Sp.vari x).1.kind sy size := by
  unfold Sp.isVarN at hx
  unfold Sp.vari at hx ⊢
  split at hx
  · rename_i h1
    rw [if_pos h1]
    split at hx
    · rename_i h2
      rw [if_pos h2]
      simp only [Tm.kind, Sp.valsP, Sp.valuesOf, Sp.cutN, h2]
      simp
    · rename_i h2
      rw [if_neg h2]
      split at hx
      · rename_i h3
        rw [if_pos h3]
        simp only [Tm.kind, Sp.valsP, Sp.valuesOf, Sp.cutN, h3]
        by_cases h0 : 0 < size
        · simp [h0]
        · have : size = 0 := by omega
          subst this
          simp [Sp.upTo, Sp.cutN]
      · rename_i h3
        rw [if_neg h3]
        split at hx
        · rename_i h4
          rw [if_pos h4]
          simp only [Tm.kind, Sp.valsP, Sp.valuesOf, Sp.cutN, h4]
          simp
        · cases hx
  · cases hx
theorem Sp.asg_prod {sy : List Tm} {size : Int} (hs : 0 ≤ size) : ∀ (vars : List ByteArray) (ahead : List Bnd), (∀ x ∈ vars, Sp.isVarN x = true) → Sp.asg sy size vars ahead = (Sp.prod none sy size vars).map (ahead ++ ·)
  | [], ahead, _ => by simp [Sp.asg, Sp.prod]
  | x :: r, ahead, h => by
    rw [Sp.asg, Sp.prod, Sp.valsP_eq (h x (by simp)) hs]
    simp only [Sp.cutN]
    rw [List.map_flatMap]
    refine flat_congr fun v _ => ?_
    rw [Sp.asg_prod hs r _ fun y hy => h y (by simp [hy]), List.map_map]
    refine List.map_congr_left fun l _ => ?_
    simp
/-- Both return the same. -/
theorem Sp.values_eq (vars : List ByteArray) (sy : List Tm) (size most : Int) : Sp.valuesI vars sy size most = Sp.valuesR vars sy size most := by
  unfold Sp.valuesI Sp.valuesR
  by_cases h : Sp.permit vars sy size most = 0
  · obtain ⟨a1, a2, a3, a4, a5, a6, a7, a8, a9⟩ := Sp.permit_ok h
    have h' : ¬ Sp.permit vars sy size most ≠ 0 := fun hn => hn h
    rw [if_neg h', if_neg h']
    have key : (if vars.any (fun x => (Sp.valsP x sy size).isEmpty) = true then (([] : List (List Bnd)), (0 : Int)) else ((Sp.asg sy size vars []).take most.toNat, 0)) = ((Sp.asg sy size vars []).take most.toNat, 0) := by
      split
      · rename_i hv; rw [Sp.asg_none hv]; simp
      · rfl
    rw [key]
    split
    · rename_i hm; rw [show most.toNat = 0 by omega]; rfl
    · rw [Sp.prod_cut (by omega), Sp.asg_prod a1 _ _ a7]
      simp
  · rw [if_pos h, if_pos h]
theorem Sp.sameBs_refl : ∀ l : List Bnd, Sp.sameBs l l = true
  | [] => rfl
  | x :: l => by simp [Sp.sameBs, Sp.cmpL_refl, Sp.sameBs_refl l]
theorem l35_EqualValues.l0_ok (vars : List ByteArray) : l35_EqualValues.l0 vars := by
  rintro l i ⟨rfl, h1, h2⟩
  refine fun hl => ifD (fun h => ⟨⟨h1, h⟩, fun hs => ?_⟩) fun h => ?_
  · rw [nth_drop (d := (⟨#[]⟩ : ByteArray)) (l := l) (i := i) (by omega), List.all_cons, show (i + 1).toNat = i.toNat + 1 by omega]
    refine ifD (fun h3 => fun b hb => ?_) fun h3 => ⟨inR64 (by omega), ⟨rfl, by omega, by omega⟩, by omega, ?_⟩
    · rw [decide_eq_false (by omega), ← hb]; exact if_neg (by simp)
    · rw [decide_eq_true (by omega), Bool.true_and]
  · rw [List.drop_eq_nil_of_le (by omega), if_pos (by rfl)]; congr 1; omega
theorem l35_EqualValues.l2_ok : l35_EqualValues.l2 := by
  rintro x y i ⟨rfl, h1, h2⟩
  refine fun hl => ifD (fun h => ⟨⟨h1, h⟩, ⟨h1, h⟩, fun b hb => ?_⟩) fun h => ?_
  · rw [Sp.sameBs_refl] at hb
    subst hb
    exact ⟨inR64 (by omega), ⟨rfl, by omega, by omega⟩, by omega, rfl⟩
  · congr 1; omega
theorem l35_EqualValues.main (vars : List ByteArray) (sy : List Tm) (size most : Int) (ha : Sp.okL sy) : l35_EqualValues.t vars sy size most := by
  refine fun hl => ⟨fun _ => ⟨by omega, by omega⟩, ifB_of (fun _ => fun b hb => hb) fun _ => ⟨⟨rfl, by omega, by omega⟩, l35_EqualValues.l0_ok vars, fun i _ => ⟨ha, fun l i1 h1 => ⟨ha, fun l1 i2 h2 => ?_⟩⟩, fun b hb => ?_⟩⟩
  · rw [Sp.values_eq, h2] at h1
    simp only [Prod.mk.injEq] at h1
    obtain ⟨rfl, rfl⟩ := h1
    refine ifB_of (fun h => ?_) fun _ => ⟨⟨rfl, by omega, by omega⟩, l35_EqualValues.l2_ok, fun i3 _ b hb => hb, fun b hb => by cases hb⟩
    simp at h
  · have := (ite_ret hb).2
    exact this
theorem l35_EqualValues.ok (W : World) : CtrOK Go.Proofs.Try.prog W 4 l35_EqualValues.C := by
  refine funOK (Γ := lookC [(7, l09_Small.C), (23, l35_awake.C), (24, equal_Values.C), (25, r35_Values.C), (26, l35_sameBinds.C)]) (lookC_ok (fun p hp => by
    simp only [List.mem_cons, List.not_mem_nil, or_false] at hp
    rcases hp with rfl | rfl | rfl | rfl | rfl
    · exact l09_Small.ok W
    · exact l35_awake.ok W
    · exact equal_Values.ok W
    · exact r35_Values.ok W
    · exact l35_sameBinds.ok W)) (Λ := fun a_ => match a_ with | (vars, sy, size, most) => (l35_EqualValues.Λ vars sy size most)) (Λr := fun a_ => match a_ with | (vars, sy, size, most) => (fun _ => none)) ?_
  intro a ha
  obtain ⟨vars, sy, size, most⟩ := a
  refine Eq.mpr ?_ (@l35_EqualValues.main vars sy size most ha)
  kernel_rfl
end Go.AL
