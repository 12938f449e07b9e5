/- Functions of the program: what they return, and that they do. -/
import Derived.Test.YtiolpppbnbboiaaGroupJ
import Derived.Test.YtiolpppbnbboiaaProg
import Derived.KernelRfl
import Derived.Test.YtiolpppbnbboiaaEvalC

namespace Go.AL
set_option linter.unusedVariables false
end Go.AL
namespace Sp
open Go.AL
def cmdsFew (cs : List Cmd) : Bool := cs.all fun c => !(decide (100 < (c.label.size : Int)) || !small [c.sym] 10)
def blkFew (b : Blk) : Bool := !decide (100 < (b.label.size : Int)) && cmdsFew b.cmds
def cntB : List Blk → Int
  | [] => 0
  | b :: l => 1 + b.cmds.length + cntB l
def few (l : List Blk) (most : Int) : Bool := l.all blkFew && decide (cntB l ≤ most)
end Sp
namespace Go.AL

def l32_given.L0 : LD := { cs := [0], cts := [.lst (.nm 2)], pts := [], vs := [3, 4], os := [], vts := [.lst (.nm 2), .int .i64], own := [true, false], ro := [0, 2], nx := 100 }
def l32_given.L2 : LD := { cs := [0, 4], cts := [.lst (.nm 2), .int .i64], pts := [(5, (.loc 102 0))], vs := [6], os := [(102, .plain, [none, none])], vts := [.int .i64, .str, .lst (.nm 1)], own := [false, false, true], ro := [0, 3, 4, 8, 9, 10, 11, 14, 15, 16, 17, 18, 19, 5, 2], nx := 200 }
def l32_given.Λ (l : (List Blk)) : Nat → Option (Loop (ElT [.lst (.nm 2)])) := fun id =>
  if id = 0 then some (mkLoop l32_given.L0
    (fun (c_ : (List Blk)) (s_ : (List Blk) × Int) => match c_, s_ with | c_l, (out, i) => c_l = l ∧ 0 ≤ i ∧ i ≤ l.length ∧ out = l.take i.toNat)
    (fun (c_ : (List Blk)) (s_ : (List Blk) × Int) => match c_, s_ with | c_l, (out, i) => (l.length - i : Int).toNat)
    (fun (c_ : (List Blk)) (s_ : (List Blk) × Int) => match c_, s_ with | c_l, (out, i) => .brk (l, (l.length : Int))) [] false) else
  if id = 2 then some (mkLoop l32_given.L2
    (fun (c_ : (List Blk) × Int) (s_ : Int × ByteArray × (List Cmd)) => match c_, s_ with | (c_l, i), (k, lab, cs) => c_l = l ∧ 0 ≤ i ∧ i < l.length ∧ 0 ≤ k ∧ k ≤ (nth default l i).cmds.length ∧ lab = (nth default l i).label ∧ cs = (nth default l i).cmds.take k.toNat)
    (fun (c_ : (List Blk) × Int) (s_ : Int × ByteArray × (List Cmd)) => match c_, s_ with | (c_l, i), (k, lab, cs) => ((nth default l i).cmds.length - k : Int).toNat)
    (fun (c_ : (List Blk) × Int) (s_ : Int × ByteArray × (List Cmd)) => match c_, s_ with | (c_l, i), (k, lab, cs) => .brk (((nth default l i).cmds.length : Int), (nth default l i).label, (nth default l i).cmds)) [] false) else
  none
def l32_given.C : Ctr := pureCtr [.lst (.nm 2)] [.lst (.nm 2)] (some (fun (l : (List Blk)) => (∀ b ∈ l, b.cmds.length ≤ 1000) ∧ l.length ≤ 1000)) (fun (l : (List Blk)) => (l))
def l32_few.L0 : LD := { cs := [0], cts := [.lst (.nm 2)], pts := [], vs := [5, 6], os := [], vts := [.int .i64, .int .i64], own := [false, false], ro := [0, 1], nx := 100 }
def l32_few.L2 : LD := { cs := [0, 6], cts := [.lst (.nm 2), .int .i64], pts := [], vs := [7], os := [], vts := [.int .i64], own := [false], ro := [0, 5, 6, 9, 10, 11, 12, 15, 16, 17, 18, 19, 20, 21, 22, 23, 24, 25, 26, 27, 28, 29, 30, 1], nx := 200 }
def l32_few.Λ (l : (List Blk)) (most : Int) : Nat → Option (Loop (ElT [.bool])) := fun id =>
  if id = 0 then some (mkLoop l32_few.L0
    (fun (c_ : (List Blk)) (s_ : Int × Int) => match c_, s_ with | c_l, (n, i) => c_l = l ∧ 0 ≤ i ∧ i ≤ l.length ∧ 0 ≤ n ∧ n + Sp.cntB (l.drop i.toNat) ≤ Sp.cntB l)
    (fun (c_ : (List Blk)) (s_ : Int × Int) => match c_, s_ with | c_l, (n, i) => (l.length - i : Int).toNat)
    (fun (c_ : (List Blk)) (s_ : Int × Int) => match c_, s_ with | c_l, (n, i) => if (l.drop i.toNat).all Sp.blkFew = true then .brk (n + Sp.cntB (l.drop i.toNat), (l.length : Int)) else .ret false) [] true) else
  if id = 2 then some (mkLoop l32_few.L2
    (fun (c_ : (List Blk) × Int) (s_ : Int) => match c_, s_ with | (c_l, i), k => c_l = l ∧ 0 ≤ i ∧ i < l.length ∧ 0 ≤ k ∧ k ≤ (nth default l i).cmds.length)
    (fun (c_ : (List Blk) × Int) (s_ : Int) => match c_, s_ with | (c_l, i), k => ((nth default l i).cmds.length - k : Int).toNat)
    (fun (c_ : (List Blk) × Int) (s_ : Int) => match c_, s_ with | (c_l, i), k => if Sp.cmdsFew ((nth default l i).cmds.drop k.toNat) = true then .brk ((nth default l i).cmds.length : Int) else .ret false) [] true) else
  none
def l32_few.C : Ctr := pureCtr [.lst (.nm 2), .int .i64] [.bool] (some (fun (a_ : (List Blk) × Int) => match a_ with | (l, most) => Sp.cntB l ≤ 4000000)) (fun (a_ : (List Blk) × Int) => match a_ with | (l, most) => (Sp.few l most))
def l32_awake.C : Ctr := pureCtr [] [.bool] none (fun (_ : Unit) => (true))
def l32_SpecialRuns.C : Ctr := pureCtr [.lst (.nm 2), .lst (.nm 0), .int .i64] [.bool] (some (fun (a_ : (List Blk) × (List Tm) × Int) => match a_ with | (l, input, fuel) => Sp.cntB l ≤ 4000000 ∧ (∀ b ∈ l, ∀ c ∈ b.cmds, Sp.okL [c.sym]) ∧ Sp.okL input)) (fun (a_ : (List Blk) × (List Tm) × Int) => match a_ with | (l, input, fuel) => (true))
end Go.AL

namespace Go.AL
set_option linter.unusedVariables false
set_option maxRecDepth 10000
def l32_given.l2 (l : (List Blk)) : Prop :=
  (∀ l3 : (List Blk), (∀ i1 : Int, (∀ i2 : Int, (∀ s : ByteArray, (∀ l4 : (List Cmd), (((l3 = l) ∧ ((0 ≤ i1) ∧ ((i1 < (↑(List.length l) : Int)) ∧ ((0 ≤ i2) ∧ ((i2 ≤ (↑(List.length (Blk.cmds (nth (Inhabited.default) l i1))) : Int)) ∧ ((s = (Blk.label (nth (Inhabited.default) l i1))) ∧ (l4 = (List.take (Int.toNat i2) (Blk.cmds (nth (Inhabited.default) l i1)))))))))) → (((0 ≤ i1) ∧ (i1 < (↑(List.length l3) : Int))) ∧ (((List.length (Blk.cmds (nth (Inhabited.default) l3 i1))) < 9223372036854775808) → (ifB (decide (i2 < (↑(List.length (Blk.cmds (nth (Inhabited.default) l3 i1))) : Int))) (((0 ≤ i1) ∧ (i1 < (↑(List.length l3) : Int))) ∧ (((0 ≤ i2) ∧ (i2 < (↑(List.length (Blk.cmds (nth (Inhabited.default) l3 i1))) : Int))) ∧ ((((List.length l4) + (List.length ((Cmd.mk (Cmd.kind (nth (Inhabited.default) (Blk.cmds (nth (Inhabited.default) l3 i1)) i2)) (Tm.mk (Tm.kind (Cmd.sym (nth (Inhabited.default) (Blk.cmds (nth (Inhabited.default) l3 i1)) i2))) (Tm.text (Cmd.sym (nth (Inhabited.default) (Blk.cmds (nth (Inhabited.default) l3 i1)) i2))) (Tm.kids (Cmd.sym (nth (Inhabited.default) (Blk.cmds (nth (Inhabited.default) l3 i1)) i2)))) (Cmd.label (nth (Inhabited.default) (Blk.cmds (nth (Inhabited.default) l3 i1)) i2))) :: ([] : (List Cmd))))) ≤ 8589934592) ∧ ((inR Go.IntKind.i64 (i2 + 1)) ∧ (((l3 = l) ∧ ((0 ≤ i1) ∧ ((i1 < (↑(List.length l) : Int)) ∧ ((0 ≤ (i2 + 1)) ∧ (((i2 + 1) ≤ (↑(List.length (Blk.cmds (nth (Inhabited.default) l i1))) : Int)) ∧ ((s = (Blk.label (nth (Inhabited.default) l i1))) ∧ ((l4 ++ ((Cmd.mk (Cmd.kind (nth (Inhabited.default) (Blk.cmds (nth (Inhabited.default) l3 i1)) i2)) (Tm.mk (Tm.kind (Cmd.sym (nth (Inhabited.default) (Blk.cmds (nth (Inhabited.default) l3 i1)) i2))) (Tm.text (Cmd.sym (nth (Inhabited.default) (Blk.cmds (nth (Inhabited.default) l3 i1)) i2))) (Tm.kids (Cmd.sym (nth (Inhabited.default) (Blk.cmds (nth (Inhabited.default) l3 i1)) i2)))) (Cmd.label (nth (Inhabited.default) (Blk.cmds (nth (Inhabited.default) l3 i1)) i2))) :: ([] : (List Cmd)))) = (List.take (Int.toNat (i2 + 1)) (Blk.cmds (nth (Inhabited.default) l i1)))))))))) ∧ (((Int.toNat ((↑(List.length (Blk.cmds (nth (Inhabited.default) l i1))) : Int) - (i2 + 1))) < (Int.toNat ((↑(List.length (Blk.cmds (nth (Inhabited.default) l i1))) : Int) - i2))) ∧ (((LOut.brk ((↑(List.length (Blk.cmds (nth (Inhabited.default) l i1))) : Int), ((Blk.label (nth (Inhabited.default) l i1)), (Blk.cmds (nth (Inhabited.default) l i1))))) : (LOut (Int × (ByteArray × (List Cmd))) (List Blk))) = (LOut.brk ((↑(List.length (Blk.cmds (nth (Inhabited.default) l i1))) : Int), ((Blk.label (nth (Inhabited.default) l i1)), (Blk.cmds (nth (Inhabited.default) l i1)))))))))))) (((LOut.brk ((↑(List.length (Blk.cmds (nth (Inhabited.default) l i1))) : Int), ((Blk.label (nth (Inhabited.default) l i1)), (Blk.cmds (nth (Inhabited.default) l i1))))) : (LOut (Int × (ByteArray × (List Cmd))) (List Blk))) = (LOut.brk (i2, (s, l4)))))))))))))
def l32_given.l0 (l : (List Blk)) : Prop :=
  (∀ l1 : (List Blk), (∀ l2 : (List Blk), (∀ i : Int, (((l1 = l) ∧ ((0 ≤ i) ∧ ((i ≤ (↑(List.length l) : Int)) ∧ (l2 = (List.take (Int.toNat i) l))))) → (((List.length l1) < 9223372036854775808) → (ifB (decide (i < (↑(List.length l1) : Int))) (((0 ≤ i) ∧ (i < (↑(List.length l1) : Int))) ∧ (((l1 = l) ∧ ((0 ≤ i) ∧ ((i < (↑(List.length l) : Int)) ∧ (((0 : Int) ≤ 0) ∧ ((0 ≤ (↑(List.length (Blk.cmds (nth (Inhabited.default) l i))) : Int)) ∧ (((Blk.label (nth (Inhabited.default) l1 i)) = (Blk.label (nth (Inhabited.default) l i))) ∧ (([] : (List Cmd)) = (List.take (Int.toNat 0) (Blk.cmds (nth (Inhabited.default) l i)))))))))) ∧ ((l32_given.l2 l) ∧ (∀ i1 : Int, (∀ s : ByteArray, (∀ l3 : (List Cmd), ((((LOut.brk ((↑(List.length (Blk.cmds (nth (Inhabited.default) l i))) : Int), ((Blk.label (nth (Inhabited.default) l i)), (Blk.cmds (nth (Inhabited.default) l i))))) : (LOut (Int × (ByteArray × (List Cmd))) (List Blk))) = (LOut.brk (i1, (s, l3)))) → ((((List.length l2) + (List.length ((Blk.mk s l3) :: ([] : (List Blk))))) ≤ 8589934592) ∧ ((inR Go.IntKind.i64 (i + 1)) ∧ (((l1 = l) ∧ ((0 ≤ (i + 1)) ∧ (((i + 1) ≤ (↑(List.length l) : Int)) ∧ ((l2 ++ ((Blk.mk s l3) :: ([] : (List Blk)))) = (List.take (Int.toNat (i + 1)) l))))) ∧ (((Int.toNat ((↑(List.length l) : Int) - (i + 1))) < (Int.toNat ((↑(List.length l) : Int) - i))) ∧ (((LOut.brk (l, (↑(List.length l) : Int))) : (LOut ((List Blk) × Int) (List Blk))) = (LOut.brk (l, (↑(List.length l) : Int))))))))))))))) (((LOut.brk (l, (↑(List.length l) : Int))) : (LOut ((List Blk) × Int) (List Blk))) = (LOut.brk (l2, i)))))))))
def l32_given.t (l : (List Blk)) : Prop :=
  (((l = l) ∧ (((0 : Int) ≤ 0) ∧ ((0 ≤ (↑(List.length l) : Int)) ∧ (([] : (List Blk)) = (List.take (Int.toNat 0) l))))) ∧ ((l32_given.l0 l) ∧ (∀ l1 : (List Blk), (∀ i : Int, ((((LOut.brk (l, (↑(List.length l) : Int))) : (LOut ((List Blk) × Int) (List Blk))) = (LOut.brk (l1, i))) → (l = l1))))))
theorem l32_given.w (l : (List Blk)) : wpF Go.Proofs.Try.prog (lookC []) 11 [.lst (.nm 2)] [.lst (.nm 2)] (l32_given.Λ l) (fun _ => none) l (fun r => (l) = r) = l32_given.t l := by kernel_rfl
def l32_few.l2 (l : (List Blk)) : Prop :=
  (∀ l2 : (List Blk), (∀ i2 : Int, (∀ i3 : Int, (((l2 = l) ∧ ((0 ≤ i2) ∧ ((i2 < (↑(List.length l) : Int)) ∧ ((0 ≤ i3) ∧ (i3 ≤ (↑(List.length (Blk.cmds (nth (Inhabited.default) l i2))) : Int)))))) → (((0 ≤ i2) ∧ (i2 < (↑(List.length l2) : Int))) ∧ (((List.length (Blk.cmds (nth (Inhabited.default) l2 i2))) < 9223372036854775808) → (ifB (decide (i3 < (↑(List.length (Blk.cmds (nth (Inhabited.default) l2 i2))) : Int))) (((0 ≤ i2) ∧ (i2 < (↑(List.length l2) : Int))) ∧ (((0 ≤ i3) ∧ (i3 < (↑(List.length (Blk.cmds (nth (Inhabited.default) l2 i2))) : Int))) ∧ (((ByteArray.size (Cmd.label (nth (Inhabited.default) (Blk.cmds (nth (Inhabited.default) l2 i2)) i3))) < 9223372036854775808) → ((((decide (100 < (↑(ByteArray.size (Cmd.label (nth (Inhabited.default) (Blk.cmds (nth (Inhabited.default) l2 i2)) i3))) : Int))) = Bool.false) → ((((-1) : Int) ≤ 10) ∧ ((10 : Int) ≤ 1000000))) ∧ (ifB ((decide (100 < (↑(ByteArray.size (Cmd.label (nth (Inhabited.default) (Blk.cmds (nth (Inhabited.default) l2 i2)) i3))) : Int))) || (!(Sp.small ((Tm.mk (Tm.kind (Cmd.sym (nth (Inhabited.default) (Blk.cmds (nth (Inhabited.default) l2 i2)) i3))) (Tm.text (Cmd.sym (nth (Inhabited.default) (Blk.cmds (nth (Inhabited.default) l2 i2)) i3))) (Tm.kids (Cmd.sym (nth (Inhabited.default) (Blk.cmds (nth (Inhabited.default) l2 i2)) i3)))) :: ([] : (List Tm))) 10))) (((ite ((Sp.cmdsFew (List.drop (Int.toNat i3) (Blk.cmds (nth (Inhabited.default) l i2)))) = Bool.true) (LOut.brk (↑(List.length (Blk.cmds (nth (Inhabited.default) l i2))) : Int)) (LOut.ret Bool.false)) : (LOut Int Bool)) = (LOut.ret Bool.false)) ((inR Go.IntKind.i64 (i3 + 1)) ∧ (((l2 = l) ∧ ((0 ≤ i2) ∧ ((i2 < (↑(List.length l) : Int)) ∧ ((0 ≤ (i3 + 1)) ∧ ((i3 + 1) ≤ (↑(List.length (Blk.cmds (nth (Inhabited.default) l i2))) : Int)))))) ∧ (((Int.toNat ((↑(List.length (Blk.cmds (nth (Inhabited.default) l i2))) : Int) - (i3 + 1))) < (Int.toNat ((↑(List.length (Blk.cmds (nth (Inhabited.default) l i2))) : Int) - i3))) ∧ (((ite ((Sp.cmdsFew (List.drop (Int.toNat (i3 + 1)) (Blk.cmds (nth (Inhabited.default) l i2)))) = Bool.true) (LOut.brk (↑(List.length (Blk.cmds (nth (Inhabited.default) l i2))) : Int)) (LOut.ret Bool.false)) : (LOut Int Bool)) = (ite ((Sp.cmdsFew (List.drop (Int.toNat i3) (Blk.cmds (nth (Inhabited.default) l i2)))) = Bool.true) (LOut.brk (↑(List.length (Blk.cmds (nth (Inhabited.default) l i2))) : Int)) (LOut.ret Bool.false))))))))))) (((ite ((Sp.cmdsFew (List.drop (Int.toNat i3) (Blk.cmds (nth (Inhabited.default) l i2)))) = Bool.true) (LOut.brk (↑(List.length (Blk.cmds (nth (Inhabited.default) l i2))) : Int)) (LOut.ret Bool.false)) : (LOut Int Bool)) = (LOut.brk i3)))))))))
def l32_few.l0 (l : (List Blk)) : Prop :=
  (∀ l1 : (List Blk), (∀ i : Int, (∀ i1 : Int, (((l1 = l) ∧ ((0 ≤ i1) ∧ ((i1 ≤ (↑(List.length l) : Int)) ∧ ((0 ≤ i) ∧ ((i + (Sp.cntB (List.drop (Int.toNat i1) l))) ≤ (Sp.cntB l)))))) → (((List.length l1) < 9223372036854775808) → (ifB (decide (i1 < (↑(List.length l1) : Int))) (((0 ≤ i1) ∧ (i1 < (↑(List.length l1) : Int))) ∧ (((List.length (Blk.cmds (nth (Inhabited.default) l1 i1))) < 9223372036854775808) → ((inR Go.IntKind.i64 (1 + (↑(List.length (Blk.cmds (nth (Inhabited.default) l1 i1))) : Int))) ∧ ((inR Go.IntKind.i64 (i + (1 + (↑(List.length (Blk.cmds (nth (Inhabited.default) l1 i1))) : Int)))) ∧ (((0 ≤ i1) ∧ (i1 < (↑(List.length l1) : Int))) ∧ (((ByteArray.size (Blk.label (nth (Inhabited.default) l1 i1))) < 9223372036854775808) → (ifB (decide (100 < (↑(ByteArray.size (Blk.label (nth (Inhabited.default) l1 i1))) : Int))) (((ite ((List.all (List.drop (Int.toNat i1) l) Sp.blkFew) = Bool.true) (LOut.brk ((i + (Sp.cntB (List.drop (Int.toNat i1) l))), (↑(List.length l) : Int))) (LOut.ret Bool.false)) : (LOut (Int × Int) Bool)) = (LOut.ret Bool.false)) (((l1 = l) ∧ ((0 ≤ i1) ∧ ((i1 < (↑(List.length l) : Int)) ∧ (((0 : Int) ≤ 0) ∧ (0 ≤ (↑(List.length (Blk.cmds (nth (Inhabited.default) l i1))) : Int)))))) ∧ ((l32_few.l2 l) ∧ ((∀ i2 : Int, ((((ite ((Sp.cmdsFew (List.drop (Int.toNat 0) (Blk.cmds (nth (Inhabited.default) l i1)))) = Bool.true) (LOut.brk (↑(List.length (Blk.cmds (nth (Inhabited.default) l i1))) : Int)) (LOut.ret Bool.false)) : (LOut Int Bool)) = (LOut.brk i2)) → ((inR Go.IntKind.i64 (i1 + 1)) ∧ (((l1 = l) ∧ ((0 ≤ (i1 + 1)) ∧ (((i1 + 1) ≤ (↑(List.length l) : Int)) ∧ ((0 ≤ (i + (1 + (↑(List.length (Blk.cmds (nth (Inhabited.default) l1 i1))) : Int)))) ∧ (((i + (1 + (↑(List.length (Blk.cmds (nth (Inhabited.default) l1 i1))) : Int))) + (Sp.cntB (List.drop (Int.toNat (i1 + 1)) l))) ≤ (Sp.cntB l)))))) ∧ (((Int.toNat ((↑(List.length l) : Int) - (i1 + 1))) < (Int.toNat ((↑(List.length l) : Int) - i1))) ∧ (((ite ((List.all (List.drop (Int.toNat (i1 + 1)) l) Sp.blkFew) = Bool.true) (LOut.brk (((i + (1 + (↑(List.length (Blk.cmds (nth (Inhabited.default) l1 i1))) : Int))) + (Sp.cntB (List.drop (Int.toNat (i1 + 1)) l))), (↑(List.length l) : Int))) (LOut.ret Bool.false)) : (LOut (Int × Int) Bool)) = (ite ((List.all (List.drop (Int.toNat i1) l) Sp.blkFew) = Bool.true) (LOut.brk ((i + (Sp.cntB (List.drop (Int.toNat i1) l))), (↑(List.length l) : Int))) (LOut.ret Bool.false)))))))) ∧ (∀ b : Bool, ((((ite ((Sp.cmdsFew (List.drop (Int.toNat 0) (Blk.cmds (nth (Inhabited.default) l i1)))) = Bool.true) (LOut.brk (↑(List.length (Blk.cmds (nth (Inhabited.default) l i1))) : Int)) (LOut.ret Bool.false)) : (LOut Int Bool)) = (LOut.ret b)) → (((ite ((List.all (List.drop (Int.toNat i1) l) Sp.blkFew) = Bool.true) (LOut.brk ((i + (Sp.cntB (List.drop (Int.toNat i1) l))), (↑(List.length l) : Int))) (LOut.ret Bool.false)) : (LOut (Int × Int) Bool)) = (LOut.ret b)))))))))))))) (((ite ((List.all (List.drop (Int.toNat i1) l) Sp.blkFew) = Bool.true) (LOut.brk ((i + (Sp.cntB (List.drop (Int.toNat i1) l))), (↑(List.length l) : Int))) (LOut.ret Bool.false)) : (LOut (Int × Int) Bool)) = (LOut.brk (i, i1)))))))))
def l32_few.t (l : (List Blk)) (most : Int) : Prop :=
  (((l = l) ∧ (((0 : Int) ≤ 0) ∧ ((0 ≤ (↑(List.length l) : Int)) ∧ (((0 : Int) ≤ 0) ∧ ((0 + (Sp.cntB (List.drop (Int.toNat 0) l))) ≤ (Sp.cntB l)))))) ∧ ((l32_few.l0 l) ∧ ((∀ i : Int, (∀ i1 : Int, ((((ite ((List.all (List.drop (Int.toNat 0) l) Sp.blkFew) = Bool.true) (LOut.brk ((0 + (Sp.cntB (List.drop (Int.toNat 0) l))), (↑(List.length l) : Int))) (LOut.ret Bool.false)) : (LOut (Int × Int) Bool)) = (LOut.brk (i, i1))) → ((Sp.few l most) = (decide (i ≤ most)))))) ∧ (∀ b : Bool, ((((ite ((List.all (List.drop (Int.toNat 0) l) Sp.blkFew) = Bool.true) (LOut.brk ((0 + (Sp.cntB (List.drop (Int.toNat 0) l))), (↑(List.length l) : Int))) (LOut.ret Bool.false)) : (LOut (Int × Int) Bool)) = (LOut.ret b)) → ((Sp.few l most) = b))))))
theorem l32_few.w (l : (List Blk)) (most : Int) : wpF Go.Proofs.Try.prog (lookC [(7, l09_Small.C)]) 6 [.lst (.nm 2), .int .i64] [.bool] (l32_few.Λ l most) (fun _ => none) (l, most) (fun r => (Sp.few l most) = r) = l32_few.t l most := by kernel_rfl
def l32_awake.t : Prop :=
  (((∀ x : Blk, ((Membership.mem ((Blk.mk (⟨#[76]⟩ : ByteArray) ((Cmd.mk 2 (Tm.mk 0 (⟨#[]⟩ : ByteArray) ([] : (List Tm))) (⟨#[77]⟩ : ByteArray)) :: ((Cmd.mk 1 (Tm.mk 2 (⟨#[65]⟩ : ByteArray) ([] : (List Tm))) (⟨#[]⟩ : ByteArray)) :: ((Cmd.mk 4 (Tm.mk 0 (⟨#[]⟩ : ByteArray) ([] : (List Tm))) (⟨#[76]⟩ : ByteArray)) :: ([] : (List Cmd)))))) :: ((Blk.mk (⟨#[77]⟩ : ByteArray) ((Cmd.mk 5 (Tm.mk 0 (⟨#[]⟩ : ByteArray) ([] : (List Tm))) (⟨#[]⟩ : ByteArray)) :: ([] : (List Cmd)))) :: ([] : (List Blk)))) x) → (∀ x1 : Cmd, ((Membership.mem (Blk.cmds x) x1) → (Sp.okL ((Cmd.sym x1) :: ([] : (List Tm)))))))) ∧ (Sp.okL ((Tm.mk 2 (⟨#[65]⟩ : ByteArray) ([] : (List Tm))) :: ((Tm.mk 2 (⟨#[65]⟩ : ByteArray) ([] : (List Tm))) :: ([] : (List Tm)))))) ∧ (∀ l : (List Tm), (∀ i : Int, (∀ i1 : Int, (((Sp.refRun ((Blk.mk (⟨#[76]⟩ : ByteArray) ((Cmd.mk 2 (Tm.mk 0 (⟨#[]⟩ : ByteArray) ([] : (List Tm))) (⟨#[77]⟩ : ByteArray)) :: ((Cmd.mk 1 (Tm.mk 2 (⟨#[65]⟩ : ByteArray) ([] : (List Tm))) (⟨#[]⟩ : ByteArray)) :: ((Cmd.mk 4 (Tm.mk 0 (⟨#[]⟩ : ByteArray) ([] : (List Tm))) (⟨#[76]⟩ : ByteArray)) :: ([] : (List Cmd)))))) :: ((Blk.mk (⟨#[77]⟩ : ByteArray) ((Cmd.mk 5 (Tm.mk 0 (⟨#[]⟩ : ByteArray) ([] : (List Tm))) (⟨#[]⟩ : ByteArray)) :: ([] : (List Cmd)))) :: ([] : (List Blk)))) ((Tm.mk 2 (⟨#[65]⟩ : ByteArray) ([] : (List Tm))) :: ((Tm.mk 2 (⟨#[65]⟩ : ByteArray) ([] : (List Tm))) :: ([] : (List Tm)))) 20) = (l, (i, i1))) → (Bool.true = (((decide (i1 = 0)) && (decide (i = 8))) && (decide ((Sp.cmpL l ((Tm.mk 2 (⟨#[65]⟩ : ByteArray) ([] : (List Tm))) :: ((Tm.mk 2 (⟨#[65]⟩ : ByteArray) ([] : (List Tm))) :: ([] : (List Tm))))) = 0)))))))))
theorem l32_awake.w  : wpF Go.Proofs.Try.prog (lookC [(12, special_Run.C), (14, r01_Equal.C)]) 8 [] [.bool] (fun _ => none) (fun _ => none) () (fun r => (true) = r) = l32_awake.t  := by kernel_rfl
def l32_SpecialRuns.t (l : (List Blk)) (input : (List Tm)) (fuel : Int) : Prop :=
  (((Sp.cntB l) ≤ 4000000) ∧ (∀ b : Bool, (((Sp.few l 60) = b) → ((((!b) = Bool.false) → ((((-1) : Int) ≤ 60) ∧ ((60 : Int) ≤ 1000000))) ∧ (ifB (((!b) || (!(Sp.small input 60))) || ((decide (500 < fuel)) && (decide (fuel ≤ 100000)))) (∀ b1 : Bool, ((Bool.true = b1) → (Bool.true = (b1 && (decide (Sp.srcT = Sp.srcT)))))) (((∀ x : Blk, ((Membership.mem l x) → ((List.length (Blk.cmds x)) ≤ 1000))) ∧ ((List.length l) ≤ 1000)) ∧ (∀ l1 : (List Blk), ((l = l1) → (((∀ x : Blk, ((Membership.mem l1 x) → (∀ x1 : Cmd, ((Membership.mem (Blk.cmds x) x1) → (Sp.okL ((Cmd.sym x1) :: ([] : (List Tm)))))))) ∧ (Sp.okL input)) ∧ (∀ l2 : (List Tm), (∀ i : Int, (∀ i1 : Int, (((Sp.refRun l1 input fuel) = (l2, (i, i1))) → (((∀ x : Blk, ((Membership.mem l x) → (∀ x1 : Cmd, ((Membership.mem (Blk.cmds x) x1) → (Sp.okL ((Cmd.sym x1) :: ([] : (List Tm)))))))) ∧ (Sp.okL input)) ∧ (∀ l3 : (List Tm), (∀ i2 : Int, (∀ i3 : Int, (((Sp.refRun l input fuel) = (l3, (i2, i3))) → ((((((!(decide (i1 = i3))) || (!(decide (i = i2)))) || (!(decide ((Sp.cmpL l2 l3) = 0)))) = Bool.false) → (∀ x : Blk, ((Membership.mem l1 x) → (∀ x1 : Cmd, ((Membership.mem (Blk.cmds x) x1) → (Sp.okL ((Cmd.sym x1) :: ([] : (List Tm))))))))) ∧ ((((((!(decide (i1 = i3))) || (!(decide (i = i2)))) || (!(decide ((Sp.cmpL l2 l3) = 0)))) = Bool.false) → (∀ x : Blk, ((Membership.mem l x) → (∀ x1 : Cmd, ((Membership.mem (Blk.cmds x) x1) → (Sp.okL ((Cmd.sym x1) :: ([] : (List Tm))))))))) ∧ (ifB (((((!(decide (i1 = i3))) || (!(decide (i = i2)))) || (!(decide ((Sp.cmpL l2 l3) = 0)))) || (!(decide ((Sp.check l1) = (Sp.check l))))) || (!(decide (Sp.srcT = Sp.srcT)))) (Bool.true = Bool.false) ((∀ x : Blk, ((Membership.mem l1 x) → (∀ x1 : Cmd, ((Membership.mem (Blk.cmds x) x1) → (Sp.okL ((Cmd.sym x1) :: ([] : (List Tm)))))))) ∧ (∀ l4 : (List Tm), (∀ i4 : Int, (((ite ((Sp.check l1) = 0) ((Sp.encP l1), 0) (([] : (List Tm)), (Sp.check l1))) = (l4, i4)) → ((∀ x : Blk, ((Membership.mem l x) → (∀ x1 : Cmd, ((Membership.mem (Blk.cmds x) x1) → (Sp.okL ((Cmd.sym x1) :: ([] : (List Tm)))))))) ∧ (∀ l5 : (List Tm), (∀ i5 : Int, (((ite ((Sp.check l) = 0) ((Sp.encP l), 0) (([] : (List Tm)), (Sp.check l))) = (l5, i5)) → (ifB ((!(decide (i4 = i5))) || (!(decide ((Sp.cmpL l4 l5) = 0)))) (Bool.true = Bool.false) (((∀ x : Blk, ((Membership.mem l1 x) → (∀ x1 : Cmd, ((Membership.mem (Blk.cmds x) x1) → (Sp.okL ((Cmd.sym x1) :: ([] : (List Tm)))))))) ∧ (Sp.okL input)) ∧ (∀ l6 : (List Tm), (∀ i6 : Int, (((ite ((Sp.check l1) ≠ 0) (([] : (List Tm)), (Sp.check l1)) (ite ((Sp.wrong input 4) ≠ 0) (([] : (List Tm)), (Sp.wrong input 4)) (Sp.callP l1 input))) = (l6, i6)) → (((∀ x : Blk, ((Membership.mem l x) → (∀ x1 : Cmd, ((Membership.mem (Blk.cmds x) x1) → (Sp.okL ((Cmd.sym x1) :: ([] : (List Tm)))))))) ∧ (Sp.okL input)) ∧ (∀ l7 : (List Tm), (∀ i7 : Int, (((ite ((Sp.check l) ≠ 0) (([] : (List Tm)), (Sp.check l)) (ite ((Sp.wrong input 4) ≠ 0) (([] : (List Tm)), (Sp.wrong input 4)) (Sp.callP l input))) = (l7, i7)) → (ifB ((!(decide (i6 = i7))) || (!(decide ((Sp.cmpL l6 l7) = 0)))) (Bool.true = Bool.false) ((∀ x : Blk, ((Membership.mem l1 x) → (∀ x1 : Cmd, ((Membership.mem (Blk.cmds x) x1) → (Sp.okL ((Cmd.sym x1) :: ([] : (List Tm)))))))) ∧ (∀ x : Cfg, (∀ i8 : Int, (((ite ((Sp.check l1) ≠ 0) ((Cfg.mk ([] : (List Tm)) ([] : (List Unq))), (Sp.check l1)) ((Cfg.mk (Prod.fst (Sp.callP l1 Sp.inpW)) ([] : (List Unq))), (Prod.snd (Sp.callP l1 Sp.inpW)))) = (x, i8)) → (ite ((((0 + 1) + 1) = 2) ∧ (((Bool.true && (Bool.true && Bool.true)) = Bool.true) ∧ ((0 + 2) ≤ ((0 + 1) + 1)))) ((∀ x1 : Blk, ((Membership.mem l x1) → (∀ x2 : Cmd, ((Membership.mem (Blk.cmds x1) x2) → (Sp.okL ((Cmd.sym x2) :: ([] : (List Tm)))))))) ∧ (∀ x1 : Cfg, (∀ i9 : Int, (((ite ((Sp.check l) ≠ 0) ((Cfg.mk ([] : (List Tm)) ([] : (List Unq))), (Sp.check l)) ((Cfg.mk (Prod.fst (Sp.callP l Sp.inpW)) ([] : (List Unq))), (Prod.snd (Sp.callP l Sp.inpW)))) = (x1, i9)) → (ite ((((0 + 1) + 1) = 2) ∧ (((Bool.true && (Bool.true && Bool.true)) = Bool.true) ∧ ((0 + 2) ≤ ((0 + 1) + 1)))) (Bool.true = ((((decide (i8 = i9)) && (decide ((Sp.cmpL (Cfg.expr x) (Cfg.expr x1)) = 0))) && (decide ((↑(List.length (Cfg.apart x)) : Int) = 0))) && Bool.true)) False))))) False))))))))))))))))))))))))))))))))))))))))))))
theorem l32_SpecialRuns.w (l : (List Blk)) (input : (List Tm)) (fuel : Int) : wpF Go.Proofs.Try.prog (lookC [(6, l32_few.C), (7, l09_Small.C), (8, l32_awake.C), (9, special_Source.C), (10, r32_Source.C), (11, l32_given.C), (12, special_Run.C), (13, r32_Run.C), (14, r01_Equal.C), (15, special_Check.C), (16, r32_Check.C), (17, special_Encode.C), (18, r32_Encode.C), (19, special_Interpret.C), (20, r32_Interpret.C), (21, special_Config.C), (22, r32_Config.C)]) 3 [.lst (.nm 2), .lst (.nm 0), .int .i64] [.bool] (fun _ => none) (fun _ => none) (l, input, fuel) (fun r => (true) = r) = l32_SpecialRuns.t l input fuel := by kernel_rfl
end Go.AL

namespace Go.AL
set_option linter.unusedVariables false
set_option linter.unusedSimpArgs false
set_option maxRecDepth 10000
attribute [local irreducible] wpF wpFX wpM
theorem Cmd.eta' (c : Cmd) : Cmd.mk c.kind (Tm.mk c.sym.kind c.sym.text c.sym.kids) c.label = c := by cases c; simp
theorem Sp.cntB_ge : ∀ l : List Blk, (l.length : Int) ≤ Sp.cntB l
  | [] => by simp [Sp.cntB]
  | b :: l => by have := Sp.cntB_ge l; simp only [Sp.cntB, List.length_cons]; omega
theorem Sp.cntB_mem {b : Blk} : ∀ {l : List Blk}, b ∈ l → (b.cmds.length : Int) ≤ Sp.cntB l
  | c :: l, h => by
    have h0 := Sp.cntB_ge l
    simp only [Sp.cntB]
    rcases List.mem_cons.1 h with rfl | h
    · omega
    · have := Sp.cntB_mem h; omega
def Sp.tA : Tm := Tm.mk 2 ⟨#[65]⟩ []
mutual
theorem Sp.cmpT_refl : ∀ t : Tm, Sp.cmpT t t = 0
  | .mk k s ks => by
    rw [Sp.cmpT]
    simp only [Tm.kind, Tm.text, Tm.kids, if_true, Sp.sign_zero.2 rfl]
    exact Sp.cmpL_refl ks
theorem Sp.cmpL_refl : ∀ l : List Tm, Sp.cmpL l l = 0
  | [] => rfl
  | t :: l => by
    rw [Sp.cmpL]
    simp only [Sp.cmpT_refl t, if_true]
    exact Sp.cmpL_refl l
end
theorem l32_given.l2_ok (l : List Blk) (ha : (∀ b ∈ l, b.cmds.length ≤ 1000) ∧ l.length ≤ 1000) : l32_given.l2 l := by
  rintro l1 i k lab cs ⟨e, h1, h2, h3, h4, e1, e2⟩
  subst l1 lab cs
  refine ⟨by omega, fun hl => ifD (fun h => ?_) fun h => ?_⟩
  · have hk : k.toNat < (nth default l i).cmds.length := by omega
    have hi : i.toNat < l.length := by omega
    have hb := ha.1 _ (nth_mem (d := default) hi)
    have et := take_nth (d := default) hk
    rw [Cmd.eta']
    refine ⟨by omega, by omega, ?_, inR64 (by omega), ⟨by trivial, by omega, by omega, by omega, by omega, by trivial, ?_⟩, by omega, by trivial⟩
    · simp only [List.length_take, List.length_cons, List.length_nil]; omega
    · rw [show (k + 1).toNat = k.toNat + 1 by omega, et]
  · rw [List.take_of_length_le (by omega)]; congr 2; omega
theorem l32_given.l0_ok (l : List Blk) (ha : (∀ b ∈ l, b.cmds.length ≤ 1000) ∧ l.length ≤ 1000) : l32_given.l0 l := by
  rintro l1 out i ⟨e, h1, h2, e1⟩
  subst l1 out
  refine fun hl => ifD (fun h => ?_) fun h => ?_
  · have hi : i.toNat < l.length := by omega
    have et := take_nth (d := default) hi
    refine ⟨by omega, ⟨by trivial, by omega, by omega, by omega, by omega, by trivial, by simp⟩, l32_given.l2_ok l ha, fun k lab cs hk => ?_⟩
    simp only [LOut.brk.injEq, Prod.mk.injEq] at hk
    obtain ⟨rfl, rfl, rfl⟩ := hk
    refine ⟨?_, inR64 (by omega), ⟨by trivial, by omega, by omega, ?_⟩, by omega, by trivial⟩
    · simp only [List.length_take, List.length_cons, List.length_nil]; omega
    · rw [show (i + 1).toNat = i.toNat + 1 by omega, et]
  · rw [List.take_of_length_le (by omega)]; congr 2; omega
theorem l32_given.main (l : List Blk) (ha : (∀ b ∈ l, b.cmds.length ≤ 1000) ∧ l.length ≤ 1000) : l32_given.t l := by
  refine ⟨⟨rfl, by omega, by omega, by simp⟩, l32_given.l0_ok l ha, fun l1 i h => ?_⟩
  simp only [LOut.brk.injEq, Prod.mk.injEq] at h
  exact h.1
theorem l32_given.ok (W : World) : CtrOK Go.Proofs.Try.prog W 11 l32_given.C := by
  refine funOK (Γ := lookC []) (lookC_ok (fun p hp => by cases hp)) (Λ := fun a_ => match a_ with | l => (l32_given.Λ l)) (Λr := fun a_ => match a_ with | l => (fun _ => none)) ?_
  intro a ha
  refine Eq.mpr ?_ (@l32_given.main a ha)
  kernel_rfl
theorem l32_few.l2_ok (l : List Blk) : l32_few.l2 l := by
  rintro l1 i k ⟨e, h1, h2, h3, h4⟩
  subst l1
  refine ⟨by omega, fun hl => ifD (fun h => ?_) fun h => ?_⟩
  · have hk : k.toNat < (nth default l i).cmds.length := by omega
    have e := nth_drop (d := default) hk
    rw [e]
    generalize nth default (nth default l i).cmds k = c
    rw [Tm.eta]
    refine ⟨by omega, by omega, fun _ => ⟨fun _ => by omega, ifB_of (fun hc => ?_) fun hc => ⟨inR64 (by omega), ⟨by trivial, by omega, by omega, by omega, by omega⟩, by omega, ?_⟩⟩⟩
    · have : ¬ Sp.cmdsFew (c :: (nth default l i).cmds.drop (k.toNat + 1)) = true := by
        unfold Sp.cmdsFew; rw [List.all_cons, hc]; simp
      rw [if_neg this]
    · have : Sp.cmdsFew (c :: (nth default l i).cmds.drop (k.toNat + 1)) = Sp.cmdsFew ((nth default l i).cmds.drop (k.toNat + 1)) := by
        unfold Sp.cmdsFew; rw [List.all_cons, hc]; simp
      rw [this, show (k + 1).toNat = k.toNat + 1 by omega]
  · rw [List.drop_eq_nil_of_le (by omega)]
    have : Sp.cmdsFew [] = true := rfl
    rw [if_pos this]; congr 1; omega
theorem l32_few.l0_ok (l : List Blk) (ha : Sp.cntB l ≤ 4000000) : l32_few.l0 l := by
  rintro l1 n i ⟨e, h1, h2, h3, h4⟩
  subst l1
  refine fun hl => ifD (fun h => ?_) fun h => ?_
  · have hi : i.toNat < l.length := by omega
    have e := nth_drop (d := default) hi
    have e1 : (i + 1).toNat = i.toNat + 1 := by omega
    have hb := Sp.cntB_mem (nth_mem (d := default) hi)
    have hg := Sp.cntB_ge (l.drop (i.toNat + 1))
    rw [e] at h4 ⊢
    simp only [Sp.cntB] at h4
    have ef : (nth default l i :: l.drop (i.toNat + 1)).all Sp.blkFew = (Sp.blkFew (nth default l i) && (l.drop (i.toNat + 1)).all Sp.blkFew) := List.all_cons
    refine ⟨by omega, fun _ => ⟨inR64 (by omega), inR64 (by omega), by omega, fun _ => ifD (fun hc => ?_) fun hc => ⟨⟨by trivial, by omega, by omega, by omega, by omega⟩, l32_few.l2_ok l, fun k hk => ?_, fun b hk => ?_⟩⟩⟩
    · have : ¬ (nth default l i :: l.drop (i.toNat + 1)).all Sp.blkFew = true := by
        rw [ef]; unfold Sp.blkFew; rw [decide_eq_true hc]; simp
      rw [if_neg this]
    · obtain ⟨h6, _⟩ := ite_brk hk
      rw [Int.toNat_zero, List.drop_zero] at h6
      have hbf : Sp.blkFew (nth default l i) = true := by unfold Sp.blkFew; rw [decide_eq_false hc, h6]; rfl
      refine ⟨inR64 (by omega), ⟨by trivial, by omega, by omega, by omega, by rw [e1]; omega⟩, by omega, ?_⟩
      rw [ef, hbf, e1, Bool.true_and]
      simp only [Sp.cntB]
      split <;> congr 2
      omega
    · obtain ⟨h6, h7⟩ := ite_ret hk
      rw [Int.toNat_zero, List.drop_zero] at h6
      have hbf : Sp.blkFew (nth default l i) = false := by
        unfold Sp.blkFew
        cases hq : Sp.cmdsFew (nth default l i).cmds with
        | true => exact absurd hq h6
        | false => simp
      rw [ef, hbf, ← h7]; simp
  · have : i = l.length := by omega
    subst this
    rw [List.drop_eq_nil_of_le (by omega)]
    have : ([] : List Blk).all Sp.blkFew = true := rfl
    rw [if_pos this]; simp [Sp.cntB]
theorem l32_few.main (l : List Blk) (most : Int) (ha : Sp.cntB l ≤ 4000000) : l32_few.t l most := by
  refine ⟨⟨rfl, by omega, by omega, by omega, by simp⟩, l32_few.l0_ok l ha, fun n i h => ?_, fun b h => ?_⟩
  · obtain ⟨h1, h2⟩ := ite_brk h
    rw [Int.toNat_zero, List.drop_zero] at h1 h2
    simp only [Prod.mk.injEq] at h2
    unfold Sp.few
    rw [h1, Bool.true_and, ← h2.1, Int.zero_add]
  · obtain ⟨h1, h2⟩ := ite_ret h
    rw [Int.toNat_zero, List.drop_zero] at h1
    unfold Sp.few
    rw [← h2]
    cases hq : l.all Sp.blkFew with
    | true => exact absurd hq h1
    | false => rfl
theorem l32_few.ok (W : World) : CtrOK Go.Proofs.Try.prog W 6 l32_few.C := by
  refine funOK (Γ := lookC [(7, l09_Small.C)]) (lookC_ok (fun p hp => by
    simp only [List.mem_cons, List.not_mem_nil, or_false] at hp
    subst hp; exact l09_Small.ok W)) (Λ := fun a_ => match a_ with | (l, most) => (l32_few.Λ l most)) (Λr := fun a_ => match a_ with | (l, most) => (fun _ => none)) ?_
  intro a ha
  obtain ⟨l, most⟩ := a
  refine Eq.mpr ?_ (@l32_few.main l most ha)
  kernel_rfl
theorem l32_awake.main : l32_awake.t := by
  have hok : ∀ t : Tm, t.kids = [] → Sp.okL [t] := fun t h => by
    simp only [Sp.okL, Sp.nodesL, Sp.nodesT_eq, h]; omega
  refine ⟨⟨fun b hb c hc => hok _ ?_, ?_⟩, fun a b c h => ?_⟩
  · rcases List.mem_cons.1 hb with rfl | hb
    · rcases List.mem_cons.1 hc with rfl | hc
      · rfl
      rcases List.mem_cons.1 hc with rfl | hc
      · rfl
      rcases List.mem_cons.1 hc with rfl | hc
      · rfl
      cases hc
    rcases List.mem_cons.1 hb with rfl | hb
    · rcases List.mem_cons.1 hc with rfl | hc
      · rfl
      cases hc
    cases hb
  · simp only [Sp.okL, Sp.nodesL, Sp.nodesT]; omega
  · have e : Sp.refRun [Blk.mk ⟨#[76]⟩ [Cmd.mk 2 (Tm.mk 0 ⟨#[]⟩ []) ⟨#[77]⟩, Cmd.mk 1 (Tm.mk 2 ⟨#[65]⟩ []) ⟨#[]⟩, Cmd.mk 4 (Tm.mk 0 ⟨#[]⟩ []) ⟨#[76]⟩], Blk.mk ⟨#[77]⟩ [Cmd.mk 5 (Tm.mk 0 ⟨#[]⟩ []) ⟨#[]⟩]] [Tm.mk 2 ⟨#[65]⟩ [], Tm.mk 2 ⟨#[65]⟩ []] 20 = ([Tm.mk 2 ⟨#[65]⟩ [], Tm.mk 2 ⟨#[65]⟩ []], 8, 0) := by kernel_rfl
    rw [e] at h
    simp only [Prod.mk.injEq] at h
    obtain ⟨rfl, rfl, rfl⟩ := h
    have e2 : Sp.cmpL [Tm.mk 2 ⟨#[65]⟩ [], Tm.mk 2 ⟨#[65]⟩ []] [Tm.mk 2 ⟨#[65]⟩ [], Tm.mk 2 ⟨#[65]⟩ []] = 0 := by kernel_rfl
    rw [e2]; rfl
theorem l32_awake.ok (W : World) : CtrOK Go.Proofs.Try.prog W 8 l32_awake.C := by
  refine funOK (Γ := lookC [(12, special_Run.C), (14, r01_Equal.C)]) (lookC_ok (fun p hp => by
    simp only [List.mem_cons, List.not_mem_nil, or_false] at hp
    rcases hp with rfl | rfl
    · exact special_Run.ok W
    · exact r01_Equal.ok W)) (Λ := fun a_ => match a_ with | () => (fun _ => none)) (Λr := fun a_ => match a_ with | () => (fun _ => none)) ?_
  intro a ha
  refine Eq.mpr ?_ (@l32_awake.main )
  kernel_rfl
theorem l32_SpecialRuns.main (l : List Blk) (input : List Tm) (fuel : Int) (ha : Sp.cntB l ≤ 4000000 ∧ (∀ b ∈ l, ∀ c ∈ b.cmds, Sp.okL [c.sym]) ∧ Sp.okL input) : l32_SpecialRuns.t l input fuel := by
  have hsrc : decide (Sp.srcT = Sp.srcT) = true := decide_eq_true rfl
  unfold l32_SpecialRuns.t
  rw [hsrc]
  refine ⟨ha.1, fun b hb => ⟨fun _ => by omega, ifB_of (fun h => ?_) fun h => ?_⟩⟩
  · rintro b1 rfl; rfl
  · simp only [Bool.and_eq_true, Bool.or_eq_true, Bool.not_eq_true', Bool.or_eq_false_iff, Bool.and_eq_false_iff, Bool.not_eq_false', decide_eq_true_eq, decide_eq_false_iff_not, mk_empty] at h
    have hf : Sp.few l 60 = true := by rw [hb]; exact h.1.1
    unfold Sp.few at hf
    simp only [Bool.and_eq_true, Bool.or_eq_true, Bool.not_eq_true', Bool.or_eq_false_iff, Bool.and_eq_false_iff, Bool.not_eq_false', decide_eq_true_eq, decide_eq_false_iff_not, mk_empty] at hf
    have hg := Sp.cntB_ge l
    refine ⟨⟨fun b hb => by have := Sp.cntB_mem hb; omega, by omega⟩, ?_⟩
    rintro l1 rfl
    refine ⟨ha.2, fun a n e h1 => ⟨ha.2, fun a' n' e' h2 => ?_⟩⟩
    rw [h1] at h2
    simp only [Prod.mk.injEq] at h2
    obtain ⟨rfl, rfl, rfl⟩ := h2
    simp only [Sp.cmpL_refl, decide_true, Bool.not_true, Bool.or_false, ifB_false]
    refine ⟨fun _ => ha.2.1, fun _ => ha.2.1, ha.2.1, fun a e h1 => ⟨ha.2.1, fun a' e' h2 => ?_⟩⟩
    rw [h1] at h2
    simp only [Prod.mk.injEq] at h2
    obtain ⟨rfl, rfl⟩ := h2
    simp only [Sp.cmpL_refl, decide_true, Bool.not_true, Bool.or_false, ifB_false]
    refine ⟨ha.2, fun a e h1 => ⟨ha.2, fun a' e' h2 => ?_⟩⟩
    rw [h1] at h2
    simp only [Prod.mk.injEq] at h2
    obtain ⟨rfl, rfl⟩ := h2
    simp only [Sp.cmpL_refl, decide_true, Bool.not_true, Bool.or_false, ifB_false]
    refine ⟨ha.2.1, fun c e h1 => ?_⟩
    rw [if_pos (by simp)]
    refine ⟨ha.2.1, fun c' e' h2 => ?_⟩
    rw [h1] at h2
    simp only [Prod.mk.injEq] at h2
    obtain ⟨rfl, rfl⟩ := h2
    rw [if_pos (by simp)]
    have hap : c.apart = [] := by
      split at h1 <;> simp only [Prod.mk.injEq] at h1 <;> rw [← h1.1]
    simp [Sp.cmpL_refl, hap]
theorem l32_SpecialRuns.ok (W : World) : CtrOK Go.Proofs.Try.prog W 3 l32_SpecialRuns.C := by
  refine funOK (Γ := lookC [(6, l32_few.C), (7, l09_Small.C), (8, l32_awake.C), (9, special_Source.C), (10, r32_Source.C), (11, l32_given.C), (12, special_Run.C), (13, r32_Run.C), (14, r01_Equal.C), (15, special_Check.C), (16, r32_Check.C), (17, special_Encode.C), (18, r32_Encode.C), (19, special_Interpret.C), (20, r32_Interpret.C), (21, special_Config.C), (22, r32_Config.C)]) (lookC_ok (fun p hp => by
    simp only [List.mem_cons, List.not_mem_nil, or_false] at hp
    rcases hp with rfl | rfl | rfl | rfl | rfl | rfl | rfl | rfl | rfl | rfl | rfl | rfl | rfl | rfl | rfl | rfl | rfl
    · exact l32_few.ok W
    · exact l09_Small.ok W
    · exact l32_awake.ok W
    · exact special_Source.ok W
    · exact r32_Source.ok W
    · exact l32_given.ok W
    · exact special_Run.ok W
    · exact r32_Run.ok W
    · exact r01_Equal.ok W
    · exact special_Check.ok W
    · exact r32_Check.ok W
    · exact special_Encode.ok W
    · exact r32_Encode.ok W
    · exact special_Interpret.ok W
    · exact r32_Interpret.ok W
    · exact special_Config.ok W
    · exact r32_Config.ok W)) (Λ := fun a_ => match a_ with | (l, input, fuel) => (fun _ => none)) (Λr := fun a_ => match a_ with | (l, input, fuel) => (fun _ => none)) ?_
  intro a ha
  obtain ⟨l, input, fuel⟩ := a
  refine Eq.mpr ?_ (@l32_SpecialRuns.main l input fuel ha)
  kernel_rfl
end Go.AL
