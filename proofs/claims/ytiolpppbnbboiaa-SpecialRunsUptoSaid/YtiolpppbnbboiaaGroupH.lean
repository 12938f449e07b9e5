/- Functions of the program: what they return, and that they do. -/
import Derived.Test.YtiolpppbnbboiaaGroupD
import Derived.Test.YtiolpppbnbboiaaGroupC
import Derived.Test.YtiolpppbnbboiaaEvalC
import Derived.Test.YtiolpppbnbboiaaProg
import Derived.KernelRfl

namespace Go.AL
set_option linter.unusedVariables false
end Go.AL
namespace Sp
open Go.AL
def longB (b : Blk) : Bool := decide (30 < (b.cmds.length : Int))
def idxB (p : Blk → Bool) : List Blk → Int
  | [] => -1
  | b :: l => if p b then 0 else if idxB p l = -1 then -1 else idxB p l + 1
theorem idxB_ge (p : Blk → Bool) : ∀ l : List Blk, -1 ≤ idxB p l
  | [] => by simp [idxB]
  | b :: l => by
    have := idxB_ge p l
    rw [idxB]
    split
    · omega
    · split <;> omega
theorem idxB_any (p : Blk → Bool) : ∀ l : List Blk, decide (0 ≤ idxB p l) = l.any p
  | [] => rfl
  | b :: l => by
    have ih := idxB_any p l
    have := idxB_ge p l
    rw [idxB, List.any_cons, ← ih]
    cases h : p b with
    | true => simp
    | false =>
      simp only [Bool.false_eq_true, if_false, Bool.false_or]
      by_cases h1 : idxB p l = -1
      · simp [h1]
      · rw [if_neg h1, Bool.eq_iff_iff]; simp only [decide_eq_true_eq]; omega
/-- The labels of the first blocks. -/
def seenB (l : List Blk) (i : Nat) : List (ByteArray × Bool) := (l.take i).foldl (fun m b => aset m b.label true) []
end Sp
namespace Go.AL
def special_uses.cs : List AV := [.bool false, .bool false, .str ⟨#[]⟩, .bool true, .bool false, .str ⟨#[79]⟩, .bool false, .bool true, .str ⟨#[82]⟩, .bool true, .bool true, .str ⟨#[69]⟩, .bool false, .bool true, .str ⟨#[71]⟩, .bool false, .bool false, .str ⟨#[72]⟩]
def special_uses.C : Ctr := constCtr special_uses.cs
def special_uses.K : AC :=
 .seq (.reg [⟨(some 0), none, .new [(.bool false), (.bool false), (.str ⟨#[]⟩), (.bool false), (.bool false), (.str ⟨#[]⟩), (.bool false), (.bool false), (.str ⟨#[]⟩), (.bool false), (.bool false), (.str ⟨#[]⟩), (.bool false), (.bool false), (.str ⟨#[]⟩), (.bool false), (.bool false), (.str ⟨#[]⟩)]⟩] [])
 (.seq (.reg [⟨(some 1), none, .build [(.bool false), (.bool false), (.str ⟨#[]⟩)] [(0, 1, (.c (.bool true))), (1, 1, (.c (.bool false))), (2, 1, (.c (.str ⟨#[79]⟩)))]⟩, ⟨(some 2), none, .build [(.bool false), (.bool false), (.str ⟨#[]⟩)] [(0, 1, (.c (.bool false))), (1, 1, (.c (.bool true))), (2, 1, (.c (.str ⟨#[82]⟩)))]⟩, ⟨(some 3), none, .build [(.bool false), (.bool false), (.str ⟨#[]⟩)] [(0, 1, (.c (.bool true))), (1, 1, (.c (.bool true))), (2, 1, (.c (.str ⟨#[69]⟩)))]⟩, ⟨(some 4), none, .build [(.bool false), (.bool false), (.str ⟨#[]⟩)] [(0, 1, (.c (.bool false))), (1, 1, (.c (.bool true))), (2, 1, (.c (.str ⟨#[71]⟩)))]⟩, ⟨(some 5), none, .build [(.bool false), (.bool false), (.str ⟨#[]⟩)] [(0, 1, (.c (.bool false))), (1, 1, (.c (.bool false))), (2, 1, (.c (.str ⟨#[72]⟩)))]⟩, ⟨(some 6), none, .build [(.bool false), (.bool false), (.str ⟨#[]⟩), (.bool false), (.bool false), (.str ⟨#[]⟩), (.bool false), (.bool false), (.str ⟨#[]⟩), (.bool false), (.bool false), (.str ⟨#[]⟩), (.bool false), (.bool false), (.str ⟨#[]⟩), (.bool false), (.bool false), (.str ⟨#[]⟩)] [(3, 3, (.t 1)), (6, 3, (.t 2)), (9, 3, (.t 3)), (12, 3, (.t 4)), (15, 3, (.t 5))]⟩, ⟨none, none, .st 18 (.t 0) (.t 6)⟩] [])
  (.ret))
def special_word.C : Ctr := pureCtr [.str] [.nm 0] none (fun (s : ByteArray) => (Sp.wrd s))
def special_Check_1.C : Ctr := pureCtr [.nm 2] [.bool] none (fun (b : Blk) => (Sp.longB b))
def slices_IndexFunc__long.L0 : LD := { cs := [0, 7], cts := [.lst (.nm 2), .int .i64], pts := [(1, (.fn 38 [] []))], vs := [8], os := [], vts := [.int .i64], own := [false], ro := [0, 1, 6, 7], nx := 100 }
def slices_IndexFunc__long.Λ (l : (List Blk)) : Nat → Option (Loop (ElT [.int .i64])) := fun id =>
  if id = 0 then some (mkLoop slices_IndexFunc__long.L0
    (fun (c_ : (List Blk) × Int) (s_ : Int) => match c_, s_ with | (c_l, n), i => c_l = l ∧ n = l.length ∧ 0 ≤ i ∧ i ≤ l.length ∧ l.length < 9223372036854775808)
    (fun (c_ : (List Blk) × Int) (s_ : Int) => match c_, s_ with | (c_l, n), i => (l.length - i : Int).toNat)
    (fun (c_ : (List Blk) × Int) (s_ : Int) => match c_, s_ with | (c_l, n), i => if (l.drop i.toNat).any Sp.longB = true then .ret (i + Sp.idxB Sp.longB (l.drop i.toNat)) else .brk (l.length : Int)) [] true) else
  none
def slices_IndexFunc__long.C : Ctr := pureX [none, some 38] [.lst (.nm 2)] [.int .i64] none (fun (l : (List Blk)) => (Sp.idxB Sp.longB l))
def slices_ContainsFunc__long.C : Ctr := pureX [none, some 38] [.lst (.nm 2)] [.bool] none (fun (l : (List Blk)) => (l.any Sp.longB))
def special_Command_check.K : AC :=
 .seq (.reg [⟨(some 2), none, .box (.t 0)⟩, ⟨(some 4), none, .mv (.c (.int .i64 0))⟩] [])
 (.seq (.seq (.reg [⟨(some 10), none, .fa 0 1 (.t 2)⟩, ⟨(some 11), none, .ld false 1 (.t 10)⟩, ⟨(some 12), none, .bin .lss (.t 11) (.c (.int .i64 1))⟩, ⟨(some 13), none, .mv (.t 12)⟩, ⟨(some 14), (some (13, false)), .fa 0 1 (.t 2)⟩, ⟨(some 15), (some (13, false)), .ld false 1 (.t 14)⟩, ⟨(some 16), (some (13, false)), .bin .gtr (.t 15) (.c (.int .i64 5))⟩, ⟨(some 17), none, .pick (.t 13) (.c (.bool true)) (.t 16)⟩] [])
   (.cond (.t 17) (.seq (.reg [⟨(some 4), none, .mv (.c (.int .i64 340))⟩] [])
     (.ret))
    (.skip)))
  (.seq (.dreg [⟨(some 18), none, .call (.c (.fn (.func 68) [] [])) []⟩, ⟨(some 19), none, .fa 0 1 (.t 2)⟩, ⟨(some 20), none, .ld false 1 (.t 19)⟩, ⟨(some 21), none, .idxA true 6 3 (.t 18) (.t 20)⟩, ⟨(some 5), none, .new [(.bool false), (.bool false), (.str ⟨#[]⟩)]⟩] [⟨none, none, .st 3 (.t 5) (.t 21)⟩] [])
   (.seq (.reg [⟨(some 22), none, .fa 1 3 (.t 2)⟩, ⟨(some 23), none, .ld true 3 (.t 22)⟩, ⟨(some 24), none, .call (.c (.fn (.func 69) [] [])) [(.t 23)]⟩, ⟨(some 25), none, .mv (.t 24)⟩, ⟨(some 26), (some (25, true)), .fa 1 3 (.t 2)⟩, ⟨(some 27), (some (25, true)), .ld true 3 (.t 26)⟩, ⟨(some 28), (some (25, true)), .bsl 3 1 (.agg [(.int .i64 0), (.str ⟨#[]⟩), (.lst 3 [] .clip)]) [(0, (.t 27))]⟩, ⟨(some 29), (some (25, true)), .call (.c (.fn (.func 28) [] [])) [(.t 28)]⟩, ⟨(some 30), (some (25, true)), .bin .eql (.t 29) (.c (.int .i64 0))⟩, ⟨(some 31), none, .pick (.t 25) (.t 30) (.c (.bool false))⟩, ⟨(some 6), none, .mv (.t 31)⟩] [])
    (.seq (.reg [⟨(some 32), none, .fa 1 3 (.t 2)⟩, ⟨(some 33), none, .fa 0 1 (.t 32)⟩, ⟨(some 34), none, .ld false 1 (.t 33)⟩, ⟨(some 35), none, .bin .eql (.t 34) (.c (.int .i64 0))⟩, ⟨(some 36), none, .mv (.t 35)⟩, ⟨(some 37), (some (36, true)), .fa 1 3 (.t 2)⟩, ⟨(some 38), (some (36, true)), .fa 1 1 (.t 37)⟩, ⟨(some 39), (some (36, true)), .ld false 1 (.t 38)⟩, ⟨(some 40), (some (36, true)), .bin .eql (.t 39) (.c (.str ⟨#[]⟩))⟩, ⟨(some 41), none, .pick (.t 36) (.t 40) (.c (.bool false))⟩, ⟨(some 42), none, .mv (.t 41)⟩, ⟨(some 43), (some (42, true)), .fa 1 3 (.t 2)⟩, ⟨(some 44), (some (42, true)), .fa 2 1 (.t 43)⟩, ⟨(some 45), (some (42, true)), .ld false 1 (.t 44)⟩, ⟨(some 46), (some (42, true)), .len (.t 45)⟩, ⟨(some 47), (some (42, true)), .bin .eql (.t 46) (.c (.int .i64 0))⟩, ⟨(some 48), none, .pick (.t 42) (.t 47) (.c (.bool false))⟩, ⟨(some 7), none, .mv (.t 48)⟩] [])
     (.seq (.seq (.reg [⟨(some 49), none, .fa 0 1 (.t 5)⟩, ⟨(some 50), none, .ld false 1 (.t 49)⟩, ⟨(some 51), none, .mv (.t 50)⟩, ⟨(some 52), (some (51, true)), .mv (.t 6)⟩, ⟨(some 53), (some (51, true)), .un .not (.t 52)⟩, ⟨(some 54), none, .pick (.t 51) (.t 53) (.c (.bool false))⟩, ⟨(some 55), none, .mv (.t 54)⟩, ⟨(some 56), (some (55, false)), .fa 0 1 (.t 5)⟩, ⟨(some 57), (some (55, false)), .ld false 1 (.t 56)⟩, ⟨(some 58), (some (55, false)), .un .not (.t 57)⟩, ⟨(some 59), (some (55, false)), .mv (.t 58)⟩, ⟨(some 60), (some (59, true)), .mv (.t 7)⟩, ⟨(some 61), (some (59, true)), .un .not (.t 60)⟩, ⟨(some 62), (some (55, false)), .pick (.t 59) (.t 61) (.c (.bool false))⟩, ⟨(some 63), none, .pick (.t 55) (.c (.bool true)) (.t 62)⟩, ⟨(some 64), none, .mv (.t 63)⟩, ⟨(some 65), (some (64, false)), .fa 1 1 (.t 5)⟩, ⟨(some 66), (some (64, false)), .ld false 1 (.t 65)⟩, ⟨(some 67), (some (64, false)), .un .not (.t 66)⟩, ⟨(some 68), (some (64, false)), .mv (.t 67)⟩, ⟨(some 69), (some (68, true)), .fa 4 1 (.t 2)⟩, ⟨(some 70), (some (68, true)), .ld false 1 (.t 69)⟩, ⟨(some 71), (some (68, true)), .bin .neq (.t 70) (.c (.str ⟨#[]⟩))⟩, ⟨(some 72), (some (64, false)), .pick (.t 68) (.t 71) (.c (.bool false))⟩, ⟨(some 73), none, .pick (.t 64) (.c (.bool true)) (.t 72)⟩] [])
       (.cond (.t 73) (.seq (.reg [⟨(some 4), none, .mv (.c (.int .i64 340))⟩] [])
         (.ret))
        (.skip)))
      (.seq (.seq (.reg [⟨(some 75), none, .mv (.t 1)⟩, ⟨(some 76), none, .fa 4 1 (.t 2)⟩, ⟨(some 77), none, .ld false 1 (.t 76)⟩, ⟨(some 78), none, .look true true (.int .i64 0) (.t 75) (.t 77)⟩, ⟨(some 74), none, .mv (.t 78)⟩, ⟨(some 79), none, .ext 0 (.t 74)⟩, ⟨(some 80), none, .ext 1 (.t 74)⟩, ⟨(some 8), none, .mv (.t 79)⟩, ⟨(some 9), none, .mv (.t 80)⟩] [])
        (.seq (.reg [⟨(some 81), none, .fa 1 1 (.t 5)⟩, ⟨(some 82), none, .ld false 1 (.t 81)⟩, ⟨(some 83), none, .mv (.t 82)⟩, ⟨(some 84), (some (83, true)), .mv (.t 9)⟩, ⟨(some 85), (some (83, true)), .un .not (.t 84)⟩, ⟨(some 86), none, .pick (.t 83) (.t 85) (.c (.bool false))⟩] [])
         (.cond (.t 86) (.seq (.reg [⟨(some 4), none, .mv (.c (.int .i64 9))⟩] [])
           (.ret))
          (.skip))))
       (.seq (.reg [⟨(some 4), none, .mv (.c (.int .i64 0))⟩] [])
        (.ret))))))))
def special_Command_check.C : Ctr := inlK (lookC [(28, term_Value.C), (68, special_uses.C), (69, term_IsSymbol.C)]) 87 [.t 4] special_Command_check.K
def special_Check.L0 : LD := { cs := [29, 30], cts := [.lst (.nm 2), .int .i64], pts := [(5, (.mp 1))], vs := [31], os := [(1, .map, [none])], vts := [.int .i64, .lst (.pair .str .bool)], own := [false, false], ro := [0, 3, 13, 14, 15, 16, 17, 18, 19, 20, 21, 22, 23, 24, 25, 26, 27, 4, 28, 5, 29, 30], nx := 100 }
def special_Check.L2 : LD := { cs := [49, 50], cts := [.lst (.nm 2), .int .i64], pts := [(4, (.mp 0))], vs := [51], os := [(0, .map, [none])], vts := [.int .i64, .lst (.pair (.str) (.int .i64))], own := [false, false], ro := [31, 0, 3, 13, 14, 15, 16, 17, 18, 19, 20, 21, 22, 23, 24, 25, 26, 27, 4, 28, 5, 29, 30, 49, 50], nx := 200 }
def special_Check.L4 : LD := { cs := [56, 57], cts := [.lst (.nm 1), .int .i64], pts := [(4, (.mp 0))], vs := [58], os := [(0, .map, [none])], vts := [.int .i64, .lst (.pair (.str) (.int .i64))], own := [false, false], ro := [49, 50, 4, 51, 52, 53, 54, 9, 55, 56, 57, 31, 0, 3, 13, 14, 15, 16, 17, 18, 19, 20, 21, 22, 23, 24, 25, 26, 27, 28, 5, 29, 30], nx := 300 }
def special_Check.Λ (l : (List Blk)) : Nat → Option (Loop (ElT [.int .i64])) := fun id =>
  if id = 0 then some (mkLoop special_Check.L0
    (fun (c_ : (List Blk) × Int) (s_ : Int × (List (ByteArray × Bool))) => match c_, s_ with | (xs, n), (i, seen) => xs = l ∧ n = xs.length ∧ 0 ≤ i ∧ i ≤ xs.length ∧ xs.length < 9223372036854775808 ∧ seen = Sp.seenB l i.toNat)
    (fun (c_ : (List Blk) × Int) (s_ : Int × (List (ByteArray × Bool))) => match c_, s_ with | (xs, n), (i, seen) => (xs.length - i : Int).toNat)
    (fun (c_ : (List Blk) × Int) (s_ : Int × (List (ByteArray × Bool))) => match c_, s_ with | (xs, n), (i, seen) => if Sp.labErr l (l.drop i.toNat) i = 0 then .brk ((l.length : Int), Sp.seenB l l.length) else .ret (Sp.labErr l (l.drop i.toNat) i)) [] true) else
  if id = 2 then some (mkLoop special_Check.L2
    (fun (c_ : (List Blk) × Int) (s_ : Int × (List (ByteArray × Int))) => match c_, s_ with | (xs, n), (i, known) => xs = l ∧ n = xs.length ∧ 0 ≤ i ∧ i ≤ xs.length ∧ xs.length < 9223372036854775808 ∧ known = Sp.labs l)
    (fun (c_ : (List Blk) × Int) (s_ : Int × (List (ByteArray × Int))) => match c_, s_ with | (xs, n), (i, known) => (xs.length - i : Int).toNat)
    (fun (c_ : (List Blk) × Int) (s_ : Int × (List (ByteArray × Int))) => match c_, s_ with | (xs, n), (i, known) => if Sp.blksErr l (l.drop i.toNat) = 0 then .brk ((l.length : Int), Sp.labs l) else .ret (Sp.blksErr l (l.drop i.toNat))) [] true) else
  if id = 4 then some (mkLoop special_Check.L4
    (fun (c_ : (List Cmd) × Int) (s_ : Int × (List (ByteArray × Int))) => match c_, s_ with | (xs, n), (i, known) => n = xs.length ∧ 0 ≤ i ∧ i ≤ xs.length ∧ xs.length < 9223372036854775808 ∧ known = Sp.labs l ∧ ∀ c ∈ xs, Sp.okL [c.sym])
    (fun (c_ : (List Cmd) × Int) (s_ : Int × (List (ByteArray × Int))) => match c_, s_ with | (xs, n), (i, known) => (xs.length - i : Int).toNat)
    (fun (c_ : (List Cmd) × Int) (s_ : Int × (List (ByteArray × Int))) => match c_, s_ with | (xs, n), (i, known) => if Sp.cmdsErr l (xs.drop i.toNat) = 0 then .brk ((xs.length : Int), Sp.labs l) else .ret (Sp.cmdsErr l (xs.drop i.toNat))) [] true) else
  none
def special_Check.C : Ctr := pureCtr [.lst (.nm 2)] [.int .i64] (some (fun (l : (List Blk)) => ∀ b ∈ l, ∀ c ∈ b.cmds, Sp.okL [c.sym])) (fun (l : (List Blk)) => (Sp.check l))
end Go.AL

namespace Go.AL
set_option linter.unusedVariables false
set_option maxRecDepth 10000
def special_word.t (s : ByteArray) : Prop :=
  ((Sp.wrd s) = (Tm.mk 2 s ([] : (List Tm))))
theorem special_word.w (s : ByteArray) : wpF Go.Proofs.Try.prog (lookC []) 33 [.str] [.nm 0] (fun _ => none) (fun _ => none) s (fun r => (Sp.wrd s) = r) = special_word.t s := by kernel_rfl
def special_Check_1.t (b : Blk) : Prop :=
  (((List.length (Blk.cmds b)) < 9223372036854775808) → ((Sp.longB b) = (decide (30 < (↑(List.length (Blk.cmds b)) : Int)))))
theorem special_Check_1.w (b : Blk) : wpF Go.Proofs.Try.prog (lookC []) 38 [.nm 2] [.bool] (fun _ => none) (fun _ => none) b (fun r => (Sp.longB b) = r) = special_Check_1.t b := by kernel_rfl
def slices_IndexFunc__long.l0 (l : (List Blk)) : Prop :=
  (∀ l1 : (List Blk), (∀ i : Int, (∀ i1 : Int, (((l1 = l) ∧ ((i = (↑(List.length l) : Int)) ∧ ((0 ≤ i1) ∧ ((i1 ≤ (↑(List.length l) : Int)) ∧ ((List.length l) < 9223372036854775808))))) → (ifB (decide (i1 < i)) (((0 ≤ i1) ∧ (i1 < (↑(List.length l1) : Int))) ∧ (∀ b : Bool, (((Sp.longB (nth (Inhabited.default) l1 i1)) = b) → (ifB b (((ite ((List.any (List.drop (Int.toNat i1) l) Sp.longB) = Bool.true) (LOut.ret (i1 + (Sp.idxB Sp.longB (List.drop (Int.toNat i1) l)))) (LOut.brk (↑(List.length l) : Int))) : (LOut Int Int)) = (LOut.ret i1)) ((inR Go.IntKind.i64 (i1 + 1)) ∧ (((l1 = l) ∧ ((i = (↑(List.length l) : Int)) ∧ ((0 ≤ (i1 + 1)) ∧ (((i1 + 1) ≤ (↑(List.length l) : Int)) ∧ ((List.length l) < 9223372036854775808))))) ∧ (((Int.toNat ((↑(List.length l) : Int) - (i1 + 1))) < (Int.toNat ((↑(List.length l) : Int) - i1))) ∧ (((ite ((List.any (List.drop (Int.toNat (i1 + 1)) l) Sp.longB) = Bool.true) (LOut.ret ((i1 + 1) + (Sp.idxB Sp.longB (List.drop (Int.toNat (i1 + 1)) l)))) (LOut.brk (↑(List.length l) : Int))) : (LOut Int Int)) = (ite ((List.any (List.drop (Int.toNat i1) l) Sp.longB) = Bool.true) (LOut.ret (i1 + (Sp.idxB Sp.longB (List.drop (Int.toNat i1) l)))) (LOut.brk (↑(List.length l) : Int))))))))))) (((ite ((List.any (List.drop (Int.toNat i1) l) Sp.longB) = Bool.true) (LOut.ret (i1 + (Sp.idxB Sp.longB (List.drop (Int.toNat i1) l)))) (LOut.brk (↑(List.length l) : Int))) : (LOut Int Int)) = (LOut.brk i1)))))))
def slices_IndexFunc__long.t (l : (List Blk)) : Prop :=
  (((List.length l) < 9223372036854775808) → (((l = l) ∧ (((↑(List.length l) : Int) = (↑(List.length l) : Int)) ∧ (((0 : Int) ≤ 0) ∧ ((0 ≤ (↑(List.length l) : Int)) ∧ ((List.length l) < 9223372036854775808))))) ∧ ((slices_IndexFunc__long.l0 l) ∧ ((∀ i : Int, ((((ite ((List.any (List.drop (Int.toNat 0) l) Sp.longB) = Bool.true) (LOut.ret (0 + (Sp.idxB Sp.longB (List.drop (Int.toNat 0) l)))) (LOut.brk (↑(List.length l) : Int))) : (LOut Int Int)) = (LOut.brk i)) → ((Sp.idxB Sp.longB l) = (-1)))) ∧ (∀ i : Int, ((((ite ((List.any (List.drop (Int.toNat 0) l) Sp.longB) = Bool.true) (LOut.ret (0 + (Sp.idxB Sp.longB (List.drop (Int.toNat 0) l)))) (LOut.brk (↑(List.length l) : Int))) : (LOut Int Int)) = (LOut.ret i)) → ((Sp.idxB Sp.longB l) = i)))))))
theorem slices_IndexFunc__long.w (l : (List Blk)) : wpFX Go.Proofs.Try.prog (lookC [(38, special_Check_1.C)]) 67 [none, some 38] [.lst (.nm 2)] [.int .i64] (slices_IndexFunc__long.Λ l) (fun _ => none) l (fun r => (Sp.idxB Sp.longB l) = r) = slices_IndexFunc__long.t l := by kernel_rfl
def slices_ContainsFunc__long.t (l : (List Blk)) : Prop :=
  (∀ i : Int, (((Sp.idxB Sp.longB l) = i) → ((List.any l Sp.longB) = (decide (0 ≤ i)))))
theorem slices_ContainsFunc__long.w (l : (List Blk)) : wpFX Go.Proofs.Try.prog (lookC [(38, special_Check_1.C), (67, slices_IndexFunc__long.C)]) 39 [none, some 38] [.lst (.nm 2)] [.bool] (fun _ => none) (fun _ => none) l (fun r => (l.any Sp.longB) = r) = slices_ContainsFunc__long.t l := by kernel_rfl
def special_Check.l0 (l : (List Blk)) : Prop :=
  (∀ l1 : (List Blk), (∀ i : Int, (∀ i1 : Int, (∀ l2 : (List (ByteArray × Bool)), (((l1 = l) ∧ ((i = (↑(List.length l1) : Int)) ∧ ((0 ≤ i1) ∧ ((i1 ≤ (↑(List.length l1) : Int)) ∧ (((List.length l1) < 9223372036854775808) ∧ (l2 = (Sp.seenB l (Int.toNat i1)))))))) → (ifB (decide (i1 < i)) (((0 ≤ i1) ∧ (i1 < (↑(List.length l1) : Int))) ∧ (∀ x : Tm, (((Sp.wrd (Blk.label (nth (Inhabited.default) l1 i1))) = x) → ((Sp.okL (x :: ([] : (List Tm)))) ∧ (∀ i2 : Int, (((Sp.wrong (x :: ([] : (List Tm))) 4) = i2) → (ifB (!(decide (i2 = 0))) (((ite ((Sp.labErr l (List.drop (Int.toNat i1) l) i1) = 0) (LOut.brk ((↑(List.length l) : Int), (Sp.seenB l (List.length l)))) (LOut.ret (Sp.labErr l (List.drop (Int.toNat i1) l) i1))) : (LOut (Int × (List (ByteArray × Bool))) Int)) = (LOut.ret 340)) (ifB (Option.getD (alook l2 (Blk.label (nth (Inhabited.default) l1 i1))) Bool.false) (((ite ((Sp.labErr l (List.drop (Int.toNat i1) l) i1) = 0) (LOut.brk ((↑(List.length l) : Int), (Sp.seenB l (List.length l)))) (LOut.ret (Sp.labErr l (List.drop (Int.toNat i1) l) i1))) : (LOut (Int × (List (ByteArray × Bool))) Int)) = (LOut.ret 10)) ((inR Go.IntKind.i64 (i1 + 1)) ∧ (((l1 = l) ∧ ((i = (↑(List.length l1) : Int)) ∧ ((0 ≤ (i1 + 1)) ∧ (((i1 + 1) ≤ (↑(List.length l1) : Int)) ∧ (((List.length l1) < 9223372036854775808) ∧ ((aset l2 (Blk.label (nth (Inhabited.default) l1 i1)) Bool.true) = (Sp.seenB l (Int.toNat (i1 + 1))))))))) ∧ (((Int.toNat ((↑(List.length l1) : Int) - (i1 + 1))) < (Int.toNat ((↑(List.length l1) : Int) - i1))) ∧ (((ite ((Sp.labErr l (List.drop (Int.toNat (i1 + 1)) l) (i1 + 1)) = 0) (LOut.brk ((↑(List.length l) : Int), (Sp.seenB l (List.length l)))) (LOut.ret (Sp.labErr l (List.drop (Int.toNat (i1 + 1)) l) (i1 + 1)))) : (LOut (Int × (List (ByteArray × Bool))) Int)) = (ite ((Sp.labErr l (List.drop (Int.toNat i1) l) i1) = 0) (LOut.brk ((↑(List.length l) : Int), (Sp.seenB l (List.length l)))) (LOut.ret (Sp.labErr l (List.drop (Int.toNat i1) l) i1))))))))))))))) (((ite ((Sp.labErr l (List.drop (Int.toNat i1) l) i1) = 0) (LOut.brk ((↑(List.length l) : Int), (Sp.seenB l (List.length l)))) (LOut.ret (Sp.labErr l (List.drop (Int.toNat i1) l) i1))) : (LOut (Int × (List (ByteArray × Bool))) Int)) = (LOut.brk (i1, l2)))))))))
def special_Check.l4 (l : (List Blk)) : Prop :=
  (∀ l4 : (List Cmd), (∀ i3 : Int, (∀ i4 : Int, (∀ l5 : (List (ByteArray × Int)), (((i3 = (↑(List.length l4) : Int)) ∧ ((0 ≤ i4) ∧ ((i4 ≤ (↑(List.length l4) : Int)) ∧ (((List.length l4) < 9223372036854775808) ∧ ((l5 = (Sp.labs l)) ∧ (∀ x : Cmd, ((Membership.mem l4 x) → (Sp.okL ((Cmd.sym x) :: ([] : (List Tm))))))))))) → (ifB (decide (i4 < i3)) (((0 ≤ i4) ∧ (i4 < (↑(List.length l4) : Int))) ∧ (ifB ((decide ((Cmd.kind (nth (Inhabited.default) l4 i4)) < 1)) || (decide (5 < (Cmd.kind (nth (Inhabited.default) l4 i4))))) (ifB (!Bool.false) (((ite ((Sp.cmdsErr l (List.drop (Int.toNat i4) l4)) = 0) (LOut.brk ((↑(List.length l4) : Int), (Sp.labs l))) (LOut.ret (Sp.cmdsErr l (List.drop (Int.toNat i4) l4)))) : (LOut (Int × (List (ByteArray × Int))) Int)) = (LOut.ret 340)) ((inR Go.IntKind.i64 (i4 + 1)) ∧ (((i3 = (↑(List.length l4) : Int)) ∧ ((0 ≤ (i4 + 1)) ∧ (((i4 + 1) ≤ (↑(List.length l4) : Int)) ∧ (((List.length l4) < 9223372036854775808) ∧ ((l5 = (Sp.labs l)) ∧ (∀ x : Cmd, ((Membership.mem l4 x) → (Sp.okL ((Cmd.sym x) :: ([] : (List Tm))))))))))) ∧ (((Int.toNat ((↑(List.length l4) : Int) - (i4 + 1))) < (Int.toNat ((↑(List.length l4) : Int) - i4))) ∧ (((ite ((Sp.cmdsErr l (List.drop (Int.toNat (i4 + 1)) l4)) = 0) (LOut.brk ((↑(List.length l4) : Int), (Sp.labs l))) (LOut.ret (Sp.cmdsErr l (List.drop (Int.toNat (i4 + 1)) l4)))) : (LOut (Int × (List (ByteArray × Int))) Int)) = (ite ((Sp.cmdsErr l (List.drop (Int.toNat i4) l4)) = 0) (LOut.brk ((↑(List.length l4) : Int), (Sp.labs l))) (LOut.ret (Sp.cmdsErr l (List.drop (Int.toNat i4) l4))))))))) (((0 ≤ (Cmd.kind (nth (Inhabited.default) l4 i4))) ∧ ((Cmd.kind (nth (Inhabited.default) l4 i4)) < (↑6 : Int))) ∧ (∀ b : Bool, (((Sp.sym (Tm.mk (Tm.kind (Cmd.sym (nth (Inhabited.default) l4 i4))) (Tm.text (Cmd.sym (nth (Inhabited.default) l4 i4))) (Tm.kids (Cmd.sym (nth (Inhabited.default) l4 i4))))) = b) → (((b = Bool.true) → (Sp.okL ((Tm.mk (Tm.kind (Cmd.sym (nth (Inhabited.default) l4 i4))) (Tm.text (Cmd.sym (nth (Inhabited.default) l4 i4))) (Tm.kids (Cmd.sym (nth (Inhabited.default) l4 i4)))) :: ([] : (List Tm))))) ∧ (ifB ((((nth Bool.false (Bool.false :: (Bool.true :: (Bool.false :: (Bool.true :: (Bool.false :: (Bool.false :: ([] : (List Bool)))))))) (Cmd.kind (nth (Inhabited.default) l4 i4))) && (!(b && (decide ((Sp.wrong ((Tm.mk (Tm.kind (Cmd.sym (nth (Inhabited.default) l4 i4))) (Tm.text (Cmd.sym (nth (Inhabited.default) l4 i4))) (Tm.kids (Cmd.sym (nth (Inhabited.default) l4 i4)))) :: ([] : (List Tm))) 4) = 0))))) || ((!(nth Bool.false (Bool.false :: (Bool.true :: (Bool.false :: (Bool.true :: (Bool.false :: (Bool.false :: ([] : (List Bool)))))))) (Cmd.kind (nth (Inhabited.default) l4 i4)))) && (!(((decide ((Tm.kind (Cmd.sym (nth (Inhabited.default) l4 i4))) = 0)) && (decide ((Tm.text (Cmd.sym (nth (Inhabited.default) l4 i4))) = (⟨#[]⟩ : ByteArray)))) && (decide ((↑(List.length (Tm.kids (Cmd.sym (nth (Inhabited.default) l4 i4)))) : Int) = 0)))))) || ((!(nth Bool.false (Bool.false :: (Bool.false :: (Bool.true :: (Bool.true :: (Bool.true :: (Bool.false :: ([] : (List Bool)))))))) (Cmd.kind (nth (Inhabited.default) l4 i4)))) && (!(decide ((Cmd.label (nth (Inhabited.default) l4 i4)) = (⟨#[]⟩ : ByteArray)))))) (ifB (!Bool.false) (((ite ((Sp.cmdsErr l (List.drop (Int.toNat i4) l4)) = 0) (LOut.brk ((↑(List.length l4) : Int), (Sp.labs l))) (LOut.ret (Sp.cmdsErr l (List.drop (Int.toNat i4) l4)))) : (LOut (Int × (List (ByteArray × Int))) Int)) = (LOut.ret 340)) ((inR Go.IntKind.i64 (i4 + 1)) ∧ (((i3 = (↑(List.length l4) : Int)) ∧ ((0 ≤ (i4 + 1)) ∧ (((i4 + 1) ≤ (↑(List.length l4) : Int)) ∧ (((List.length l4) < 9223372036854775808) ∧ ((l5 = (Sp.labs l)) ∧ (∀ x : Cmd, ((Membership.mem l4 x) → (Sp.okL ((Cmd.sym x) :: ([] : (List Tm))))))))))) ∧ (((Int.toNat ((↑(List.length l4) : Int) - (i4 + 1))) < (Int.toNat ((↑(List.length l4) : Int) - i4))) ∧ (((ite ((Sp.cmdsErr l (List.drop (Int.toNat (i4 + 1)) l4)) = 0) (LOut.brk ((↑(List.length l4) : Int), (Sp.labs l))) (LOut.ret (Sp.cmdsErr l (List.drop (Int.toNat (i4 + 1)) l4)))) : (LOut (Int × (List (ByteArray × Int))) Int)) = (ite ((Sp.cmdsErr l (List.drop (Int.toNat i4) l4)) = 0) (LOut.brk ((↑(List.length l4) : Int), (Sp.labs l))) (LOut.ret (Sp.cmdsErr l (List.drop (Int.toNat i4) l4))))))))) (ifB ((nth Bool.false (Bool.false :: (Bool.false :: (Bool.true :: (Bool.true :: (Bool.true :: (Bool.false :: ([] : (List Bool)))))))) (Cmd.kind (nth (Inhabited.default) l4 i4))) && (!(Option.isSome (alook l5 (Cmd.label (nth (Inhabited.default) l4 i4)))))) (ifB (!Bool.false) (((ite ((Sp.cmdsErr l (List.drop (Int.toNat i4) l4)) = 0) (LOut.brk ((↑(List.length l4) : Int), (Sp.labs l))) (LOut.ret (Sp.cmdsErr l (List.drop (Int.toNat i4) l4)))) : (LOut (Int × (List (ByteArray × Int))) Int)) = (LOut.ret 9)) ((inR Go.IntKind.i64 (i4 + 1)) ∧ (((i3 = (↑(List.length l4) : Int)) ∧ ((0 ≤ (i4 + 1)) ∧ (((i4 + 1) ≤ (↑(List.length l4) : Int)) ∧ (((List.length l4) < 9223372036854775808) ∧ ((l5 = (Sp.labs l)) ∧ (∀ x : Cmd, ((Membership.mem l4 x) → (Sp.okL ((Cmd.sym x) :: ([] : (List Tm))))))))))) ∧ (((Int.toNat ((↑(List.length l4) : Int) - (i4 + 1))) < (Int.toNat ((↑(List.length l4) : Int) - i4))) ∧ (((ite ((Sp.cmdsErr l (List.drop (Int.toNat (i4 + 1)) l4)) = 0) (LOut.brk ((↑(List.length l4) : Int), (Sp.labs l))) (LOut.ret (Sp.cmdsErr l (List.drop (Int.toNat (i4 + 1)) l4)))) : (LOut (Int × (List (ByteArray × Int))) Int)) = (ite ((Sp.cmdsErr l (List.drop (Int.toNat i4) l4)) = 0) (LOut.brk ((↑(List.length l4) : Int), (Sp.labs l))) (LOut.ret (Sp.cmdsErr l (List.drop (Int.toNat i4) l4))))))))) (ifB (!Bool.true) (((ite ((Sp.cmdsErr l (List.drop (Int.toNat i4) l4)) = 0) (LOut.brk ((↑(List.length l4) : Int), (Sp.labs l))) (LOut.ret (Sp.cmdsErr l (List.drop (Int.toNat i4) l4)))) : (LOut (Int × (List (ByteArray × Int))) Int)) = (LOut.ret 0)) ((inR Go.IntKind.i64 (i4 + 1)) ∧ (((i3 = (↑(List.length l4) : Int)) ∧ ((0 ≤ (i4 + 1)) ∧ (((i4 + 1) ≤ (↑(List.length l4) : Int)) ∧ (((List.length l4) < 9223372036854775808) ∧ ((l5 = (Sp.labs l)) ∧ (∀ x : Cmd, ((Membership.mem l4 x) → (Sp.okL ((Cmd.sym x) :: ([] : (List Tm))))))))))) ∧ (((Int.toNat ((↑(List.length l4) : Int) - (i4 + 1))) < (Int.toNat ((↑(List.length l4) : Int) - i4))) ∧ (((ite ((Sp.cmdsErr l (List.drop (Int.toNat (i4 + 1)) l4)) = 0) (LOut.brk ((↑(List.length l4) : Int), (Sp.labs l))) (LOut.ret (Sp.cmdsErr l (List.drop (Int.toNat (i4 + 1)) l4)))) : (LOut (Int × (List (ByteArray × Int))) Int)) = (ite ((Sp.cmdsErr l (List.drop (Int.toNat i4) l4)) = 0) (LOut.brk ((↑(List.length l4) : Int), (Sp.labs l))) (LOut.ret (Sp.cmdsErr l (List.drop (Int.toNat i4) l4))))))))))))))))) (((ite ((Sp.cmdsErr l (List.drop (Int.toNat i4) l4)) = 0) (LOut.brk ((↑(List.length l4) : Int), (Sp.labs l))) (LOut.ret (Sp.cmdsErr l (List.drop (Int.toNat i4) l4)))) : (LOut (Int × (List (ByteArray × Int))) Int)) = (LOut.brk (i4, l5)))))))))
def special_Check.l2 (l : (List Blk)) : Prop :=
  (∀ l2 : (List Blk), (∀ i1 : Int, (∀ i2 : Int, (∀ l3 : (List (ByteArray × Int)), (((l2 = l) ∧ ((i1 = (↑(List.length l2) : Int)) ∧ ((0 ≤ i2) ∧ ((i2 ≤ (↑(List.length l2) : Int)) ∧ (((List.length l2) < 9223372036854775808) ∧ (l3 = (Sp.labs l))))))) → (ifB (decide (i2 < i1)) (((0 ≤ i2) ∧ (i2 < (↑(List.length l2) : Int))) ∧ (((List.length (Blk.cmds (nth (Inhabited.default) l2 i2))) < 9223372036854775808) → ((((↑(List.length (Blk.cmds (nth (Inhabited.default) l2 i2))) : Int) = (↑(List.length (Blk.cmds (nth (Inhabited.default) l2 i2))) : Int)) ∧ (((0 : Int) ≤ 0) ∧ ((0 ≤ (↑(List.length (Blk.cmds (nth (Inhabited.default) l2 i2))) : Int)) ∧ (((List.length (Blk.cmds (nth (Inhabited.default) l2 i2))) < 9223372036854775808) ∧ ((l3 = (Sp.labs l)) ∧ (∀ x : Cmd, ((Membership.mem (Blk.cmds (nth (Inhabited.default) l2 i2)) x) → (Sp.okL ((Cmd.sym x) :: ([] : (List Tm))))))))))) ∧ ((special_Check.l4 l) ∧ ((∀ i3 : Int, (∀ l4 : (List (ByteArray × Int)), ((((ite ((Sp.cmdsErr l (List.drop (Int.toNat 0) (Blk.cmds (nth (Inhabited.default) l2 i2)))) = 0) (LOut.brk ((↑(List.length (Blk.cmds (nth (Inhabited.default) l2 i2))) : Int), (Sp.labs l))) (LOut.ret (Sp.cmdsErr l (List.drop (Int.toNat 0) (Blk.cmds (nth (Inhabited.default) l2 i2)))))) : (LOut (Int × (List (ByteArray × Int))) Int)) = (LOut.brk (i3, l4))) → ((inR Go.IntKind.i64 (i2 + 1)) ∧ (((l2 = l) ∧ ((i1 = (↑(List.length l2) : Int)) ∧ ((0 ≤ (i2 + 1)) ∧ (((i2 + 1) ≤ (↑(List.length l2) : Int)) ∧ (((List.length l2) < 9223372036854775808) ∧ (l4 = (Sp.labs l))))))) ∧ (((Int.toNat ((↑(List.length l2) : Int) - (i2 + 1))) < (Int.toNat ((↑(List.length l2) : Int) - i2))) ∧ (((ite ((Sp.blksErr l (List.drop (Int.toNat (i2 + 1)) l)) = 0) (LOut.brk ((↑(List.length l) : Int), (Sp.labs l))) (LOut.ret (Sp.blksErr l (List.drop (Int.toNat (i2 + 1)) l)))) : (LOut (Int × (List (ByteArray × Int))) Int)) = (ite ((Sp.blksErr l (List.drop (Int.toNat i2) l)) = 0) (LOut.brk ((↑(List.length l) : Int), (Sp.labs l))) (LOut.ret (Sp.blksErr l (List.drop (Int.toNat i2) l))))))))))) ∧ (∀ i3 : Int, ((((ite ((Sp.cmdsErr l (List.drop (Int.toNat 0) (Blk.cmds (nth (Inhabited.default) l2 i2)))) = 0) (LOut.brk ((↑(List.length (Blk.cmds (nth (Inhabited.default) l2 i2))) : Int), (Sp.labs l))) (LOut.ret (Sp.cmdsErr l (List.drop (Int.toNat 0) (Blk.cmds (nth (Inhabited.default) l2 i2)))))) : (LOut (Int × (List (ByteArray × Int))) Int)) = (LOut.ret i3)) → (((ite ((Sp.blksErr l (List.drop (Int.toNat i2) l)) = 0) (LOut.brk ((↑(List.length l) : Int), (Sp.labs l))) (LOut.ret (Sp.blksErr l (List.drop (Int.toNat i2) l)))) : (LOut (Int × (List (ByteArray × Int))) Int)) = (LOut.ret i3))))))))) (((ite ((Sp.blksErr l (List.drop (Int.toNat i2) l)) = 0) (LOut.brk ((↑(List.length l) : Int), (Sp.labs l))) (LOut.ret (Sp.blksErr l (List.drop (Int.toNat i2) l)))) : (LOut (Int × (List (ByteArray × Int))) Int)) = (LOut.brk (i2, l3)))))))))
def special_Check.t (l : (List Blk)) : Prop :=
  (((List.length l) < 9223372036854775808) → (ifB (((decide ((↑(List.length l) : Int) < 1)) || (decide (30 < (↑(List.length l) : Int)))) || (List.any l Sp.longB)) ((Sp.check l) = 5) (((List.length l) < 9223372036854775808) → (((l = l) ∧ (((↑(List.length l) : Int) = (↑(List.length l) : Int)) ∧ (((0 : Int) ≤ 0) ∧ ((0 ≤ (↑(List.length l) : Int)) ∧ (((List.length l) < 9223372036854775808) ∧ (([] : (List (ByteArray × Bool))) = (Sp.seenB l (Int.toNat 0)))))))) ∧ ((special_Check.l0 l) ∧ ((∀ i : Int, (∀ l1 : (List (ByteArray × Bool)), ((((ite ((Sp.labErr l (List.drop (Int.toNat 0) l) 0) = 0) (LOut.brk ((↑(List.length l) : Int), (Sp.seenB l (List.length l)))) (LOut.ret (Sp.labErr l (List.drop (Int.toNat 0) l) 0))) : (LOut (Int × (List (ByteArray × Bool))) Int)) = (LOut.brk (i, l1))) → (((List.length l) < 9223372036854775808) → (((l = l) ∧ (((↑(List.length l) : Int) = (↑(List.length l) : Int)) ∧ (((0 : Int) ≤ 0) ∧ ((0 ≤ (↑(List.length l) : Int)) ∧ (((List.length l) < 9223372036854775808) ∧ ((Sp.labs l) = (Sp.labs l))))))) ∧ ((special_Check.l2 l) ∧ ((∀ i1 : Int, (∀ l2 : (List (ByteArray × Int)), ((((ite ((Sp.blksErr l (List.drop (Int.toNat 0) l)) = 0) (LOut.brk ((↑(List.length l) : Int), (Sp.labs l))) (LOut.ret (Sp.blksErr l (List.drop (Int.toNat 0) l)))) : (LOut (Int × (List (ByteArray × Int))) Int)) = (LOut.brk (i1, l2))) → ((Sp.check l) = 0)))) ∧ (∀ i1 : Int, ((((ite ((Sp.blksErr l (List.drop (Int.toNat 0) l)) = 0) (LOut.brk ((↑(List.length l) : Int), (Sp.labs l))) (LOut.ret (Sp.blksErr l (List.drop (Int.toNat 0) l)))) : (LOut (Int × (List (ByteArray × Int))) Int)) = (LOut.ret i1)) → ((Sp.check l) = i1)))))))))) ∧ (∀ i : Int, ((((ite ((Sp.labErr l (List.drop (Int.toNat 0) l) 0) = 0) (LOut.brk ((↑(List.length l) : Int), (Sp.seenB l (List.length l)))) (LOut.ret (Sp.labErr l (List.drop (Int.toNat 0) l) 0))) : (LOut (Int × (List (ByteArray × Bool))) Int)) = (LOut.ret i)) → ((Sp.check l) = i)))))))))
theorem special_Check.w (l : (List Blk)) : wpF Go.Proofs.Try.prog (lookC [(28, term_Value.C), (32, special_labels.C), (33, special_word.C), (39, slices_ContainsFunc__long.C), (40, special_Command_check.C)]) 15 [.lst (.nm 2)] [.int .i64] (special_Check.Λ l) (fun _ => none) l (fun r => (Sp.check l) = r) = special_Check.t l := by kernel_rfl
end Go.AL

namespace Go.AL
set_option linter.unusedVariables false
set_option linter.unusedSimpArgs false
set_option maxRecDepth 10000
attribute [local irreducible] wpF wpFX wpM
theorem special_uses.ok (W : World) : CtrOK Go.Proofs.Try.prog W 68 special_uses.C := by
  refine const_ok (Γ := lookC []) (n := 7) (rvs := [.cell 0 true 18]) (ac := special_uses.K) rfl (lookC_ok fun p hp => by cases hp) (by kernel_rfl) ?_
  have e : (inlK (lookC []) 7 [.cell 0 true 18] special_uses.K).run [] { env := [], hp := [], live := [], nx := 0 } (fun v _ => v = .agg (ofAVs special_uses.cs)) = (VV.agg (ofAVs special_uses.cs) = VV.agg (ofAVs special_uses.cs)) := by kernel_rfl
  exact e.mpr rfl
theorem alook_aset {β : Type} (k s : ByteArray) (v : β) : ∀ m : List (ByteArray × β), alook (aset m k v) s = if s = k then some v else alook m s
  | [] => by simp [aset, alook]
  | (a, b) :: m => by
    have ih := alook_aset k s v m
    rw [aset]
    by_cases h : k = a
    · subst h
      rw [if_pos rfl, alook, alook]
      by_cases h2 : s = k
      · simp [h2]
      · simp [h2]
    · rw [if_neg h, alook, alook, ih]
      by_cases h2 : s = a
      · subst h2; rw [if_pos rfl, if_neg (fun e => h e.symm), if_pos rfl]
      · simp [h2]
theorem Sp.labs_some : ∀ (l : List Blk) (i : Int) (m : List (ByteArray × Int)) (s : ByteArray), (alook (Sp.labsFrom l i m) s).isSome = (decide (0 ≤ Sp.find l s) || (alook m s).isSome)
  | [], i, m, s => by simp [Sp.labsFrom, Sp.find]
  | b :: l, i, m, s => by
    rw [Sp.labsFrom, Sp.labs_some l, alook_aset, Sp.find]
    have := Sp.find_in l s
    by_cases h : b.label = s
    · simp [h]
    · rw [if_neg h, if_neg (fun e => h e.symm)]
      by_cases h2 : Sp.find l s = -1
      · simp [h2]
      · rw [if_neg h2]; congr 1; rw [Bool.eq_iff_iff]; simp only [decide_eq_true_eq]; omega
theorem Sp.labs_is (l : List Blk) (s : ByteArray) : (alook (Sp.labs l) s).isSome = decide (0 ≤ Sp.find l s) := by
  unfold Sp.labs; rw [Sp.labs_some]; simp [alook]
theorem Sp.seen_look (l : List Blk) (s : ByteArray) : ∀ i, alook (Sp.seenB l i) s = if (l.take i).any (fun b => decide (b.label = s)) then some true else none := by
  have key : ∀ (q : List Blk) (m : List (ByteArray × Bool)), alook (q.foldl (fun m b => aset m b.label true) m) s = if q.any (fun b => decide (b.label = s)) then some true else alook m s := by
    intro q
    induction q with
    | nil => intro m; simp
    | cons b q ih =>
      intro m
      rw [List.foldl_cons, ih, alook_aset, List.any_cons]
      by_cases h : b.label = s
      · simp [h]
      · have h' : ¬ s = b.label := fun e => h e.symm
        simp only [h, h', decide_false, Bool.false_or, if_false]
  intro i
  unfold Sp.seenB
  rw [key]; rfl
theorem Sp.seen_next (l : List Blk) {i : Nat} (h : i < l.length) : Sp.seenB l (i + 1) = aset (Sp.seenB l i) (nth default l (i : Int)).label true := by
  unfold Sp.seenB
  have := take_nth (d := default) (l := l) (i := (i : Int)) (by simpa using h)
  rw [Int.toNat_natCast] at this
  rw [this, List.foldl_append]; rfl
theorem Sp.find_first : ∀ (l : List Blk) (i : Nat), i < l.length → (Sp.find l (nth default l (i : Int)).label = (i : Int) ↔ (l.take i).any (fun b => decide (b.label = (nth default l (i : Int)).label)) = false)
  | b :: l, 0, h => by
    rw [Sp.find]
    simp [nth]
  | b :: l, i + 1, h => by
    have ih := Sp.find_first l i (by simpa using h)
    have e : nth default (b :: l) ((i + 1 : Nat) : Int) = nth default l (i : Int) := by
      simp [nth]
    rw [e, Sp.find, List.take_succ_cons, List.any_cons]
    have := Sp.find_in l (nth default l (i : Int)).label
    by_cases h2 : b.label = (nth default l (i : Int)).label
    · rw [if_pos h2]
      simp [h2]; omega
    · rw [if_neg h2]
      simp only [h2, decide_false, Bool.false_or]
      rw [← ih]
      by_cases h3 : Sp.find l (nth default l (i : Int)).label = -1
      · rw [if_pos h3]; omega
      · rw [if_neg h3]; omega
theorem nthSym {k : Int} (h : 0 ≤ k ∧ k < 6) : nth false (false :: (true :: (false :: (true :: (false :: (false :: ([] : List Bool))))))) k = decide (k = 1 ∨ k = 3) := by
  have : k = 0 ∨ k = 1 ∨ k = 2 ∨ k = 3 ∨ k = 4 ∨ k = 5 := by omega
  rcases this with rfl | rfl | rfl | rfl | rfl | rfl <;> rfl
theorem nthLab {k : Int} (h : 0 ≤ k ∧ k < 6) : nth false (false :: (false :: (true :: (true :: (true :: (false :: ([] : List Bool))))))) k = decide (k = 2 ∨ k = 3 ∨ k = 4) := by
  have : k = 0 ∨ k = 1 ∨ k = 2 ∨ k = 3 ∨ k = 4 ∨ k = 5 := by omega
  rcases this with rfl | rfl | rfl | rfl | rfl | rfl <;> rfl
theorem cmds_ret {l : List Blk} {xs : List Cmd} {c : Cmd} {r : List Cmd} {e : Int} {V : Type} {v : V} (hx : xs = c :: r) (he : Sp.cmdErr l c = e) (h0 : e ≠ 0) :
    (if Sp.cmdsErr l xs = 0 then LOut.brk v else LOut.ret (Sp.cmdsErr l xs) : LOut V Int) = LOut.ret e := by
  have : Sp.cmdsErr l xs = e := by rw [hx, Sp.cmdsErr, he, if_neg h0]
  rw [this, if_neg h0]
theorem special_word.main (s : ByteArray) : special_word.t s := rfl
theorem special_word.ok (W : World) : CtrOK Go.Proofs.Try.prog W 33 special_word.C := by
  refine funOK (Γ := lookC []) (lookC_ok (fun p hp => by cases hp)) (Λ := fun a_ => match a_ with | s => (fun _ => none)) (Λr := fun a_ => match a_ with | s => (fun _ => none)) ?_
  intro a ha
  refine Eq.mpr ?_ (@special_word.main a)
  kernel_rfl
theorem special_Check_1.main (b : Blk) : special_Check_1.t b := fun _ => rfl
theorem special_Check_1.ok (W : World) : CtrOK Go.Proofs.Try.prog W 38 special_Check_1.C := by
  refine funOK (Γ := lookC []) (lookC_ok (fun p hp => by cases hp)) (Λ := fun a_ => match a_ with | b => (fun _ => none)) (Λr := fun a_ => match a_ with | b => (fun _ => none)) ?_
  intro a ha
  refine Eq.mpr ?_ (@special_Check_1.main a)
  kernel_rfl
theorem slices_IndexFunc__long.l0_ok (l : List Blk) : slices_IndexFunc__long.l0 l := by
  rintro l1 n i ⟨e1, e2, h1, h2, h3⟩
  subst l1 n
  refine ifD (fun h => ?_) fun h => ?_
  · have hi : i.toNat < l.length := by omega
    have e := nth_drop (d := default) hi
    refine ⟨by omega, ?_⟩
    rintro b hb
    rw [e]
    refine ifB_of (fun h4 => ?_) fun h4 => ?_
    · rw [List.any_cons, Sp.idxB, hb, h4]; simp
    · refine ⟨inR64 (by omega), ⟨by trivial, by trivial, by omega, by omega, h3⟩, by omega, ?_⟩
      rw [List.any_cons, Sp.idxB, hb, h4, show (i + 1).toNat = i.toNat + 1 by omega]
      simp only [Bool.false_or, Bool.false_eq_true, if_false]
      by_cases hc : (List.drop (i.toNat + 1) l).any Sp.longB = true
      · rw [if_pos hc, if_pos hc]
        have h5 := Sp.idxB_any Sp.longB (List.drop (i.toNat + 1) l)
        rw [hc] at h5
        simp only [decide_eq_true_eq] at h5
        rw [if_neg (by omega)]; congr 1; omega
      · rw [if_neg hc, if_neg hc]
  · rw [List.drop_eq_nil_of_le (by omega)]
    simp; omega
theorem slices_IndexFunc__long.main (l : List Blk) : slices_IndexFunc__long.t l := by
  refine fun h => ⟨⟨rfl, rfl, by omega, by omega, h⟩, slices_IndexFunc__long.l0_ok l, fun i h => ?_, fun i h => ?_⟩
  · have h5 := Sp.idxB_any Sp.longB l
    have h6 := Sp.idxB_ge Sp.longB l
    simp only [Int.toNat_zero, List.drop_zero] at h
    split at h
    · cases h
    · rename_i h7
      have : l.any Sp.longB = false := by simpa using h7
      rw [this] at h5; simp only [decide_eq_false_iff_not] at h5; omega
  · simp only [Int.toNat_zero, List.drop_zero] at h
    split at h
    · simp only [LOut.ret.injEq] at h; omega
    · cases h
theorem slices_IndexFunc__long.ok (W : World) : CtrOK Go.Proofs.Try.prog W 67 slices_IndexFunc__long.C := by
  refine funOKX (Γ := lookC [(38, special_Check_1.C)]) (lookC_ok (fun p hp => by
    simp only [List.mem_cons, List.not_mem_nil, or_false] at hp
    subst hp; exact special_Check_1.ok W)) (Λ := fun a_ => match a_ with | l => (slices_IndexFunc__long.Λ l)) (Λr := fun a_ => match a_ with | l => (fun _ => none)) ?_
  intro a ha
  refine Eq.mpr ?_ (@slices_IndexFunc__long.main a)
  kernel_rfl
theorem slices_ContainsFunc__long.main (l : List Blk) : slices_ContainsFunc__long.t l := by
  rintro i rfl
  exact (Sp.idxB_any Sp.longB l).symm
theorem slices_ContainsFunc__long.ok (W : World) : CtrOK Go.Proofs.Try.prog W 39 slices_ContainsFunc__long.C := by
  refine funOKX (Γ := lookC [(38, special_Check_1.C), (67, slices_IndexFunc__long.C)]) (lookC_ok (fun p hp => by
    simp only [List.mem_cons, List.not_mem_nil, or_false] at hp
    rcases hp with rfl | rfl
    · exact special_Check_1.ok W
    · exact slices_IndexFunc__long.ok W)) (Λ := fun a_ => match a_ with | l => (fun _ => none)) (Λr := fun a_ => match a_ with | l => (fun _ => none)) ?_
  intro a ha
  refine Eq.mpr ?_ (@slices_ContainsFunc__long.main a)
  kernel_rfl
theorem special_Command_check.ok (W : World) : CtrOK Go.Proofs.Try.prog W 40 special_Command_check.C := by
  refine inlK_ok (lookC_ok (fun p hp => by
    simp only [List.mem_cons, List.not_mem_nil, or_false] at hp
    rcases hp with rfl | rfl | rfl
    · exact term_Value.ok W
    · exact special_uses.ok W
    · exact term_IsSymbol.ok W)) ?_
  kernel_rfl
theorem special_Check.l0_ok (l : List Blk) : special_Check.l0 l := by
  rintro l1 n i seen ⟨e1, e2, h1, h2, h3, h4⟩
  subst l1 n
  refine ifD (fun h => ?_) fun h => ?_
  · have hi : i.toNat < l.length := by omega
    have e := nth_drop (d := default) hi
    refine ⟨by omega, ?_⟩
    rintro x rfl
    refine ⟨by simp [Sp.okL, Sp.wrd, Sp.nodesL, Sp.nodesT], ?_⟩
    rintro w hw
    have el : Sp.labErr l (l.drop i.toNat) i = if w = 0 then (if Sp.find l (nth default l i).label = i then Sp.labErr l (l.drop (i.toNat + 1)) (i + 1) else 10) else 340 := by
      rw [e, Sp.labErr, hw]
    have ff := Sp.find_first l i.toNat hi
    rw [show (i.toNat : Int) = i by omega] at ff
    have hs := Sp.seen_look l (nth default l i).label i.toNat
    rw [← h4] at hs
    rw [el]
    refine ifB_of (fun hc => ?_) fun hc => ?_
    · simp only [Bool.and_eq_true, Bool.or_eq_true, Bool.not_eq_true', Bool.or_eq_false_iff, Bool.and_eq_false_iff, Bool.not_eq_false', decide_eq_true_eq, decide_eq_false_iff_not, mk_empty] at hc
      rw [if_neg hc]; rfl
    · simp only [Bool.and_eq_true, Bool.or_eq_true, Bool.not_eq_true', Bool.or_eq_false_iff, Bool.and_eq_false_iff, Bool.not_eq_false', decide_eq_true_eq, decide_eq_false_iff_not, mk_empty] at hc
      rw [if_pos hc]
      refine ifB_of (fun hc2 => ?_) fun hc2 => ?_
      · rw [hs] at hc2
        have : ¬ Sp.find l (nth default l i).label = i := by
          rw [ff]; intro h5; rw [h5] at hc2; simp at hc2
        rw [if_neg this]; rfl
      · have : Sp.find l (nth default l i).label = i := by
          rw [ff]
          cases h5 : (List.take i.toNat l).any (fun b => decide (b.label = (nth default l i).label)) with
          | false => rfl
          | true => rw [hs, h5] at hc2; simp at hc2
        rw [if_pos this]
        refine ⟨inR64 (by omega), ⟨by trivial, by trivial, by omega, by omega, h3, ?_⟩, by omega, ?_⟩
        · rw [show (i + 1).toNat = i.toNat + 1 by omega, Sp.seen_next l hi, show (i.toNat : Int) = i by omega, ← h4]
        · rw [show (i + 1).toNat = i.toNat + 1 by omega]
  · have : i = l.length := by omega
    subst this
    rw [List.drop_eq_nil_of_le (by omega), Sp.labErr, if_pos rfl, h4]
    simp
theorem special_Check.l4_ok (l : List Blk) : special_Check.l4 l := by
  rintro xs n i known ⟨e2, h1, h2, h3, h4, h5⟩
  subst n known
  refine ifD (fun h => ?_) fun h => ?_
  · have hi : i.toNat < xs.length := by omega
    have e := nth_drop (d := default) hi
    have hm := h5 _ (nth_mem (d := default) hi)
    generalize nth default xs i = c at e hm
    rw [Tm.eta]
    refine ⟨by omega, ?_⟩
    refine ifB_of (fun hk => ?_) fun hk => ?_
    · simp only [Bool.and_eq_true, Bool.or_eq_true, Bool.not_eq_true', Bool.or_eq_false_iff, Bool.and_eq_false_iff, Bool.not_eq_false', decide_eq_true_eq, decide_eq_false_iff_not, mk_empty] at hk
      simp only [Bool.not_false, ifB_true]
      exact cmds_ret e (by rw [Sp.cmdErr, if_pos hk]) (by decide)
    · simp only [Bool.and_eq_true, Bool.or_eq_true, Bool.not_eq_true', Bool.or_eq_false_iff, Bool.and_eq_false_iff, Bool.not_eq_false', decide_eq_true_eq, decide_eq_false_iff_not, mk_empty] at hk
      refine ⟨by omega, ?_⟩
      rintro s hs
      refine ⟨fun _ => hm, ?_⟩
      rw [nthSym (by omega), nthLab (by omega)]
      have hz : Sp.zeroT c.sym = ((decide (c.sym.kind = 0) && decide (c.sym.text = ByteArray.empty)) && decide ((c.sym.kids.length : Int) = 0)) := rfl
      rw [mk_empty, ← hz]
      have ce : Sp.cmdErr l c = if (c.kind = 1 ∨ c.kind = 3) ∧ ¬ (s = true ∧ Sp.wrong [c.sym] 4 = 0) then 340 else
          if ¬ (c.kind = 1 ∨ c.kind = 3) ∧ ¬ Sp.zeroT c.sym = true then 340 else
          if ¬ (c.kind = 2 ∨ c.kind = 3 ∨ c.kind = 4) ∧ c.label ≠ ByteArray.empty then 340 else
          if (c.kind = 2 ∨ c.kind = 3 ∨ c.kind = 4) ∧ Sp.find l c.label < 0 then 9 else 0 := by
        rw [Sp.cmdErr, if_neg (by omega), hs]
      rw [Sp.labs_is]
      refine ifB_of (fun hc => ?_) fun hc => ?_
      · simp only [Bool.not_false, ifB_true]
        refine cmds_ret e ?_ (by decide)
        rw [ce]
        simp only [Bool.and_eq_true, Bool.or_eq_true, Bool.not_eq_true', Bool.or_eq_false_iff, Bool.and_eq_false_iff, Bool.not_eq_false', decide_eq_true_eq, decide_eq_false_iff_not, mk_empty] at hc
        by_cases q1 : (c.kind = 1 ∨ c.kind = 3) ∧ ¬ (s = true ∧ Sp.wrong [c.sym] 4 = 0)
        · rw [if_pos q1]
        rw [if_neg q1]
        by_cases q2 : ¬ (c.kind = 1 ∨ c.kind = 3) ∧ ¬ Sp.zeroT c.sym = true
        · rw [if_pos q2]
        rw [if_neg q2]
        by_cases q3 : ¬ (c.kind = 2 ∨ c.kind = 3 ∨ c.kind = 4) ∧ c.label ≠ ByteArray.empty
        · rw [if_pos q3]
        exfalso
        rcases hc with (hc | hc) | hc
        · refine q1 ⟨hc.1, fun hh => ?_⟩
          rcases hc.2 with h6 | h6
          · rw [hh.1] at h6; cases h6
          · exact h6 hh.2
        · exact q2 ⟨hc.1, by rw [hc.2]; simp⟩
        · exact q3 hc
      · simp only [Bool.and_eq_true, Bool.or_eq_true, Bool.not_eq_true', Bool.or_eq_false_iff, Bool.and_eq_false_iff, Bool.not_eq_false', decide_eq_true_eq, decide_eq_false_iff_not, mk_empty] at hc
        obtain ⟨⟨q1, q2⟩, q3⟩ := hc
        have c1 : ¬ ((c.kind = 1 ∨ c.kind = 3) ∧ ¬ (s = true ∧ Sp.wrong [c.sym] 4 = 0)) := by
          rintro ⟨h6, h7⟩
          rcases q1 with q1 | q1
          · exact q1 h6
          · exact h7 q1
        have c2 : ¬ (¬ (c.kind = 1 ∨ c.kind = 3) ∧ ¬ Sp.zeroT c.sym = true) := by
          rintro ⟨h6, h7⟩
          rcases q2 with q2 | q2
          · exact h6 q2
          · exact h7 q2
        have c3 : ¬ (¬ (c.kind = 2 ∨ c.kind = 3 ∨ c.kind = 4) ∧ c.label ≠ ByteArray.empty) := by
          rintro ⟨h6, h7⟩
          rcases q3 with q3 | q3
          · exact h6 q3
          · exact h7 q3
        rw [if_neg c1, if_neg c2, if_neg c3] at ce
        refine ifB_of (fun hc => ?_) fun hc => ?_
        · simp only [Bool.and_eq_true, Bool.or_eq_true, Bool.not_eq_true', Bool.or_eq_false_iff, Bool.and_eq_false_iff, Bool.not_eq_false', decide_eq_true_eq, decide_eq_false_iff_not, mk_empty] at hc
          simp only [Bool.not_false, ifB_true]
          exact cmds_ret e (by rw [ce, if_pos ⟨hc.1, by omega⟩]) (by decide)
        · simp only [Bool.and_eq_true, Bool.or_eq_true, Bool.not_eq_true', Bool.or_eq_false_iff, Bool.and_eq_false_iff, Bool.not_eq_false', decide_eq_true_eq, decide_eq_false_iff_not, mk_empty] at hc
          simp only [Bool.not_true, ifB_false]
          have c4 : ¬ ((c.kind = 2 ∨ c.kind = 3 ∨ c.kind = 4) ∧ Sp.find l c.label < 0) := by
            rintro ⟨h6, h7⟩
            rcases hc with hc | hc
            · exact hc h6
            · omega
          rw [if_neg c4] at ce
          refine ⟨inR64 (by omega), ⟨by trivial, by omega, by omega, h3, by trivial, h5⟩, by omega, ?_⟩
          rw [e, Sp.cmdsErr, ce, if_pos rfl, show (i + 1).toNat = i.toNat + 1 by omega]
  · have : i = xs.length := by omega
    subst this
    rw [List.drop_eq_nil_of_le (by omega), Sp.cmdsErr, if_pos rfl]
theorem special_Check.l2_ok (l : List Blk) (ha : ∀ b ∈ l, ∀ c ∈ b.cmds, Sp.okL [c.sym]) : special_Check.l2 l := by
  rintro l1 n i known ⟨e1, e2, h1, h2, h3, h4⟩
  subst l1 n known
  refine ifD (fun h => ?_) fun h => ?_
  · have hi : i.toNat < l.length := by omega
    have e := nth_drop (d := default) hi
    refine ⟨by omega, fun hl => ⟨⟨rfl, by omega, by omega, hl, rfl, ha _ (nth_mem hi)⟩, special_Check.l4_ok l, fun a b h6 => ?_, fun a h6 => ?_⟩⟩
    · obtain ⟨h7, h8⟩ := ite_brk h6
      simp only [Prod.mk.injEq] at h8
      rw [Int.toNat_zero, List.drop_zero] at h7
      refine ⟨inR64 (by omega), ⟨by trivial, by trivial, by omega, by omega, h3, h8.2.symm⟩, by omega, ?_⟩
      rw [e, Sp.blksErr, if_pos h7, show (i + 1).toNat = i.toNat + 1 by omega]
    · obtain ⟨h7, h8⟩ := ite_ret h6
      rw [Int.toNat_zero, List.drop_zero] at h7 h8
      rw [e, Sp.blksErr, if_neg h7, if_neg h7, h8]
  · have : i = l.length := by omega
    subst this
    rw [List.drop_eq_nil_of_le (by omega), Sp.blksErr, if_pos rfl]
theorem special_Check.main (l : List Blk) (ha : ∀ b ∈ l, ∀ c ∈ b.cmds, Sp.okL [c.sym]) : special_Check.t l := by
  intro hl
  have hlong : l.any Sp.longB = l.any (fun b => decide (30 < b.cmds.length)) := by
    congr 1; funext b; unfold Sp.longB; rw [Bool.eq_iff_iff]; simp only [decide_eq_true_eq]; omega
  refine ifB_of (fun hc => ?_) fun hc => fun _ => ?_
  · simp only [Bool.and_eq_true, Bool.or_eq_true, Bool.not_eq_true', Bool.or_eq_false_iff, Bool.and_eq_false_iff, Bool.not_eq_false', decide_eq_true_eq, decide_eq_false_iff_not, mk_empty] at hc
    rw [hlong] at hc
    unfold Sp.check
    rcases hc with hc | hc
    · rw [if_pos (by omega)]
    · split
      · rfl
      · first | rfl | rw [if_pos hc]
  · simp only [Bool.and_eq_true, Bool.or_eq_true, Bool.not_eq_true', Bool.or_eq_false_iff, Bool.and_eq_false_iff, Bool.not_eq_false', decide_eq_true_eq, decide_eq_false_iff_not, mk_empty] at hc
    rw [hlong] at hc
    have ec : Sp.check l = if Sp.labErr l l 0 = 0 then Sp.blksErr l l else Sp.labErr l l 0 := by
      unfold Sp.check
      rw [if_neg (by omega), if_neg (by rw [hc.2]; simp)]
    refine ⟨⟨rfl, rfl, by omega, by omega, hl, rfl⟩, special_Check.l0_ok l, fun a b h6 => ?_, fun a h6 => ?_⟩
    · obtain ⟨h7, h8⟩ := ite_brk h6
      rw [Int.toNat_zero, List.drop_zero] at h7
      rw [if_pos h7] at ec
      refine fun _ => ⟨⟨rfl, rfl, by omega, by omega, hl, rfl⟩, special_Check.l2_ok l ha, fun a b h9 => ?_, fun a h9 => ?_⟩
      · obtain ⟨h10, _⟩ := ite_brk h9
        rw [ec]; simpa using h10
      · obtain ⟨_, h10⟩ := ite_ret h9
        rw [ec]; simpa using h10
    · obtain ⟨h7, h8⟩ := ite_ret h6
      rw [Int.toNat_zero, List.drop_zero] at h7 h8
      rw [ec, if_neg h7, h8]
theorem special_Check.ok (W : World) : CtrOK Go.Proofs.Try.prog W 15 special_Check.C := by
  refine funOK (Γ := lookC [(28, term_Value.C), (32, special_labels.C), (33, special_word.C), (39, slices_ContainsFunc__long.C), (40, special_Command_check.C)]) (lookC_ok (fun p hp => by
    simp only [List.mem_cons, List.not_mem_nil, or_false] at hp
    rcases hp with rfl | rfl | rfl | rfl | rfl
    · exact term_Value.ok W
    · exact special_labels.ok W
    · exact special_word.ok W
    · exact slices_ContainsFunc__long.ok W
    · exact special_Command_check.ok W)) (Λ := fun a_ => match a_ with | l => (special_Check.Λ l)) (Λr := fun a_ => match a_ with | l => (fun _ => none)) ?_
  intro a ha
  refine Eq.mpr ?_ (@special_Check.main a ha)
  kernel_rfl
end Go.AL
