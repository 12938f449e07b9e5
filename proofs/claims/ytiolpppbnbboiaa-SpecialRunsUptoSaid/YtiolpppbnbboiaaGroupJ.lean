/- Functions of the program: what they return, and that they do. -/
import Derived.Test.YtiolpppbnbboiaaGroupI
import Derived.Test.YtiolpppbnbboiaaProg
import Derived.KernelRfl
import Derived.Test.YtiolpppbnbboiaaEvalC

namespace Go.AL
set_option linter.unusedVariables false
end Go.AL
namespace Sp
open Go.AL
abbrev PS := List Cmd × Int × List (ByteArray × Int) × List Tm × List Tm × Int × ByteArray × List Tm × Bool
abbrev PO := LOut PS (List Tm × Int × Int)
def at0 (m : List (ByteArray × Int)) (s : ByteArray) : Int := (alook m s).getD 0
/-- A command of the program's run. -/
def prgStep (l : List Blk) (fuel : Int) : PS → PS ⊕ PO
  | (todo, n, kn, inp, out, pk, pt, pl, hal) =>
    if 0 < todo.length ∧ hal = false then
      if n = fuel then .inr (.ret ([], 0, 8)) else
      let c := nth default todo 0
      let next := todo.drop 1
      let jump : PS := ((nth default l (at0 kn c.label)).cmds, n + 1, kn, inp, out, pk, pt, pl, hal)
      if c.kind = 1 then (if 4000 < out.length + 1 then .inr (.ret ([], 0, 7)) else .inl (next, n + 1, kn, inp, out ++ [c.sym], pk, pt, pl, hal)) else
      if c.kind = 2 then (if inp.length = 0 then .inl jump else if (nth default inp 0).kind = 4 then .inr (.ret ([], 0, 20)) else .inl (next, n + 1, kn, inp.drop 1, out, (nth default inp 0).kind, (nth default inp 0).text, (nth default inp 0).kids, hal)) else
      if c.kind = 3 then (if pk = c.sym.kind ∧ pt = c.sym.text then .inl jump else .inl (next, n + 1, kn, inp, out, pk, pt, pl, hal)) else
      if c.kind = 4 then .inl jump else .inl (next, n + 1, kn, inp, out, pk, pt, pl, true)
    else .inr (.brk (todo, n, kn, inp, out, pk, pt, pl, hal))
end Sp
namespace Go.AL
def special_commands.cs : List AV := [.nilf, .fn (.func 60) [] [], .fn (.func 61) [] [], .fn (.func 62) [] [], .fn (.func 63) [] [], .fn (.func 64) [] []]
def special_commands.C : Ctr := constCtr special_commands.cs
def special_commands.K : AC :=
 .seq (.reg [⟨(some 0), none, .new [.nilf, .nilf, .nilf, .nilf, .nilf, .nilf]⟩] [])
 (.seq (.reg [⟨(some 1), none, .build [.nilf, .nilf, .nilf, .nilf, .nilf, .nilf] [(1, 1, (.c (.fn (.func 60) [] []))), (2, 1, (.c (.fn (.func 61) [] []))), (3, 1, (.c (.fn (.func 62) [] []))), (4, 1, (.c (.fn (.func 63) [] []))), (5, 1, (.c (.fn (.func 64) [] [])))]⟩, ⟨none, none, .st 6 (.t 0) (.t 1)⟩] [])
  (.ret))
def special_runner_write.K : AC :=
 .seq (.reg [⟨(some 3), none, .box (.t 1)⟩, ⟨(some 4), none, .mv (.c (.bool false))⟩, ⟨(some 5), none, .mv (.c (.int .i64 0))⟩] [])
 (.seq (.seq (.dreg [⟨(some 6), none, .mv (.t 0)⟩, ⟨(some 7), none, .nilck (.t 6)⟩, ⟨(some 8), none, .fa 1 1 (.t 7)⟩, ⟨(some 9), none, .ld false 1 (.t 8)⟩, ⟨(some 10), none, .fa 1 3 (.t 3)⟩, ⟨(some 11), none, .ld true 3 (.t 10)⟩, ⟨(some 12), none, .len (.t 9)⟩, ⟨(some 13), none, .bsl 3 1 (.agg [(.int .i64 0), (.str ⟨#[]⟩), (.lst 3 [] .clip)]) [(0, (.c (.agg [(.int .i64 0), (.str ⟨#[]⟩), (.lst 3 [] .clip)])))]⟩] [⟨(some 14), none, .appf 3 (.t 9) (.t 12) (.t 13) (.t 11)⟩, ⟨(some 15), none, .mv (.c .any)⟩, ⟨(some 16), none, .nilck (.t 6)⟩, ⟨(some 17), none, .fa 1 1 (.t 16)⟩, ⟨none, none, .st 1 (.t 17) (.t 14)⟩] [])
   (.seq (.reg [⟨(some 18), none, .mv (.t 0)⟩, ⟨(some 19), none, .nilck (.t 18)⟩, ⟨(some 20), none, .fa 1 1 (.t 19)⟩, ⟨(some 21), none, .ld false 1 (.t 20)⟩, ⟨(some 22), none, .len (.t 21)⟩, ⟨(some 23), none, .bin .gtr (.t 22) (.c (.int .i64 4000))⟩] [])
    (.cond (.t 23) (.seq (.reg [⟨(some 4), none, .mv (.c (.bool false))⟩, ⟨(some 5), none, .mv (.c (.int .i64 7))⟩] [])
      (.ret))
     (.skip))))
  (.seq (.reg [⟨(some 4), none, .mv (.c (.bool false))⟩, ⟨(some 5), none, .mv (.c (.int .i64 0))⟩] [])
   (.ret)))
def special_runner_write.C : Ctr := inlK (lookC []) 24 [.t 4, .t 5] special_runner_write.K
def special_runner_read.K : AC :=
 .seq (.reg [⟨(some 3), none, .box (.t 1)⟩, ⟨(some 4), none, .mv (.c (.bool false))⟩, ⟨(some 5), none, .mv (.c (.int .i64 0))⟩] [])
 (.seq (.seq (.reg [⟨(some 6), none, .mv (.t 0)⟩, ⟨(some 7), none, .nilck (.t 6)⟩, ⟨(some 8), none, .fa 0 1 (.t 7)⟩, ⟨(some 9), none, .ld false 1 (.t 8)⟩, ⟨(some 10), none, .len (.t 9)⟩, ⟨(some 11), none, .bin .eql (.t 10) (.c (.int .i64 0))⟩] [])
   (.cond (.t 11) (.seq (.reg [⟨(some 4), none, .mv (.c (.bool true))⟩, ⟨(some 5), none, .mv (.c (.int .i64 0))⟩] [])
     (.ret))
    (.skip)))
  (.seq (.seq (.reg [⟨(some 12), none, .mv (.t 0)⟩, ⟨(some 13), none, .nilck (.t 12)⟩, ⟨(some 14), none, .fa 0 1 (.t 13)⟩, ⟨(some 15), none, .ld false 1 (.t 14)⟩, ⟨(some 16), none, .ia 3 (.t 15) (.c (.int .i64 0))⟩, ⟨(some 17), none, .fa 0 1 (.t 16)⟩, ⟨(some 18), none, .ld false 1 (.t 17)⟩, ⟨(some 19), none, .bin .eql (.t 18) (.c (.int .i64 4))⟩] [])
    (.cond (.t 19) (.seq (.reg [⟨(some 4), none, .mv (.c (.bool false))⟩, ⟨(some 5), none, .mv (.c (.int .i64 20))⟩] [])
      (.ret))
     (.skip)))
   (.seq (.dreg [⟨(some 20), none, .mv (.t 0)⟩, ⟨(some 21), none, .mv (.t 0)⟩, ⟨(some 22), none, .mv (.t 0)⟩, ⟨(some 23), none, .nilck (.t 22)⟩, ⟨(some 24), none, .fa 0 1 (.t 23)⟩, ⟨(some 25), none, .ld false 1 (.t 24)⟩, ⟨(some 26), none, .ia 3 (.t 25) (.c (.int .i64 0))⟩, ⟨(some 27), none, .ld true 3 (.t 26)⟩, ⟨(some 28), none, .mv (.t 0)⟩, ⟨(some 29), none, .nilck (.t 28)⟩, ⟨(some 30), none, .fa 0 1 (.t 29)⟩, ⟨(some 31), none, .ld false 1 (.t 30)⟩, ⟨(some 32), none, .slc 3 (.t 31) (some (.c (.int .i64 1))) none none⟩] [⟨(some 33), none, .nilck (.t 20)⟩, ⟨(some 34), none, .fa 2 3 (.t 33)⟩, ⟨none, none, .st 3 (.t 34) (.t 27)⟩, ⟨(some 35), none, .nilck (.t 21)⟩, ⟨(some 36), none, .fa 0 1 (.t 35)⟩, ⟨none, none, .st 1 (.t 36) (.t 32)⟩] [])
    (.seq (.reg [⟨(some 4), none, .mv (.c (.bool false))⟩, ⟨(some 5), none, .mv (.c (.int .i64 0))⟩] [])
     (.ret)))))
def special_runner_read.C : Ctr := inlK (lookC []) 37 [.t 4, .t 5] special_runner_read.K
def special_runner_equal.K : AC :=
 .seq (.reg [⟨(some 3), none, .box (.t 1)⟩, ⟨(some 4), none, .mv (.c (.bool false))⟩, ⟨(some 5), none, .mv (.c (.int .i64 0))⟩] [])
 (.seq (.dreg [⟨(some 6), none, .mv (.t 0)⟩, ⟨(some 7), none, .nilck (.t 6)⟩, ⟨(some 8), none, .fa 2 3 (.t 7)⟩, ⟨(some 9), none, .fa 0 1 (.t 8)⟩, ⟨(some 10), none, .ld false 1 (.t 9)⟩, ⟨(some 11), none, .fa 1 3 (.t 3)⟩, ⟨(some 12), none, .fa 0 1 (.t 11)⟩, ⟨(some 13), none, .ld false 1 (.t 12)⟩, ⟨(some 14), none, .bin .eql (.t 10) (.t 13)⟩, ⟨(some 15), none, .mv (.t 14)⟩, ⟨(some 16), (some (15, true)), .mv (.t 0)⟩, ⟨(some 17), (some (15, true)), .nilck (.t 16)⟩, ⟨(some 18), (some (15, true)), .fa 2 3 (.t 17)⟩, ⟨(some 19), (some (15, true)), .fa 1 1 (.t 18)⟩, ⟨(some 20), (some (15, true)), .ld false 1 (.t 19)⟩, ⟨(some 21), (some (15, true)), .fa 1 3 (.t 3)⟩, ⟨(some 22), (some (15, true)), .fa 1 1 (.t 21)⟩, ⟨(some 23), (some (15, true)), .ld false 1 (.t 22)⟩] [⟨(some 24), (some (15, true)), .bin .eql (.t 20) (.t 23)⟩, ⟨(some 25), none, .pick (.t 15) (.t 24) (.c (.bool false))⟩, ⟨(some 4), none, .mv (.t 25)⟩, ⟨(some 5), none, .mv (.c (.int .i64 0))⟩] [])
  (.ret))
def special_runner_equal.C : Ctr := inlK (lookC []) 26 [.t 4, .t 5] special_runner_equal.K
def special_runner_goes.K : AC :=
 .seq (.reg [⟨(some 3), none, .box (.t 1)⟩, ⟨(some 4), none, .mv (.c (.bool false))⟩, ⟨(some 5), none, .mv (.c (.int .i64 0))⟩] [])
 (.seq (.reg [⟨(some 4), none, .mv (.c (.bool true))⟩, ⟨(some 5), none, .mv (.c (.int .i64 0))⟩] [])
  (.ret))
def special_runner_goes.C : Ctr := inlK (lookC []) 6 [.t 4, .t 5] special_runner_goes.K
def special_runner_halt.K : AC :=
 .seq (.reg [⟨(some 3), none, .box (.t 1)⟩, ⟨(some 4), none, .mv (.c (.bool false))⟩, ⟨(some 5), none, .mv (.c (.int .i64 0))⟩] [])
 (.seq (.reg [⟨(some 6), none, .mv (.t 0)⟩, ⟨(some 7), none, .nilck (.t 6)⟩, ⟨(some 8), none, .fa 5 1 (.t 7)⟩, ⟨none, none, .st 1 (.t 8) (.c (.bool true))⟩] [])
  (.seq (.reg [⟨(some 4), none, .mv (.c (.bool false))⟩, ⟨(some 5), none, .mv (.c (.int .i64 0))⟩] [])
   (.ret)))
def special_runner_halt.C : Ctr := inlK (lookC []) 9 [.t 4, .t 5] special_runner_halt.K
def special_Run.L0 : LD := { cs := [0, 2], cts := [.lst (.nm 2), .int .i64], pts := [(11, (.mp 0)), (12, (.loc 1 0))], vs := [13, 14], os := [(0, .map, [none]), (1, .plain, [none, none, none, none, none, none])], vts := [.lst (.nm 1), .int .i64, .lst (.pair (.str) (.int .i64)), .lst (.nm 0), .lst (.nm 0), .int .i64, .str, .lst (.nm 0), .bool], own := [false, false, false, false, true, false, false, false, false], ro := [0, 1, 2, 18, 19, 9, 20, 21, 23, 24, 10, 25, 26, 28, 29, 30, 31, 32, 33, 34, 35, 11, 36, 37, 38, 39, 12, 40, 41, 42, 43], nx := 100 }
def special_Run.Λ (l : (List Blk)) (input : (List Tm)) (fuel : Int) : Nat → Option (Loop (ElT [.lst (.nm 0), .int .i64, .int .i64])) := fun id =>
  if id = 0 then some (mkLoop special_Run.L0
    (fun (c_ : (List Blk) × Int) (s_ : (List Cmd) × Int × (List (ByteArray × Int)) × (List Tm) × (List Tm) × Int × ByteArray × (List Tm) × Bool) => match c_, s_ with | (c_l, c_fuel), (todo, n, kn, inp, out, pk, pt, pl, hal) => c_l = l ∧ c_fuel = fuel ∧ kn = Sp.labs l ∧ (∀ c ∈ todo, Sp.cmdErr l c = 0) ∧ 0 ≤ n ∧ n ≤ fuel ∧ todo.length < 9223372036854775808 ∧ out.length ≤ 4000)
    (fun (c_ : (List Blk) × Int) (s_ : (List Cmd) × Int × (List (ByteArray × Int)) × (List Tm) × (List Tm) × Int × ByteArray × (List Tm) × Bool) => match c_, s_ with | (c_l, c_fuel), (todo, n, kn, inp, out, pk, pt, pl, hal) => (fuel - n : Int).toNat)
    (fun (c_ : (List Blk) × Int) (s_ : (List Cmd) × Int × (List (ByteArray × Int)) × (List Tm) × (List Tm) × Int × ByteArray × (List Tm) × Bool) => match c_, s_ with | (c_l, c_fuel), (todo, n, kn, inp, out, pk, pt, pl, hal) => Sp.iter (Sp.prgStep l fuel) (.ret ([], 0, 0)) ((fuel - n).toNat + 1) (todo, n, kn, inp, out, pk, pt, pl, hal)) [] true) else
  none
def special_Run.C : Ctr := pureCtr [.lst (.nm 2), .lst (.nm 0), .int .i64] [.lst (.nm 0), .int .i64, .int .i64] (some (fun (a_ : (List Blk) × (List Tm) × Int) => match a_ with | (l, input, fuel) => (∀ b ∈ l, ∀ c ∈ b.cmds, Sp.okL [c.sym]) ∧ Sp.okL input)) (fun (a_ : (List Blk) × (List Tm) × Int) => match a_ with | (l, input, fuel) => (Sp.refRun l input fuel))
end Go.AL

namespace Go.AL
set_option linter.unusedVariables false
set_option maxRecDepth 10000
def special_Run.l0 (l : (List Blk)) (fuel : Int) : Prop :=
  (∀ l1 : (List Blk), (∀ i2 : Int, (∀ l2 : (List Cmd), (∀ i3 : Int, (∀ l3 : (List (ByteArray × Int)), (∀ l4 : (List Tm), (∀ l5 : (List Tm), (∀ i4 : Int, (∀ s : ByteArray, (∀ l6 : (List Tm), (∀ b : Bool, (((l1 = l) ∧ ((i2 = fuel) ∧ ((l3 = (Sp.labs l)) ∧ ((∀ x1 : Cmd, ((Membership.mem l2 x1) → ((Sp.cmdErr l x1) = 0))) ∧ ((0 ≤ i3) ∧ ((i3 ≤ fuel) ∧ (((List.length l2) < 9223372036854775808) ∧ ((List.length l5) ≤ 4000)))))))) → (((List.length l2) < 9223372036854775808) → (ifB ((decide (0 < (↑(List.length l2) : Int))) && (!b)) (ifB (decide (i3 = i2)) (((Sp.iter (Sp.prgStep l fuel) (LOut.ret (([] : (List Tm)), (0, 0))) ((Int.toNat (fuel - i3)) + 1) (l2, (i3, (l3, (l4, (l5, (i4, (s, (l6, b))))))))) : (LOut ((List Cmd) × (Int × ((List (ByteArray × Int)) × ((List Tm) × ((List Tm) × (Int × (ByteArray × ((List Tm) × Bool)))))))) ((List Tm) × (Int × Int)))) = (LOut.ret (([] : (List Tm)), (0, 8)))) ((((0 : Int) ≤ 0) ∧ (0 < (↑(List.length l2) : Int))) ∧ ((((0 : Int) ≤ 1) ∧ (1 ≤ (↑(List.length l2) : Int))) ∧ (((0 ≤ (Cmd.kind (nth (Inhabited.default) l2 0))) ∧ ((Cmd.kind (nth (Inhabited.default) l2 0)) < (↑6 : Int))) ∧ ((((Cmd.kind (nth (Inhabited.default) l2 0)) = (↑0 : Int)) → False) ∧ ((((Cmd.kind (nth (Inhabited.default) l2 0)) = (↑(0 + 1) : Int)) → (((↑(List.length l5) : Int) = (↑(List.length l5) : Int)) ∧ ((((List.length l5) + (List.length ((Tm.mk (Tm.kind (Cmd.sym (nth (Inhabited.default) l2 0))) (Tm.text (Cmd.sym (nth (Inhabited.default) l2 0))) (Tm.kids (Cmd.sym (nth (Inhabited.default) l2 0)))) :: ([] : (List Tm))))) ≤ 8589934592) ∧ (((List.length (l5 ++ ((Tm.mk (Tm.kind (Cmd.sym (nth (Inhabited.default) l2 0))) (Tm.text (Cmd.sym (nth (Inhabited.default) l2 0))) (Tm.kids (Cmd.sym (nth (Inhabited.default) l2 0)))) :: ([] : (List Tm))))) < 9223372036854775808) → (ifB (decide (4000 < (↑(List.length (l5 ++ ((Tm.mk (Tm.kind (Cmd.sym (nth (Inhabited.default) l2 0))) (Tm.text (Cmd.sym (nth (Inhabited.default) l2 0))) (Tm.kids (Cmd.sym (nth (Inhabited.default) l2 0)))) :: ([] : (List Tm))))) : Int))) (ifB (!Bool.false) (((Sp.iter (Sp.prgStep l fuel) (LOut.ret (([] : (List Tm)), (0, 0))) ((Int.toNat (fuel - i3)) + 1) (l2, (i3, (l3, (l4, (l5, (i4, (s, (l6, b))))))))) : (LOut ((List Cmd) × (Int × ((List (ByteArray × Int)) × ((List Tm) × ((List Tm) × (Int × (ByteArray × ((List Tm) × Bool)))))))) ((List Tm) × (Int × Int)))) = (LOut.ret (([] : (List Tm)), (0, 7)))) (ifB Bool.false (((0 ≤ (Option.getD (alook l3 (Cmd.label (nth (Inhabited.default) l2 0))) 0)) ∧ ((Option.getD (alook l3 (Cmd.label (nth (Inhabited.default) l2 0))) 0) < (↑(List.length l1) : Int))) ∧ ((inR Go.IntKind.i64 (i3 + 1)) ∧ (((l1 = l) ∧ ((i2 = fuel) ∧ ((l3 = (Sp.labs l)) ∧ ((∀ x1 : Cmd, ((Membership.mem (Blk.cmds (nth (Inhabited.default) l1 (Option.getD (alook l3 (Cmd.label (nth (Inhabited.default) l2 0))) 0))) x1) → ((Sp.cmdErr l x1) = 0))) ∧ ((0 ≤ (i3 + 1)) ∧ (((i3 + 1) ≤ fuel) ∧ (((List.length (Blk.cmds (nth (Inhabited.default) l1 (Option.getD (alook l3 (Cmd.label (nth (Inhabited.default) l2 0))) 0)))) < 9223372036854775808) ∧ ((List.length (l5 ++ ((Tm.mk (Tm.kind (Cmd.sym (nth (Inhabited.default) l2 0))) (Tm.text (Cmd.sym (nth (Inhabited.default) l2 0))) (Tm.kids (Cmd.sym (nth (Inhabited.default) l2 0)))) :: ([] : (List Tm))))) ≤ 4000)))))))) ∧ (((Int.toNat (fuel - (i3 + 1))) < (Int.toNat (fuel - i3))) ∧ (((Sp.iter (Sp.prgStep l fuel) (LOut.ret (([] : (List Tm)), (0, 0))) ((Int.toNat (fuel - (i3 + 1))) + 1) ((Blk.cmds (nth (Inhabited.default) l1 (Option.getD (alook l3 (Cmd.label (nth (Inhabited.default) l2 0))) 0))), ((i3 + 1), (l3, (l4, ((l5 ++ ((Tm.mk (Tm.kind (Cmd.sym (nth (Inhabited.default) l2 0))) (Tm.text (Cmd.sym (nth (Inhabited.default) l2 0))) (Tm.kids (Cmd.sym (nth (Inhabited.default) l2 0)))) :: ([] : (List Tm)))), (i4, (s, (l6, b))))))))) : (LOut ((List Cmd) × (Int × ((List (ByteArray × Int)) × ((List Tm) × ((List Tm) × (Int × (ByteArray × ((List Tm) × Bool)))))))) ((List Tm) × (Int × Int)))) = (Sp.iter (Sp.prgStep l fuel) (LOut.ret (([] : (List Tm)), (0, 0))) ((Int.toNat (fuel - i3)) + 1) (l2, (i3, (l3, (l4, (l5, (i4, (s, (l6, b)))))))))))))) ((inR Go.IntKind.i64 (i3 + 1)) ∧ (((l1 = l) ∧ ((i2 = fuel) ∧ ((l3 = (Sp.labs l)) ∧ ((∀ x1 : Cmd, ((Membership.mem (List.drop (Int.toNat 1) l2) x1) → ((Sp.cmdErr l x1) = 0))) ∧ ((0 ≤ (i3 + 1)) ∧ (((i3 + 1) ≤ fuel) ∧ (((List.length (List.drop (Int.toNat 1) l2)) < 9223372036854775808) ∧ ((List.length (l5 ++ ((Tm.mk (Tm.kind (Cmd.sym (nth (Inhabited.default) l2 0))) (Tm.text (Cmd.sym (nth (Inhabited.default) l2 0))) (Tm.kids (Cmd.sym (nth (Inhabited.default) l2 0)))) :: ([] : (List Tm))))) ≤ 4000)))))))) ∧ (((Int.toNat (fuel - (i3 + 1))) < (Int.toNat (fuel - i3))) ∧ (((Sp.iter (Sp.prgStep l fuel) (LOut.ret (([] : (List Tm)), (0, 0))) ((Int.toNat (fuel - (i3 + 1))) + 1) ((List.drop (Int.toNat 1) l2), ((i3 + 1), (l3, (l4, ((l5 ++ ((Tm.mk (Tm.kind (Cmd.sym (nth (Inhabited.default) l2 0))) (Tm.text (Cmd.sym (nth (Inhabited.default) l2 0))) (Tm.kids (Cmd.sym (nth (Inhabited.default) l2 0)))) :: ([] : (List Tm)))), (i4, (s, (l6, b))))))))) : (LOut ((List Cmd) × (Int × ((List (ByteArray × Int)) × ((List Tm) × ((List Tm) × (Int × (ByteArray × ((List Tm) × Bool)))))))) ((List Tm) × (Int × Int)))) = (Sp.iter (Sp.prgStep l fuel) (LOut.ret (([] : (List Tm)), (0, 0))) ((Int.toNat (fuel - i3)) + 1) (l2, (i3, (l3, (l4, (l5, (i4, (s, (l6, b))))))))))))))) (ifB (!Bool.true) (((Sp.iter (Sp.prgStep l fuel) (LOut.ret (([] : (List Tm)), (0, 0))) ((Int.toNat (fuel - i3)) + 1) (l2, (i3, (l3, (l4, (l5, (i4, (s, (l6, b))))))))) : (LOut ((List Cmd) × (Int × ((List (ByteArray × Int)) × ((List Tm) × ((List Tm) × (Int × (ByteArray × ((List Tm) × Bool)))))))) ((List Tm) × (Int × Int)))) = (LOut.ret (([] : (List Tm)), (0, 0)))) (ifB Bool.false (((0 ≤ (Option.getD (alook l3 (Cmd.label (nth (Inhabited.default) l2 0))) 0)) ∧ ((Option.getD (alook l3 (Cmd.label (nth (Inhabited.default) l2 0))) 0) < (↑(List.length l1) : Int))) ∧ ((inR Go.IntKind.i64 (i3 + 1)) ∧ (((l1 = l) ∧ ((i2 = fuel) ∧ ((l3 = (Sp.labs l)) ∧ ((∀ x1 : Cmd, ((Membership.mem (Blk.cmds (nth (Inhabited.default) l1 (Option.getD (alook l3 (Cmd.label (nth (Inhabited.default) l2 0))) 0))) x1) → ((Sp.cmdErr l x1) = 0))) ∧ ((0 ≤ (i3 + 1)) ∧ (((i3 + 1) ≤ fuel) ∧ (((List.length (Blk.cmds (nth (Inhabited.default) l1 (Option.getD (alook l3 (Cmd.label (nth (Inhabited.default) l2 0))) 0)))) < 9223372036854775808) ∧ ((List.length (l5 ++ ((Tm.mk (Tm.kind (Cmd.sym (nth (Inhabited.default) l2 0))) (Tm.text (Cmd.sym (nth (Inhabited.default) l2 0))) (Tm.kids (Cmd.sym (nth (Inhabited.default) l2 0)))) :: ([] : (List Tm))))) ≤ 4000)))))))) ∧ (((Int.toNat (fuel - (i3 + 1))) < (Int.toNat (fuel - i3))) ∧ (((Sp.iter (Sp.prgStep l fuel) (LOut.ret (([] : (List Tm)), (0, 0))) ((Int.toNat (fuel - (i3 + 1))) + 1) ((Blk.cmds (nth (Inhabited.default) l1 (Option.getD (alook l3 (Cmd.label (nth (Inhabited.default) l2 0))) 0))), ((i3 + 1), (l3, (l4, ((l5 ++ ((Tm.mk (Tm.kind (Cmd.sym (nth (Inhabited.default) l2 0))) (Tm.text (Cmd.sym (nth (Inhabited.default) l2 0))) (Tm.kids (Cmd.sym (nth (Inhabited.default) l2 0)))) :: ([] : (List Tm)))), (i4, (s, (l6, b))))))))) : (LOut ((List Cmd) × (Int × ((List (ByteArray × Int)) × ((List Tm) × ((List Tm) × (Int × (ByteArray × ((List Tm) × Bool)))))))) ((List Tm) × (Int × Int)))) = (Sp.iter (Sp.prgStep l fuel) (LOut.ret (([] : (List Tm)), (0, 0))) ((Int.toNat (fuel - i3)) + 1) (l2, (i3, (l3, (l4, (l5, (i4, (s, (l6, b)))))))))))))) ((inR Go.IntKind.i64 (i3 + 1)) ∧ (((l1 = l) ∧ ((i2 = fuel) ∧ ((l3 = (Sp.labs l)) ∧ ((∀ x1 : Cmd, ((Membership.mem (List.drop (Int.toNat 1) l2) x1) → ((Sp.cmdErr l x1) = 0))) ∧ ((0 ≤ (i3 + 1)) ∧ (((i3 + 1) ≤ fuel) ∧ (((List.length (List.drop (Int.toNat 1) l2)) < 9223372036854775808) ∧ ((List.length (l5 ++ ((Tm.mk (Tm.kind (Cmd.sym (nth (Inhabited.default) l2 0))) (Tm.text (Cmd.sym (nth (Inhabited.default) l2 0))) (Tm.kids (Cmd.sym (nth (Inhabited.default) l2 0)))) :: ([] : (List Tm))))) ≤ 4000)))))))) ∧ (((Int.toNat (fuel - (i3 + 1))) < (Int.toNat (fuel - i3))) ∧ (((Sp.iter (Sp.prgStep l fuel) (LOut.ret (([] : (List Tm)), (0, 0))) ((Int.toNat (fuel - (i3 + 1))) + 1) ((List.drop (Int.toNat 1) l2), ((i3 + 1), (l3, (l4, ((l5 ++ ((Tm.mk (Tm.kind (Cmd.sym (nth (Inhabited.default) l2 0))) (Tm.text (Cmd.sym (nth (Inhabited.default) l2 0))) (Tm.kids (Cmd.sym (nth (Inhabited.default) l2 0)))) :: ([] : (List Tm)))), (i4, (s, (l6, b))))))))) : (LOut ((List Cmd) × (Int × ((List (ByteArray × Int)) × ((List Tm) × ((List Tm) × (Int × (ByteArray × ((List Tm) × Bool)))))))) ((List Tm) × (Int × Int)))) = (Sp.iter (Sp.prgStep l fuel) (LOut.ret (([] : (List Tm)), (0, 0))) ((Int.toNat (fuel - i3)) + 1) (l2, (i3, (l3, (l4, (l5, (i4, (s, (l6, b)))))))))))))))))))) ∧ ((((Cmd.kind (nth (Inhabited.default) l2 0)) = (↑((0 + 1) + 1) : Int)) → (((List.length l4) < 9223372036854775808) → (ifB (decide ((↑(List.length l4) : Int) = 0)) (ifB (!Bool.true) (((Sp.iter (Sp.prgStep l fuel) (LOut.ret (([] : (List Tm)), (0, 0))) ((Int.toNat (fuel - i3)) + 1) (l2, (i3, (l3, (l4, (l5, (i4, (s, (l6, b))))))))) : (LOut ((List Cmd) × (Int × ((List (ByteArray × Int)) × ((List Tm) × ((List Tm) × (Int × (ByteArray × ((List Tm) × Bool)))))))) ((List Tm) × (Int × Int)))) = (LOut.ret (([] : (List Tm)), (0, 0)))) (ifB Bool.true (((0 ≤ (Option.getD (alook l3 (Cmd.label (nth (Inhabited.default) l2 0))) 0)) ∧ ((Option.getD (alook l3 (Cmd.label (nth (Inhabited.default) l2 0))) 0) < (↑(List.length l1) : Int))) ∧ ((inR Go.IntKind.i64 (i3 + 1)) ∧ (((l1 = l) ∧ ((i2 = fuel) ∧ ((l3 = (Sp.labs l)) ∧ ((∀ x1 : Cmd, ((Membership.mem (Blk.cmds (nth (Inhabited.default) l1 (Option.getD (alook l3 (Cmd.label (nth (Inhabited.default) l2 0))) 0))) x1) → ((Sp.cmdErr l x1) = 0))) ∧ ((0 ≤ (i3 + 1)) ∧ (((i3 + 1) ≤ fuel) ∧ (((List.length (Blk.cmds (nth (Inhabited.default) l1 (Option.getD (alook l3 (Cmd.label (nth (Inhabited.default) l2 0))) 0)))) < 9223372036854775808) ∧ ((List.length l5) ≤ 4000)))))))) ∧ (((Int.toNat (fuel - (i3 + 1))) < (Int.toNat (fuel - i3))) ∧ (((Sp.iter (Sp.prgStep l fuel) (LOut.ret (([] : (List Tm)), (0, 0))) ((Int.toNat (fuel - (i3 + 1))) + 1) ((Blk.cmds (nth (Inhabited.default) l1 (Option.getD (alook l3 (Cmd.label (nth (Inhabited.default) l2 0))) 0))), ((i3 + 1), (l3, (l4, (l5, (i4, (s, (l6, b))))))))) : (LOut ((List Cmd) × (Int × ((List (ByteArray × Int)) × ((List Tm) × ((List Tm) × (Int × (ByteArray × ((List Tm) × Bool)))))))) ((List Tm) × (Int × Int)))) = (Sp.iter (Sp.prgStep l fuel) (LOut.ret (([] : (List Tm)), (0, 0))) ((Int.toNat (fuel - i3)) + 1) (l2, (i3, (l3, (l4, (l5, (i4, (s, (l6, b)))))))))))))) ((inR Go.IntKind.i64 (i3 + 1)) ∧ (((l1 = l) ∧ ((i2 = fuel) ∧ ((l3 = (Sp.labs l)) ∧ ((∀ x1 : Cmd, ((Membership.mem (List.drop (Int.toNat 1) l2) x1) → ((Sp.cmdErr l x1) = 0))) ∧ ((0 ≤ (i3 + 1)) ∧ (((i3 + 1) ≤ fuel) ∧ (((List.length (List.drop (Int.toNat 1) l2)) < 9223372036854775808) ∧ ((List.length l5) ≤ 4000)))))))) ∧ (((Int.toNat (fuel - (i3 + 1))) < (Int.toNat (fuel - i3))) ∧ (((Sp.iter (Sp.prgStep l fuel) (LOut.ret (([] : (List Tm)), (0, 0))) ((Int.toNat (fuel - (i3 + 1))) + 1) ((List.drop (Int.toNat 1) l2), ((i3 + 1), (l3, (l4, (l5, (i4, (s, (l6, b))))))))) : (LOut ((List Cmd) × (Int × ((List (ByteArray × Int)) × ((List Tm) × ((List Tm) × (Int × (ByteArray × ((List Tm) × Bool)))))))) ((List Tm) × (Int × Int)))) = (Sp.iter (Sp.prgStep l fuel) (LOut.ret (([] : (List Tm)), (0, 0))) ((Int.toNat (fuel - i3)) + 1) (l2, (i3, (l3, (l4, (l5, (i4, (s, (l6, b))))))))))))))) ((((0 : Int) ≤ 0) ∧ (0 < (↑(List.length l4) : Int))) ∧ (ifB (decide ((Tm.kind (nth (Inhabited.default) l4 0)) = 4)) (ifB (!Bool.false) (((Sp.iter (Sp.prgStep l fuel) (LOut.ret (([] : (List Tm)), (0, 0))) ((Int.toNat (fuel - i3)) + 1) (l2, (i3, (l3, (l4, (l5, (i4, (s, (l6, b))))))))) : (LOut ((List Cmd) × (Int × ((List (ByteArray × Int)) × ((List Tm) × ((List Tm) × (Int × (ByteArray × ((List Tm) × Bool)))))))) ((List Tm) × (Int × Int)))) = (LOut.ret (([] : (List Tm)), (0, 20)))) (ifB Bool.false (((0 ≤ (Option.getD (alook l3 (Cmd.label (nth (Inhabited.default) l2 0))) 0)) ∧ ((Option.getD (alook l3 (Cmd.label (nth (Inhabited.default) l2 0))) 0) < (↑(List.length l1) : Int))) ∧ ((inR Go.IntKind.i64 (i3 + 1)) ∧ (((l1 = l) ∧ ((i2 = fuel) ∧ ((l3 = (Sp.labs l)) ∧ ((∀ x1 : Cmd, ((Membership.mem (Blk.cmds (nth (Inhabited.default) l1 (Option.getD (alook l3 (Cmd.label (nth (Inhabited.default) l2 0))) 0))) x1) → ((Sp.cmdErr l x1) = 0))) ∧ ((0 ≤ (i3 + 1)) ∧ (((i3 + 1) ≤ fuel) ∧ (((List.length (Blk.cmds (nth (Inhabited.default) l1 (Option.getD (alook l3 (Cmd.label (nth (Inhabited.default) l2 0))) 0)))) < 9223372036854775808) ∧ ((List.length l5) ≤ 4000)))))))) ∧ (((Int.toNat (fuel - (i3 + 1))) < (Int.toNat (fuel - i3))) ∧ (((Sp.iter (Sp.prgStep l fuel) (LOut.ret (([] : (List Tm)), (0, 0))) ((Int.toNat (fuel - (i3 + 1))) + 1) ((Blk.cmds (nth (Inhabited.default) l1 (Option.getD (alook l3 (Cmd.label (nth (Inhabited.default) l2 0))) 0))), ((i3 + 1), (l3, (l4, (l5, (i4, (s, (l6, b))))))))) : (LOut ((List Cmd) × (Int × ((List (ByteArray × Int)) × ((List Tm) × ((List Tm) × (Int × (ByteArray × ((List Tm) × Bool)))))))) ((List Tm) × (Int × Int)))) = (Sp.iter (Sp.prgStep l fuel) (LOut.ret (([] : (List Tm)), (0, 0))) ((Int.toNat (fuel - i3)) + 1) (l2, (i3, (l3, (l4, (l5, (i4, (s, (l6, b)))))))))))))) ((inR Go.IntKind.i64 (i3 + 1)) ∧ (((l1 = l) ∧ ((i2 = fuel) ∧ ((l3 = (Sp.labs l)) ∧ ((∀ x1 : Cmd, ((Membership.mem (List.drop (Int.toNat 1) l2) x1) → ((Sp.cmdErr l x1) = 0))) ∧ ((0 ≤ (i3 + 1)) ∧ (((i3 + 1) ≤ fuel) ∧ (((List.length (List.drop (Int.toNat 1) l2)) < 9223372036854775808) ∧ ((List.length l5) ≤ 4000)))))))) ∧ (((Int.toNat (fuel - (i3 + 1))) < (Int.toNat (fuel - i3))) ∧ (((Sp.iter (Sp.prgStep l fuel) (LOut.ret (([] : (List Tm)), (0, 0))) ((Int.toNat (fuel - (i3 + 1))) + 1) ((List.drop (Int.toNat 1) l2), ((i3 + 1), (l3, (l4, (l5, (i4, (s, (l6, b))))))))) : (LOut ((List Cmd) × (Int × ((List (ByteArray × Int)) × ((List Tm) × ((List Tm) × (Int × (ByteArray × ((List Tm) × Bool)))))))) ((List Tm) × (Int × Int)))) = (Sp.iter (Sp.prgStep l fuel) (LOut.ret (([] : (List Tm)), (0, 0))) ((Int.toNat (fuel - i3)) + 1) (l2, (i3, (l3, (l4, (l5, (i4, (s, (l6, b))))))))))))))) ((((0 : Int) ≤ 0) ∧ (0 < (↑(List.length l4) : Int))) ∧ ((((0 : Int) ≤ 1) ∧ (1 ≤ (↑(List.length l4) : Int))) ∧ (ifB (!Bool.true) (((Sp.iter (Sp.prgStep l fuel) (LOut.ret (([] : (List Tm)), (0, 0))) ((Int.toNat (fuel - i3)) + 1) (l2, (i3, (l3, (l4, (l5, (i4, (s, (l6, b))))))))) : (LOut ((List Cmd) × (Int × ((List (ByteArray × Int)) × ((List Tm) × ((List Tm) × (Int × (ByteArray × ((List Tm) × Bool)))))))) ((List Tm) × (Int × Int)))) = (LOut.ret (([] : (List Tm)), (0, 0)))) (ifB Bool.false (((0 ≤ (Option.getD (alook l3 (Cmd.label (nth (Inhabited.default) l2 0))) 0)) ∧ ((Option.getD (alook l3 (Cmd.label (nth (Inhabited.default) l2 0))) 0) < (↑(List.length l1) : Int))) ∧ ((inR Go.IntKind.i64 (i3 + 1)) ∧ (((l1 = l) ∧ ((i2 = fuel) ∧ ((l3 = (Sp.labs l)) ∧ ((∀ x1 : Cmd, ((Membership.mem (Blk.cmds (nth (Inhabited.default) l1 (Option.getD (alook l3 (Cmd.label (nth (Inhabited.default) l2 0))) 0))) x1) → ((Sp.cmdErr l x1) = 0))) ∧ ((0 ≤ (i3 + 1)) ∧ (((i3 + 1) ≤ fuel) ∧ (((List.length (Blk.cmds (nth (Inhabited.default) l1 (Option.getD (alook l3 (Cmd.label (nth (Inhabited.default) l2 0))) 0)))) < 9223372036854775808) ∧ ((List.length l5) ≤ 4000)))))))) ∧ (((Int.toNat (fuel - (i3 + 1))) < (Int.toNat (fuel - i3))) ∧ (((Sp.iter (Sp.prgStep l fuel) (LOut.ret (([] : (List Tm)), (0, 0))) ((Int.toNat (fuel - (i3 + 1))) + 1) ((Blk.cmds (nth (Inhabited.default) l1 (Option.getD (alook l3 (Cmd.label (nth (Inhabited.default) l2 0))) 0))), ((i3 + 1), (l3, ((List.drop (Int.toNat 1) l4), (l5, ((Tm.kind (nth (Inhabited.default) l4 0)), ((Tm.text (nth (Inhabited.default) l4 0)), ((Tm.kids (nth (Inhabited.default) l4 0)), b))))))))) : (LOut ((List Cmd) × (Int × ((List (ByteArray × Int)) × ((List Tm) × ((List Tm) × (Int × (ByteArray × ((List Tm) × Bool)))))))) ((List Tm) × (Int × Int)))) = (Sp.iter (Sp.prgStep l fuel) (LOut.ret (([] : (List Tm)), (0, 0))) ((Int.toNat (fuel - i3)) + 1) (l2, (i3, (l3, (l4, (l5, (i4, (s, (l6, b)))))))))))))) ((inR Go.IntKind.i64 (i3 + 1)) ∧ (((l1 = l) ∧ ((i2 = fuel) ∧ ((l3 = (Sp.labs l)) ∧ ((∀ x1 : Cmd, ((Membership.mem (List.drop (Int.toNat 1) l2) x1) → ((Sp.cmdErr l x1) = 0))) ∧ ((0 ≤ (i3 + 1)) ∧ (((i3 + 1) ≤ fuel) ∧ (((List.length (List.drop (Int.toNat 1) l2)) < 9223372036854775808) ∧ ((List.length l5) ≤ 4000)))))))) ∧ (((Int.toNat (fuel - (i3 + 1))) < (Int.toNat (fuel - i3))) ∧ (((Sp.iter (Sp.prgStep l fuel) (LOut.ret (([] : (List Tm)), (0, 0))) ((Int.toNat (fuel - (i3 + 1))) + 1) ((List.drop (Int.toNat 1) l2), ((i3 + 1), (l3, ((List.drop (Int.toNat 1) l4), (l5, ((Tm.kind (nth (Inhabited.default) l4 0)), ((Tm.text (nth (Inhabited.default) l4 0)), ((Tm.kids (nth (Inhabited.default) l4 0)), b))))))))) : (LOut ((List Cmd) × (Int × ((List (ByteArray × Int)) × ((List Tm) × ((List Tm) × (Int × (ByteArray × ((List Tm) × Bool)))))))) ((List Tm) × (Int × Int)))) = (Sp.iter (Sp.prgStep l fuel) (LOut.ret (([] : (List Tm)), (0, 0))) ((Int.toNat (fuel - i3)) + 1) (l2, (i3, (l3, (l4, (l5, (i4, (s, (l6, b)))))))))))))))))))))) ∧ ((((Cmd.kind (nth (Inhabited.default) l2 0)) = (↑(((0 + 1) + 1) + 1) : Int)) → (ifB (!Bool.true) (((Sp.iter (Sp.prgStep l fuel) (LOut.ret (([] : (List Tm)), (0, 0))) ((Int.toNat (fuel - i3)) + 1) (l2, (i3, (l3, (l4, (l5, (i4, (s, (l6, b))))))))) : (LOut ((List Cmd) × (Int × ((List (ByteArray × Int)) × ((List Tm) × ((List Tm) × (Int × (ByteArray × ((List Tm) × Bool)))))))) ((List Tm) × (Int × Int)))) = (LOut.ret (([] : (List Tm)), (0, 0)))) (ifB ((decide (i4 = (Tm.kind (Cmd.sym (nth (Inhabited.default) l2 0))))) && (decide (s = (Tm.text (Cmd.sym (nth (Inhabited.default) l2 0)))))) (((0 ≤ (Option.getD (alook l3 (Cmd.label (nth (Inhabited.default) l2 0))) 0)) ∧ ((Option.getD (alook l3 (Cmd.label (nth (Inhabited.default) l2 0))) 0) < (↑(List.length l1) : Int))) ∧ ((inR Go.IntKind.i64 (i3 + 1)) ∧ (((l1 = l) ∧ ((i2 = fuel) ∧ ((l3 = (Sp.labs l)) ∧ ((∀ x1 : Cmd, ((Membership.mem (Blk.cmds (nth (Inhabited.default) l1 (Option.getD (alook l3 (Cmd.label (nth (Inhabited.default) l2 0))) 0))) x1) → ((Sp.cmdErr l x1) = 0))) ∧ ((0 ≤ (i3 + 1)) ∧ (((i3 + 1) ≤ fuel) ∧ (((List.length (Blk.cmds (nth (Inhabited.default) l1 (Option.getD (alook l3 (Cmd.label (nth (Inhabited.default) l2 0))) 0)))) < 9223372036854775808) ∧ ((List.length l5) ≤ 4000)))))))) ∧ (((Int.toNat (fuel - (i3 + 1))) < (Int.toNat (fuel - i3))) ∧ (((Sp.iter (Sp.prgStep l fuel) (LOut.ret (([] : (List Tm)), (0, 0))) ((Int.toNat (fuel - (i3 + 1))) + 1) ((Blk.cmds (nth (Inhabited.default) l1 (Option.getD (alook l3 (Cmd.label (nth (Inhabited.default) l2 0))) 0))), ((i3 + 1), (l3, (l4, (l5, (i4, (s, (l6, b))))))))) : (LOut ((List Cmd) × (Int × ((List (ByteArray × Int)) × ((List Tm) × ((List Tm) × (Int × (ByteArray × ((List Tm) × Bool)))))))) ((List Tm) × (Int × Int)))) = (Sp.iter (Sp.prgStep l fuel) (LOut.ret (([] : (List Tm)), (0, 0))) ((Int.toNat (fuel - i3)) + 1) (l2, (i3, (l3, (l4, (l5, (i4, (s, (l6, b)))))))))))))) ((inR Go.IntKind.i64 (i3 + 1)) ∧ (((l1 = l) ∧ ((i2 = fuel) ∧ ((l3 = (Sp.labs l)) ∧ ((∀ x1 : Cmd, ((Membership.mem (List.drop (Int.toNat 1) l2) x1) → ((Sp.cmdErr l x1) = 0))) ∧ ((0 ≤ (i3 + 1)) ∧ (((i3 + 1) ≤ fuel) ∧ (((List.length (List.drop (Int.toNat 1) l2)) < 9223372036854775808) ∧ ((List.length l5) ≤ 4000)))))))) ∧ (((Int.toNat (fuel - (i3 + 1))) < (Int.toNat (fuel - i3))) ∧ (((Sp.iter (Sp.prgStep l fuel) (LOut.ret (([] : (List Tm)), (0, 0))) ((Int.toNat (fuel - (i3 + 1))) + 1) ((List.drop (Int.toNat 1) l2), ((i3 + 1), (l3, (l4, (l5, (i4, (s, (l6, b))))))))) : (LOut ((List Cmd) × (Int × ((List (ByteArray × Int)) × ((List Tm) × ((List Tm) × (Int × (ByteArray × ((List Tm) × Bool)))))))) ((List Tm) × (Int × Int)))) = (Sp.iter (Sp.prgStep l fuel) (LOut.ret (([] : (List Tm)), (0, 0))) ((Int.toNat (fuel - i3)) + 1) (l2, (i3, (l3, (l4, (l5, (i4, (s, (l6, b)))))))))))))))) ∧ ((((Cmd.kind (nth (Inhabited.default) l2 0)) = (↑((((0 + 1) + 1) + 1) + 1) : Int)) → (ifB (!Bool.true) (((Sp.iter (Sp.prgStep l fuel) (LOut.ret (([] : (List Tm)), (0, 0))) ((Int.toNat (fuel - i3)) + 1) (l2, (i3, (l3, (l4, (l5, (i4, (s, (l6, b))))))))) : (LOut ((List Cmd) × (Int × ((List (ByteArray × Int)) × ((List Tm) × ((List Tm) × (Int × (ByteArray × ((List Tm) × Bool)))))))) ((List Tm) × (Int × Int)))) = (LOut.ret (([] : (List Tm)), (0, 0)))) (ifB Bool.true (((0 ≤ (Option.getD (alook l3 (Cmd.label (nth (Inhabited.default) l2 0))) 0)) ∧ ((Option.getD (alook l3 (Cmd.label (nth (Inhabited.default) l2 0))) 0) < (↑(List.length l1) : Int))) ∧ ((inR Go.IntKind.i64 (i3 + 1)) ∧ (((l1 = l) ∧ ((i2 = fuel) ∧ ((l3 = (Sp.labs l)) ∧ ((∀ x1 : Cmd, ((Membership.mem (Blk.cmds (nth (Inhabited.default) l1 (Option.getD (alook l3 (Cmd.label (nth (Inhabited.default) l2 0))) 0))) x1) → ((Sp.cmdErr l x1) = 0))) ∧ ((0 ≤ (i3 + 1)) ∧ (((i3 + 1) ≤ fuel) ∧ (((List.length (Blk.cmds (nth (Inhabited.default) l1 (Option.getD (alook l3 (Cmd.label (nth (Inhabited.default) l2 0))) 0)))) < 9223372036854775808) ∧ ((List.length l5) ≤ 4000)))))))) ∧ (((Int.toNat (fuel - (i3 + 1))) < (Int.toNat (fuel - i3))) ∧ (((Sp.iter (Sp.prgStep l fuel) (LOut.ret (([] : (List Tm)), (0, 0))) ((Int.toNat (fuel - (i3 + 1))) + 1) ((Blk.cmds (nth (Inhabited.default) l1 (Option.getD (alook l3 (Cmd.label (nth (Inhabited.default) l2 0))) 0))), ((i3 + 1), (l3, (l4, (l5, (i4, (s, (l6, b))))))))) : (LOut ((List Cmd) × (Int × ((List (ByteArray × Int)) × ((List Tm) × ((List Tm) × (Int × (ByteArray × ((List Tm) × Bool)))))))) ((List Tm) × (Int × Int)))) = (Sp.iter (Sp.prgStep l fuel) (LOut.ret (([] : (List Tm)), (0, 0))) ((Int.toNat (fuel - i3)) + 1) (l2, (i3, (l3, (l4, (l5, (i4, (s, (l6, b)))))))))))))) ((inR Go.IntKind.i64 (i3 + 1)) ∧ (((l1 = l) ∧ ((i2 = fuel) ∧ ((l3 = (Sp.labs l)) ∧ ((∀ x1 : Cmd, ((Membership.mem (List.drop (Int.toNat 1) l2) x1) → ((Sp.cmdErr l x1) = 0))) ∧ ((0 ≤ (i3 + 1)) ∧ (((i3 + 1) ≤ fuel) ∧ (((List.length (List.drop (Int.toNat 1) l2)) < 9223372036854775808) ∧ ((List.length l5) ≤ 4000)))))))) ∧ (((Int.toNat (fuel - (i3 + 1))) < (Int.toNat (fuel - i3))) ∧ (((Sp.iter (Sp.prgStep l fuel) (LOut.ret (([] : (List Tm)), (0, 0))) ((Int.toNat (fuel - (i3 + 1))) + 1) ((List.drop (Int.toNat 1) l2), ((i3 + 1), (l3, (l4, (l5, (i4, (s, (l6, b))))))))) : (LOut ((List Cmd) × (Int × ((List (ByteArray × Int)) × ((List Tm) × ((List Tm) × (Int × (ByteArray × ((List Tm) × Bool)))))))) ((List Tm) × (Int × Int)))) = (Sp.iter (Sp.prgStep l fuel) (LOut.ret (([] : (List Tm)), (0, 0))) ((Int.toNat (fuel - i3)) + 1) (l2, (i3, (l3, (l4, (l5, (i4, (s, (l6, b)))))))))))))))) ∧ ((((Cmd.kind (nth (Inhabited.default) l2 0)) = (↑(((((0 + 1) + 1) + 1) + 1) + 1) : Int)) → (ifB (!Bool.true) (((Sp.iter (Sp.prgStep l fuel) (LOut.ret (([] : (List Tm)), (0, 0))) ((Int.toNat (fuel - i3)) + 1) (l2, (i3, (l3, (l4, (l5, (i4, (s, (l6, b))))))))) : (LOut ((List Cmd) × (Int × ((List (ByteArray × Int)) × ((List Tm) × ((List Tm) × (Int × (ByteArray × ((List Tm) × Bool)))))))) ((List Tm) × (Int × Int)))) = (LOut.ret (([] : (List Tm)), (0, 0)))) (ifB Bool.false (((0 ≤ (Option.getD (alook l3 (Cmd.label (nth (Inhabited.default) l2 0))) 0)) ∧ ((Option.getD (alook l3 (Cmd.label (nth (Inhabited.default) l2 0))) 0) < (↑(List.length l1) : Int))) ∧ ((inR Go.IntKind.i64 (i3 + 1)) ∧ (((l1 = l) ∧ ((i2 = fuel) ∧ ((l3 = (Sp.labs l)) ∧ ((∀ x1 : Cmd, ((Membership.mem (Blk.cmds (nth (Inhabited.default) l1 (Option.getD (alook l3 (Cmd.label (nth (Inhabited.default) l2 0))) 0))) x1) → ((Sp.cmdErr l x1) = 0))) ∧ ((0 ≤ (i3 + 1)) ∧ (((i3 + 1) ≤ fuel) ∧ (((List.length (Blk.cmds (nth (Inhabited.default) l1 (Option.getD (alook l3 (Cmd.label (nth (Inhabited.default) l2 0))) 0)))) < 9223372036854775808) ∧ ((List.length l5) ≤ 4000)))))))) ∧ (((Int.toNat (fuel - (i3 + 1))) < (Int.toNat (fuel - i3))) ∧ (((Sp.iter (Sp.prgStep l fuel) (LOut.ret (([] : (List Tm)), (0, 0))) ((Int.toNat (fuel - (i3 + 1))) + 1) ((Blk.cmds (nth (Inhabited.default) l1 (Option.getD (alook l3 (Cmd.label (nth (Inhabited.default) l2 0))) 0))), ((i3 + 1), (l3, (l4, (l5, (i4, (s, (l6, Bool.true))))))))) : (LOut ((List Cmd) × (Int × ((List (ByteArray × Int)) × ((List Tm) × ((List Tm) × (Int × (ByteArray × ((List Tm) × Bool)))))))) ((List Tm) × (Int × Int)))) = (Sp.iter (Sp.prgStep l fuel) (LOut.ret (([] : (List Tm)), (0, 0))) ((Int.toNat (fuel - i3)) + 1) (l2, (i3, (l3, (l4, (l5, (i4, (s, (l6, b)))))))))))))) ((inR Go.IntKind.i64 (i3 + 1)) ∧ (((l1 = l) ∧ ((i2 = fuel) ∧ ((l3 = (Sp.labs l)) ∧ ((∀ x1 : Cmd, ((Membership.mem (List.drop (Int.toNat 1) l2) x1) → ((Sp.cmdErr l x1) = 0))) ∧ ((0 ≤ (i3 + 1)) ∧ (((i3 + 1) ≤ fuel) ∧ (((List.length (List.drop (Int.toNat 1) l2)) < 9223372036854775808) ∧ ((List.length l5) ≤ 4000)))))))) ∧ (((Int.toNat (fuel - (i3 + 1))) < (Int.toNat (fuel - i3))) ∧ (((Sp.iter (Sp.prgStep l fuel) (LOut.ret (([] : (List Tm)), (0, 0))) ((Int.toNat (fuel - (i3 + 1))) + 1) ((List.drop (Int.toNat 1) l2), ((i3 + 1), (l3, (l4, (l5, (i4, (s, (l6, Bool.true))))))))) : (LOut ((List Cmd) × (Int × ((List (ByteArray × Int)) × ((List Tm) × ((List Tm) × (Int × (ByteArray × ((List Tm) × Bool)))))))) ((List Tm) × (Int × Int)))) = (Sp.iter (Sp.prgStep l fuel) (LOut.ret (([] : (List Tm)), (0, 0))) ((Int.toNat (fuel - i3)) + 1) (l2, (i3, (l3, (l4, (l5, (i4, (s, (l6, b)))))))))))))))) ∧ True)))))))))) (((Sp.iter (Sp.prgStep l fuel) (LOut.ret (([] : (List Tm)), (0, 0))) ((Int.toNat (fuel - i3)) + 1) (l2, (i3, (l3, (l4, (l5, (i4, (s, (l6, b))))))))) : (LOut ((List Cmd) × (Int × ((List (ByteArray × Int)) × ((List Tm) × ((List Tm) × (Int × (ByteArray × ((List Tm) × Bool)))))))) ((List Tm) × (Int × Int)))) = (LOut.brk (l2, (i3, (l3, (l4, (l5, (i4, (s, (l6, b))))))))))))))))))))))))
def special_Run.t (l : (List Blk)) (input : (List Tm)) (fuel : Int) : Prop :=
  ((∀ x : Blk, ((Membership.mem l x) → (∀ x1 : Cmd, ((Membership.mem (Blk.cmds x) x1) → (Sp.okL ((Cmd.sym x1) :: ([] : (List Tm)))))))) ∧ (∀ i : Int, (((Sp.check l) = i) → (ifB (!(decide (i = 0))) ((Sp.refRun l input fuel) = (([] : (List Tm)), (0, i))) ((Sp.okL input) ∧ (∀ i1 : Int, (((Sp.wrong input 4) = i1) → (ifB (!(decide (i1 = 0))) ((Sp.refRun l input fuel) = (([] : (List Tm)), (0, i1))) (ifB ((decide (fuel < 0)) || (decide (100000 < fuel))) ((Sp.refRun l input fuel) = (([] : (List Tm)), (0, 4))) (∀ x : Tm, (((Sp.wrd (⟨#[83, 116, 97, 114, 116]⟩ : ByteArray)) = x) → ((((0 : Int) ≤ 0) ∧ (0 < (↑(List.length l) : Int))) ∧ (((l = l) ∧ ((fuel = fuel) ∧ (((Sp.labs l) = (Sp.labs l)) ∧ ((∀ x1 : Cmd, ((Membership.mem (Blk.cmds (nth (Inhabited.default) l 0)) x1) → ((Sp.cmdErr l x1) = 0))) ∧ (((0 : Int) ≤ 0) ∧ ((0 ≤ fuel) ∧ (((List.length (Blk.cmds (nth (Inhabited.default) l 0))) < 9223372036854775808) ∧ ((List.length ([] : (List Tm))) ≤ 4000)))))))) ∧ ((special_Run.l0 l fuel) ∧ ((∀ l1 : (List Cmd), (∀ i2 : Int, (∀ l2 : (List (ByteArray × Int)), (∀ l3 : (List Tm), (∀ l4 : (List Tm), (∀ i3 : Int, (∀ s : ByteArray, (∀ l5 : (List Tm), (∀ b : Bool, ((((Sp.iter (Sp.prgStep l fuel) (LOut.ret (([] : (List Tm)), (0, 0))) ((Int.toNat (fuel - 0)) + 1) ((Blk.cmds (nth (Inhabited.default) l 0)), (0, ((Sp.labs l), (input, (([] : (List Tm)), ((Tm.kind x), ((Tm.text x), ((Tm.kids x), Bool.false))))))))) : (LOut ((List Cmd) × (Int × ((List (ByteArray × Int)) × ((List Tm) × ((List Tm) × (Int × (ByteArray × ((List Tm) × Bool)))))))) ((List Tm) × (Int × Int)))) = (LOut.brk (l1, (i2, (l2, (l3, (l4, (i3, (s, (l5, b)))))))))) → ((Sp.refRun l input fuel) = (l4, (i2, 0))))))))))))) ∧ (∀ l1 : (List Tm), (∀ i2 : Int, (∀ i3 : Int, ((((Sp.iter (Sp.prgStep l fuel) (LOut.ret (([] : (List Tm)), (0, 0))) ((Int.toNat (fuel - 0)) + 1) ((Blk.cmds (nth (Inhabited.default) l 0)), (0, ((Sp.labs l), (input, (([] : (List Tm)), ((Tm.kind x), ((Tm.text x), ((Tm.kids x), Bool.false))))))))) : (LOut ((List Cmd) × (Int × ((List (ByteArray × Int)) × ((List Tm) × ((List Tm) × (Int × (ByteArray × ((List Tm) × Bool)))))))) ((List Tm) × (Int × Int)))) = (LOut.ret (l1, (i2, i3)))) → ((Sp.refRun l input fuel) = (l1, (i2, i3))))))))))))))))))))))
theorem special_Run.w (l : (List Blk)) (input : (List Tm)) (fuel : Int) : wpF Go.Proofs.Try.prog (lookC [(15, special_Check.C), (28, term_Value.C), (32, special_labels.C), (33, special_word.C), (34, special_commands.C), (60, special_runner_write.C), (61, special_runner_read.C), (62, special_runner_equal.C), (63, special_runner_goes.C), (64, special_runner_halt.C)]) 12 [.lst (.nm 2), .lst (.nm 0), .int .i64] [.lst (.nm 0), .int .i64, .int .i64] (special_Run.Λ l input fuel) (fun _ => none) (l, input, fuel) (fun r => (Sp.refRun l input fuel) = r) = special_Run.t l input fuel := by kernel_rfl
end Go.AL

namespace Go.AL
set_option linter.unusedVariables false
set_option linter.unusedSimpArgs false
set_option maxRecDepth 10000
attribute [local irreducible] wpF wpFX wpM
theorem special_commands.ok (W : World) : CtrOK Go.Proofs.Try.prog W 34 special_commands.C := by
  refine const_ok (Γ := lookC []) (n := 2) (rvs := [.cell 0 true 6]) (ac := special_commands.K) rfl (lookC_ok fun p hp => by cases hp) (by kernel_rfl) ?_
  have e : (inlK (lookC []) 2 [.cell 0 true 6] special_commands.K).run [] { env := [], hp := [], live := [], nx := 0 } (fun v _ => v = .agg (ofAVs special_commands.cs)) = (VV.agg (ofAVs special_commands.cs) = VV.agg (ofAVs special_commands.cs)) := by kernel_rfl
  exact e.mpr rfl
theorem special_runner_write.ok (W : World) : CtrOK Go.Proofs.Try.prog W 60 special_runner_write.C := by
  refine inlK_ok (lookC_ok (fun p hp => by cases hp)) ?_
  kernel_rfl
theorem special_runner_read.ok (W : World) : CtrOK Go.Proofs.Try.prog W 61 special_runner_read.C := by
  refine inlK_ok (lookC_ok (fun p hp => by cases hp)) ?_
  kernel_rfl
theorem special_runner_equal.ok (W : World) : CtrOK Go.Proofs.Try.prog W 62 special_runner_equal.C := by
  refine inlK_ok (lookC_ok (fun p hp => by cases hp)) ?_
  kernel_rfl
theorem special_runner_goes.ok (W : World) : CtrOK Go.Proofs.Try.prog W 63 special_runner_goes.C := by
  refine inlK_ok (lookC_ok (fun p hp => by cases hp)) ?_
  kernel_rfl
theorem special_runner_halt.ok (W : World) : CtrOK Go.Proofs.Try.prog W 64 special_runner_halt.C := by
  refine inlK_ok (lookC_ok (fun p hp => by cases hp)) ?_
  kernel_rfl
theorem Sp.labErr_find {l : List Blk} : ∀ {bs : List Blk} {i : Int}, Sp.labErr l bs i = 0 → ∀ k (h : k < bs.length), Sp.find l bs[k].label = i + k
  | b :: bs, i, h, k, hk => by
    rw [Sp.labErr] at h
    split at h
    · split at h
      · rename_i h1 h2
        cases k with
        | zero => simpa using h2
        | succ k =>
          have := Sp.labErr_find h k (by simpa using hk)
          simp only [List.getElem_cons_succ, this]; omega
      · cases h
    · cases h
theorem Sp.labs_pw {l : List Blk} (h : Sp.labErr l l 0 = 0) : l.Pairwise fun a b => a.label ≠ b.label := by
  rw [List.pairwise_iff_getElem]
  intro i j hi hj hij he
  have h1 := Sp.labErr_find h i hi
  have h2 := Sp.labErr_find h j hj
  rw [he] at h1; omega
theorem Sp.find_none {s : ByteArray} : ∀ {l : List Blk}, (∀ b ∈ l, b.label ≠ s) → Sp.find l s = -1
  | [], _ => rfl
  | b :: l, h => by
    rw [Sp.find, if_neg (h b (by simp)), Sp.find_none fun b hb => h b (by simp [hb]), if_pos rfl]
theorem Sp.labsFrom_look : ∀ (l : List Blk) (i : Int) (m : List (ByteArray × Int)) (s : ByteArray), (l.Pairwise fun a b => a.label ≠ b.label) → alook (Sp.labsFrom l i m) s = if Sp.find l s = -1 then alook m s else some (i + Sp.find l s)
  | [], i, m, s, _ => by simp [Sp.labsFrom, Sp.find]
  | b :: l, i, m, s, hp => by
    rw [List.pairwise_cons] at hp
    rw [Sp.labsFrom, Sp.labsFrom_look l (i + 1) _ s hp.2, alook_aset, Sp.find]
    by_cases h : b.label = s
    · rw [Sp.find_none fun b' hb' => by rw [← h]; exact (hp.1 b' hb').symm]
      simp [h]
    · rw [if_neg h]
      have := Sp.find_in l s
      by_cases h2 : Sp.find l s = -1
      · rw [if_pos h2, if_pos h2, if_pos rfl, if_neg (fun e => h e.symm)]
      · rw [if_neg h2, if_neg h2, if_neg (by omega)]; congr 1; omega
theorem Sp.check_lab {l : List Blk} (h : Sp.check l = 0) : Sp.labErr l l 0 = 0 := by
  unfold Sp.check at h
  split at h
  · cases h
  · split at h
    · cases h
    · split at h
      · assumption
      · rename_i h1; exact absurd h h1
theorem Sp.labs_at {l : List Blk} (h : Sp.check l = 0) {s : ByteArray} (hs : 0 ≤ Sp.find l s) : alook (Sp.labs l) s = some (Sp.find l s) := by
  unfold Sp.labs
  rw [Sp.labsFrom_look l 0 [] s (Sp.labs_pw (Sp.check_lab h)), if_neg (by omega), Int.zero_add]
theorem Sp.less_irr : ∀ (l : List UInt8), Go.Op.bytesLess l l = false
  | [] => rfl
  | x :: l => by simp [Go.Op.bytesLess, Sp.less_irr l]
theorem Sp.sign_zero {a b : ByteArray} : Sp.sign a b = 0 ↔ a = b := by
  unfold Sp.sign
  constructor
  · intro h
    split at h
    · cases h
    · rename_i h1
      split at h
      · rename_i h2
        simp only [Bool.or_eq_true, decide_eq_true_eq] at h2
        rcases h2 with h2 | h2
        · exact absurd h2 h1
        · exact h2
      · cases h
  · rintro rfl
    rw [Sp.less_irr]; simp
theorem Sp.cmp_sym {k : Int} {s : ByteArray} {t : Tm} (h : t.kids = []) : Sp.cmpL [.mk k s []] [t] = 0 ↔ k = t.kind ∧ s = t.text := by
  cases t with
  | mk k2 s2 ks2 =>
    have h : ks2 = [] := h
    subst h
    show Sp.cmpL [.mk k s []] [.mk k2 s2 []] = 0 ↔ k = k2 ∧ s = s2
    have e0 : Sp.cmpL ([] : List Tm) [] = 0 := rfl
    have e1 : Sp.cmpT (.mk k s []) (.mk k2 s2 []) = if k = k2 then (if Sp.sign s s2 = 0 then 0 else Sp.sign s s2) else if k < k2 then -1 else 1 := by
      rw [Sp.cmpT]; simp only [Tm.kind, Tm.text, Tm.kids, e0]; rfl
    rw [Sp.cmpL]
    simp only [e1, e0]
    by_cases h1 : k = k2
    · rw [if_pos h1]
      by_cases h2 : Sp.sign s s2 = 0
      · rw [if_pos h2]; simp [h1, Sp.sign_zero.1 h2]
      · have : ¬ s = s2 := fun e => h2 (Sp.sign_zero.2 e)
        simp [h2, this]
    · rw [if_neg h1]
      simp only [h1, false_and, iff_false]
      by_cases h3 : k < k2
      · rw [if_pos h3]; simp
      · rw [if_neg h3]; simp
def Sp.finP : Sp.PO → List Tm × Int × Int
  | .brk (_, n, _, _, out, _) => (out, n, 0)
  | .ret r => r
  | .ext _ _ => ([], 0, 0)
def Sp.finR : Sp.RO → List Tm × Int × Int
  | .brk (_, out, _, _, n, _) => (out, n, 0)
  | .ret r => r
  | .ext _ _ => ([], 0, 0)
theorem Sp.form_head {t : Tm} {l : List Tm} (h : Sp.formL (t :: l) 4 = true) : (t.kind ≠ 4 → t.kids = []) ∧ Sp.formL l 4 = true := by
  simp only [Sp.formL, Sp.formT_eq, Bool.and_eq_true, decide_eq_true_eq] at h
  refine ⟨fun h4 => ?_, h.2⟩
  have h5 := h.1.1.1
  unfold Sp.right at h5
  split at h5
  · cases h5
  · rename_i h6
    exact List.length_eq_zero_iff.mp (by omega)
theorem Sp.sim {l : List Blk} {fuel : Int} (hch : Sp.check l = 0) : ∀ (m : Nat) (n block at_ pk : Int) (pt : ByteArray) (inp out : List Tm), (fuel - n).toNat = m → 0 ≤ n → n ≤ fuel → 0 ≤ block → block < l.length → 0 ≤ at_ → at_ ≤ (nth default l block).cmds.length → Sp.formL inp 4 = true →
    Sp.finP (Sp.iter (Sp.prgStep l fuel) (.ret ([], 0, 0)) (m + 1) ((nth default l block).cmds.drop at_.toNat, n, Sp.labs l, inp, out, pk, pt, [], false)) = Sp.finR (Sp.iter (Sp.refStep l fuel) (.ret ([], 0, 0)) (m + 1) (inp, out, block, at_, n, pk, pt, [])) := by
  obtain ⟨_, _, hok⟩ := Sp.check_ok hch
  intro m
  induction m with
  | zero =>
    intro n block at_ pk pt inp out hm h1 h2 h3 h4 h5 h6 h7
    have hn : n = fuel := by omega
    by_cases ha : at_ < (nth default l block).cmds.length
    · rw [Sp.iter_inr (step := Sp.prgStep l fuel) (by simp only [Sp.prgStep]; rw [if_pos ⟨by rw [List.length_drop]; omega, trivial⟩, if_pos hn]), Sp.iter_inr (step := Sp.refStep l fuel) (by simp only [Sp.refStep]; rw [if_pos ha, if_pos hn])]; rfl
    · rw [Sp.iter_inr (step := Sp.prgStep l fuel) (by simp only [Sp.prgStep]; rw [if_neg (by rw [List.length_drop]; omega)]), Sp.iter_inr (step := Sp.refStep l fuel) (by simp only [Sp.refStep]; rw [if_neg ha])]; rfl
  | succ m ih =>
    intro n block at_ pk pt inp out hm h1 h2 h3 h4 h5 h6 h7
    by_cases ha : at_ < (nth default l block).cmds.length
    · have hn : ¬ n = fuel := by omega
      have hcond : 0 < ((nth default l block).cmds.drop at_.toNat).length ∧ True := ⟨by rw [List.length_drop]; omega, trivial⟩
      have hk : at_.toNat < (nth default l block).cmds.length := by omega
      have hb := nth_mem (d := default) (l := l) (i := block) (by omega)
      have hcm := (hok _ hb).2.2 _ (nth_mem (d := default) hk)
      obtain ⟨g1, g2, g3, g4, g5⟩ := Sp.cmdErr_ok hcm
      have hcd : nth default ((nth default l block).cmds.drop at_.toNat) 0 = nth default (nth default l block).cmds at_ := by
        rw [nth_drop (d := default) hk]; rfl
      have hdr : ((nth default l block).cmds.drop at_.toNat).drop 1 = (nth default l block).cmds.drop (at_ + 1).toNat := by
        rw [List.drop_drop]; congr 1; omega
      generalize hce : nth default (nth default l block).cmds at_ = c at *
      have hm' : (fuel - (n + 1)).toNat = m := by omega
      have hjmp : (c.kind = 2 ∨ c.kind = 3 ∨ c.kind = 4) → Sp.at0 (Sp.labs l) c.label = Sp.find l c.label ∧ 0 ≤ Sp.find l c.label ∧ Sp.find l c.label < l.length := fun hk => by
        have hf := g5 hk
        have hin := Sp.find_in l c.label
        exact ⟨by unfold Sp.at0; rw [Sp.labs_at hch hf]; rfl, by omega, by omega⟩
      have go : ∀ (inp' out' : List Tm) (pk' : Int) (pt' : ByteArray), Sp.formL inp' 4 = true → Sp.finP (Sp.iter (Sp.prgStep l fuel) (.ret ([], 0, 0)) (m + 1) ((nth default l block).cmds.drop (at_ + 1).toNat, n + 1, Sp.labs l, inp', out', pk', pt', [], false)) = Sp.finR (Sp.iter (Sp.refStep l fuel) (.ret ([], 0, 0)) (m + 1) (inp', out', block, at_ + 1, n + 1, pk', pt', [])) :=
        fun inp' out' pk' pt' hf => ih (n + 1) block (at_ + 1) pk' pt' inp' out' hm' (by omega) (by omega) h3 h4 (by omega) (by omega) hf
      have jump : (c.kind = 2 ∨ c.kind = 3 ∨ c.kind = 4) → Sp.finP (Sp.iter (Sp.prgStep l fuel) (.ret ([], 0, 0)) (m + 1) ((nth default l (Sp.at0 (Sp.labs l) c.label)).cmds, n + 1, Sp.labs l, inp, out, pk, pt, [], false)) = Sp.finR (Sp.iter (Sp.refStep l fuel) (.ret ([], 0, 0)) (m + 1) (inp, out, Sp.find l c.label, 0, n + 1, pk, pt, [])) := fun hk => by
        obtain ⟨j1, j2, j3⟩ := hjmp hk
        rw [j1]
        exact ih (n + 1) (Sp.find l c.label) 0 pk pt inp out hm' (by omega) (by omega) j2 j3 (by omega) (by omega) h7
      by_cases hk1 : c.kind = 1
      · by_cases h8 : 4000 < out.length + 1
        · rw [Sp.iter_inr (step := Sp.prgStep l fuel) (by simp only [Sp.prgStep, hcd]; rw [if_pos hcond, if_neg hn, if_pos hk1, if_pos h8]), Sp.iter_inr (step := Sp.refStep l fuel) (by simp only [Sp.refStep, hce]; rw [if_pos ha, if_neg hn, if_pos hk1, if_pos h8])]; rfl
        · rw [Sp.iter_inl (k := m + 1) (step := Sp.prgStep l fuel) (by simp only [Sp.prgStep, hcd, hdr]; rw [if_pos hcond, if_neg hn, if_pos hk1, if_neg h8]), Sp.iter_inl (k := m + 1) (step := Sp.refStep l fuel) (by simp only [Sp.refStep, hce]; rw [if_pos ha, if_neg hn, if_pos hk1, if_neg h8])]
          exact go _ _ _ _ h7
      by_cases hk2 : c.kind = 2
      · cases inp with
        | nil =>
          rw [Sp.iter_inl (k := m + 1) (step := Sp.prgStep l fuel) (by simp only [Sp.prgStep, hcd, hdr]; rw [if_pos hcond, if_neg hn, if_neg hk1, if_pos hk2, if_pos (show ([] : List Tm).length = 0 from rfl)]), Sp.iter_inl (k := m + 1) (step := Sp.refStep l fuel) (by simp only [Sp.refStep, hce]; rw [if_pos ha, if_neg hn, if_neg hk1, if_pos hk2, if_pos (show ([] : List Tm).length = 0 from rfl)])]
          exact jump (.inl hk2)
        | cons t inp =>
          have hn0 : ¬ (t :: inp).length = 0 := by simp
          obtain ⟨f1, f2⟩ := Sp.form_head h7
          by_cases h9 : (nth default (t :: inp) 0).kind = 4
          · rw [Sp.iter_inr (step := Sp.prgStep l fuel) (by simp only [Sp.prgStep, hcd, hdr]; rw [if_pos hcond, if_neg hn, if_neg hk1, if_pos hk2, if_neg hn0, if_pos h9]), Sp.iter_inr (step := Sp.refStep l fuel) (by simp only [Sp.refStep, hce]; rw [if_pos ha, if_neg hn, if_neg hk1, if_pos hk2, if_neg hn0, if_pos h9])]; rfl
          · rw [Sp.iter_inl (k := m + 1) (step := Sp.prgStep l fuel) (by simp only [Sp.prgStep, hcd, hdr]; rw [if_pos hcond, if_neg hn, if_neg hk1, if_pos hk2, if_neg hn0, if_neg h9]), Sp.iter_inl (k := m + 1) (step := Sp.refStep l fuel) (by simp only [Sp.refStep, hce]; rw [if_pos ha, if_neg hn, if_neg hk1, if_pos hk2, if_neg hn0, if_neg h9])]
            have e0 : nth default (t :: inp) 0 = t := rfl
            rw [e0] at h9 ⊢
            rw [f1 h9]
            exact go inp out t.kind t.text f2
      by_cases hk3 : c.kind = 3
      · have hz := Sp.sym_kids (g2 (.inr hk3)).1 (g2 (.inr hk3)).2
        have hz' : c.sym.kids = [] := by rw [hz]; rfl
        have hcs := Sp.cmp_sym (k := pk) (s := pt) hz'
        by_cases h8 : pk = c.sym.kind ∧ pt = c.sym.text
        · rw [Sp.iter_inl (k := m + 1) (step := Sp.prgStep l fuel) (by simp only [Sp.prgStep, hcd, hdr]; rw [if_pos hcond, if_neg hn, if_neg hk1, if_neg hk2, if_pos hk3, if_pos h8]), Sp.iter_inl (k := m + 1) (step := Sp.refStep l fuel) (by simp only [Sp.refStep, hce]; rw [if_pos ha, if_neg hn, if_neg hk1, if_neg hk2, if_pos hk3, if_pos (hcs.2 h8)])]
          exact jump (.inr (.inl hk3))
        · rw [Sp.iter_inl (k := m + 1) (step := Sp.prgStep l fuel) (by simp only [Sp.prgStep, hcd, hdr]; rw [if_pos hcond, if_neg hn, if_neg hk1, if_neg hk2, if_pos hk3, if_neg h8]), Sp.iter_inl (k := m + 1) (step := Sp.refStep l fuel) (by simp only [Sp.refStep, hce]; rw [if_pos ha, if_neg hn, if_neg hk1, if_neg hk2, if_pos hk3, if_neg fun e => h8 (hcs.1 e)])]
          exact go _ _ _ _ h7
      by_cases hk4 : c.kind = 4
      · rw [Sp.iter_inl (k := m + 1) (step := Sp.prgStep l fuel) (by simp only [Sp.prgStep, hcd, hdr]; rw [if_pos hcond, if_neg hn, if_neg hk1, if_neg hk2, if_neg hk3, if_pos hk4]), Sp.iter_inl (k := m + 1) (step := Sp.refStep l fuel) (by simp only [Sp.refStep, hce]; rw [if_pos ha, if_neg hn, if_neg hk1, if_neg hk2, if_neg hk3, if_pos hk4])]
        exact jump (.inr (.inr hk4))
      have hk5 : c.kind = 5 := by omega
      rw [Sp.iter_inl (k := m + 1) (step := Sp.prgStep l fuel) (by simp only [Sp.prgStep, hcd, hdr]; rw [if_pos hcond, if_neg hn, if_neg hk1, if_neg hk2, if_neg hk3, if_neg hk4]), Sp.iter_inr (step := Sp.refStep l fuel) (by simp only [Sp.refStep, hce]; rw [if_pos ha, if_neg hn, if_neg hk1, if_neg hk2, if_neg hk3, if_neg hk4, if_pos hk5])]
      rw [Sp.iter_inr (step := Sp.prgStep l fuel) (by simp only [Sp.prgStep]; rw [if_neg (by simp)])]; rfl
    · rw [Sp.iter_inr (step := Sp.prgStep l fuel) (by simp only [Sp.prgStep]; rw [if_neg (by rw [List.length_drop]; omega)]), Sp.iter_inr (step := Sp.refStep l fuel) (by simp only [Sp.refStep]; rw [if_neg ha])]; rfl
theorem special_Run.l0_ok (l : List Blk) (fuel : Int) (hfu : 0 ≤ fuel ∧ fuel ≤ 100000) (hch : Sp.check l = 0) : special_Run.l0 l fuel := by
  obtain ⟨_, _, hok⟩ := Sp.check_ok hch
  rintro l1 f todo n kn inp out pk pt pl hal ⟨e1, e2, e3, hc, h1, h2, h3, ho⟩ h4
  subst l1 f kn
  have hout : ∀ x : Tm, (out ++ [x]).length = out.length + 1 := by simp
  simp only [Bool.not_false, Bool.not_true, ifB_true, ifB_false, Tm.eta, hout, List.length_singleton]
  refine ifB_of (fun h => ?_) fun h => ?_
  · simp only [Bool.and_eq_true, Bool.or_eq_true, Bool.not_eq_true', Bool.or_eq_false_iff, Bool.and_eq_false_iff, Bool.not_eq_false', decide_eq_true_eq, decide_eq_false_iff_not, mk_empty] at h
    have hcond : 0 < todo.length ∧ hal = false := ⟨by omega, h.2⟩
    have hk : (0 : Int).toNat < todo.length := by simp; omega
    have hcm := hc _ (nth_mem (d := default) hk)
    obtain ⟨g1, g2, g3, g4, g5⟩ := Sp.cmdErr_ok hcm
    have hdrop : ∀ c ∈ todo.drop (1 : Int).toNat, Sp.cmdErr l c = 0 := fun c hcd => hc c (List.mem_of_mem_drop hcd)
    have hdl : (todo.drop (1 : Int).toNat).length < 9223372036854775808 := by simp; omega
    have e1' : (1 : Int).toNat = 1 := rfl
    generalize hcd : nth default todo 0 = c at *
    refine ifD (fun hn => ?_) fun hn => ?_
    · rw [Sp.iter_inr (by simp only [Sp.prgStep]; rw [if_pos hcond, if_pos hn])]
    have hm : (fuel - n).toNat = (fuel - (n + 1)).toNat + 1 := by omega
    have hjmp : (c.kind = 2 ∨ c.kind = 3 ∨ c.kind = 4) → ((alook (Sp.labs l) c.label).getD 0 = Sp.at0 (Sp.labs l) c.label) ∧ (0 ≤ Sp.at0 (Sp.labs l) c.label ∧ Sp.at0 (Sp.labs l) c.label < (l.length : Int)) ∧ (∀ x ∈ (nth default l (Sp.at0 (Sp.labs l) c.label)).cmds, Sp.cmdErr l x = 0) ∧ (nth default l (Sp.at0 (Sp.labs l) c.label)).cmds.length < 9223372036854775808 := by
      intro hk
      have hf := g5 hk
      have hin := Sp.find_in l c.label
      have hat : Sp.at0 (Sp.labs l) c.label = Sp.find l c.label := by unfold Sp.at0; rw [Sp.labs_at hch hf]; rfl
      rw [hat]
      have hb := nth_mem (d := default) (l := l) (i := Sp.find l c.label) (by omega)
      have := hok _ hb
      exact ⟨by rw [← hat]; rfl, by omega, this.2.2, by omega⟩
    refine ⟨by omega, by omega, by omega, fun hk0 => by omega, fun hk1 => ?_, fun hk2 => ?_, fun hk3 => ?_, fun hk4 => ?_, fun hk5 => ?_, by trivial⟩
    · have hk1 : c.kind = 1 := by simpa using hk1
      refine ⟨by trivial, by omega, fun _ => ifD (fun h8 => ?_) fun h8 => ⟨inR64 (by omega), ⟨by trivial, by trivial, by trivial, hdrop, by omega, by omega, hdl, by omega⟩, by omega, ?_⟩⟩
      · rw [Sp.iter_inr (by simp only [Sp.prgStep, hcd]; rw [if_pos hcond, if_neg hn, if_pos hk1, if_pos (by omega)])]
      · rw [hm, Sp.iter_inl (k := (fuel - (n + 1)).toNat + 1) (by simp only [Sp.prgStep, hcd]; rw [if_pos hcond, if_neg hn, if_pos hk1, if_neg (by omega)])]; rfl
    · have hk2 : c.kind = 2 := by simpa using hk2
      have nk1 : ¬ c.kind = 1 := by omega
      obtain ⟨j1, j2, j3, j4⟩ := hjmp (.inl hk2)
      refine fun hil => ifD (fun h8 => ?_) fun h8 => ⟨by omega, ifD (fun h9 => ?_) fun h9 => ⟨by omega, by omega, inR64 (by omega), ⟨by trivial, by trivial, by trivial, hdrop, by omega, by omega, hdl, ho⟩, by omega, ?_⟩⟩
      · rw [j1]
        refine ⟨j2, inR64 (by omega), ⟨by trivial, by trivial, by trivial, j3, by omega, by omega, j4, ho⟩, by omega, ?_⟩
        rw [hm, Sp.iter_inl (k := (fuel - (n + 1)).toNat + 1) (by simp only [Sp.prgStep, hcd]; rw [if_pos hcond, if_neg hn, if_neg nk1, if_pos hk2, if_pos (by omega)])]
      · rw [Sp.iter_inr (by simp only [Sp.prgStep, hcd]; rw [if_pos hcond, if_neg hn, if_neg nk1, if_pos hk2, if_neg (by omega), if_pos h9])]
      · rw [hm, Sp.iter_inl (k := (fuel - (n + 1)).toNat + 1) (by simp only [Sp.prgStep, hcd]; rw [if_pos hcond, if_neg hn, if_neg nk1, if_pos hk2, if_neg (by omega), if_neg h9])]; rfl
    · have hk3 : c.kind = 3 := by simpa using hk3
      have nk1 : ¬ c.kind = 1 := by omega
      have nk2 : ¬ c.kind = 2 := by omega
      obtain ⟨j1, j2, j3, j4⟩ := hjmp (.inr (.inl hk3))
      refine ifB_of (fun h8 => ?_) fun h8 => ?_
      · simp only [Bool.and_eq_true, Bool.or_eq_true, Bool.not_eq_true', Bool.or_eq_false_iff, Bool.and_eq_false_iff, Bool.not_eq_false', decide_eq_true_eq, decide_eq_false_iff_not, mk_empty] at h8
        rw [j1]
        refine ⟨j2, inR64 (by omega), ⟨by trivial, by trivial, by trivial, j3, by omega, by omega, j4, ho⟩, by omega, ?_⟩
        rw [hm, Sp.iter_inl (k := (fuel - (n + 1)).toNat + 1) (by simp only [Sp.prgStep, hcd]; rw [if_pos hcond, if_neg hn, if_neg nk1, if_neg nk2, if_pos hk3, if_pos h8])]
      · have h8' : ¬ (pk = c.sym.kind ∧ pt = c.sym.text) := by
          intro hh; rw [hh.1, hh.2] at h8; simp at h8
        refine ⟨inR64 (by omega), ⟨by trivial, by trivial, by trivial, hdrop, by omega, by omega, hdl, ho⟩, by omega, ?_⟩
        rw [hm, Sp.iter_inl (k := (fuel - (n + 1)).toNat + 1) (by simp only [Sp.prgStep, hcd]; rw [if_pos hcond, if_neg hn, if_neg nk1, if_neg nk2, if_pos hk3, if_neg h8'])]; rfl
    · have hk4 : c.kind = 4 := by simpa using hk4
      have nk1 : ¬ c.kind = 1 := by omega
      have nk2 : ¬ c.kind = 2 := by omega
      have nk3 : ¬ c.kind = 3 := by omega
      obtain ⟨j1, j2, j3, j4⟩ := hjmp (.inr (.inr hk4))
      rw [j1]
      refine ⟨j2, inR64 (by omega), ⟨by trivial, by trivial, by trivial, j3, by omega, by omega, j4, ho⟩, by omega, ?_⟩
      rw [hm, Sp.iter_inl (k := (fuel - (n + 1)).toNat + 1) (by simp only [Sp.prgStep, hcd]; rw [if_pos hcond, if_neg hn, if_neg nk1, if_neg nk2, if_neg nk3, if_pos hk4])]
    · have hk5 : c.kind = 5 := by simpa using hk5
      refine ⟨inR64 (by omega), ⟨by trivial, by trivial, by trivial, hdrop, by omega, by omega, hdl, ho⟩, by omega, ?_⟩
      rw [hm, Sp.iter_inl (k := (fuel - (n + 1)).toNat + 1) (by simp only [Sp.prgStep, hcd]; rw [if_pos hcond, if_neg hn, if_neg (by omega), if_neg (by omega), if_neg (by omega), if_neg (by omega)])]; rfl
  · simp only [Bool.and_eq_true, Bool.or_eq_true, Bool.not_eq_true', Bool.or_eq_false_iff, Bool.and_eq_false_iff, Bool.not_eq_false', decide_eq_true_eq, decide_eq_false_iff_not, mk_empty] at h
    rw [Sp.iter_inr (by simp only [Sp.prgStep]; rw [if_neg (by intro hh; rcases h with h | h; · omega
                                                               · rw [hh.2] at h; cases h)])]
theorem special_Run.main (l : List Blk) (input : List Tm) (fuel : Int) (ha : (∀ b ∈ l, ∀ c ∈ b.cmds, Sp.okL [c.sym]) ∧ Sp.okL input) : special_Run.t l input fuel := by
  refine ⟨ha.1, fun e he => ?_⟩
  have er : Sp.refRun l input fuel = if Sp.check l ≠ 0 then ([], 0, Sp.check l) else if Sp.wrong input 4 ≠ 0 then ([], 0, Sp.wrong input 4) else if fuel < 0 ∨ 100000 < fuel then ([], 0, 4) else
      Sp.finR (Sp.iter (Sp.refStep l fuel) (.ret ([], 0, 0)) (fuel.toNat + 1) (input, [], 0, 0, 0, 2, Sp.startW, [])) := rfl
  rw [er, he]
  refine ifN (fun h => by rw [if_pos h]) fun h => ⟨ha.2, fun w hw => ?_⟩
  rw [if_neg (fun hh => hh h), hw]
  refine ifN (fun h1 => by rw [if_pos h1]) fun h1 => ?_
  rw [if_neg (fun hh => hh h1)]
  refine ifB_of (fun h2 => ?_) fun h2 => ?_ <;> simp only [Bool.and_eq_true, Bool.or_eq_true, Bool.not_eq_true', Bool.or_eq_false_iff, Bool.and_eq_false_iff, Bool.not_eq_false', decide_eq_true_eq, decide_eq_false_iff_not, mk_empty] at h2
  · rw [if_pos h2]
  rw [if_neg (by omega), Int.sub_zero]
  rw [h] at he
  rw [h1] at hw
  obtain ⟨h3, h4, h5⟩ := Sp.check_ok he
  have hsim := Sp.sim (l := l) (fuel := fuel) he fuel.toNat 0 0 0 2 Sp.startW input [] (by omega) (by omega) (by omega) (by omega) (by omega) (by omega) (by omega) (Sp.wrong_ok hw).2.2
  rw [Int.toNat_zero, List.drop_zero] at hsim
  have hb := nth_mem (d := default) (l := l) (i := 0) (by simp; omega)
  rintro x rfl
  refine ⟨by omega, ⟨by trivial, by trivial, by trivial, (h5 _ hb).2.2, by omega, by omega, by have := (h5 _ hb).1; omega, by simp⟩, special_Run.l0_ok l fuel (by omega) he, ?_, ?_⟩
  · intro a b c d e f g i j hk
    rw [← hsim]
    have : Sp.iter (Sp.prgStep l fuel) (.ret ([], 0, 0)) (fuel.toNat + 1) ((nth default l 0).cmds, 0, Sp.labs l, input, [], 2, Sp.startW, [], false) = .brk (a, b, c, d, e, f, g, i, j) := hk
    rw [this]; rfl
  · intro a b c hk
    rw [← hsim]
    have : Sp.iter (Sp.prgStep l fuel) (.ret ([], 0, 0)) (fuel.toNat + 1) ((nth default l 0).cmds, 0, Sp.labs l, input, [], 2, Sp.startW, [], false) = .ret (a, b, c) := hk
    rw [this]; rfl
theorem special_Run.ok (W : World) : CtrOK Go.Proofs.Try.prog W 12 special_Run.C := by
  refine funOK (Γ := lookC [(15, special_Check.C), (28, term_Value.C), (32, special_labels.C), (33, special_word.C), (34, special_commands.C), (60, special_runner_write.C), (61, special_runner_read.C), (62, special_runner_equal.C), (63, special_runner_goes.C), (64, special_runner_halt.C)]) (lookC_ok (fun p hp => by
    simp only [List.mem_cons, List.not_mem_nil, or_false] at hp
    rcases hp with rfl | rfl | rfl | rfl | rfl | rfl | rfl | rfl | rfl | rfl
    · exact special_Check.ok W
    · exact term_Value.ok W
    · exact special_labels.ok W
    · exact special_word.ok W
    · exact special_commands.ok W
    · exact special_runner_write.ok W
    · exact special_runner_read.ok W
    · exact special_runner_equal.ok W
    · exact special_runner_goes.ok W
    · exact special_runner_halt.ok W)) (Λ := fun a_ => match a_ with | (l, input, fuel) => (special_Run.Λ l input fuel)) (Λr := fun a_ => match a_ with | (l, input, fuel) => (fun _ => none)) ?_
  intro a ha
  obtain ⟨l, input, fuel⟩ := a
  refine Eq.mpr ?_ (@special_Run.main l input fuel ha)
  kernel_rfl
end Go.AL
